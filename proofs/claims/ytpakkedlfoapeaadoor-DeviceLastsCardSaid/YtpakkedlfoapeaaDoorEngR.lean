/- Elements (trees of bytes), names; steps for boxes. -/
import Derived.Test.YtpakkedlfoapeaaDoorEngQ
namespace Go.Eng
open Go

inductive TL where
  | mk (c t : Int) (m : Bool) (b : List Int) (ks : List TL)
mutual
def svT : TL → List SV
  | .mk c t m b ks => [.v (.int .i64 c), .v (.int .i64 t), .v (.bool m), .sl 1 (bs b), .sl 5 (svTs ks)]
def svTs : List TL → List (List SV)
  | [] => []
  | t :: ts => svT t :: svTs ts
end
theorem svTs_map : ∀ ts : List TL, svTs ts = ts.map svT
  | [] => by simp [svTs]
  | t :: ts => by simp [svTs, svTs_map ts]
theorem svTs_length (ts : List TL) : (svTs ts).length = ts.length := by rw [svTs_map]; simp
theorem svTs_get {ts : List TL} {i : Nat} {t : TL} (h : ts[i]? = some t) : (svTs ts)[i]? = some (svT t) := by rw [svTs_map]; simp [h]
theorem svT_len (t : TL) : (svT t).length = 5 := by cases t; simp [svT]
theorem svTs_append (a b : List TL) : svTs a ++ svTs b = svTs (a ++ b) := by simp [svTs_map]
def zeroT : TL := .mk 0 0 false [] []
/-- A name. -/
def nm (n : List (Int × ByteArray)) : List (List SV) := n.map fun p => [.v (.int .i64 p.1), .v (.string p.2)]
theorem nm_length (n : List (Int × ByteArray)) : (nm n).length = n.length := by simp [nm]
theorem nm_get {n : List (Int × ByteArray)} {i : Nat} {p : Int × ByteArray} (h : n[i]? = some p) : (nm n)[i]? = some [.v (.int .i64 p.1), .v (.string p.2)] := by simp [nm, h]
theorem nm_two {n : List (Int × ByteArray)} : ∀ e ∈ nm n, e.length = 2 := by
  intro e he
  simp only [nm, List.mem_map] at he
  obtain ⟨x, _, rfl⟩ := he
  rfl
theorem nm_only {N : Nat → Prop} {n : List (Int × ByteArray)} : ∀ e ∈ nm n, ∀ s ∈ e, Only s N := by
  intro e he s hs
  simp only [nm, List.mem_map] at he
  obtain ⟨x, _, rfl⟩ := he
  simp only [List.mem_cons, List.not_mem_nil, or_false] at hs
  rcases hs with rfl | rfl <;> exact only_v
theorem rel_nil_sl {M : Mem} {sz : Nat} {x : Value} (h : SV.rel M (.v (.slice none 0 0)) x) : SV.rel M (.sl sz []) x := by
  rw [rel_v] at h
  subst h
  simp only [SV.rel]
  exact .inl ⟨⟨none, 0, rfl⟩, rfl⟩
/-- The same list of cells, told otherwise. -/
def ImpAll (M : Mem) : List SV → List SV → Prop
  | [], ts => ts = []
  | s :: ss, ts => ∃ t ts', ts = t :: ts' ∧ (∀ y, SV.rel M s y → SV.rel M t y) ∧ ImpAll M ss ts'
theorem rels_imp {M : Mem} : ∀ {ss ts : List SV} {ys : List Value}, ImpAll M ss ts → SV.rels M ss ys → SV.rels M ts ys
  | [], ts, ys, h, hr => by simp only [ImpAll] at h; subst h; exact hr
  | s :: ss, ts, ys, h, hr => by
    simp only [ImpAll] at h
    obtain ⟨t, ts', rfl, h1, h2⟩ := h
    rw [rels_cons] at hr
    obtain ⟨y, zs, rfl, g1, g2⟩ := hr
    exact rels_cons'.2 ⟨h1 y g1, rels_imp h2 g2⟩
theorem rel_agg_imp {M : Mem} {ss ts : List SV} {x : Value} (h : ImpAll M ss ts) (hr : SV.rel M (.agg ss) x) : SV.rel M (.agg ts) x := by
  simp only [SV.rel] at hr ⊢
  obtain ⟨ys, e, hr, h1⟩ := hr
  exact ⟨ys, e, rels_imp h hr, h1⟩
theorem rel_tup_imp {M : Mem} {ss ts : List SV} {x : Value} (h : ImpAll M ss ts) (hr : SV.rel M (.tup ss) x) : SV.rel M (.tup ts) x := by
  simp only [SV.rel] at hr ⊢
  obtain ⟨ys, e, hr⟩ := hr
  exact ⟨ys, e, rels_imp h hr⟩

section
variable {G : Ctx} {E : Env} {L : List Res} {M : Mem} {o : Oper} {ops : Array Oper} {rest : List Oper} {K : KPost} {Q : Post}
theorem wl_al {T : TypeId} {d : TK} {sz by_ dst : Nat} {z : Value} (k : ∀ n, WL G ops rest ((dst, .lp dst n 0) :: E) (.box dst n T (zeroCs z) :: L) M K)
    (hg : o.guard = none := by rfl) (hds : o.dst = some dst := by rfl) (hd : dstOk G o = true := by rfl) (ho : o.op = .alloc T := by rfl) (t : Ty G.P T d sz by_ z := by infer_instance) (hz : z.cells.toList.all Value.oneCell' = true := by rfl) : WL G ops (o :: rest) E L M K := wl_alloc hg hds hd ho hz k
theorem wl_bx {T : TypeId} {dst : Nat} {x : Operand} {s : SV} (k : ∀ n, WL G ops rest ((dst, .lp dst n 0) :: E) (.box dst n T (cellsOf s) :: L) M K)
    (hg : o.guard = none := by rfl) (hds : o.dst = some dst := by rfl) (hd : dstOk G o = true := by rfl) (ho : o.op = .box T x := by rfl) (e : evO E x = some s := by rfl) (h1 : oneSV s = true := by rfl) : WL G ops (o :: rest) E L M K := wl_box hg hds hd ho e h1 k
theorem wl_st {T : TypeId} {d : TK} {sz by_ : Nat} {z : Value} {x y : Operand} {k n off : Nat} {T' : TypeId} {cs : List SV} {s : SV} (kk : WL G ops rest E (setBox L k (splice cs off (cellsOf s))) M K)
    (hg : o.guard = none := by rfl) (hds : o.dst = none := by rfl) (ho : o.op = .store T x y := by rfl) (t : Ty G.P T d sz by_ z := by infer_instance) (e : evO E x = some (.lp k n off) := by rfl)
    (es : evO E y = some s := by rfl) (h1 : oneSV s = true := by rfl) (hsz : (cellsOf s).length = sz := by rfl) (hb : getBox L k = some (n, T', cs) := by rfl) (hfit : Nat.ble (off + sz) cs.length = true := by rfl) : WL G ops (o :: rest) E L M K :=
  wl_store hg hds ho e es h1 hsz hb (Nat.le_of_ble_eq_true hfit) kk
/-- Joined, in whatever order the things are owned. -/
theorem w_cut1P {x z : Code} {σ : Type} (env : σ → Env) (res : σ → List Res) (ok : σ → Mem → Prop)
    (h1 : W G x E L M (thenQ (fun E' L' M' => ∃ s, SubE E' (env s) ∧ (res s).Perm L' ∧ M.le M' ∧ ok s M') Q)) (h2 : ∀ s M', M.le M' → ok s M' → W G z (env s) (res s) M' Q) : W G (.seq x z) E L M Q := by
  refine w_seq (w_mono h1 ?_)
  intro ex E1 L1 M1 hq
  cases ex with
  | normal =>
    obtain ⟨s, hs, hp, hl, hok⟩ := hq
    exact w_perm _ hp (w_subE (env s) hs (h2 s M1 hl hok))
  | _ => exact hq
/-- Two that may come next, in either order. -/
theorem wa_two {Lr L1 : List Res} {listed : List Bool} {fuel : Nat} {oi oj : Oper} (i j : Nat) (hi : ops[i]? = some oi) (hj : ops[j]? = some oj) (hr : Region.ready .any ops listed.toArray = [i, j])
    (ki : ∀ w, WL (G.cut L1 M w) ops [oi] E L1 M (fun E' L' M' => M.le M' → WA G ops Lr fuel (listed.set i true) E' L' M' K))
    (kj : ∀ w, WL (G.cut L1 M w) ops [oj] E L1 M (fun E' L' M' => M.le M' → WA G ops Lr fuel (listed.set j true) E' L' M' K)) : WA G ops Lr (fuel + 1) listed E L1 M K := fun a w st => by
  refine ⟨fun h => (by rw [hr] at h; cases h), fun q hq => ?_⟩
  have go : ∀ (o : Oper) (q : Nat), ops[q]? = some o → (∀ w, WL (G.cut L1 M w) ops [o] E L1 M (fun E' L' M' => M.le M' → WA G ops Lr fuel (listed.set q true) E' L' M' K)) →
      opX G.P ops q (fun a' w' => ∃ C' : World → Prop, (∀ v, C' v → Cls M Lr w v) ∧ C' w' ∧ wpX G.P ops (fun a w => ∃ E L M, St G E L M a w ∧ K E L M) fuel C' (listed.toArray.setIfInBounds q true) a' w') a w := by
    intro o q ho k
    have h1 := k w a w st.split
    have e : listed.toArray.setIfInBounds q true = (listed.set q true).toArray := by simp
    have fin : ∀ a' w', kpost (G.cut L1 M w) (fun E' L' M' => M.le M' → WA G ops Lr fuel (listed.set q true) E' L' M' K) .normal a' w' →
        ∃ C' : World → Prop, (∀ v, C' v → Cls M Lr w v) ∧ C' w' ∧ wpX G.P ops (fun a w => ∃ E L M, St G E L M a w ∧ K E L M) fuel C' (listed.toArray.setIfInBounds q true) a' w' := by
      rintro a' w' ⟨_, E', L', M', s', hk⟩
      obtain ⟨s2, hb⟩ := st.join s'
      refine ⟨Cls M' Lr w', fun v hv => ⟨fun b o x e => hv.1 b o x (s'.le b o x e), fun r hr n hn => (hv.2 r hr n hn).trans (hb r hr n hn)⟩, ⟨s2.mem, fun _ _ _ _ => rfl⟩, ?_⟩
      rw [e]
      exact hk s'.le a' w' s2
    unfold opX
    simp only [ho]
    unfold wpList at h1
    split
    · rename_i hw
      rw [if_pos hw] at h1
      rcases h1 with h1 | ⟨_, a0, w0, h1, _⟩
      · exact op_wp_strict h1 (fun a' w' h => fin a' w' h) (fun _ _ _ h => by cases h.1) (fun _ _ h => by cases h.1)
      · cases h1
    · rename_i hw
      rw [if_neg hw] at h1
      exact fin _ _ h1
  rw [hr] at hq
  simp only [List.mem_cons, List.not_mem_nil, or_false] at hq
  rcases hq with rfl | rfl
  · exact go oi q hi ki
  · exact go oj q hj kj
theorem still_load_all {T : TypeId} {d : TK} {sz by_ : Nat} {z : Value} [t : Ty G.P T d sz by_ z] {x : Operand} {cs : List SV} (ho : o.op = .load T x) (e : evO E x = some (.mp cs)) (ha : aggK d = true) (hl : cs.length = sz) : Still G o E L M (.agg cs) :=
  still_load_mp ho e (by
    unfold loadSV
    rw [if_pos ha, if_pos (by omega), List.drop_zero, ← hl, List.take_length])
theorem wl_ldT {T : TypeId} {d : TK} {by_ : Nat} {z : Value} {x : Operand} {tl : TL} (k : WL G ops rest (putE E o.dst (.agg (svT tl))) L M K) (ho : o.op = .load T x := by rfl) (i : Ty G.P T d 5 by_ z := by infer_instance) (e : evO E x = some (.mp (svT tl)) := by rfl) (ha : aggK d = true := by rfl) (hg : o.guard = none := by rfl) (hd : dstOk G o = true := by rfl) : WL G ops (o :: rest) E L M K :=
  wl_still hg hd (still_load_all ho e ha (svT_len _)) k
end
section
variable {G : Ctx} {E : Env} {L : List Res} {M : Mem} {o : Oper} {ops rest : List Oper} {K : KPost} {Q : Post} {Lr L1 : List Res} {k : Nat}
theorem wt_ldT {T : TypeId} {d : TK} {by_ : Nat} {z : Value} {x : Operand} {tl : TL} (kk : WT G ops Lr (k + 1) rest (putE E o.dst (.agg (svT tl))) L1 M K) (ho : o.op = .load T x := by rfl) (i : Ty G.P T d 5 by_ z := by infer_instance) (e : evO E x = some (.mp (svT tl)) := by rfl) (ha : aggK d = true := by rfl)
    (hg : GOn ops.toArray E o := by first | exact gon_none rfl | exact gon_yes rfl rfl rfl (by with_reducible rfl) | exact gon_yes rfl rfl rfl (by with_reducible assumption)) (hd : dstOk G o = true := by rfl)
    (hsel : Region.noSelect ops.toArray = true := by kernel_rfl) (hr : (Region.ready .any ops.toArray (upTo ops.length k).toArray).contains k = true := by kernel_rfl) (hf : Region.free .any ops.toArray (upTo ops.length k).toArray k = true := by kernel_rfl) : WT G ops Lr k (o :: rest) E L1 M K :=
  wt_on kk hg hd (still_load_all ho e ha (svT_len _)) hsel hr hf
end
section
variable {G : Ctx} {E : Env} {L : List Res} {M : Mem} {o : Oper} {ops : Array Oper} {rest : List Oper} {K : KPost} {Q : Post}
theorem wl_nt {T : TypeId} {x : Operand} (k : WL G ops rest (putE E o.dst (.v (.bool false))) L M K) (ho : o.op = .unOp .not T x := by rfl) (ex : evO E x = some (.v (.bool true)) := by rfl) (hg : o.guard = none := by rfl) (hd : dstOk G o = true := by rfl) : WL G ops (o :: rest) E L M K := wl_still hg hd (still_not ho ex) k
theorem wl_nf {T : TypeId} {x : Operand} (k : WL G ops rest (putE E o.dst (.v (.bool true))) L M K) (ho : o.op = .unOp .not T x := by rfl) (ex : evO E x = some (.v (.bool false)) := by rfl) (hg : o.guard = none := by rfl) (hd : dstOk G o = true := by rfl) : WL G ops (o :: rest) E L M K := wl_still hg hd (still_not ho ex) k
end
end Go.Eng

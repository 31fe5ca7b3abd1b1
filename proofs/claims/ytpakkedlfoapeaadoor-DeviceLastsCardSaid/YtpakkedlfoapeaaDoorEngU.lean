/- Loops and joins that let go of what is owned; elements told as such. -/
import Derived.Test.YtpakkedlfoapeaaDoorEngS
namespace Go.Eng
open Go

section
variable {G : Ctx} {E : Env} {L : List Res} {M : Mem} {o : Oper} {ops : Array Oper} {rest : List Oper} {K : KPost} {Q : Post}
theorem w_loopS {c : Code} {σ : Type} (env : σ → Env) (res : σ → List Res) (ok : σ → Mem → Prop) (m : σ → Nat) (s0 : σ) (hE : SubE E (env s0)) (hL : (res s0).Sublist L) (h0 : ok s0 M)
    (round : ∀ s M', M.le M' → ok s M' → W G c (env s) (res s) M' (thenQ (fun E' L' M'' => ∃ s', m s' < m s ∧ SubE E' (env s') ∧ (res s').Sublist L' ∧ M'.le M'' ∧ ok s' M'') Q)) : W G (.loop c) E L M Q := by
  refine w_drop (res s0) hL ?_
  refine w_subE (env s0) hE ?_
  refine w_loop (σ := σ) (fun s E' L' M' => E' = env s ∧ L' = res s ∧ M.le M' ∧ ok s M') m s0 ⟨rfl, rfl, Mem.le.refl M, h0⟩ ?_
  rintro s E' L' M' ⟨rfl, rfl, hle, hok⟩ a w st
  refine wp_mono (round s M' hle hok a w st) ?_
  rintro ex a' w' ⟨E2, L2, M2, st2, hq⟩
  cases ex with
  | normal =>
    obtain ⟨s', hm, hs, hsub, hl2, hok2⟩ := hq
    exact ⟨env s', res s', M2, { (st2.dropRes hsub) with env := st2.env.sub hs.look }, s', hm, rfl, rfl, hle.trans hl2, hok2⟩
  | exit id => exact ⟨E2, L2, M2, st2, hq⟩
  | goto l => exact ⟨E2, L2, M2, st2, hq⟩
  | ret => exact ⟨E2, L2, M2, st2, hq⟩
  | panic ch => exact ⟨E2, L2, M2, st2, hq⟩
  | outgrown => exact ⟨E2, L2, M2, st2, hq⟩
theorem w_cutS {x z : Code} {σ : Type} (env : σ → Env) (res : σ → List Res) (ok : σ → Mem → Prop)
    (h1 : W G x E L M (thenQ (fun E' L' M' => ∃ s, SubE E' (env s) ∧ (res s).Sublist L' ∧ M.le M' ∧ ok s M') Q)) (h2 : ∀ s M', M.le M' → ok s M' → W G z (env s) (res s) M' Q) : W G (.seq x z) E L M Q := by
  refine w_seq (w_mono h1 ?_)
  intro ex E1 L1 M1 hq
  cases ex with
  | normal =>
    obtain ⟨s, hs, hp, hl, hok⟩ := hq
    exact w_drop _ hp (w_subE (env s) hs (h2 s M1 hl hok))
  | _ => exact hq
theorem w_cut2S {x y z : Code} {σ : Type} (env : σ → Env) (res : σ → List Res) (ok : σ → Mem → Prop)
    (h1 : W G x E L M (thenQ (fun E1 L1 M1 => W G y E1 L1 M1 (thenQ (fun E' L' M' => ∃ s, SubE E' (env s) ∧ (res s).Sublist L' ∧ M.le M' ∧ ok s M') Q)) Q)) (h2 : ∀ s M', M.le M' → ok s M' → W G z (env s) (res s) M' Q) : W G (.seq x (.seq y z)) E L M Q := by
  refine w_seq (w_mono h1 ?_)
  intro ex E1 L1 M1 hq
  cases ex with
  | normal =>
    refine w_seq (w_mono hq ?_)
    intro ex2 E2 L2 M2 hq2
    cases ex2 with
    | normal =>
      obtain ⟨s, hs, hp, hl, hok⟩ := hq2
      exact w_drop _ hp (w_subE (env s) hs (h2 s M2 hl hok))
    | _ => exact hq2
  | _ => exact hq
theorem w_joinS {c y : Code} {Q' : Post} {σ : Type} (env : σ → Env) (res : σ → List Res) (ok : σ → Mem → Prop) (h1 : W G c E L M (thenQ (fun E' L' M' => ∃ s, SubE E' (env s) ∧ (res s).Sublist L' ∧ M.le M' ∧ ok s M') Q)) (h2 : ∀ s M', M.le M' → ok s M' → W G y (env s) (res s) M' Q') : W G c E L M (thenQ (fun E L M => W G y E L M Q') Q) := fun a w st => by
  refine wp_mono (h1 a w st) ?_
  rintro ex a' w' ⟨E2, L2, M2, st2, hq⟩
  cases ex with
  | normal =>
    obtain ⟨s, hs, hp, hl2, hok⟩ := hq
    exact ⟨E2, L2, M2, st2, w_drop _ hp (w_subE (env s) hs (h2 s M2 hl2 hok))⟩
  | exit id => exact ⟨E2, L2, M2, st2, hq⟩
  | goto l => exact ⟨E2, L2, M2, st2, hq⟩
  | ret => exact ⟨E2, L2, M2, st2, hq⟩
  | panic ch => exact ⟨E2, L2, M2, st2, hq⟩
  | outgrown => exact ⟨E2, L2, M2, st2, hq⟩

/-! ### Told anew -/
/-- What a slot holds reads as something else as well. -/
theorem St.tell {a : Act} {w : World} (st : St G E L M a w) {i : Nat} {s s' : SV} (e : look E i = some s) (h : ∀ y, SV.rel M s y → SV.rel M s' y) : St G ((i, s') :: E) L M a w := { st with
  env := fun j t h' => by
    simp only [look] at h'
    cases hb : Nat.beq i j with
    | true =>
      rw [hb] at h'
      have := Nat.eq_of_beq_eq_true hb
      subst this
      simp only [cond_true, Option.some.injEq] at h'
      subst h'
      obtain ⟨y, hy, hr⟩ := st.env i _ e
      exact ⟨y, hy, h y hr⟩
    | false => rw [hb] at h'; exact st.env j t h' }
theorem wl_tell (i : Nat) {s s' : SV} {l : List Oper} (h : ∀ M y, SV.rel M s y → SV.rel M s' y) (k : WL G ops l ((i, s') :: E) L M K) (e : look E i = some s := by rfl) : WL G ops l E L M K := fun a w st => k a w (st.tell e (h M))
theorem w_tell (i : Nat) {s s' : SV} {c : Code} (h : ∀ M y, SV.rel M s y → SV.rel M s' y) (k : W G c ((i, s') :: E) L M Q) (e : look E i = some s := by rfl) : W G c E L M Q := fun a w st => k a w (st.tell e (h M))
/-- nil may be appended to. -/
theorem St.addNil {a : Act} {w : World} (st : St G E L M a w) (T sz : Nat) : St G E (.tail (.slice none 0 0) T sz 0 :: L) M a w := { st with
  res := by
    intro r hr
    cases hr with
    | head => exact .inl ⟨rfl, rfl⟩
    | tail _ hr => exact st.res r hr
  nodup := by simpa only [nums, List.filterMap_cons, Res.num, Value.ownBlock] using st.nodup
  own := by simpa only [nums, List.filterMap_cons, Res.num, Value.ownBlock] using st.own }
theorem w_addNil {c : Code} (T sz : Nat) (k : W G c E (.tail (.slice none 0 0) T sz 0 :: L) M Q) : W G c E L M Q := fun a w st => k a w (st.addNil T sz)
theorem wl_addNil {l : List Oper} (T sz : Nat) (k : WL G ops l E (.tail (.slice none 0 0) T sz 0 :: L) M K) : WL G ops l E L M K := fun a w st => k a w (st.addNil T sz)
/-- A box's cells read as something else as well. -/
theorem w_reBox {c : Code} {k n : Nat} {T : TypeId} {cs cs' : List SV} {Lr : List Res} (h : ∀ M, ImpAll M cs cs') (kk : W G c E (.box k n T cs' :: Lr) M Q) (hL : L = .box k n T cs :: Lr := by rfl) : W G c E L M Q := fun a w st => by
  subst hL
  refine kk a w { st with
    res := ?_
    nodup := st.nodup
    own := st.own }
  intro r hr
  cases hr with
  | head =>
    obtain ⟨⟨vs, h1, h2, h3⟩, h4⟩ := st.res _ List.mem_cons_self
    exact ⟨⟨vs, h1, rels_imp (h M) h2, h3⟩, h4⟩
  | tail _ hr => exact st.res r (List.mem_cons_of_mem _ hr)
theorem impC {M : Mem} {s t : SV} {ss ts : List SV} (h : ∀ y, SV.rel M s y → SV.rel M t y) (k : ImpAll M ss ts) : ImpAll M (s :: ss) (t :: ts) := ⟨t, ts, rfl, h, k⟩
theorem impN {M : Mem} : ImpAll M [] [] := rfl
theorem impAll_refl (M : Mem) : ∀ ss : List SV, ImpAll M ss ss
  | [] => rfl
  | s :: ss => ⟨s, ss, rfl, fun _ h => h, impAll_refl M ss⟩
theorem impT {M : Mem} {c g : Int} {m : Bool} {b : List Int} {ks : List TL} {B K : SV} (hB : ∀ y, SV.rel M B y → SV.rel M (.sl 1 (bs b)) y) (hK : ∀ y, SV.rel M K y → SV.rel M (.sl 5 (svTs ks)) y) : ImpAll M [.v (.int .i64 c), .v (.int .i64 g), .v (.bool m), B, K] (svT (.mk c g m b ks)) := by
  simp only [svT]
  exact ⟨_, _, rfl, fun _ h => h, _, _, rfl, fun _ h => h, _, _, rfl, fun _ h => h, _, _, rfl, hB, _, _, rfl, hK, rfl⟩
/-- An element in a slot. -/
theorem wl_asT (i : Nat) {c g : Int} {m : Bool} (b : List Int) (ks : List TL) {B K' : SV} {l : List Oper} (hB : ∀ M y, SV.rel M B y → SV.rel M (.sl 1 (bs b)) y) (hK : ∀ M y, SV.rel M K' y → SV.rel M (.sl 5 (svTs ks)) y) (k : WL G ops l ((i, .agg (svT (.mk c g m b ks))) :: E) L M K)
    (e : look E i = some (.agg [.v (.int .i64 c), .v (.int .i64 g), .v (.bool m), B, K']) := by rfl) : WL G ops l E L M K :=
  wl_tell i (fun M _ h => rel_agg_imp (impT (hB M) (hK M)) h) k e
/-- A literal of elements. -/
theorem wl_blT (ts : List TL) {T el by_ len dst : Nat} {kd : TK} {z : Value} {parts : Array (Nat × Operand)} {ss : List (Nat × SV)} {cs : List SV}
    (kk : ∀ M', M.le M' → WL G ops rest ((dst, .sl 5 (svTs ts)) :: E) L M' K) (hc : chunks 5 len cs = svTs ts)
    (hg : o.guard = none := by rfl) (hds : o.dst = some dst := by rfl) (hd : dstOk G o = true := by rfl) (ho : o.op = .buildSlice T len parts := by rfl) (i1 : SlT G.P T el 5 := by infer_instance) (i2 : Ty G.P el kd 5 by_ z := by infer_instance) (es : evParts E parts.toList = some ss := by rfl)
    (hz : z.cells.toList.all Value.oneCell' = true := by rfl) (hzs : z.cells.size = 5 := by rfl) (hsmall : Nat.ble (len * 5) 16777216 = true := by rfl) (hf : fillSV (fun i : Nat => some (i * 5, 5)) (zeroRep len 5 (zeroCs z)) ss = some cs := by rfl) : WL G ops (o :: rest) E L M K :=
  wl_bl (fun M' hle => by rw [hc]; exact kk M' hle) hg hds hd ho i1 i2 es hz hzs rfl hsmall hf
/-- A literal of numbers that is appended to. -/
theorem wl_brn (xs : List Int) (kd : IntKind) {T el by_ len dst : Nat} {k : TK} {z : Value} {parts : Array (Nat × Operand)} {ss : List (Nat × SV)} {cs : List SV}
    (kk : ∀ x M', M.le M' → WL G ops rest ((dst, .rw x 1 (ns kd xs)) :: E) (.tail x el 1 xs.length :: L) M' K)
    (hg : o.guard = none := by rfl) (hds : o.dst = some dst := by rfl) (hd : dstOk G o = true := by rfl) (ho : o.op = .buildSlice T len parts := by rfl) (i1 : SlT G.P T el 1 := by infer_instance) (i2 : Ty G.P el k 1 by_ z := by infer_instance) (es : evParts E parts.toList = some ss := by rfl)
    (hz : z.cells.toList.all Value.oneCell' = true := by rfl) (hzs : z.cells.size = 1 := by rfl) (hsmall : Nat.ble (len * 1) 16777216 = true := by rfl) (hf : fillSV (fun i : Nat => some (i * 1, 1)) (zeroRep len 1 (zeroCs z)) ss = some cs := by rfl) (hc : chunks 1 len cs = ns kd xs := by rfl) : WL G ops (o :: rest) E L M K :=
  wl_buildSlice hg hds hd ho es hz hzs rfl hsmall hf fun x M' hle => by
    have hl : len = xs.length := by
      have := congrArg List.length hc
      rw [ns_length] at this
      rw [← this]
      have h2 : ∀ (n : Nat) (cs : List SV), (chunks 1 n cs).length = n := by
        intro n
        induction n with
        | zero => intro cs; rfl
        | succ n ih => intro cs; simp [chunks, ih]
      rw [h2]
    rw [hc, hl]
    exact kk x M' hle
/-- Elements behind elements. -/
theorem wl_apT {c : Call} {T T2 el e2 s2 by_ dst : Nat} {kd : TK} {z v : Value} (idx : Nat) {x y : Operand} {xs ys : List TL} {T' : TypeId}
    (hbytes : (xs.length + ys.length) * by_ ≤ 140737488355328) (hmax : xs.length + ys.length ≤ 9223372036854775807)
    (kk : ∀ v' M', M.le M' → WL G ops rest ((dst, .rw v' 5 (svTs (xs ++ ys))) :: E) (.tail v' el 5 (xs ++ ys).length :: L.eraseIdx idx) M' K)
    (hg : o.guard = none := by rfl) (hds : o.dst = some dst := by rfl) (hd : dstOk G o = true := by rfl)
    (ho : o.op = .call c := by rfl) (hc : c.callee = .builtin .append := by rfl) (ha : c.args = #[x, y] := by rfl) (hT : c.argTypes = #[T, T2] := by rfl) (i1 : SlT G.P T el 5 := by infer_instance) (i2 : SlT G.P T2 e2 s2 := by infer_instance) (i3 : Ty G.P el kd 5 by_ z := by infer_instance) (ex : evO E x = some (.rw v 5 (svTs xs)) := by rfl) (ey : evL E y = some (.sl 5 (svTs ys)) := by rfl) (hL : L[idx]? = some (.tail v T' 5 xs.length) := by rfl) (hT' : T' = el := by rfl)
    (hzs : z.cells.size = 5 := by rfl) (hz1 : z.cells.toList.all Value.oneCell' = true := by rfl) : WL G ops (o :: rest) E L M K :=
  wl_append hg hds hd ho hc ha hT ex ey hL hT' hzs hz1 (svTs_length _) (by rw [svTs_length]; exact hbytes) (by rw [svTs_length]; exact hmax) fun v' M' hle => by
    have := kk v' M' hle
    rw [svTs_append, svTs_length, ← List.length_append]
    exact this
end
theorem mem_lt {ks : List TL} {k : TL} (h : k ∈ ks) {c g : Int} {m : Bool} {b : List Int} : SizeOf.sizeOf k < SizeOf.sizeOf (TL.mk c g m b ks) := by
  have := List.sizeOf_lt_of_mem h
  simp only [TL.mk.sizeOf_spec]
  omega
theorem len_lt {c g : Int} {m : Bool} {b : List Int} {ks : List TL} : ks.length < SizeOf.sizeOf (TL.mk c g m b ks) := by
  have h : ∀ l : List TL, l.length < SizeOf.sizeOf l := by
    intro l
    induction l with
    | nil => simp
    | cons a l ih => simp only [List.length_cons, List.cons.sizeOf_spec]; omega
  have := h ks
  simp only [TL.mk.sizeOf_spec]
  omega
/-! ### Results that lie in boxes -/
theorem resV_box {G : Ctx} {E : Env} {L : List Res} {M : Mem} {T : TypeId} {d : TK} {sz by_ : Nat} {z : Value} {p k n off : Nat} {T' : TypeId} {cs : List SV} {s : SV} (h : look E p = some (.lp k n off) := by rfl) (hb : getBox L k = some (n, T', cs) := by rfl) (t : Ty G.P T d sz by_ z := by infer_instance) (hs : loadSV d sz cs off = some s := by rfl) : ResV G E L M (.cell p T) s := resV_cell h hb hs
end Go.Eng

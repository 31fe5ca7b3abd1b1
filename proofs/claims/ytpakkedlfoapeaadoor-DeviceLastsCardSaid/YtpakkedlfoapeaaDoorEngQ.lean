/- Steps for the later rules. -/
import Derived.Test.YtpakkedlfoapeaaDoorEngP
namespace Go.Eng
open Go

section
variable {G : Ctx} {E : Env} {L : List Res} {M : Mem} {o : Oper} {ops : Array Oper} {rest : List Oper} {K : KPost} {Q : Post}
theorem wl_put {l : List Oper} {d : Nat} {s : SV} {D : Option Nat} (k : WL G ops l ((d, s) :: E) L M K) (h : D = some d := by rfl) : WL G ops l (putE E D s) L M K := by subst h; exact k
theorem w_put {c : Code} {d : Nat} {s : SV} {D : Option Nat} (k : W G c ((d, s) :: E) L M Q) (h : D = some d := by rfl) : W G c (putE E D s) L M Q := by subst h; exact k
theorem wl_s2 {s : SV} (k : WL G ops rest (putE E o.dst s) L M K) (hg : o.guard = none := by rfl) (hd : dstOk G o = true := by rfl)
    (h : Still G o E L M s := by first
      | exact still_ifc_eq rfl rfl rfl rfl | exact still_lp_nil rfl rfl rfl rfl | exact still_beq rfl rfl rfl rfl | exact still_len_row rfl rfl rfl rfl rfl) :
    WL G ops (o :: rest) E L M K := wl_still hg hd h k
/-- A literal of numbers that is only read. -/
theorem wl_bn (xs : List Int) (kd : IntKind) {T el by_ len dst : Nat} {k : TK} {z : Value} {parts : Array (Nat × Operand)} {ss : List (Nat × SV)} {cs : List SV}
    (kk : ∀ M', M.le M' → WL G ops rest ((dst, .sl 1 (ns kd xs)) :: E) L M' K)
    (hg : o.guard = none := by rfl) (hds : o.dst = some dst := by rfl) (hd : dstOk G o = true := by rfl) (ho : o.op = .buildSlice T len parts := by rfl) (i1 : SlT G.P T el 1 := by infer_instance) (i2 : Ty G.P el k 1 by_ z := by infer_instance) (es : evParts E parts.toList = some ss := by rfl)
    (hz : z.cells.toList.all Value.oneCell' = true := by rfl) (hzs : z.cells.size = 1 := by rfl) (hsmall : Nat.ble (len * 1) 16777216 = true := by rfl) (hf : fillSV (fun i : Nat => some (i * 1, 1)) (zeroRep len 1 (zeroCs z)) ss = some cs := by rfl) (hc : chunks 1 len cs = ns kd xs := by rfl) : WL G ops (o :: rest) E L M K :=
  wl_bl (fun M' hle => by rw [hc]; exact kk M' hle) hg hds hd ho i1 i2 es hz hzs rfl hsmall hf
/-- Numbers behind numbers. -/
theorem wl_apn {c : Call} {T T2 el e2 s2 by_ dst : Nat} {k : TK} {kd : IntKind} {z v : Value} (idx : Nat) {x y : Operand} {xs ys : List Int} {T' : TypeId}
    (hbytes : (xs.length + ys.length) * by_ ≤ 140737488355328) (hmax : xs.length + ys.length ≤ 9223372036854775807)
    (kk : ∀ v' M', M.le M' → WL G ops rest ((dst, .rw v' 1 (ns kd (xs ++ ys))) :: E) (.tail v' el 1 (xs ++ ys).length :: L.eraseIdx idx) M' K)
    (hg : o.guard = none := by rfl) (hds : o.dst = some dst := by rfl) (hd : dstOk G o = true := by rfl)
    (ho : o.op = .call c := by rfl) (hc : c.callee = .builtin .append := by rfl) (ha : c.args = #[x, y] := by rfl) (hT : c.argTypes = #[T, T2] := by rfl) (i1 : SlT G.P T el 1 := by infer_instance) (i2 : SlT G.P T2 e2 s2 := by infer_instance) (i3 : Ty G.P el k 1 by_ z := by infer_instance) (ex : evO E x = some (.rw v 1 (ns kd xs)) := by rfl) (ey : evL E y = some (.sl 1 (ns kd ys)) := by rfl) (hL : L[idx]? = some (.tail v T' 1 xs.length) := by rfl) (hT' : T' = el := by rfl)
    (hzs : z.cells.size = 1 := by rfl) (hz1 : z.cells.toList.all Value.oneCell' = true := by rfl) : WL G ops (o :: rest) E L M K :=
  wl_append hg hds hd ho hc ha hT ex ey hL hT' hzs hz1 (ns_length _ _) (by rw [ns_length]; exact hbytes) (by rw [ns_length]; exact hmax) fun v' M' hle => by
    have := kk v' M' hle
    rw [ns_append, ns_length, ← List.length_append]
    exact this
/-! ### Numbers in memory of their own, or nil -/
def tails (L : List Res) : Prop := ∀ r ∈ L, ∃ x T sz n, r = .tail x T sz n
def Flat1 (k : IntKind) (ys : List Int) (s : SV) (L : List Res) : Prop := ∃ v, s = .rw v 1 (ns k ys) ∧ (∀ b, v.ownBlock = some b → b ∈ nums L) ∧ tails L
theorem flat_only {k : IntKind} {ys : List Int} {s : SV} {L : List Res} (h : Flat1 k ys s L) : Only s (fun b => b ∈ nums L) := by
  obtain ⟨v, rfl, h, _⟩ := h
  exact only_rw h ns_only
theorem flat_tail (k : IntKind) (ys : List Int) (v : Value) (T sz n : Nat) : Flat1 k ys (.rw v 1 (ns k ys)) [.tail v T sz n] :=
  ⟨v, rfl, fun b h => by simp [nums, Res.num, h], fun r hr => by simp only [List.mem_singleton] at hr; exact ⟨_, _, _, _, hr⟩⟩
theorem flat_nil (k : IntKind) : Flat1 k [] (.rw (.slice none 0 0) 1 []) [] := ⟨.slice none 0 0, rfl, (fun b h => by cases h), (fun r hr => by cases hr)⟩
theorem rel_nil_rw {M : Mem} {sz : Nat} {x : Value} (h : SV.rel M (.v (.slice none 0 0)) x) : SV.rel M (.rw (.slice none 0 0) sz []) x := by
  rw [rel_v] at h
  subst h
  simp only [SV.rel]
  exact ⟨trivial, .inl ⟨⟨none, 0, rfl⟩, rfl⟩⟩
theorem rel_tup_head {M : Mem} {a b : SV} {ss : List SV} {x : Value} (h : ∀ y, SV.rel M a y → SV.rel M b y) (hr : SV.rel M (.tup (a :: ss)) x) : SV.rel M (.tup (b :: ss)) x := by
  simp only [SV.rel] at hr ⊢
  obtain ⟨ys, e, hr⟩ := hr
  refine ⟨ys, e, ?_⟩
  obtain ⟨y, zs, e2, h1, h2⟩ := hr
  exact ⟨y, zs, e2, h y h1, h2⟩
theorem ns_one {k : IntKind} {xs : List Int} : ∀ e ∈ ns k xs, e.length = 1 := by
  intro e he
  simp only [ns, List.mem_map] at he
  obtain ⟨x, _, rfl⟩ := he
  rfl
theorem ns_flatten (k : IntKind) (xs : List Int) : (ns k xs).flatten = xs.map fun x => SV.v (.int k x) := by
  unfold ns
  induction xs with
  | nil => rfl
  | cons x xs ih => simp [ih]
theorem row_get {k : IntKind} {zs : List Int} {sp : List SV} {i : Nat} (h : i < zs.length) : ((ns k zs).flatten ++ sp)[i]? = some (.v (.int k (zs.getD i 0))) := by
  rw [ns_flatten, List.getElem?_append_left (by simpa using h)]
  simp [h]
theorem row_set {k : IntKind} {zs : List Int} {sp : List SV} {i : Nat} {z : Int} (h : i < zs.length) : splice ((ns k zs).flatten ++ sp) i [.v (.int k z)] = (ns k (zs.set i z)).flatten ++ sp := by
  rw [ns_flatten, ns_flatten]
  unfold splice
  have hl : i ≤ (zs.map fun x => SV.v (.int k x)).length := by simp; omega
  have hl2 : i + 1 ≤ (zs.map fun x => SV.v (.int k x)).length := by simp; omega
  rw [List.take_append_of_le_length hl, show i + [SV.v (Value.int k z)].length = i + 1 from rfl, List.drop_append_of_le_length hl2, ← List.append_assoc]
  congr 1
  rw [List.map_set, List.set_eq_take_append_cons_drop, if_pos (by simpa using h)]
  simp
end
section
variable {G : Ctx} {E : Env} {L : List Res} {M : Mem} {o : Oper} {ops rest : List Oper} {K : KPost} {Q : Post} {Lr L1 : List Res} {k : Nat}
theorem wt_put {l : List Oper} {d : Nat} {s : SV} {D : Option Nat} (kk : WT G ops Lr k l ((d, s) :: E) L1 M K) (h : D = some d := by rfl) : WT G ops Lr k l (putE E D s) L1 M K := by subst h; exact kk
theorem wt_t2 {s : SV} (kk : WT G ops Lr (k + 1) rest (putE E o.dst s) L1 M K) (hg : GOn ops.toArray E o := by first | exact gon_none rfl | exact gon_yes rfl rfl rfl (by with_reducible rfl) | exact gon_yes rfl rfl rfl (by with_reducible assumption)) (hd : dstOk G o = true := by rfl)
    (h : Still G o E Lr M s := by first
      | exact still_ifc_eq rfl rfl rfl rfl | exact still_lp_nil rfl rfl rfl rfl | exact still_beq rfl rfl rfl rfl | exact still_len_row rfl rfl rfl rfl rfl)
    (hsel : Region.noSelect ops.toArray = true := by kernel_rfl) (hr : (Region.ready .any ops.toArray (upTo ops.length k).toArray).contains k = true := by kernel_rfl) (hf : Region.free .any ops.toArray (upTo ops.length k).toArray k = true := by kernel_rfl) : WT G ops Lr k (o :: rest) E L1 M K := wt_on kk hg hd h hsel hr hf
end
end Go.Eng

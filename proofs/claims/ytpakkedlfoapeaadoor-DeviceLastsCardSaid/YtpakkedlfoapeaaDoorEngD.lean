/- Rules for memory: boxes of the call's own, cells that never change, calls. -/
import Derived.Test.YtpakkedlfoapeaaDoorEngC
namespace Go.Eng
open Go

section
variable {G : Ctx} {E : Env} {L : List Res} {M : Mem} {o : Oper} {ops : Array Oper} {rest : List Oper} {K : KPost}

/-! ### Boxes -/
def getBox : List Res → Nat → Option (Nat × TypeId × List SV)
  | [], _ => none
  | .box k n T cs :: L, j => bif Nat.beq k j then some (n, T, cs) else getBox L j
  | .tail .. :: L, j => getBox L j
def setBox : List Res → Nat → List SV → List Res
  | [], _, _ => []
  | .box k n T cs :: L, j, ds => bif Nat.beq k j then .box k n T ds :: L else .box k n T cs :: setBox L j ds
  | .tail x T sz n :: L, j, ds => .tail x T sz n :: setBox L j ds
theorem getBox_mem : ∀ {L : List Res} {k n : Nat} {T : TypeId} {cs : List SV}, getBox L k = some (n, T, cs) → Res.box k n T cs ∈ L
  | [], _, _, _, _, h => by simp [getBox] at h
  | .box k' n' T' cs' :: L, k, n, T, cs, h => by
    simp only [getBox] at h
    cases hb : Nat.beq k' k with
    | true =>
      rw [hb] at h
      have := Nat.eq_of_beq_eq_true hb
      subst this
      simp only [cond_true, Option.some.injEq, Prod.mk.injEq] at h
      obtain ⟨rfl, rfl, rfl⟩ := h
      exact List.mem_cons_self
    | false => rw [hb] at h; exact List.mem_cons_of_mem _ (getBox_mem h)
  | .tail .. :: L, k, n, T, cs, h => List.mem_cons_of_mem _ (getBox_mem (by simpa only [getBox] using h))
theorem nums_setBox : ∀ (L : List Res) (k : Nat) (ds : List SV), nums (setBox L k ds) = nums L
  | [], _, _ => rfl
  | .box k' n T cs :: L, k, ds => by
    simp only [setBox]
    cases Nat.beq k' k with
    | true => rfl
    | false => simp only [cond_false, nums, List.filterMap_cons, Res.num]; rw [show List.filterMap Res.num (setBox L k ds) = List.filterMap Res.num L from nums_setBox L k ds]
  | .tail .. :: L, k, ds => by
    simp only [setBox, nums, List.filterMap_cons]
    rw [show List.filterMap Res.num (setBox L k ds) = List.filterMap Res.num L from nums_setBox L k ds]
theorem mem_nums {L : List Res} {r : Res} {n : Nat} (h : r ∈ L) (hn : r.num = some n) : n ∈ nums L := List.mem_filterMap.2 ⟨r, h, hn⟩
/-- What lies in the list behind a store: the box anew, or another thing, which has another number. -/
theorem mem_setBox : ∀ {L : List Res} {k n : Nat} {T : TypeId} {cs ds : List SV}, getBox L k = some (n, T, cs) → (nums L).Nodup → ∀ r ∈ setBox L k ds, r = .box k n T ds ∨ (r ∈ L ∧ r.num ≠ some n)
  | [], _, _, _, _, _, h, _, _, _ => by simp [getBox] at h
  | .box k' n' T' cs' :: L, k, n, T, cs, ds, h, hn, r, hr => by
    simp only [getBox] at h
    simp only [setBox] at hr
    simp only [nums, List.filterMap_cons, Res.num, List.nodup_cons] at hn
    cases hb : Nat.beq k' k with
    | true =>
      rw [hb] at h hr
      have := Nat.eq_of_beq_eq_true hb
      subst this
      simp only [cond_true, Option.some.injEq, Prod.mk.injEq] at h hr
      obtain ⟨rfl, rfl, rfl⟩ := h
      cases hr with
      | head => exact .inl rfl
      | tail _ hr => exact .inr ⟨List.mem_cons_of_mem _ hr, fun e => hn.1 (mem_nums hr e)⟩
    | false =>
      rw [hb] at h hr
      simp only [cond_false] at h hr
      cases hr with
      | head =>
        refine .inr ⟨List.mem_cons_self, fun e => ?_⟩
        simp only [Res.num, Option.some.injEq] at e
        subst e
        exact hn.1 (mem_nums (getBox_mem h) rfl)
      | tail _ hr =>
        rcases mem_setBox h hn.2 r hr with h | h
        · exact .inl h
        · exact .inr ⟨List.mem_cons_of_mem _ h.1, h.2⟩
  | .tail x T' sz m :: L, k, n, T, cs, ds, h, hn, r, hr => by
    simp only [getBox] at h
    simp only [setBox] at hr
    cases hr with
    | head =>
      refine .inr ⟨List.mem_cons_self, fun e => ?_⟩
      simp only [nums, List.filterMap_cons, e, List.nodup_cons] at hn
      exact hn.1 (mem_nums (getBox_mem h) rfl)
    | tail _ hr =>
      have hn' : (nums L).Nodup := by
        simp only [nums, List.filterMap_cons] at hn
        split at hn
        · exact hn
        · exact (List.nodup_cons.1 hn).2
      rcases mem_setBox h hn' r hr with h | h
      · exact .inl h
      · exact .inr ⟨List.mem_cons_of_mem _ h.1, h.2⟩

/-- A thing of the call's own stays as it is where its block stays as it is and M has learnt nothing of it. -/
theorem Res.ok.keep {M M' : Mem} {w w' : World} {r : Res} (h : r.ok M w) (hl : M.le M') (hb : ∀ n, r.num = some n → w'.heap[n]? = w.heap[n]?) (hM : ∀ n, r.num = some n → ∀ o v, M' n o = some v → M n o = some v) : r.ok M' w' := by
  cases r with
  | box k n T cs =>
    obtain ⟨⟨vs, h1, h2, h3⟩, h4⟩ := h
    refine ⟨⟨vs, by rw [hb n rfl]; exact h1, h2.mono hl, h3⟩, fun o => ?_⟩
    cases hc : M' n o with
    | none => rfl
    | some v => have := hM n rfl o v hc; rw [h4 o] at this; cases this
  | tail x T sz n =>
    rcases h with h | ⟨g, cap, cur, rfl, h1, h2, h3, h4, h6, h5⟩
    · exact .inl h
    · exact .inr ⟨g, cap, cur, rfl, by rw [hb g rfl]; exact h1, h2, h3, h4, h6, fun o v e => h5 o v (hM g rfl o v e)⟩
theorem Res.ok.lt {M : Mem} {w : World} {r : Res} (h : r.ok M w) (n : Nat) (hn : r.num = some n) : n < w.heap.size := by
  cases r with
  | box k n' T cs =>
    obtain ⟨⟨vs, h1, _⟩, _⟩ := h
    cases hn
    exact (Array.getElem?_eq_some_iff.1 h1).1
  | tail x T sz m =>
    rcases h with ⟨rfl, _⟩ | ⟨g, cap, cur, rfl, h1, _⟩
    · simp [Res.num, Value.ownBlock] at hn
    · simp only [Res.num, Value.ownBlock, Option.some.injEq] at hn
      subst hn
      exact (Array.getElem?_eq_some_iff.1 h1).1

theorem heap_push_lt (w : World) (ob : Obj) (b : Nat) (h : b < w.heap.size) : ({ w with heap := w.heap.push ob } : World).heap[b]? = w.heap[b]? := by
  show (w.heap.push ob)[b]? = _
  rw [Array.getElem?_push, if_neg (by omega)]
theorem heap_push_new (w : World) (ob : Obj) : ({ w with heap := w.heap.push ob } : World).heap[w.heap.size]? = some ob := by
  show (w.heap.push ob)[w.heap.size]? = _
  simp
theorem Mem.Holds.keep {M : Mem} {w w' : World} (h : M.Holds w) (hb : ∀ b o v, M b o = some v → w'.heap[b]? = w.heap[b]?) : M.Holds w' := fun b o v e => by
  refine ⟨?_, (h b o v e).2⟩
  rw [World.cell?_of_block (w := w) (hb b o v e)]
  exact (h b o v e).1

/-- A new block of the call's own. -/
theorem St.newBox {a : Act} {w : World} (s : St G E L M a w) (k : Nat) (T : TypeId) (vs : Array Value) (cs : List SV) (hr : SV.rels M cs vs.toList) (h1 : ∀ v ∈ vs.toList, v.oneCell' = true) :
    St G E (.box k w.heap.size T cs :: L) M a { w with heap := w.heap.push (.cells vs T (0, 0)) } where
  defers := s.defers
  size := s.size
  env := s.env
  keep := s.keep.trans ⟨rfl, rfl, rfl, by simp, fun b hb _ => heap_push_lt w _ b hb⟩
  le := s.le
  newc := s.newc
  mem := s.mem.keep fun b o v e => heap_push_lt w _ b (s.mem.lt e)
  res := by
    intro r hr'
    cases hr' with
    | head => exact ⟨⟨vs, heap_push_new w _, hr, h1⟩, fun o => by
        cases hc : M w.heap.size o with
        | none => rfl
        | some v => exact absurd (s.mem.lt hc) (Nat.lt_irrefl _)⟩
    | tail _ hr' => exact (s.res r hr').keep (Mem.le.refl M) (fun n hn => heap_push_lt w _ n ((s.res r hr').lt n hn)) (fun _ _ _ _ e => e)
  nodup := by
    simp only [nums, List.filterMap_cons, Res.num, List.nodup_cons]
    refine ⟨fun h => ?_, s.nodup⟩
    obtain ⟨r, hr', hn⟩ := List.mem_filterMap.1 h
    exact absurd ((s.res r hr').lt _ hn) (Nat.lt_irrefl _)
  own := by
    intro n hn
    simp only [nums, List.filterMap_cons, Res.num, List.mem_cons] at hn
    rcases hn with rfl | hn
    · exact .inr s.keep.size
    · exact s.own n hn

def zeroCs (z : Value) : List SV := z.cells.toList.map .v
theorem wl_alloc {T : TypeId} {d : TK} {sz by_ dst : Nat} {z : Value} [t : Ty G.P T d sz by_ z] (hg : o.guard = none) (hds : o.dst = some dst) (hd : dstOk G o = true) (ho : o.op = .alloc T) (hz : z.cells.toList.all Value.oneCell' = true)
    (k : ∀ n, WL G ops rest ((dst, .lp dst n 0) :: E) (.box dst n T (zeroCs z) :: L) M K) : WL G ops (o :: rest) E L M K := fun a w st => by
  unfold wpList
  rw [if_pos (by simp [Region.wanted, hg])]
  left
  have hrun : (execOp a.eval o).run G.P w = .ok (.value (.pointer (some ⟨w.heap.size, 0, none⟩))) { w with heap := w.heap.push (.cells z.cells T (0, 0)) } := by
    simp [execOp, ho, Instr.alloc, run_zero' t, newVar, newRow]
  simp only [Oper.wp, hrun, Oper.upon_value]
  have s2 := (st.newBox dst T z.cells (zeroCs z) (rels_vals _) (List.all_eq_true.1 hz)).put (o := o) (x := .pointer (some ⟨w.heap.size, 0, none⟩)) (t := .lp dst w.heap.size 0) (rel_lp.2 rfl) hd
  exact k w.heap.size _ _ (by simpa only [putE, hds] using s2)
/-- The cells of a value. -/
def cellsOf : SV → List SV
  | .agg cs => cs
  | s => [s]
def oneSV : SV → Bool
  | .v x => x.oneCell'
  | .tup _ => false
  | _ => true
theorem rel_cells {M : Mem} {s : SV} {x : Value} (h : SV.rel M s x) (h1 : oneSV s = true) : SV.rels M (cellsOf s) x.cells.toList ∧ ∀ v ∈ x.cells.toList, v.oneCell' = true := by
  have one : ∀ {s : SV} {x : Value}, SV.rel M s x → x.oneCell' = true → SV.rels M [s] x.cells.toList ∧ ∀ v ∈ x.cells.toList, v.oneCell' = true := by
    intro s x h h1
    have : x.cells = #[x] := by cases x <;> first | rfl | cases h1
    rw [this]
    exact ⟨rels_cons'.2 ⟨h, rels_nil.2 rfl⟩, by simpa using h1⟩
  cases s with
  | v y => have := rel_v.1 h; subst this; exact one h h1
  | agg cs =>
    simp only [SV.rel] at h
    obtain ⟨ys, rfl, h2, h3⟩ := h
    exact ⟨h2, h3⟩
  | tup _ => cases h1
  | lp k n off => have := rel_lp.1 h; subst this; exact one h rfl
  | mp cs => refine one h ?_; simp only [SV.rel] at h; obtain ⟨_, _, rfl, _⟩ := h; rfl
  | sl sz es => refine one h ?_; simp only [SV.rel] at h; rcases h with ⟨⟨_, _, rfl⟩, _⟩ | ⟨_, _, _, rfl, _⟩ <;> rfl
  | rw x sz es => refine one h ?_; simp only [SV.rel] at h; obtain ⟨_, ⟨⟨_, _, rfl⟩, _⟩ | ⟨_, _, _, rfl, _⟩⟩ := h <;> rfl
  | ifc t s => refine one h ?_; simp only [SV.rel] at h; obtain ⟨_, rfl, _⟩ := h; rfl
  | fn f c => refine one h ?_; simp only [SV.rel] at h; obtain ⟨_, rfl, _⟩ := h; rfl
theorem wl_box {T : TypeId} {dst : Nat} {x : Operand} {s : SV} (hg : o.guard = none) (hds : o.dst = some dst) (hd : dstOk G o = true) (ho : o.op = .box T x) (e : evO E x = some s) (h1 : oneSV s = true)
    (k : ∀ n, WL G ops rest ((dst, .lp dst n 0) :: E) (.box dst n T (cellsOf s) :: L) M K) : WL G ops (o :: rest) E L M K := fun a w st => by
  unfold wpList
  rw [if_pos (by simp [Region.wanted, hg])]
  left
  have hrun : (execOp a.eval o).run G.P w = .ok (.value (.pointer (some ⟨w.heap.size, 0, none⟩))) { w with heap := w.heap.push (.cells (a.eval x).cells T (0, 0)) } := by
    simp [execOp, ho, Instr.box, newVar, newRow]
  simp only [Oper.wp, hrun, Oper.upon_value]
  obtain ⟨r1, r2⟩ := rel_cells (evO_rel st.env e) h1
  have s2 := (st.newBox dst T _ (cellsOf s) r1 r2).put (o := o) (x := .pointer (some ⟨w.heap.size, 0, none⟩)) (t := .lp dst w.heap.size 0) (rel_lp.2 rfl) hd
  exact k w.heap.size _ _ (by simpa only [putE, hds] using s2)
end
end Go.Eng

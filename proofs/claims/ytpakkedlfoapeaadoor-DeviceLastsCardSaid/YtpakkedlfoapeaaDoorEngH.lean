/- Rows of the call's own that are laid open at once: literals, append. -/
import Derived.Test.YtpakkedlfoapeaaDoorEngG
namespace Go.Eng
open Go

section
variable {G : Ctx} {E : Env} {L : List Res} {M : Mem} {o : Oper} {ops : Array Oper} {rest : List Oper} {K : KPost}

def Mem.add (M : Mem) (g : Nat) (xs : List Value) : Mem := fun b o => if b = g then xs[o]? else M b o
theorem Mem.add_same {M : Mem} {g o : Nat} {xs : List Value} : M.add g xs g o = xs[o]? := by simp [Mem.add]
theorem Mem.add_other {M : Mem} {g b o : Nat} {xs : List Value} (h : b ≠ g) : M.add g xs b o = M b o := by simp [Mem.add, h]
theorem Mem.le_add {M : Mem} {g : Nat} {xs : List Value} (h : ∀ o v, M g o = some v → xs[o]? = some v) : M.le (M.add g xs) := fun b o v e => by
  by_cases hb : b = g
  · subst hb; rw [Mem.add_same]; exact h o v e
  · rw [Mem.add_other hb]; exact e

theorem rel_rw_of {M : Mem} {g n cap sz : Nat} {es : List (List SV)} (hl : es.length = n) (hc : n ≤ cap) (hr : SV.rowsAt M sz es g 0) : SV.rel M (.rw (.slice (some ⟨g, 0, none⟩) n cap) sz es) (.slice (some ⟨g, 0, none⟩) n cap) := by
  simp only [SV.rel]
  exact ⟨trivial, .inr ⟨g, 0, cap, by rw [hl], by omega, hr⟩⟩

/-- A new block that nobody writes to any more in its first cells. -/
theorem St.newRow {a : Act} {w : World} (s : St G E L M a w) (T : TypeId) (sz n cap : Nat) (vs : Array Value) (xs : List Value) (d : Nat) (hx : xs = vs.toList.take (n * sz)) (hsz : vs.size = cap * sz) (hn : n ≤ cap) (hcap : cap ≤ maxLen) (h1 : ∀ v ∈ vs.toList, v.oneCell' = true) :
    St G E (.tail (.slice (some ⟨w.heap.size, 0, none⟩) n cap) T sz n :: L) (M.add w.heap.size xs) a { w with heap := w.heap.push (.cells vs T (0, 0)), drawn := d } ∧ M.le (M.add w.heap.size xs) := by
  have hM : ∀ o v, M w.heap.size o = some v → xs[o]? = some v := fun o v e => absurd (s.mem.lt e) (Nat.lt_irrefl _)
  have hle := Mem.le_add hM
  have hxl : xs.length ≤ n * sz := by rw [hx]; simp; omega
  refine ⟨{
    defers := s.defers
    size := s.size
    env := s.env.mono hle
    keep := s.keep.trans ⟨rfl, rfl, rfl, by simp, fun b hb _ => heap_push_lt w _ b hb⟩
    le := s.le.trans hle
    newc := by
      intro b o v e
      by_cases hb : b = w.heap.size
      · subst hb; exact .inr (.inr s.keep.size)
      · rw [Mem.add_other hb] at e; exact s.newc b o v e
    mem := by
      intro b o v e
      by_cases hb : b = w.heap.size
      · subst hb
        rw [Mem.add_same] at e
        refine ⟨?_, h1 v (by rw [hx] at e; exact List.mem_of_mem_take (List.mem_of_getElem? e))⟩
        rw [cell_of_row { w with heap := w.heap.push (.cells vs T (0, 0)), drawn := d } w.heap.size o vs T (0, 0) (heap_push_new w _)]
        rw [hx, List.getElem?_take] at e
        split at e
        · simpa using e
        · cases e
      · rw [Mem.add_other hb] at e
        have := s.mem b o v e
        refine ⟨?_, this.2⟩
        rw [World.cell?_of_block (w := w) (heap_push_lt w _ b (s.mem.lt e))]
        exact this.1
    res := by
      intro r hr
      cases hr with
      | head =>
        refine .inr ⟨w.heap.size, cap, vs, rfl, heap_push_new w _, hn, hcap, hsz, h1, fun o v e => ?_⟩
        rw [Mem.add_same] at e
        have := (List.getElem?_eq_some_iff.1 e).1
        omega
      | tail _ hr =>
        refine (s.res r hr).keep hle (fun m hm => heap_push_lt w _ m ((s.res r hr).lt m hm)) (fun m hm o v e => ?_)
        have := (s.res r hr).lt m hm
        rwa [Mem.add_other (by omega)] at e
    nodup := by
      simp only [nums, List.filterMap_cons, Res.num, Value.ownBlock, List.nodup_cons]
      refine ⟨fun h => ?_, s.nodup⟩
      obtain ⟨r, hr', hn⟩ := List.mem_filterMap.1 h
      exact absurd ((s.res r hr').lt _ hn) (Nat.lt_irrefl _)
    own := by
      intro m hm
      simp only [nums, List.filterMap_cons, Res.num, Value.ownBlock, List.mem_cons] at hm
      rcases hm with rfl | hm
      · exact .inr s.keep.size
      · exact s.own m hm }, hle⟩

/-! ### Slice literals -/
def chunks (sz : Nat) : Nat → List SV → List (List SV)
  | 0, _ => []
  | n + 1, cs => cs.take sz :: chunks sz n (cs.drop sz)
theorem chunks_len (sz : Nat) : ∀ (n : Nat) (cs : List SV), cs.length = n * sz → (chunks sz n cs).length = n ∧ (∀ e ∈ chunks sz n cs, e.length = sz) ∧ (chunks sz n cs).flatten = cs
  | 0, cs, h => by simp at h; subst h; simp [chunks]
  | n + 1, cs, h => by
    rw [Nat.add_mul] at h
    obtain ⟨h1, h2, h3⟩ := chunks_len sz n (cs.drop sz) (by simp; omega)
    refine ⟨by simp [chunks, h1], ?_, by simp [chunks, h3]⟩
    intro e he
    simp only [chunks, List.mem_cons] at he
    rcases he with rfl | he
    · simp; omega
    · exact h2 e he
def zeroRep (n sz : Nat) (z : List SV) : List SV := (List.range (n * sz)).map fun i => z.getD (i % z.length) (.v undef)
theorem zeroRep_rel {M : Mem} (n sz : Nat) (z : Value) (hz : z.cells.size = sz) :
    SV.rels M (zeroRep n sz (zeroCs z)) ((Array.range (n * sz)).map (z.cells[· % z.cells.size]!)).toList := by
  have e : ((Array.range (n * sz)).map (z.cells[· % z.cells.size]!)).toList = (List.range (n * sz)).map (fun i => z.cells[i % z.cells.size]!) := by simp
  have e2 : zeroRep n sz (zeroCs z) = ((List.range (n * sz)).map (fun i => z.cells[i % z.cells.size]!)).map .v := by
    unfold zeroRep zeroCs
    rw [List.map_map]
    apply List.map_congr_left
    intro i hi
    have hpos : 0 < z.cells.size := by
      have := List.mem_range.1 hi
      rcases Nat.eq_zero_or_pos z.cells.size with h0 | h0
      · rw [← hz, h0] at this; simp at this
      · exact h0
    have hlt : i % z.cells.size < z.cells.size := Nat.mod_lt _ hpos
    simp [hlt]
  rw [e, e2]
  exact rels_vals _
theorem wl_buildSlice {T el sz by_ len dst : Nat} {k : TK} {z : Value} [st : SlT G.P T el sz] [t : Ty G.P el k sz by_ z] {parts : Array (Nat × Operand)} {ss : List (Nat × SV)} {cs : List SV} (hg : o.guard = none) (hds : o.dst = some dst) (hd : dstOk G o = true) (ho : o.op = .buildSlice T len parts) (es : evParts E parts.toList = some ss)
    (hz : z.cells.toList.all Value.oneCell' = true) (hzs : z.cells.size = sz) (hpos : Nat.ble 1 sz = true) (hsmall : Nat.ble (len * sz) 16777216 = true) (hf : fillSV (fun i : Nat => some (i * sz, sz)) (zeroRep len sz (zeroCs z)) ss = some cs)
    (kk : ∀ x M', M.le M' → WL G ops rest ((dst, .rw x sz (chunks sz len cs)) :: E) (.tail x el sz len :: L) M' K) : WL G ops (o :: rest) E L M K := fun a w s => by
  obtain ⟨hu, i, hi, hs⟩ := st.get
  have hpos := Nat.le_of_ble_eq_true hpos
  have hsmall := Nat.le_of_ble_eq_true hsmall
  have hzero : ∀ v ∈ ((Array.range (len * sz)).map (z.cells[· % z.cells.size]!)).toList, v.oneCell' = true := by
    intro v hv
    simp only [Array.toList_map, List.mem_map, Array.toList_range, List.mem_range] at hv
    obtain ⟨j, hj, rfl⟩ := hv
    have hpos' : 0 < z.cells.size := by omega
    have hlt : j % z.cells.size < z.cells.size := Nat.mod_lt _ hpos'
    rw [getElem!_pos z.cells _ hlt]
    exact List.all_eq_true.1 hz _ (by simp)
  obtain ⟨vs, f1, f2, f3⟩ := fill_rel (place := fun i : Nat => some (i * sz, sz)) ss _ (zeroRep len sz (zeroCs z)) ((Array.range (len * sz)).map (z.cells[· % z.cells.size]!)) cs (evParts_rel s.env es) (zeroRep_rel len sz z hzs) hzero hf
  have hlen : cs.length = len * sz := by
    have h2 := fillSV_length hf
    rw [h2]
    simp [zeroRep]
  have hvl := rels_length f2
  have hvs : vs.size = len * sz := by rw [← hlen, hvl]; simp
  have hparts : (parts.map fun (i, x) => (i, a.eval x)).toList = parts.toList.map fun p => (p.1, a.eval p.2) := by simp
  have hop : (execOp a.eval o).run G.P w = .ok (.value (.slice (some ⟨w.heap.size, 0, none⟩) len len)) { w with heap := w.heap.push (.cells vs el (0, 0)) } := by
    by_cases h0 : len * sz = 0
    · have hz0 : vs = #[] := by apply Array.eq_empty_of_size_eq_zero; omega
      have f1' : Instr.fill (fun i : Nat => some (i * sz, sz)) #[] (parts.toList.map fun p => (p.1, a.eval p.2)) = some vs := by
        have hA : (Array.range (len * sz)).map (z.cells[· % z.cells.size]!) = #[] := by rw [h0]; simp
        rw [← f1, hA]
      have hB : ∀ f : Nat → Value, (Array.range (len * sz)).map f = #[] := by intro f; rw [h0]; simp
      simp only [execOp, ho, Instr.buildSlice, Sem.run_bind, run_underlying hu, sizeOf, typeInfo, run_program, hi, hs, Result.andThen_ok, Sem.run_pure, hB, hparts, f1']
      simp [h0, newRow]
    · simp [execOp, ho, Instr.buildSlice, run_underlying hu, sizeOf, typeInfo, hi, hs, h0, run_zero' t, show ¬ (16777216 < len * sz) by omega, f1, newRow]
  unfold wpList
  rw [if_pos (by simp [Region.wanted, hg])]
  left
  simp only [Oper.wp, hop, Oper.upon_value]
  have hmax : len ≤ maxLen := by
    have : len * 1 ≤ len * sz := Nat.mul_le_mul_left _ hpos
    unfold maxLen; omega
  obtain ⟨s2, hle⟩ := s.newRow el sz len len vs vs.toList w.drawn (by rw [List.take_of_length_le (by simp [hvs])]) hvs (Nat.le_refl _) hmax f3
  obtain ⟨c1, c2, c3⟩ := chunks_len sz len cs hlen
  have s3 := s2.put (o := o) (x := .slice (some ⟨w.heap.size, 0, none⟩) len len) (t := .rw (.slice (some ⟨w.heap.size, 0, none⟩) len len) sz (chunks sz len cs)) (rel_rw_of c1 (Nat.le_refl _) (rowsAt_of_vals (xs := vs.toList) (by rw [c3]; exact f2.mono hle) c2 fun j x e => by
    rw [Nat.zero_add, Mem.add_same]; exact e)) hd
  exact kk _ _ hle _ _ (by simpa only [putE, hds] using s3)
where
  fillSV_length {place : Nat → Option (Nat × Nat)} : ∀ {ss : List (Nat × SV)} {cs cs' : List SV}, fillSV place cs ss = some cs' → cs'.length = cs.length
    | [], cs, cs', h => by cases h; rfl
    | (i, s) :: ss, cs, cs', h => by
      simp only [fillSV] at h
      cases hp : place i with
      | none => rw [hp] at h; cases h
      | some os =>
        obtain ⟨off, size⟩ := os
        rw [hp] at h
        dsimp only at h
        cases hc : (Nat.beq (cellsOf s).length size && Nat.ble (off + (cellsOf s).length) cs.length && oneSV s) with
        | false => simp only [hc] at h; cases h
        | true =>
          simp only [hc, cond_true] at h
          simp only [Bool.and_eq_true] at hc
          rw [fillSV_length h, splice_length (Nat.le_of_ble_eq_true hc.1.2)]
end
end Go.Eng

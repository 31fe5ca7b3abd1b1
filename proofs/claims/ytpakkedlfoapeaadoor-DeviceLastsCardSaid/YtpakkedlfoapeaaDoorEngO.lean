/- Rows of the call's own that are written into: made, grown out of nothing, indexed, sliced, copied into, cleared; what is lent; calls that are handed something. -/
import Derived.Test.YtpakkedlfoapeaaDoorEngN
import Derived.Laws.MakeOwn
import Derived.Laws.CopyRow
namespace Go.Eng
open Go

section
variable {G : Ctx} {E : Env} {L : List Res} {M : Mem} {o : Oper} {ops : Array Oper} {rest : List Oper} {K : KPost} {Q : Post}

/-- A box is written. -/
theorem St.write {a : Act} {w : World} (st : St G E L M a w) {k n : Nat} {T' : TypeId} {cs cs' : List SV} (hb : getBox L k = some (n, T', cs)) {vs : Array Value} (h0 : w.heap[n]? = some (.cells vs T' (0, 0))) (vs' : Array Value) (hr : SV.rels M cs' vs'.toList) (h1 : ∀ v ∈ vs'.toList, v.oneCell' = true) :
    St G E (setBox L k cs') M a (w.setRow n vs') := by
  have hother : ∀ b, b ≠ n → (w.setRow n vs').heap[b]? = w.heap[b]? := fun b hne => setRow_other w n b _ hne
  have hrow := setRow_heap w n vs vs' T' (0, 0) h0
  have hnn : n ∈ nums L := mem_nums (getBox_mem hb) rfl
  have g4 := (st.res _ (getBox_mem hb)).2
  exact {
    defers := st.defers
    size := st.size
    env := st.env
    keep := ⟨st.keep.os, st.keep.tape, st.keep.output, by have := st.keep.size; simpa [World.setRow] using this, fun b hb2 hk => (hother b fun he => by
      subst he
      rcases st.own b hnn with h | h
      · exact hk h
      · omega).trans (st.keep.block b hb2 hk)⟩
    le := st.le
    newc := st.newc
    mem := st.mem.keep fun b o v hv => hother b fun he => by subst he; rw [g4 o] at hv; cases hv
    res := by
      intro r hr'
      rcases mem_setBox hb st.nodup r hr' with rfl | ⟨hr', hne⟩
      · exact ⟨⟨_, hrow, hr, h1⟩, g4⟩
      · exact (st.res r hr').keep (Mem.le.refl M) (fun m hm => hother m fun he => by subst he; exact hne hm) (fun _ _ _ _ e => e)
    nodup := by rw [nums_setBox]; exact st.nodup
    own := by rw [nums_setBox]; exact st.own }

/-! ### make -/
theorem zeroRep_one (n : Nat) (z : Value) (hz : z.cells = #[z]) : zeroRep n 1 (zeroCs z) = List.replicate n (.v z) := by
  unfold zeroRep zeroCs
  rw [hz]
  apply List.ext_getElem
  · simp
  · intro i h1 h2
    simp [Nat.mod_one]
theorem wl_mk {T el by_ dst : Nat} {kd : TK} {z : Value} {x y : Operand} {k1 k2 : IntKind} {n : Int} (h0 : 0 ≤ n) (hbytes : (by_ : Int) * n ≤ 281474976710656) (h63 : n ≤ 9223372036854775807)
    (kk : ∀ nb, WL G ops rest ((dst, .v (.slice (some ⟨nb, 0, none⟩) n.toNat n.toNat)) :: E) (.box dst nb el (List.replicate n.toNat (.v z)) :: L) M K)
    (hg : o.guard = none := by rfl) (hds : o.dst = some dst := by rfl) (hd : dstOk G o = true := by rfl) (ho : o.op = .makeSlice T x y := by rfl) (st : SlT G.P T el 1 := by infer_instance) (t : Ty G.P el kd 1 by_ z := by infer_instance) (ex : evO E x = some (.v (.int k1 n)) := by rfl) (ey : evO E y = some (.v (.int k2 n)) := by rfl) (hz : z.cells = #[z] := by rfl) (h1 : z.oneCell' = true := by rfl) : WL G ops (o :: rest) E L M K := fun a w s => by
  obtain ⟨hu, i, hi, hs⟩ := st.get
  obtain ⟨i', hi', hs', hb', hz'⟩ := t.info
  rw [hi] at hi'
  cases hi'
  have hx := rel_v.1 (evO_rel s.env ex)
  have hy := rel_v.1 (evO_rel s.env ey)
  have hop : (execOp a.eval o).run G.P w = .ok (.value (.slice (some ⟨w.heap.size, 0, none⟩) n.toNat n.toNat)) (w.alloc (.cells (madeCells z.cells (n.toNat * 1)) el)) := by
    have := run_make (P := G.P) w T el i z hu hi hz' k1 k2 n n h0 (Int.le_refl _) (by rw [hb']; exact hbytes) h63
    rw [hs] at this
    simp only [execOp, ho, hx, hy, Sem.run_bind, this, Result.andThen_ok, Sem.run_pure]
  unfold wpList
  rw [if_pos (by simp [Region.wanted, hg])]
  left
  simp only [Oper.wp, hop, Oper.upon_value]
  have hone : ∀ v ∈ (madeCells z.cells (n.toNat * 1)).toList, v.oneCell' = true := by
    intro v hv
    unfold madeCells at hv
    simp only [Array.toList_map, List.mem_map, Array.toList_range, List.mem_range] at hv
    obtain ⟨j, _, rfl⟩ := hv
    rw [hz]
    simp [Nat.mod_one, h1]
  have s2 := (s.newBox dst el (madeCells z.cells (n.toNat * 1)) (List.replicate n.toNat (.v z)) (by
    rw [← zeroRep_one n.toNat z hz]
    exact zeroRep_rel n.toNat 1 z (by rw [hz]; rfl)) hone).put (o := o) (x := .slice (some ⟨w.heap.size, 0, none⟩) n.toNat n.toNat) (t := .v (.slice (some ⟨w.heap.size, 0, none⟩) n.toNat n.toNat)) (rel_v.2 rfl) hd
  exact kk w.heap.size _ _ (by simp only [putE, hds] at s2 ⊢; exact s2)

/-! ### append([]T{}, xs...) : a row of the call's own that may be written -/
/-- A literal without elements. -/
theorem wl_b0 {T el sz dst : Nat} (kk : ∀ nb, WL G ops rest ((dst, .v (.slice (some ⟨nb, 0, none⟩) 0 0)) :: E) (.box dst nb el [] :: L) M K)
    (hg : o.guard = none := by rfl) (hds : o.dst = some dst := by rfl) (hd : dstOk G o = true := by rfl) (ho : o.op = .buildSlice T 0 #[] := by rfl) (st : SlT G.P T el sz := by infer_instance) : WL G ops (o :: rest) E L M K := fun a w s => by
  obtain ⟨hu, i, hi, hs⟩ := st.get
  have hop : (execOp a.eval o).run G.P w = .ok (.value (.slice (some ⟨w.heap.size, 0, none⟩) 0 0)) { w with heap := w.heap.push (.cells #[] el (0, 0)) } := by
    simp [execOp, ho, Instr.buildSlice, run_underlying hu, sizeOf, typeInfo, hi, newRow, Instr.fill, Array.range_zero']
  unfold wpList
  rw [if_pos (by simp [Region.wanted, hg])]
  left
  simp only [Oper.wp, hop, Oper.upon_value]
  have s2 := (s.newBox dst el #[] [] (rels_nil.2 rfl) (by simp)).put (o := o) (x := .slice (some ⟨w.heap.size, 0, none⟩) 0 0) (t := .v (.slice (some ⟨w.heap.size, 0, none⟩) 0 0)) (rel_v.2 rfl) hd
  exact kk w.heap.size _ _ (by simpa only [putE, hds] using s2)
theorem wl_apb {c : Call} {T T2 el e2 sz s2 by_ dst k0 nb0 : Nat} {kd : TK} {z : Value} {x y : Operand} {ds : List (List SV)} {Lr : List Res}
    (hbytes : ds.length * by_ ≤ 140737488355328) (hmax : ds.length ≤ 9223372036854775807)
    (k1 : ∀ nb cap sp, ds.length ≤ cap → sp.length = (cap - ds.length) * sz → WL G ops rest ((dst, .v (.slice (some ⟨nb, 0, none⟩) ds.length cap)) :: E) (.box dst nb el (ds.flatten ++ sp) :: Lr) M K)
    (hL : L = .box k0 nb0 el [] :: Lr := by rfl) (hg : o.guard = none := by rfl) (hds : o.dst = some dst := by rfl) (hd : dstOk G o = true := by rfl)
    (ho : o.op = .call c := by rfl) (hc : c.callee = .builtin .append := by rfl) (ha : c.args = #[x, y] := by rfl) (hT : c.argTypes = #[T, T2] := by rfl) (st : SlT G.P T el sz := by infer_instance) (st2 : SlT G.P T2 e2 s2 := by infer_instance) (t : Ty G.P el kd sz by_ z := by infer_instance) (ex : evO E x = some (.v (.slice (some ⟨nb0, 0, none⟩) 0 0)) := by rfl) (ey : evL E y = some (.sl sz ds) := by rfl) (hz1 : z.cells.toList.all Value.oneCell' = true := by rfl) (hzs : z.cells.size = sz := by rfl) : WL G ops (o :: rest) E L M K := fun a w s => by
  subst hL
  obtain ⟨hu, i, hi, hs⟩ := st.get
  obtain ⟨hu2, _⟩ := st2.get
  obtain ⟨i', hi', hs', hb', hz'⟩ := t.info
  rw [hi] at hi'
  cases hi'
  have hx := rel_v.1 (evO_rel s.env ex)
  have hy := evL_rel s.env ey
  simp only [SV.rel] at hy
  have hop : ∀ r w', (Builtin.append_ #[T, T] o.type #[a.eval x, a.eval y]).run G.P w = .ok r w' → (execOp a.eval o).run G.P w = .ok (.value r) w' := by
    intro r w' h
    rw [← append_types hu hu2] at h
    simp [execOp, ho, resolve, hc, ha, hT, invoke, builtin, h]
  have fin : ∀ v' w' t' L', (execOp a.eval o).run G.P w = .ok (.value v') w' → SV.rel M t' v' → St G E L' M a w' → WL G ops rest ((dst, t') :: E) L' M K → wpList G.P ops (kpost G K) (o :: rest) a w := by
    intro v' w' t' L' h1 h2 h3 h4
    unfold wpList
    rw [if_pos (by simp [Region.wanted, hg])]
    left
    simp only [Oper.wp, h1, Oper.upon_value]
    have h5 := h3.put (o := o) h2 hd
    exact h4 _ _ (by simpa only [putE, hds] using h5)
  by_cases hd0 : ds.length = 0
  · have hdn := List.eq_nil_of_length_eq_zero hd0
    subst hdn
    have hrun : (Builtin.append_ #[T, T] o.type #[a.eval x, a.eval y]).run G.P w = .ok (.slice (some ⟨nb0, 0, none⟩) 0 0) w := by
      rw [hx]
      rcases hy with ⟨⟨a1, c1, hy⟩, _⟩ | ⟨b, off, c2, hy, _, _⟩
      · rw [hy]; exact run_append_none hu hi o.type _ a1 0 0 c1 (Nat.le_refl _) w
      · rw [hy]; exact run_append_none hu hi o.type _ _ 0 0 c2 (Nat.le_refl _) w
    have s2 : St G E (.box dst nb0 el ([] ++ []) :: Lr) M a w := { s with
      res := by
        intro r hr
        cases hr with
        | head => exact s.res (.box k0 nb0 el []) List.mem_cons_self
        | tail _ hr => exact s.res r (List.mem_cons_of_mem _ hr)
      nodup := s.nodup
      own := s.own }
    exact fin _ w _ _ (hop _ _ hrun) (rel_v.2 rfl) s2 (k1 nb0 0 [] (Nat.le_refl _) (by simp))
  · rcases hy with ⟨_, h⟩ | ⟨b, off, c2, hy, hdc, hdr⟩
    · exact absurd h hd0
    · obtain ⟨news, n1, n2, n3, n4⟩ := rowsAt_vals hdr
      have hn1 : ∀ v ∈ news, v.oneCell' = true := fun v hv => by
        obtain ⟨j, hj⟩ := List.getElem?_of_mem hv
        exact (s.mem _ _ _ (n4 j v hj)).2
      have hcells : ∀ j u, news[j]? = some u → w.cell? ((⟨b, off, none⟩ : Addr).add j) = some u := fun j u e => by
        rw [add_addr]; exact (s.mem _ _ _ (n4 j u e)).1
      have hrun : (Builtin.append_ #[T, T] o.type #[a.eval x, a.eval y]).run G.P w = .ok (.slice (some ⟨w.heap.size, 0, none⟩) ds.length (grownCap w ds.length 0 el)) (w.drew.alloc (.cells (news.toArray ++ Builtin.zeroCells z.cells (grownCap w ds.length 0 el - ds.length)) el)) := by
        rw [hx, hy]
        have := run_append_grow (P := G.P) w T o.type el i z hu hi hz' ⟨nb0, 0, none⟩ 0 0 [] (by simp) (by simp) ⟨b, off, none⟩ ds.length c2 news (by rw [n2, hs]) hcells (by omega) (by omega) (growslice_fits (by omega) (by rw [hb', Nat.zero_add]; exact hbytes))
        simpa using this
      have hge := grownCap_ge w ds.length 0 el
      have hone : ∀ v ∈ (news.toArray ++ Builtin.zeroCells z.cells (grownCap w ds.length 0 el - ds.length)).toList, v.oneCell' = true := by
        intro v hv
        rw [Array.toList_append] at hv
        rcases List.mem_append.1 hv with h | h
        · exact hn1 v h
        · exact one_zeroCells hz1 _ v h
      have s3 := ((s.dropRes (List.sublist_cons_self _ _)).drew (w.drawn + 1)).newBox dst el (news.toArray ++ Builtin.zeroCells z.cells (grownCap w ds.length 0 el - ds.length)) (ds.flatten ++ (Builtin.zeroCells z.cells (grownCap w ds.length 0 el - ds.length)).toList.map .v) (by
        rw [Array.toList_append]
        exact rels_append n1 (rels_vals _)) hone
      refine fin _ _ _ _ (hop _ _ hrun) (rel_v.2 rfl) s3 (k1 _ _ _ hge ?_)
      simp [size_zeroCells, hzs]

/-! ### Into such a row -/
theorem still_index_row {T el sz : Nat} [t : SlT G.P T el sz] {x ix : Operand} {n off len cap : Nat} {kk : IntKind} {i : Int} (k : Nat) (ho : o.op = .indexAddr T x ix) (e : evO E x = some (.v (.slice (some ⟨n, off, none⟩) len cap))) (ei : evO E ix = some (.v (.int kk i))) (hi : 0 ≤ i ∧ i < len) :
    Still G o E L M (.lp k n (off + i.toNat * sz)) := fun a w h _ _ => by
  have hx := rel_v.1 (evO_rel h e)
  have hix := rel_v.1 (evO_rel h ei)
  obtain ⟨h1, inf, h2, h3⟩ := t.get
  refine ⟨_, rel_lp.2 rfl, fun w' _ _ => ?_⟩
  simp [execOp, ho, hx, hix, Instr.indexAt, asIntOf, run_underlying h1, hi, sizeOf, typeInfo, h2, h3, add_addr]
theorem wl_ir (k : Nat) {T el sz : Nat} [SlT G.P T el sz] {x ix : Operand} {n off len cap : Nat} {kk : IntKind} {i : Int} (hi : 0 ≤ i ∧ i < len) (kx : WL G ops rest (putE E o.dst (.lp k n (off + i.toNat * sz))) L M K)
    (ho : o.op = .indexAddr T x ix := by rfl) (e : evO E x = some (.v (.slice (some ⟨n, off, none⟩) len cap)) := by rfl) (ei : evO E ix = some (.v (.int kk i)) := by rfl) (hg : o.guard = none := by rfl) (hd : dstOk G o = true := by rfl) : WL G ops (o :: rest) E L M K :=
  wl_still hg hd (still_index_row k ho e ei hi) kx
/-- s[lo:hi] of such a row. -/
theorem still_slice_row {T el sz : Nat} [t : SlT G.P T el sz] {x : Operand} {lo hi' : Option Operand} {n off len cap : Nat} {l h : Nat} (ho : o.op = .slice T x lo hi' none) (e : evO E x = some (.v (.slice (some ⟨n, off, none⟩) len cap)))
    (el : match lo with | none => l = 0 | some p => ∃ k i, evO E p = some (.v (.int k i)) ∧ i = (l : Int)) (eh : match hi' with | none => h = len | some p => ∃ k i, evO E p = some (.v (.int k i)) ∧ i = (h : Int)) (h1 : l ≤ h) (h2 : h ≤ cap) :
    Still G o E L M (.v (.slice (some ⟨n, if cap = l then off else off + l * sz, none⟩) (h - l) (cap - l))) := fun a w hE _ _ => by
  have hx := rel_v.1 (evO_rel hE e)
  obtain ⟨hu, inf, i1, i2⟩ := t.get
  refine ⟨_, rel_v.2 rfl, fun w' _ _ => ?_⟩
  have hfin : ∀ q, q = (⟨n, off, none⟩ : Addr) → (if cap = l then some q else some (q.add (l * sz))) = some (⟨n, if cap = l then off else off + l * sz, none⟩ : Addr) := by
    rintro q rfl
    split
    · rename_i h; simp
    · rename_i h; rw [add_addr]
  cases lo with
  | none =>
    dsimp only at el
    subst el
    cases hi' with
    | none =>
      dsimp only at eh
      subst eh
      simp [execOp, ho, hx, Instr.sliceAt, run_underlying hu, Instr.slice, Instr.sliceBounds, sizeOf, typeInfo, i1, i2, Addr.add]
    | some q =>
      obtain ⟨k2, i, hq, rfl⟩ := eh
      have hqv := rel_v.1 (evO_rel hE hq)
      have hb := sliceBound_ok (P := G.P) (k := k2) (i := (h : Int)) (y := cap) .sliceAcap (by omega) w'
      simp [execOp, ho, hx, hqv, Instr.sliceAt, run_underlying hu, Instr.slice, Instr.sliceBounds, hb, sizeOf, typeInfo, i1, i2, Addr.add]
  | some p =>
    obtain ⟨k1, i, hp, rfl⟩ := el
    have hpv := rel_v.1 (evO_rel hE hp)
    cases hi' with
    | none =>
      dsimp only at eh
      subst eh
      have hb := sliceBound_ok (P := G.P) (k := k1) (i := (l : Int)) (y := h) .sliceB (by omega) w'
      simp [execOp, ho, hx, hpv, Instr.sliceAt, run_underlying hu, Instr.slice, Instr.sliceBounds, hb, sizeOf, typeInfo, i1, i2, hfin]
    | some q =>
      obtain ⟨k2, i, hq, rfl⟩ := eh
      have hqv := rel_v.1 (evO_rel hE hq)
      have hb := sliceBound_ok (P := G.P) (k := k1) (i := (l : Int)) (y := h) .sliceB (by omega) w'
      have hb2 := sliceBound_ok (P := G.P) (k := k2) (i := (h : Int)) (y := cap) .sliceAcap (by omega) w'
      simp [execOp, ho, hx, hpv, hqv, Instr.sliceAt, run_underlying hu, Instr.slice, Instr.sliceBounds, hb, hb2, sizeOf, typeInfo, i1, i2, hfin]
theorem still_len_row {c : Call} {T el sz : Nat} [t : SlT G.P T el sz] {x : Operand} {ad : Option Addr} {len cap : Nat} (ho : o.op = .call c) (hc : c.callee = .builtin .len) (ha : c.args = #[x]) (hT : c.argTypes = #[T]) (e : evO E x = some (.v (.slice ad len cap))) :
    Still G o E L M (.v (.int .i64 len)) := fun a w h1 _ _ =>
  ⟨_, rel_v.2 rfl, fun w' _ _ => by
    have hx := rel_v.1 (evO_rel h1 e)
    obtain ⟨hu, _⟩ := t.get
    simp [execOp, ho, resolve, hc, ha, hT, invoke, builtin, Builtin.len_, run_underlying hu, hx, goInt]⟩
/-- copy(s, b), s such a row. -/
theorem wl_copy {c : Call} {T T2 el : Nat} {x y : Operand} (k : Nat) {n off len cap : Nat} {T' : TypeId} {cs : List SV} {ds : List (List SV)} [t : SlT G.P T el 1]
    (hb : getBox L k = some (n, T', cs)) (hfit : off + min ds.length len ≤ cs.length)
    (kk : WL G ops rest (putE E o.dst (.v (.int .i64 (min ds.length len : Nat)))) (setBox L k (splice cs off (ds.flatten.take (min ds.length len)))) M K)
    (hg : o.guard = none := by rfl) (hd : dstOk G o = true := by rfl) (ho : o.op = .call c := by rfl) (hc : c.callee = .builtin .copy := by rfl) (ha : c.args = #[x, y] := by rfl) (hT : c.argTypes = #[T, T2] := by rfl)
    (ex : evO E x = some (.v (.slice (some ⟨n, off, none⟩) len cap)) := by rfl) (ey : evL E y = some (.sl 1 ds) := by rfl) : WL G ops (o :: rest) E L M K := fun a w s => by
  obtain ⟨hu, i, hi, hs⟩ := t.get
  have hx := rel_v.1 (evO_rel s.env ex)
  have hy := evL_rel s.env ey
  simp only [SV.rel] at hy
  obtain ⟨⟨vs, g1, g2, g3⟩, g4⟩ := s.res _ (getBox_mem hb)
  have lv := rels_length g2
  simp only [Array.length_toList] at lv
  -- the cells that come
  have key : ∃ cells : List Value, cells.length = min ds.length len ∧ SV.rels M (ds.flatten.take (min ds.length len)) cells ∧ (∀ v ∈ cells, v.oneCell' = true) ∧
      (Builtin.copy_ #[T, T2] o.type #[a.eval x, a.eval y]).run G.P w = .ok (.int .i64 (min ds.length len : Nat)) (w.setRow n (vs.toList.take off ++ cells ++ vs.toList.drop (off + cells.length)).toArray) := by
    rw [hx]
    rcases hy with ⟨⟨a1, c1, hy⟩, h0⟩ | ⟨b, off2, c2, hy, hdc, hdr⟩
    · have hdn := List.eq_nil_of_length_eq_zero h0
      subst hdn
      refine ⟨[], by simp, by simp [rels_nil], by simp, ?_⟩
      rw [hy]
      simp only [List.append_nil, List.length_nil, Nat.add_zero, List.take_append_drop, Array.toArray_toList, Nat.zero_min]
      rw [setRow_self w n vs T' (0, 0) g1]
      cases a1 <;> simp [Builtin.copy_, run_underlying hu, Builtin.lenOf, Builtin.firstCells, sizeOf, typeInfo, hi, storeCells, loadCells, loadCellsFrom, goInt]
    · obtain ⟨news, n1, n2, n3, n4⟩ := rowsAt_vals hdr
      have hl2 : (news.take (min ds.length len)).length = min ds.length len := by rw [List.length_take, n2]; omega
      have h1 : ∀ v ∈ news.take (min ds.length len), v.oneCell' = true := fun v hv => by
        obtain ⟨j, hj⟩ := List.getElem?_of_mem (List.mem_of_mem_take hv)
        exact (s.mem _ _ _ (n4 j v hj)).2
      refine ⟨news.take (min ds.length len), hl2, rels_take _ n1, h1, ?_⟩
      rw [hy]
      have := run_copy_row (P := G.P) w T T2 o.type el n off len cap ⟨b, off2, none⟩ ds.length c2 vs T' (news.take (min ds.length len)) hu (by rw [hi]; simp [hs]) g1 hl2 (fun j v e => by
        rw [add_addr]
        rw [List.getElem?_take] at e
        split at e
        · exact (s.mem _ _ _ (n4 j v e)).1
        · cases e) (by rw [hl2]; omega) h1
      rw [this, hl2]
      rfl
  obtain ⟨cells, c1, c2, c3, hrun⟩ := key
  have hop : (execOp a.eval o).run G.P w = .ok (.value (.int .i64 (min ds.length len : Nat))) (w.setRow n (vs.toList.take off ++ cells ++ vs.toList.drop (off + cells.length)).toArray) := by
    simp [execOp, ho, resolve, hc, ha, hT, invoke, builtin, hrun]
  unfold wpList
  rw [if_pos (by simp [Region.wanted, hg])]
  left
  simp only [Oper.wp, hop, Oper.upon_value]
  have lc := rels_length c2
  have s2 := s.write hb (cs' := splice cs off (ds.flatten.take (min ds.length len))) g1 (vs.toList.take off ++ cells ++ vs.toList.drop (off + cells.length)).toArray (by
    rw [List.toList_toArray]
    unfold splice
    rw [lc]
    exact rels_append (rels_append (rels_take off g2) c2) (rels_drop _ g2)) (by
    intro v hv
    rw [List.toList_toArray] at hv
    simp only [List.mem_append] at hv
    rcases hv with (hv | hv) | hv
    · exact g3 v (List.mem_of_mem_take hv)
    · exact c3 v hv
    · exact g3 v (List.mem_of_mem_drop hv))
  exact kk _ _ (s2.put (rel_v.2 rfl) hd)
/-- clear(s), the whole of such a row. -/
theorem wl_clear {c : Call} {T el by_ : Nat} {kd : TK} {z : Value} {x : Operand} (k : Nat) {n len cap : Nat} {T' : TypeId} {cs : List SV}
    (hb : getBox L k = some (n, T', cs)) (hlen : cs.length = len)
    (kk : WL G ops rest (putE E o.dst (.tup [])) (setBox L k (List.replicate len (.v z))) M K)
    (hg : o.guard = none := by rfl) (hd : dstOk G o = true := by rfl) (ho : o.op = .call c := by rfl) (hc : c.callee = .builtin .clear := by rfl) (ha : c.args = #[x] := by rfl) (hT : c.argTypes = #[T] := by rfl) (t : SlT G.P T el 1 := by infer_instance) (te : Ty G.P el kd 1 by_ z := by infer_instance)
    (ex : evO E x = some (.v (.slice (some ⟨n, 0, none⟩) len cap)) := by rfl) (hz : z.cells = #[z] := by rfl) (h1 : z.oneCell' = true := by rfl) : WL G ops (o :: rest) E L M K := fun a w s => by
  obtain ⟨hu, i, hi, hs⟩ := t.get
  have hx := rel_v.1 (evO_rel s.env ex)
  obtain ⟨⟨vs, g1, g2, g3⟩, g4⟩ := s.res _ (getBox_mem hb)
  have lv := rels_length g2
  simp only [Array.length_toList] at lv
  have hzc : ∀ m, (Builtin.zeroCells z.cells m).toList = List.replicate m z := by
    intro m
    rw [hz]
    simp [Builtin.zeroCells]
    apply List.ext_getElem
    · simp
    · intro i h1 h2
      simp [Nat.mod_one]
  have hrun : (Builtin.clear_ #[T] o.type #[a.eval x]).run G.P w = .ok (.tuple #[]) (w.setRow n (List.replicate len z).toArray) := by
    rw [hx]
    cases len with
    | zero =>
      have : vs = #[] := Array.eq_empty_of_size_eq_zero (by omega)
      subst this
      have e := setRow_self w n #[] T' (0, 0) g1
      simp [Builtin.clear_, run_underlying hu, e]
    | succ m =>
      have hst := run_storeCells_at G.P n 0 T' (List.replicate (m + 1) z) 0 vs w g1 (by simp; omega) (by intro v hv; rw [List.eq_of_mem_replicate hv]; exact h1)
      have e : (vs.toList.take (0 + 0) ++ List.replicate (m + 1) z ++ vs.toList.drop (0 + 0 + (List.replicate (m + 1) z).length)) = List.replicate (m + 1) z := by
        rw [List.drop_eq_nil_of_le (by simp; omega)]
        simp
      rw [e] at hst
      simp [Builtin.clear_, run_underlying hu, run_zero' te, hzc, hst]
  have hop : (execOp a.eval o).run G.P w = .ok (.value (.tuple #[])) (w.setRow n (List.replicate len z).toArray) := by
    simp [execOp, ho, resolve, hc, ha, hT, invoke, builtin, hrun]
  unfold wpList
  rw [if_pos (by simp [Region.wanted, hg])]
  left
  simp only [Oper.wp, hop, Oper.upon_value]
  have s2 := s.write hb (cs' := List.replicate len (.v z)) g1 (List.replicate len z).toArray (by
    have := rels_vals (M := M) (List.replicate len z)
    simpa using this) (by
    intro v hv
    simp only [List.mem_replicate] at hv
    rw [hv.2]; exact h1)
  exact kk _ _ (s2.put (by simp only [SV.rel]; exact ⟨#[], rfl, rels_nil.2 rfl⟩) hd)

/-! ### Calls that are handed something of the call's own -/
theorem St.perm {a : Act} {w : World} (s : St G E L M a w) {L' : List Res} (h : L'.Perm L) : St G E L' M a w :=
  { s with
    res := fun r hr => s.res r (h.mem_iff.1 hr)
    nodup := (h.filterMap _).nodup_iff.2 s.nodup
    own := fun n hn => s.own n ((h.filterMap _).mem_iff.1 hn) }
theorem wl_perm {l : List Oper} (L' : List Res) (h : L'.Perm L) (k : WL G ops l E L' M K) : WL G ops l E L M K := fun a w s => k a w (s.perm h)
theorem w_perm {c : Code} (L' : List Res) (h : L'.Perm L) (k : W G c E L' M Q) : W G c E L M Q := fun a w s => k a w (s.perm h)
/-- Behind a call that was handed L1. -/
theorem St.retL {a : Act} {w w' : World} {L1 Lr : List Res} (s : St G E (L1 ++ Lr) M a w) {L' : List Res} {M' : Mem} (r : Ret L1 M w L' M' w') : St G E (L' ++ Lr) M' a w' := by
  have s1 : St (G.cut L1 M w) E L' M' a w' := {
    defers := s.defers
    size := s.size
    env := s.env.mono r.le
    keep := r.keep
    le := r.le
    newc := r.newc
    mem := r.mem
    res := r.res
    nodup := r.nodup
    own := r.own }
  exact (s.join s1).1
theorem wl_callL {c : Call} {f : Nat} [hf : Fun G.P f] {ss : List SV} (L1 Lr : List Res) {Φ : SV → List Res → Mem → Prop} (h : Spec G.P f ss L1 M Φ) (k : ∀ s L' M', M.le M' → Φ s L' M' → WL G ops rest (putE E o.dst s) (L' ++ Lr) M' K)
    (hL : L = L1 ++ Lr := by rfl) (hg : o.guard = none := by rfl) (hd : dstOk G o = true := by rfl) (ho : o.op = .call c := by rfl) (hc : c.callee = .value (.func f) := by rfl) (es : evsL E c.args.toList = some ss := by rfl) : WL G ops (o :: rest) E L M K := fun a w st => by
  subst hL
  have hop : (execOp a.eval o).run G.P w = .ok (.enter f (c.args.map a.eval)) w := by
    simp [execOp, ho, resolve, hc, Act.eval, Deferred.ofValue, invoke, run_callFunc' hf]
  unfold wpList
  rw [if_pos (by simp [Region.wanted, hg])]
  left
  simp only [Oper.wp, hop, Oper.upon_enter]
  have hargs : c.args.map a.eval = (c.args.toList.map a.eval).toArray := by rw [← Array.toList_map, Array.toArray_toList]
  rw [hargs]
  have hnd := st.nodup
  rw [nums_app] at hnd
  refine (h w _ (evsL_rel st.env es) st.mem (fun r hr => st.res r (List.mem_append_left _ hr)) (List.nodup_append.1 hnd).1).mono ?_
  rintro e w' ⟨x, s, L', M', rfl, hr, hΦ, R⟩
  exact k s L' M' R.le hΦ _ _ ((st.retL R).put hr hd)

/-! ### What is lent: a box's cells, read by others for a while -/
/-- The value hangs on M only at blocks of these numbers. -/
def Only (s : SV) (N : Nat → Prop) : Prop := ∀ (M M' : Mem) (x : Value), (∀ b, N b → ∀ o, M b o = M' b o) → SV.rel M s x → SV.rel M' s x
theorem only_v {x : Value} {N : Nat → Prop} : Only (.v x) N := fun _ _ _ _ h => rel_v.2 (rel_v.1 h)
theorem only_lp {k n off : Nat} {N : Nat → Prop} : Only (.lp k n off) N := fun _ _ _ _ h => rel_lp.2 (rel_lp.1 h)
theorem only_rels {N : Nat → Prop} : ∀ {ss : List SV} {M M' : Mem} {ys : List Value}, (∀ s ∈ ss, Only s N) → (∀ b, N b → ∀ o, M b o = M' b o) → SV.rels M ss ys → SV.rels M' ss ys
  | [], _, _, _, _, _, h => rels_nil.2 (rels_nil.1 h)
  | s :: ss, M, M', ys, ho, hM, h => by
    rw [rels_cons] at h
    obtain ⟨y, zs, rfl, h1, h2⟩ := h
    exact rels_cons'.2 ⟨ho s List.mem_cons_self M M' y hM h1, only_rels (fun t ht => ho t (List.mem_cons_of_mem _ ht)) hM h2⟩
theorem only_tup {N : Nat → Prop} {ss : List SV} (h : ∀ s ∈ ss, Only s N) : Only (.tup ss) N := fun M M' x hM hr => by
  simp only [SV.rel] at hr ⊢
  obtain ⟨ys, e, hr⟩ := hr
  exact ⟨ys, e, only_rels h hM hr⟩
theorem only_agg {N : Nat → Prop} {ss : List SV} (h : ∀ s ∈ ss, Only s N) : Only (.agg ss) N := fun M M' x hM hr => by
  simp only [SV.rel] at hr ⊢
  obtain ⟨ys, e, hr, h1⟩ := hr
  exact ⟨ys, e, only_rels h hM hr, h1⟩
theorem only_ifc {N : Nat → Prop} {t : TypeId} {s : SV} (h : Only s N) : Only (.ifc t s) N := fun M M' x hM hr => by
  simp only [SV.rel] at hr ⊢
  obtain ⟨z, e, hr⟩ := hr
  exact ⟨z, e, h M M' z hM hr⟩
theorem rowsAt_only {N : Nat → Prop} {b : Nat} (hb : N b) {M M' : Mem} (hM : ∀ b, N b → ∀ o, M b o = M' b o) {sz : Nat} : ∀ {es : List (List SV)} {o : Nat}, (∀ e ∈ es, ∀ s ∈ e, Only s N) → SV.rowsAt M sz es b o → SV.rowsAt M' sz es b o
  | [], _, _, _ => by simp only [SV.rowsAt]
  | e :: es, o, ho, h => by
    simp only [SV.rowsAt] at h ⊢
    refine ⟨?_, h.2.1, rowsAt_only hb hM (fun e' h' => ho e' (List.mem_cons_of_mem _ h')) h.2.2⟩
    have cell : ∀ (ss : List SV) (o : Nat), (∀ s ∈ ss, Only s N) → SV.cellsAt M ss b o → SV.cellsAt M' ss b o := by
      intro ss
      induction ss with
      | nil => intro o _ _; simp only [SV.cellsAt]
      | cons s ss ih =>
        intro o hs h
        simp only [SV.cellsAt] at h ⊢
        obtain ⟨⟨x, hx, hr⟩, h⟩ := h
        exact ⟨⟨x, by rw [← hM b hb o]; exact hx, hs s List.mem_cons_self M M' x hM hr⟩, ih (o + 1) (fun t ht => hs t (List.mem_cons_of_mem _ ht)) h⟩
    exact cell e o (ho e List.mem_cons_self) h.1
theorem only_rw {N : Nat → Prop} {x : Value} {sz : Nat} {es : List (List SV)} (hx : ∀ b, x.ownBlock = some b → N b) (h : ∀ e ∈ es, ∀ s ∈ e, Only s N) : Only (.rw x sz es) N := fun M M' y hM hr => by
  simp only [SV.rel] at hr ⊢
  obtain ⟨rfl, hr⟩ := hr
  refine ⟨rfl, ?_⟩
  rcases hr with hr | ⟨b, o, cap, e, hc, hr⟩
  · exact .inl hr
  · refine .inr ⟨b, o, cap, e, hc, ?_⟩
    have hb : N b := hx b (by rw [e]; simp [Value.ownBlock])
    exact rowsAt_only hb hM h hr
theorem ns_only {N : Nat → Prop} {k : IntKind} {xs : List Int} : ∀ e ∈ ns k xs, ∀ s ∈ e, Only s N := by
  intro e he s hs
  simp only [ns, List.mem_map] at he
  obtain ⟨x, _, rfl⟩ := he
  simp only [List.mem_singleton] at hs
  subst hs
  exact only_v
/-- M without a block. -/
def Mem.off (M : Mem) (g : Nat) : Mem := fun b o => if b = g then none else M b o
theorem Mem.off_same {M : Mem} {g o : Nat} : M.off g g o = none := by simp [Mem.off]
theorem Mem.off_other {M : Mem} {g b o : Nat} (h : b ≠ g) : M.off g b o = M b o := by simp [Mem.off, h]
theorem Mem.off_add {M : Mem} {g : Nat} {xs : List Value} (h : ∀ o, M g o = none) : (M.add g xs).off g = M := by
  funext b o
  by_cases hb : b = g
  · subst hb; rw [Mem.off_same, h o]
  · rw [Mem.off_other hb, Mem.add_other hb]
theorem Mem.off_off_le {M N : Mem} {g : Nat} (h : M.le N) : (M.off g).le (N.off g) := fun b o v e => by
  by_cases hb : b = g
  · subst hb; rw [Mem.off_same] at e; cases e
  · rw [Mem.off_other hb] at e ⊢; exact h b o v e

/-- A box of which n cells are seen. -/
theorem St.lend {a : Act} {w : World} (s : St G E L M a w) {k n : Nat} {T' : TypeId} {cs : List SV} (hb : getBox L k = some (n, T', cs)) :
    ∃ vs : List Value, SV.rels M cs vs ∧ (∀ v ∈ vs, v.oneCell' = true) ∧ (∀ o, M n o = none) ∧ (∀ j v, vs[j]? = some v → w.cell? ⟨n, j, none⟩ = some v) ∧ (M.add n vs).Holds w ∧ M.le (M.add n vs) := by
  obtain ⟨⟨vs, g1, g2, g3⟩, g4⟩ := s.res _ (getBox_mem hb)
  have hcell : ∀ j v, vs.toList[j]? = some v → w.cell? ⟨n, j, none⟩ = some v := fun j v e => by
    rw [cell_of_row w n j vs T' (0, 0) g1]; simpa using e
  have hle : M.le (M.add n vs.toList) := Mem.le_add fun o v e => by rw [g4 o] at e; cases e
  refine ⟨vs.toList, g2, g3, g4, hcell, fun b o v e => ?_, hle⟩
  by_cases hbn : b = n
  · subst hbn
    rw [Mem.add_same] at e
    exact ⟨hcell o v e, g3 v (List.mem_of_getElem? e)⟩
  · rw [Mem.add_other hbn] at e
    exact s.mem b o v e
/-- How it reads while it is lent. -/
theorem rel_lent {M1 : Mem} {n len cap sz : Nat} {es : List (List SV)} {vs : List Value} {cs sp : List SV} (hcs : cs = es.flatten ++ sp) (hes : ∀ e ∈ es, e.length = sz) (hlen : es.length = len) (hcap : len ≤ cap) (hr : SV.rels M1 cs vs) (hM : ∀ j v, vs[j]? = some v → M1 n j = some v) :
    SV.rel M1 (.sl sz es) (.slice (some ⟨n, 0, none⟩) len cap) := by
  simp only [SV.rel]
  refine .inr ⟨n, 0, cap, by rw [hlen], by omega, ?_⟩
  have h1 := rels_take es.flatten.length hr
  rw [hcs, List.take_left] at h1
  refine rowsAt_of_vals h1 hes fun j x e => ?_
  rw [List.getElem?_take] at e
  split at e
  · rw [Nat.zero_add]; exact hM j x e
  · cases e
def lendE (E : Env) (i sz : Nat) (es : List (List SV)) : Env := (i, .sl sz es) :: E
theorem lend_env {a : Act} {M1 : Mem} {i sz n len cap : Nat} {es : List (List SV)} (h : EnvOk M1 E a.tmps) (hi : look E i = some (.v (.slice (some ⟨n, 0, none⟩) len cap))) (hr : SV.rel M1 (.sl sz es) (.slice (some ⟨n, 0, none⟩) len cap)) : EnvOk M1 (lendE E i sz es) a.tmps := by
  intro j t e
  simp only [lendE, look] at e
  cases hb : Nat.beq i j with
  | true =>
    rw [hb] at e
    have := Nat.eq_of_beq_eq_true hb
    subst this
    simp only [cond_true, Option.some.injEq] at e
    subst e
    obtain ⟨y, hy, hr2⟩ := h i _ hi
    rw [rel_v] at hr2
    subst hr2
    exact ⟨_, hy, hr⟩
  | false => rw [hb] at e; exact h j t e
/-- What only reads, of a box that is lent to it; what it yields is no memory. -/
theorem still_lend {k n len cap sz i : Nat} {T' : TypeId} {cs sp : List SV} {es : List (List SV)} {s : SV} (hb : getBox L k = some (n, T', cs)) (hi : look E i = some (.v (.slice (some ⟨n, 0, none⟩) len cap))) (hcs : cs = es.flatten ++ sp) (hes : ∀ e ∈ es, e.length = sz) (hlen : es.length = len) (hcap : len ≤ cap)
    (h : ∀ M1, M.le M1 → Still G o (lendE E i sz es) [] M1 s) (hs : Only s fun _ => False) : Still G o E L M s := fun a w hE hm hL => by
  obtain ⟨⟨vs, g1, g2, g3⟩, g4⟩ := hL _ (getBox_mem hb)
  have hcell : ∀ w' : World, w'.heap[n]? = w.heap[n]? → ∀ j v, vs.toList[j]? = some v → w'.cell? ⟨n, j, none⟩ = some v := fun w' hw j v e => by
    rw [cell_of_row w' n j vs T' (0, 0) (by rw [hw]; exact g1)]; simpa using e
  have hle : M.le (M.add n vs.toList) := Mem.le_add fun o v e => by rw [g4 o] at e; cases e
  have hold : ∀ w' : World, M.Holds w' → w'.heap[n]? = w.heap[n]? → (M.add n vs.toList).Holds w' := fun w' hm' hw b o v e => by
    by_cases hbn : b = n
    · subst hbn
      rw [Mem.add_same] at e
      exact ⟨hcell w' hw o v e, g3 v (List.mem_of_getElem? e)⟩
    · rw [Mem.add_other hbn] at e
      exact hm' b o v e
  have hr : SV.rel (M.add n vs.toList) (.sl sz es) (.slice (some ⟨n, 0, none⟩) len cap) := rel_lent hcs hes hlen hcap (g2.mono hle) (fun j v e => by rw [Mem.add_same]; exact e)
  obtain ⟨x, hx, hrun⟩ := h _ hle a w (lend_env (hE.mono hle) hi hr) (hold w hm rfl) (fun _ h => by cases h)
  exact ⟨x, hs _ _ _ (fun _ h => h.elim) hx, fun w' hm' hw' => hrun w' (hold w' hm' (hw' _ (getBox_mem hb) n rfl)) (fun _ h => by cases h)⟩
/-- A call that a box is lent to. -/
theorem wl_lend {c : Call} {f : Nat} [hf : Fun G.P f] (k i : Nat) {n len cap sz : Nat} {T' : TypeId} {cs sp : List SV} {es : List (List SV)} {ss : List SV} {Φ : SV → List Res → Mem → Prop}
    (hcs : cs = es.flatten ++ sp) (hes : ∀ e ∈ es, e.length = sz) (hlen : es.length = len) (hcap : len ≤ cap) (h : ∀ M1, M.le M1 → Spec G.P f ss [] M1 Φ)
    (hsafe : ∀ s L' M', Φ s L' M' → Only s (fun b => b ∈ nums L') ∧ ∀ r ∈ L', ∃ x T sz n, r = .tail x T sz n)
    (kk : ∀ s L' M' M'', M.le M'' → Φ s L' M' → WL G ops rest (putE E o.dst s) (L' ++ L) M'' K)
    (hb : getBox L k = some (n, T', cs) := by rfl) (hi : look E i = some (.v (.slice (some ⟨n, 0, none⟩) len cap)) := by rfl)
    (hg : o.guard = none := by rfl) (hd : dstOk G o = true := by rfl) (ho : o.op = .call c := by rfl) (hc : c.callee = .value (.func f) := by rfl) (es' : evsL (lendE E i sz es) c.args.toList = some ss := by rfl) : WL G ops (o :: rest) E L M K := fun a w st => by
  have hop : (execOp a.eval o).run G.P w = .ok (.enter f (c.args.map a.eval)) w := by
    simp [execOp, ho, resolve, hc, Act.eval, Deferred.ofValue, invoke, run_callFunc' hf]
  unfold wpList
  rw [if_pos (by simp [Region.wanted, hg])]
  left
  simp only [Oper.wp, hop, Oper.upon_enter]
  have hargs : c.args.map a.eval = (c.args.toList.map a.eval).toArray := by rw [← Array.toList_map, Array.toArray_toList]
  rw [hargs]
  obtain ⟨vs, v1, v2, v3, v4, v5, hle⟩ := st.lend hb
  have hr : SV.rel (M.add n vs) (.sl sz es) (.slice (some ⟨n, 0, none⟩) len cap) := rel_lent hcs hes hlen hcap (v1.mono hle) (fun j v e => by rw [Mem.add_same]; exact e)
  refine (h _ hle w _ (evsL_rel (lend_env (st.env.mono hle) hi hr) es') v5 (fun _ h => by cases h) List.nodup_nil).mono ?_
  rintro e w' ⟨x, s, L', M', rfl, hrx, hΦ, R⟩
  obtain ⟨hs1, hs2⟩ := hsafe s L' M' hΦ
  have hnlt : n < w.heap.size := (st.res _ (getBox_mem hb)).lt n rfl
  have hfresh : ∀ m ∈ nums L', w.heap.size ≤ m := fun m hm => by
    rcases R.own m hm with h | h
    · cases h
    · exact h
  have hle2 : M.le (M'.off n) := fun b o v e => by
    by_cases hbn : b = n
    · subst hbn; rw [v3 o] at e; cases e
    · rw [Mem.off_other hbn]; exact R.le b o v (hle b o v e)
  have hagree : ∀ b, b ∈ nums L' → ∀ o, M' b o = (M'.off n) b o := fun b hbm o => by
    have := hfresh b hbm
    rw [Mem.off_other (by omega)]
  have hrx2 : SV.rel (M'.off n) s x := hs1 M' (M'.off n) x hagree hrx
  have hkeepb : ∀ b, b < w.heap.size → w'.heap[b]? = w.heap[b]? := fun b hbl => R.keep.block b hbl (by simp [nums])
  have s2 : St G E (L' ++ L) (M'.off n) a w' := {
    defers := st.defers
    size := st.size
    env := st.env.mono hle2
    keep := st.keep.trans ⟨R.keep.os, R.keep.tape, R.keep.output, R.keep.size, fun b hb _ => hkeepb b hb⟩
    le := st.le.trans hle2
    newc := by
      intro b o v e
      by_cases hbn : b = n
      · subst hbn; rw [Mem.off_same] at e; cases e
      · rw [Mem.off_other hbn] at e
        rcases R.newc b o v e with h | h | h
        · rw [Mem.add_other hbn] at h; exact st.newc b o v h
        · cases h
        · exact .inr (.inr (Nat.le_trans st.keep.size h))
    mem := by
      intro b o v e
      by_cases hbn : b = n
      · subst hbn; rw [Mem.off_same] at e; cases e
      · rw [Mem.off_other hbn] at e
        exact R.mem b o v e
    res := by
      intro r hr'
      rcases List.mem_append.1 hr' with hr' | hr'
      · obtain ⟨x0, T0, sz0, n0, rfl⟩ := hs2 r hr'
        have h0 := R.res _ hr'
        rcases h0 with h0 | ⟨g, cap0, cur, rfl, h1, h2, h3, h4, h5, h6⟩
        · exact .inl h0
        · have hg : g ∈ nums L' := mem_nums hr' rfl
          exact .inr ⟨g, cap0, cur, rfl, h1, h2, h3, h4, h5, fun o v e => h6 o v (by rw [hagree g hg o]; exact e)⟩
      · have ho := st.res r hr'
        refine ho.keep hle2 (fun m hm => hkeepb m (ho.lt m hm)) (fun m hm o v e => ?_)
        by_cases hbn : m = n
        · subst hbn; rw [Mem.off_same] at e; cases e
        · rw [Mem.off_other hbn] at e
          rcases R.newc m o v e with h | h | h
          · rw [Mem.add_other hbn] at h; exact h
          · cases h
          · exact absurd (ho.lt m hm) (by omega)
    nodup := by
      rw [nums_append, List.nodup_append]
      refine ⟨R.nodup, st.nodup, fun x hx y hy he => ?_⟩
      subst he
      obtain ⟨q, hq, hn⟩ := List.mem_filterMap.1 hy
      have := hfresh x hx
      exact absurd ((st.res q hq).lt x hn) (by omega)
    own := by
      intro m hm
      rw [nums_append, List.mem_append] at hm
      rcases hm with hm | hm
      · exact .inr (Nat.le_trans st.keep.size (hfresh m hm))
      · exact st.own m hm }
  exact kk s L' M' (M'.off n) hle2 hΦ _ _ (s2.put hrx2 hd)
end
end Go.Eng

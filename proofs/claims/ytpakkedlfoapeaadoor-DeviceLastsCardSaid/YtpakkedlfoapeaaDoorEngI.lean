/- append. -/
import Derived.Test.YtpakkedlfoapeaaDoorEngH
namespace Go.Eng
open Go

section
variable {G : Ctx} {E : Env} {L : List Res} {M : Mem} {o : Oper} {ops : Array Oper} {rest : List Oper} {K : KPost}

theorem mem_eraseIdx {L : List Res} {idx : Nat} {r : Res} (h : r ∈ L.eraseIdx idx) : r ∈ L := List.mem_of_mem_eraseIdx h
theorem nums_eraseIdx : ∀ {L : List Res} {idx : Nat} {r : Res} {g : Nat}, L[idx]? = some r → r.num = some g → (nums L).Nodup → g ∉ nums (L.eraseIdx idx)
  | [], idx, _, _, h, _, _ => by simp at h
  | x :: L, 0, r, g, h, hn, hd => by
    simp at h
    subst h
    simp only [nums, List.filterMap_cons, hn, List.nodup_cons] at hd
    exact hd.1
  | x :: L, idx + 1, r, g, h, hn, hd => by
    simp only [List.getElem?_cons_succ] at h
    have hg : g ∈ nums L := mem_nums (List.mem_of_getElem? h) hn
    have hd' : (nums L).Nodup := by
      simp only [nums, List.filterMap_cons] at hd
      split at hd
      · exact hd
      · exact (List.nodup_cons.1 hd).2
    have := nums_eraseIdx h hn hd'
    simp only [List.eraseIdx_cons_succ, nums, List.filterMap_cons]
    cases hx : x.num with
    | none => exact this
    | some y =>
      simp only [List.mem_cons, not_or]
      refine ⟨fun e => ?_, this⟩
      subst e
      simp only [nums, List.filterMap_cons, hx, List.nodup_cons] at hd
      exact hd.1 hg
theorem St.dropRes {a : Act} {w : World} (s : St G E L M a w) {L' : List Res} (h : L'.Sublist L) : St G E L' M a w :=
  { s with
    res := fun r hr => s.res r (h.subset hr)
    nodup := s.nodup.sublist (h.filterMap _)
    own := fun n hn => s.own n ((h.filterMap _).subset hn) }

theorem append_types {P : Program} {T T2 e e2 : TypeId} (h1 : P.underlying T = some (.slice e)) (h2 : P.underlying T2 = some (.slice e2)) (ty : TypeId) (x y : Value) (w : World) :
    (Builtin.append_ #[T, T2] ty #[x, y]).run P w = (Builtin.append_ #[T, T] ty #[x, y]).run P w := by
  cases x <;> simp [Builtin.append_, run_underlying h1, run_underlying h2]
theorem run_append_none {P : Program} {T e : TypeId} {i : TypeInfo} (h1 : P.underlying T = some (.slice e)) (hi : P.info? e = some i) (ty : TypeId) (b a0 : Option Addr) (n cap c0 : Nat) (hn : n ≤ cap) (w : World) :
    (Builtin.append_ #[T, T] ty #[.slice b n cap, .slice a0 0 c0]).run P w = .ok (.slice b n cap) w := by
  cases b <;> cases a0 <;> simp [Builtin.append_, run_underlying h1, sizeOf, typeInfo, hi, Builtin.lenOf, hn, Builtin.firstCells, storeCells, loadCells, loadCellsFrom]

theorem setRow_os (w : World) (g : Nat) (cs : Array Value) : (w.setRow g cs).os = w.os ∧ (w.setRow g cs).tape = w.tape ∧ (w.setRow g cs).output = w.output ∧ (w.setRow g cs).heap.size = w.heap.size := ⟨rfl, rfl, rfl, by simp [World.setRow]⟩

theorem one_zeroCells {z : Array Value} (h : z.toList.all Value.oneCell' = true) (n : Nat) : ∀ v ∈ (Builtin.zeroCells z n).toList, v.oneCell' = true := by
  intro v hv
  unfold Builtin.zeroCells at hv
  simp only [Array.toList_map, List.mem_map, Array.toList_range, List.mem_range] at hv
  obtain ⟨j, hj, rfl⟩ := hv
  have hpos : 0 < z.size := by
    rcases Nat.eq_zero_or_pos z.size with h0 | h0
    · rw [h0] at hj; simp at hj
    · exact h0
  have hlt : j % z.size < z.size := Nat.mod_lt _ hpos
  rw [getElem!_pos z _ hlt]
  exact List.all_eq_true.1 h _ (by simp)
/-- In place: the cells behind those that lie open are written, and lie open. -/
theorem St.growRow {a : Act} {w : World} (s : St G E L M a w) {idx : Nat} {T : TypeId} {sz n g cap : Nat} {cur : Array Value} (hL : L[idx]? = some (.tail (.slice (some ⟨g, 0, none⟩) n cap) T sz n)) (hg : w.heap[g]? = some (.cells cur T (0, 0))) (hcap : cap ≤ maxLen) (hcs : cur.size = cap * sz)
    (hM : ∀ o v, M g o = some v → o < n * sz) (news : List Value) (m : Nat) (hnews : news.length = m * sz) (hroom : n + m ≤ cap) (h1 : ∀ v ∈ news, v.oneCell' = true) (h0 : ∀ v ∈ cur.toList, v.oneCell' = true) :
    St G E (.tail (.slice (some ⟨g, 0, none⟩) (n + m) cap) T sz (n + m) :: L.eraseIdx idx) (M.add g (cur.toList.take (n * sz) ++ news)) a (w.setRow g (cur.toList.take (n * sz) ++ news ++ cur.toList.drop (n * sz + news.length)).toArray) ∧ M.le (M.add g (cur.toList.take (n * sz) ++ news)) := by
  have hfit : n * sz + news.length ≤ cur.size := by rw [hnews, hcs, ← Nat.add_mul]; exact Nat.mul_le_mul_right _ hroom
  have hMem : ∀ o v, M g o = some v → (cur.toList.take (n * sz) ++ news)[o]? = some v := fun o v e => by
    have h2 := hM o v e
    have h3 := (s.mem g o v e).1
    rw [cell_of_row w g o cur T (0, 0) hg] at h3
    rw [List.getElem?_append_left (by simp; omega), List.getElem?_take, if_pos h2]
    simpa using h3
  have hle := Mem.le_add hMem
  have hrow := setRow_heap w g cur (cur.toList.take (n * sz) ++ news ++ cur.toList.drop (n * sz + news.length)).toArray T (0, 0) hg
  have hgn : g ∈ nums L := mem_nums (List.mem_of_getElem? hL) rfl
  have hnot := nums_eraseIdx hL rfl s.nodup
  refine ⟨{
    defers := s.defers
    size := s.size
    env := s.env.mono hle
    keep := ⟨s.keep.os, s.keep.tape, s.keep.output, by have := s.keep.size; simpa [World.setRow] using this, fun b hb hk => (setRow_other w g b _ fun he => by
      subst he
      rcases s.own b hgn with h | h
      · exact hk h
      · omega).trans (s.keep.block b hb hk)⟩
    le := s.le.trans hle
    newc := by
      intro b o v e
      by_cases hb : b = g
      · subst hb; exact .inr (s.own b hgn)
      · rw [Mem.add_other hb] at e; exact s.newc b o v e
    mem := by
      intro b o v e
      by_cases hb : b = g
      · subst hb
        rw [Mem.add_same] at e
        refine ⟨?_, ?_⟩
        · rw [cell_of_row _ b o _ T (0, 0) hrow]
          have hlt := (List.getElem?_eq_some_iff.1 e).1
          rw [List.getElem?_toArray, List.getElem?_append_left hlt]
          exact e
        · have := List.mem_of_getElem? e
          rcases List.mem_append.1 this with h | h
          · exact h0 v (List.mem_of_mem_take h)
          · exact h1 v h
      · rw [Mem.add_other hb] at e
        have := s.mem b o v e
        exact ⟨by rw [World.cell?_of_block (w := w) (setRow_other w g b _ hb)]; exact this.1, this.2⟩
    res := by
      intro r hr
      cases hr with
      | head =>
        refine .inr ⟨g, cap, _, rfl, hrow, hroom, hcap, ?_, fun v hv => ?_, fun o v e => ?_⟩
        · simp only [List.size_toArray, List.length_append, List.length_take, List.length_drop, Array.length_toList]; omega
        · simp only [List.mem_append] at hv
          rcases hv with (hv | hv) | hv
          · exact h0 v (List.mem_of_mem_take hv)
          · exact h1 v hv
          · exact h0 v (List.mem_of_mem_drop hv)
        · rw [Mem.add_same] at e
          have := (List.getElem?_eq_some_iff.1 e).1
          simp only [List.length_append, List.length_take, Array.length_toList] at this
          rw [Nat.add_mul, ← hnews]; omega
      | tail _ hr =>
        have hne : ∀ m, r.num = some m → m ≠ g := fun m hm he => by subst he; exact hnot (mem_nums hr hm)
        refine (s.res r (mem_eraseIdx hr)).keep hle (fun m hm => setRow_other w g m _ (hne m hm)) (fun m hm o v e => ?_)
        rwa [Mem.add_other (hne m hm)] at e
    nodup := by
      simp only [nums, List.filterMap_cons, Res.num, Value.ownBlock, List.nodup_cons]
      exact ⟨hnot, s.nodup.sublist ((List.eraseIdx_sublist _ _).filterMap _)⟩
    own := by
      intro m hm
      simp only [nums, List.filterMap_cons, Res.num, Value.ownBlock, List.mem_cons] at hm
      rcases hm with rfl | hm
      · exact s.own _ hgn
      · exact s.own m (((List.eraseIdx_sublist _ _).filterMap _).subset hm) }, hle⟩

theorem St.drew {a : Act} {w : World} (s : St G E L M a w) (d : Nat) : St G E L M a { w with drawn := d } :=
  { defers := s.defers, size := s.size, env := s.env, keep := ⟨s.keep.os, s.keep.tape, s.keep.output, s.keep.size, s.keep.block⟩, le := s.le, newc := s.newc, mem := s.mem, res := fun r hr => (s.res r hr).keep (Mem.le.refl M) (fun _ _ => rfl) (fun _ _ _ _ e => e), nodup := s.nodup, own := s.own }

/-- A slice that is appended to. -/
theorem wl_append {c : Call} {T T2 el e2 sz s2 by_ dst idx n : Nat} {k : TK} {z v : Value} [st : SlT G.P T el sz] [st2 : SlT G.P T2 e2 s2] [t : Ty G.P el k sz by_ z] {x y : Operand} {es ds : List (List SV)} {T' : TypeId} (hg : o.guard = none) (hds : o.dst = some dst) (hd : dstOk G o = true)
    (ho : o.op = .call c) (hc : c.callee = .builtin .append) (ha : c.args = #[x, y]) (hT : c.argTypes = #[T, T2]) (ex : evO E x = some (.rw v sz es)) (ey : evL E y = some (.sl sz ds)) (hL : L[idx]? = some (.tail v T' sz n)) (hT' : T' = el)
    (hzs : z.cells.size = sz) (hz1 : z.cells.toList.all Value.oneCell' = true) (hn : es.length = n) (hbytes : (n + ds.length) * by_ ≤ 140737488355328) (hmax : n + ds.length ≤ 9223372036854775807)
    (kk : ∀ v' M', M.le M' → WL G ops rest ((dst, .rw v' sz (es ++ ds)) :: E) (.tail v' el sz (n + ds.length) :: L.eraseIdx idx) M' K) : WL G ops (o :: rest) E L M K := fun a w s => by
  subst hT'
  obtain ⟨hu, i, hi, hs⟩ := st.get
  obtain ⟨hu2, _⟩ := st2.get
  obtain ⟨i', hi', hs', hb', hz'⟩ := t.info
  rw [hi] at hi'
  cases hi'
  have hx := evO_rel s.env ex
  have hy := evL_rel s.env ey
  simp only [SV.rel] at hx hy
  obtain ⟨hxv, hx⟩ := hx
  have htail := s.res _ (List.mem_of_getElem? hL)
  -- what the operation is
  have hop : ∀ r w', (Builtin.append_ #[T, T] o.type #[a.eval x, a.eval y]).run G.P w = .ok r w' → (execOp a.eval o).run G.P w = .ok (.value r) w' := by
    intro r w' h
    rw [← append_types hu hu2] at h
    simp [execOp, ho, resolve, hc, ha, hT, invoke, builtin, h]
  -- the end, wherever it came to
  have fin : ∀ v' w' M', (execOp a.eval o).run G.P w = .ok (.value v') w' → M.le M' → SV.rel M' (.rw v' sz (es ++ ds)) v' → St G E (.tail v' T' sz (n + ds.length) :: L.eraseIdx idx) M' a w' → wpList G.P ops (kpost G K) (o :: rest) a w := by
    intro v' w' M' h1 h2 h3 h4
    unfold wpList
    rw [if_pos (by simp [Region.wanted, hg])]
    left
    simp only [Oper.wp, h1, Oper.upon_value]
    have h5 := h4.put (o := o) h3 hd
    exact kk v' M' h2 _ _ (by simpa only [putE, hds] using h5)
  rcases hy with ⟨⟨a0, c0, hy⟩, hd0⟩ | ⟨b, off, c2, hy, hdc, hdr⟩
  · -- nothing is appended
    have hdn : ds = [] := List.eq_nil_of_length_eq_zero hd0
    subst hdn
    simp only [List.length_nil, Nat.add_zero, List.append_nil] at *
    have hst : St G E (.tail v T' sz n :: L.eraseIdx idx) M a w := { s with
      res := by
        intro r hr
        cases hr with
        | head => exact htail
        | tail _ hr => exact s.res r (mem_eraseIdx hr)
      nodup := by
        have h1 : (nums (L.eraseIdx idx)).Nodup := s.nodup.sublist ((List.eraseIdx_sublist _ _).filterMap _)
        simp only [nums, List.filterMap_cons]
        cases hnum : (Res.tail v T' sz n).num with
        | none => exact h1
        | some g => exact List.nodup_cons.2 ⟨nums_eraseIdx hL hnum s.nodup, h1⟩
      own := by
        intro m hm
        simp only [nums, List.filterMap_cons] at hm
        cases hnum : (Res.tail v T' sz n).num with
        | none => rw [hnum] at hm; exact s.own m (((List.eraseIdx_sublist _ _).filterMap _).subset hm)
        | some g =>
          rw [hnum] at hm
          rcases List.mem_cons.1 hm with rfl | hm
          · exact s.own _ (mem_nums (List.mem_of_getElem? hL) hnum)
          · exact s.own m (((List.eraseIdx_sublist _ _).filterMap _).subset hm) }
    refine fin v w M (hop _ _ ?_) (Mem.le.refl M) ?_ hst
    · rw [hxv, hy]
      rcases htail with ⟨rfl, rfl⟩ | ⟨g, cap, cur, rfl, _, hnc, _⟩
      · exact run_append_none hu hi o.type none a0 0 0 c0 (Nat.le_refl _) w
      · exact run_append_none hu hi o.type _ a0 n cap c0 hnc w
    · have := evO_rel s.env ex
      rwa [hxv] at this
  · obtain ⟨news, n1, n2, n3, n4⟩ := rowsAt_vals hdr
    have hn1 : ∀ v ∈ news, v.oneCell' = true := fun v hv => by
      obtain ⟨j, hj⟩ := List.getElem?_of_mem hv
      exact (s.mem _ _ _ (n4 j v hj)).2
    have hcells : ∀ j u, news[j]? = some u → w.cell? ((⟨b, off, none⟩ : Addr).add j) = some u := fun j u e => by
      rw [add_addr]; exact (s.mem _ _ _ (n4 j u e)).1
    rcases htail with ⟨rfl, rfl⟩ | ⟨g, cap, cur, rfl, hgc, hnc, hcm, hcs, hco, hM⟩
    · -- onto nil
      have hes : es = [] := List.eq_nil_of_length_eq_zero hn
      subst hes
      simp only [List.nil_append, Nat.zero_add, List.length_nil] at *
      by_cases hd0 : ds.length = 0
      · have hdn : ds = [] := List.eq_nil_of_length_eq_zero hd0
        subst hdn
        have hnn : news = [] := List.eq_nil_of_length_eq_zero (by simpa using n2)
        refine fin (.slice none 0 0) w M (hop _ _ ?_) (Mem.le.refl M) ?_ ?_
        · rw [hxv, hy]
          simp [Builtin.append_, run_underlying hu, sizeOf, typeInfo, hi, Builtin.lenOf, Builtin.firstCells, loadCells, loadCellsFrom]
        · simp [SV.rel]
        · refine { s with
            res := ?_
            nodup := ?_
            own := ?_ }
          · intro r hr
            cases hr with
            | head => exact .inl ⟨rfl, rfl⟩
            | tail _ hr => exact s.res r (mem_eraseIdx hr)
          · simp only [nums, List.filterMap_cons, Res.num, Value.ownBlock]
            exact s.nodup.sublist ((List.eraseIdx_sublist _ _).filterMap _)
          · intro m hm
            simp only [nums, List.filterMap_cons, Res.num, Value.ownBlock] at hm
            exact s.own m (((List.eraseIdx_sublist _ _).filterMap _).subset hm)
      · have hr := run_append_nil (P := G.P) w T o.type T' i z hu hi hz' ⟨b, off, none⟩ ds.length c2 news (by rw [n2, hs']) hcells (by omega) (by omega) (by rw [hb']; omega)
        obtain ⟨s1, hle⟩ := (s.dropRes (List.eraseIdx_sublist L idx)).newRow T' sz ds.length (grownCap w ds.length 0 T') (news.toArray ++ Builtin.zeroCells z.cells (grownCap w ds.length 0 T' - ds.length)) news (w.drawn + 1) (by
          rw [Array.toList_append, ← n2]; exact List.take_left.symm) (by
          have := grownCap_ge w ds.length 0 T'
          simp only [Array.size_append, List.size_toArray, size_zeroCells, hzs, n2, ← Nat.add_mul]
          congr 1; omega) (grownCap_ge _ _ _ _) (grownCap_le_maxLen _ _ _ _ (by unfold maxLen; omega)) (fun v hv => by
          rw [Array.toList_append] at hv
          rcases List.mem_append.1 hv with h | h
          · exact hn1 v h
          · exact one_zeroCells hz1 _ v h)
        refine fin _ _ _ (hop _ _ (by rw [hxv, hy]; exact hr)) hle ?_ s1
        exact rel_rw_of rfl (grownCap_ge _ _ _ _) (rowsAt_of_vals (n1.mono hle) n3 fun j u e => by rw [Nat.zero_add, Mem.add_same]; exact e)
    · have hx : ∃ b o c, a.eval x = .slice (some ⟨b, o, none⟩) es.length c ∧ es.length ≤ c ∧ SV.rowsAt M sz es b o := by
        rcases hx with ⟨_, h0⟩ | hx
        · have he := List.eq_nil_of_length_eq_zero h0
          subst he
          simp only [List.length_nil] at hn
          subst hn
          exact ⟨g, 0, cap, hxv, Nat.zero_le _, by simp only [SV.rowsAt]⟩
        · exact hx
      obtain ⟨b', off', cap', hx, _, her⟩ := hx
      · rw [hxv] at hx
        simp only [Value.slice.injEq, Option.some.injEq, Addr.mk.injEq] at hx
        obtain ⟨⟨rfl, rfl, _⟩, _, rfl⟩ := hx
        obtain ⟨olds, o1, o2, o3, o4⟩ := rowsAt_vals her
        have hold : cur.toList.take (n * sz) = olds := by
          apply List.ext_getElem?
          intro j
          rw [List.getElem?_take]
          by_cases hj : j < n * sz
          · rw [if_pos hj]
            have hj2 : j < olds.length := by rw [o2, hn]; exact hj
            have e1 : olds[j]? = some olds[j] := List.getElem?_eq_getElem hj2
            have e2 := (s.mem _ _ _ (o4 j _ e1)).1
            rw [cell_of_row w g _ cur T' (0, 0) hgc, Nat.zero_add] at e2
            rw [e1, ← e2]
            simp
          · rw [if_neg hj]
            exact (List.getElem?_eq_none (by rw [o2, hn]; omega)).symm
        have hold1 : ∀ v ∈ olds, v.oneCell' = true := fun v hv => by
          obtain ⟨j, hj⟩ := List.getElem?_of_mem hv
          exact (s.mem _ _ _ (o4 j v hj)).2
        have hall : ∀ e ∈ es ++ ds, e.length = sz := fun e he => by
          rcases List.mem_append.1 he with h | h
          · exact o3 e h
          · exact n3 e h
        by_cases hroom : n + ds.length ≤ cap
        · have hfit : n * i.size + news.length ≤ cur.size := by rw [hs', n2, hcs, ← Nat.add_mul]; exact Nat.mul_le_mul_right _ hroom
          have hr := run_append_room (P := G.P) w T o.type T' i hu hi g n cap cur hgc ⟨b, off, none⟩ ds.length c2 news (by rw [n2, hs']) hcells hn1 hroom hfit
          rw [hs'] at hr
          obtain ⟨s1, hle⟩ := s.growRow hL hgc hcm hcs hM news ds.length n2 hroom hn1 hco
          refine fin _ _ _ (hop _ _ (by rw [hxv, hy]; exact hr)) hle ?_ s1
          refine rel_rw_of (by simp [hn]) hroom (rowsAt_of_vals (xs := olds ++ news) (by rw [List.flatten_append]; exact (rels_append o1 n1).mono hle) hall fun j u e => ?_)
          rw [Nat.zero_add, Mem.add_same, hold]; exact e
        · have hr := run_append_grow (P := G.P) w T o.type T' i z hu hi hz' ⟨g, 0, none⟩ n cap olds (by rw [o2, hs', hn]) (fun j u e => by rw [add_addr]; exact (s.mem _ _ _ (o4 j u e)).1) ⟨b, off, none⟩ ds.length c2 news (by rw [n2, hs']) hcells (by omega) (by omega) (growslice_fits (by omega) (by rw [hb']; exact hbytes))
          have hge := grownCap_ge w (n + ds.length) cap T'
          have hon : (olds ++ news).length = (n + ds.length) * sz := by rw [List.length_append, o2, n2, hn, Nat.add_mul]
          obtain ⟨s1, hle⟩ := (s.dropRes (List.eraseIdx_sublist L idx)).newRow T' sz (n + ds.length) (grownCap w (n + ds.length) cap T') (olds.toArray ++ news.toArray ++ Builtin.zeroCells z.cells (grownCap w (n + ds.length) cap T' - (n + ds.length))) (olds ++ news) (w.drawn + 1) (by
            simp only [Array.toList_append, List.append_assoc]
            rw [← List.append_assoc, ← hon]; exact List.take_left.symm) (by
            simp only [Array.size_append, List.size_toArray, size_zeroCells, hzs, o2, n2, hn, ← Nat.add_mul]
            congr 1; omega) hge (grownCap_le_maxLen _ _ _ _ (by unfold maxLen; omega)) (fun v hv => by
            simp only [Array.toList_append, List.mem_append] at hv
            rcases hv with (h | h) | h
            · exact hold1 v h
            · exact hn1 v h
            · exact one_zeroCells hz1 _ v h)
          refine fin _ _ _ (hop _ _ (by rw [hxv, hy]; exact hr)) hle ?_ s1
          refine rel_rw_of (by simp [hn]) hge (rowsAt_of_vals (xs := olds ++ news) (by rw [List.flatten_append]; exact (rels_append o1 n1).mono hle) hall fun j u e => ?_)
          rw [Nat.zero_add, Mem.add_same]; exact e
end
end Go.Eng

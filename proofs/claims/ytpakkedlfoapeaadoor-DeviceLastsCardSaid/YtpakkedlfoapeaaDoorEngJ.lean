/- Guards, slicing, strings, comparisons with nil. -/
import Derived.Test.YtpakkedlfoapeaaDoorEngI
import Derived.Laws.BytesString
import Derived.Lib.ConvBytes
namespace Go.Eng
open Go

section
variable {G : Ctx} {E : Env} {L : List Res} {M : Mem} {o : Oper} {ops : Array Oper} {rest : List Oper} {K : KPost}

def Oper.bare (o : Oper) : Oper := { o with guard := none }
/-- A guard that says yes may be forgotten. -/
theorem wl_gyes {j : Nat} {want : Bool} {g : Nat} (k : WL G ops (Oper.bare o :: rest) E L M K) (hg : o.guard = some (j, want) := by rfl) (hj : (ops[j]?).bind (·.dst) = some g := by rfl) (e : look E g = some (.v (.bool want)) := by rfl) : WL G ops (o :: rest) E L M K := fun a w st => by
  obtain ⟨y, hy, hr2⟩ := st.env g _ e
  rw [rel_v] at hr2
  subst hr2
  have := k a w st
  unfold wpList at this ⊢
  rw [if_pos (by simp [Region.wanted, Oper.bare])] at this
  rw [if_pos (by simp only [Region.wanted, hg, yielded, hj, Option.bind_some, hy]; simp)]
  exact this
theorem wl_gno {j : Nat} {want b : Bool} {g : Nat} (k : WL G ops rest (putE E o.dst (.v undef)) L M K) (hg : o.guard = some (j, want) := by rfl) (hd : dstOk G o = true := by rfl) (hj : (ops[j]?).bind (·.dst) = some g := by rfl) (e : look E g = some (.v (.bool b)) := by rfl) (hb : (b == want) = false := by rfl) :
    WL G ops (o :: rest) E L M K := wl_guard_no hg hd hj e hb k
/-- Split by a guard that isn't decided. -/
theorem wl_gsplit {j : Nat} {want b : Bool} {g : Nat} (hg : o.guard = some (j, want)) (hj : (ops[j]?).bind (·.dst) = some g) (e : look E g = some (.v (.bool b)))
    (ht : b = true → WL G ops (o :: rest) ((g, .v (.bool true)) :: E) L M K) (hf : b = false → WL G ops (o :: rest) ((g, .v (.bool false)) :: E) L M K) : WL G ops (o :: rest) E L M K := wl_split e ht hf

/-! ### Slicing -/
theorem sliceBound_ok {P : Program} {k : IntKind} {i : Int} {y : Nat} (code : BoundsCode) (h : 0 ≤ i ∧ i ≤ y) (w : World) : (Instr.sliceBound (.int k i) y code).run P w = .ok i.toNat w := by
  simp [Instr.sliceBound, asIntOf, h]
/-- s[lo:] -/
theorem still_slice_lo {T el sz : Nat} [t : SlT G.P T el sz] {x lo : Operand} {es : List (List SV)} {k : IntKind} {i : Int} (ho : o.op = .slice T x (some lo) none none) (e : evL E x = some (.sl sz es)) (ei : evO E lo = some (.v (.int k i))) (hi : 0 ≤ i ∧ i ≤ (es.length : Int)) :
    Still G o E L M (.sl sz (es.drop i.toNat)) := fun a w h _ _ => by
  have hx := evL_rel h e
  have hix := rel_v.1 (evO_rel h ei)
  obtain ⟨hu, inf, h1, h2⟩ := t.get
  simp only [SV.rel] at hx
  rcases hx with ⟨⟨a0, c0, hx⟩, h0⟩ | ⟨b, off, cap, hx, hc, hr⟩
  · have hi0 : i = 0 := by omega
    subst hi0
    refine ⟨.slice (if c0 = 0 then a0 else a0.map (·.add 0)) 0 c0, ?_, fun w' _ _ => ?_⟩
    · simp only [SV.rel]; exact .inl ⟨⟨_, _, rfl⟩, by simp [h0]⟩
    · simp [execOp, ho, hx, hix, Instr.sliceAt, run_underlying hu, Instr.slice, Instr.sliceBounds, sliceBound_ok, sizeOf, typeInfo, h1]
  · refine ⟨.slice (some (if cap = i.toNat then ⟨b, off, none⟩ else ⟨b, off + i.toNat * sz, none⟩)) (es.length - i.toNat) (cap - i.toNat), ?_, fun w' _ _ => ?_⟩
    · simp only [SV.rel]
      refine .inr ?_
      by_cases hcap : cap = i.toNat
      · rw [if_pos hcap]
        have : es.drop i.toNat = [] := List.drop_eq_nil_of_le (by omega)
        rw [this]
        exact ⟨b, off, cap - i.toNat, by simp; omega, by simp, by simp only [SV.rowsAt]⟩
      · rw [if_neg hcap]
        exact ⟨b, _, cap - i.toNat, by simp, by simp; omega, rowsAt_drop i.toNat hr⟩
    · have hb := sliceBound_ok (P := G.P) (k := k) (i := i) (y := es.length) .sliceB (by omega) w'
      by_cases hcap : cap = i.toNat
      · simp [execOp, ho, hx, hix, Instr.sliceAt, run_underlying hu, Instr.slice, Instr.sliceBounds, hb, sizeOf, typeInfo, h1, h2, hcap]
      · simp [execOp, ho, hx, hix, Instr.sliceAt, run_underlying hu, Instr.slice, Instr.sliceBounds, hb, sizeOf, typeInfo, h1, h2, hcap, add_addr]
/-- s[:hi], hi at most the length -/
theorem still_slice_hi {T el sz : Nat} [t : SlT G.P T el sz] {x hi' : Operand} {es : List (List SV)} {k : IntKind} {i : Int} (ho : o.op = .slice T x none (some hi') none) (e : evL E x = some (.sl sz es)) (ei : evO E hi' = some (.v (.int k i))) (hi : 0 ≤ i ∧ i ≤ (es.length : Int)) :
    Still G o E L M (.sl sz (es.take i.toNat)) := fun a w h _ _ => by
  have hx := evL_rel h e
  have hix := rel_v.1 (evO_rel h ei)
  obtain ⟨hu, inf, h1, h2⟩ := t.get
  simp only [SV.rel] at hx
  rcases hx with ⟨⟨a0, c0, hx⟩, h0⟩ | ⟨b, off, cap, hx, hc, hr⟩
  · have hi0 : i = 0 := by omega
    subst hi0
    refine ⟨.slice (if c0 = 0 then a0 else a0.map (·.add 0)) 0 c0, ?_, fun w' _ _ => ?_⟩
    · simp only [SV.rel]; exact .inl ⟨⟨_, _, rfl⟩, by simp⟩
    · simp [execOp, ho, hx, hix, Instr.sliceAt, run_underlying hu, Instr.slice, Instr.sliceBounds, sliceBound_ok, sizeOf, typeInfo, h1]
  · refine ⟨.slice (some ⟨b, off, none⟩) i.toNat cap, ?_, fun w' _ _ => ?_⟩
    · simp only [SV.rel]
      refine .inr ⟨b, off, cap, by simp; omega, by simp; omega, rowsAt_take _ hr⟩
    · have hb := sliceBound_ok (P := G.P) (k := k) (i := i) (y := cap) .sliceAcap (by omega) w'
      have hb0 : ∀ c : Prop, [Decidable c] → (if c then (some ⟨b, off, none⟩ : Option Addr) else some ⟨b, off, none⟩) = some ⟨b, off, none⟩ := by intro c _; split <;> rfl
      simp [execOp, ho, hx, hix, Instr.sliceAt, run_underlying hu, Instr.slice, Instr.sliceBounds, hb, sizeOf, typeInfo, h1, h2, Addr.add, hb0]

/-! ### Strings and bytes -/
def ofBytes (xs : List Int) : ByteArray := ⟨(xs.map fun x => UInt8.ofNat x.toNat).toArray⟩
theorem rels_bytes {M : Mem} : ∀ {xs : List Int} {ys : List Value}, SV.rels M (xs.map fun x => SV.v (.int .u8 x)) ys → ys = xs.map fun x => Value.int .u8 x
  | [], ys, h => rels_nil.1 h
  | x :: xs, ys, h => by
    rw [List.map_cons, rels_cons] at h
    obtain ⟨y, zs, rfl, h1, h2⟩ := h
    rw [rel_v.1 h1, rels_bytes h2]
    rfl
theorem bs_flatten (xs : List Int) : (bs xs).flatten = xs.map fun x => SV.v (.int .u8 x) := by
  unfold bs ns
  induction xs with
  | nil => rfl
  | cons x xs ih => simp [ih]
theorem push_all : ∀ (xs : List Int) (s : ByteArray), xs.foldl (fun s x => s.push (UInt8.ofNat x.toNat)) s = ⟨s.data ++ (xs.map fun x => UInt8.ofNat x.toNat).toArray⟩
  | [], s => by simp
  | x :: xs, s => by
    rw [List.foldl_cons, push_all xs]
    congr 1
    apply Array.toList_inj.1
    simp
theorem still_bytes_string {S D el : TypeId} {s2 b2 : Nat} {z2 : Value} {x : Operand} {xs : List Int} [t : SlT G.P S el 1] [te : Ty G.P el (.int .u8) 1 1 (.int .u8 0)] [t2 : Ty G.P D .string s2 b2 z2] (ho : o.op = .convert S D x) (e : evL E x = some (.sl 1 (bs xs))) :
    Still G o E L M (.v (.string (ofBytes xs))) := fun a w h hm _ => by
  have hx := evL_rel h e
  obtain ⟨hu, inf, h1, h2⟩ := t.get
  refine ⟨_, rel_v.2 rfl, fun w' hm' _ => ?_⟩
  simp only [SV.rel, bs_length] at hx
  rcases hx with ⟨⟨a0, c0, hx⟩, h0⟩ | ⟨b, off, cap, hx, hc, hr⟩
  · have : xs = [] := List.eq_nil_of_length_eq_zero h0
    subst this
    cases a0 <;> simp [execOp, ho, hx, convert, run_underlying hu, run_underlying t2.str, run_underlying te.int, Conv.bytesToString, loadCells, loadCellsFrom] <;> rfl
  · obtain ⟨vs, v1, v2, _, v4⟩ := rowsAt_vals hr
    rw [bs_flatten] at v1
    have hv := rels_bytes v1
    have hl := run_loadCells_list (P := G.P) w' ⟨b, off, none⟩ vs (fun j u e => by rw [add_addr]; exact (hm' _ _ _ (v4 j u e)).1)
    rw [v2, bs_length, Nat.mul_one] at hl
    have hop := run_bytesToString (P := G.P) w' ⟨b, off, none⟩ xs.length cap xs (by rw [hl, hv])
    rw [push_all] at hop
    have e1 : (⟨ByteArray.empty.data ++ (xs.map fun x => UInt8.ofNat x.toNat).toArray⟩ : ByteArray) = ofBytes xs := by
      unfold ofBytes
      congr 1
      apply Array.toList_inj.1
      simp [ByteArray.empty, ByteArray.emptyWithCapacity]
      rfl
    rw [e1] at hop
    simp [execOp, ho, hx, convert, run_underlying hu, run_underlying t2.str, run_underlying te.int, hop]

/-- The bytes of a string. -/
def ints (s : ByteArray) : List Int := s.data.toList.map fun b => (b.toNat : Int)
theorem ints_length (s : ByteArray) : (ints s).length = s.size := by simp [ints]
theorem ofBytes_ints (s : ByteArray) : ofBytes (ints s) = s := by
  unfold ofBytes ints
  cases s with
  | mk d =>
    congr 1
    apply Array.toList_inj.1
    simp only [List.map_map]
    conv => rhs; rw [← List.map_id d.toList]
    apply List.map_congr_left
    intro b _
    simp
/-- A new block whose first cells are seen, and nothing else is known of it. -/
theorem St.newSeen {a : Act} {w w' : World} (s : St G E L M a w) (xs : List Value) (h1 : ∀ v ∈ xs, v.oneCell' = true) (ho : w'.os = w.os) (ht : w'.tape = w.tape) (hp : w'.output = w.output) (hsz : w.heap.size < w'.heap.size)
    (hold : ∀ b, b < w.heap.size → w'.heap[b]? = w.heap[b]?) (hnew : ∀ j v, xs[j]? = some v → w'.cell? ⟨w.heap.size, j, none⟩ = some v) : St G E L (M.add w.heap.size xs) a w' ∧ M.le (M.add w.heap.size xs) := by
  have hM : ∀ o v, M w.heap.size o = some v → xs[o]? = some v := fun o v e => absurd (s.mem.lt e) (Nat.lt_irrefl _)
  have hle := Mem.le_add hM
  refine ⟨{
    defers := s.defers
    size := s.size
    env := s.env.mono hle
    keep := ⟨ho.trans s.keep.os, ht.trans s.keep.tape, hp.trans s.keep.output, by have := s.keep.size; omega, fun b hb hk => (hold b (Nat.lt_of_lt_of_le hb s.keep.size)).trans (s.keep.block b hb hk)⟩
    le := s.le.trans hle
    newc := by
      intro b o v e
      by_cases hb : b = w.heap.size
      · subst hb; exact .inr (.inr s.keep.size)
      · rw [Mem.add_other hb] at e; exact s.newc b o v e
    mem := by
      intro b o v e
      by_cases hb : b = w.heap.size
      · subst hb
        rw [Mem.add_same] at e
        exact ⟨hnew o v e, h1 v (List.mem_of_getElem? e)⟩
      · rw [Mem.add_other hb] at e
        have := s.mem b o v e
        exact ⟨by rw [World.cell?_of_block (w := w) (hold b (s.mem.lt e))]; exact this.1, this.2⟩
    res := fun r hr => (s.res r hr).keep hle (fun m hm => hold m ((s.res r hr).lt m hm)) (fun m hm o v e => by
      have := (s.res r hr).lt m hm
      rwa [Mem.add_other (by omega)] at e)
    nodup := s.nodup
    own := s.own }, hle⟩
theorem wl_str_bytes {S D el : TypeId} {dst : Nat} {s1 b1 : Nat} {z1 : Value} {x : Operand} {str : ByteArray} [t : SlT G.P D el 1] [te : Ty G.P el (.int .u8) 1 1 (.int .u8 0)] [t2 : Ty G.P S .string s1 b1 z1] (hg : o.guard = none) (hds : o.dst = some dst) (hd : dstOk G o = true) (ho : o.op = .convert S D x) (e : evO E x = some (.v (.string str)))
    (kk : ∀ M', M.le M' → WL G ops rest ((dst, .sl 1 (bs (ints str))) :: E) L M' K) : WL G ops (o :: rest) E L M K := fun a w s => by
  have hx := rel_v.1 (evO_rel s.env e)
  obtain ⟨hu, inf, h1, h2⟩ := t.get
  have hop : (execOp a.eval o).run G.P w = .ok (.value (.slice (some ⟨w.heap.size, 0, none⟩) str.size (grownCap w str.size 0 el))) (Lib.bytesWorld w el str) := by
    simp [execOp, ho, hx, Lib.run_convert_string_bytes w S D el str t2.str hu te.int]
  obtain ⟨s2, hle⟩ := s.newSeen (w' := Lib.bytesWorld w el str) ((ints str).map fun x => Value.int .u8 x) (by simp [Value.oneCell']) rfl rfl rfl (by rw [Lib.bytesWorld_size]; omega) (fun b hb => Lib.bytesWorld_at_old w el str b hb) (fun j v e => by
    have hj : j < str.size := by have := (List.getElem?_eq_some_iff.1 e).1; simpa [ints] using this
    rw [Lib.bytesWorld_cell w el str j hj]
    rw [← e]
    simp [ints, hj])
  have s3 := s2.put (o := o) (x := .slice (some ⟨w.heap.size, 0, none⟩) str.size (grownCap w str.size 0 el)) (t := .sl 1 (bs (ints str))) (by
    simp only [SV.rel, bs_length, ints_length]
    refine .inr ⟨w.heap.size, 0, _, rfl, grownCap_ge _ _ _ _, rowsAt_of_vals (xs := (ints str).map fun x => Value.int .u8 x) ?_ (by simp [ns]) fun j v e => by rw [Nat.zero_add, Mem.add_same]; exact e⟩
    rw [bs_flatten]
    have := rels_vals (M := M.add w.heap.size ((ints str).map fun x => Value.int .u8 x)) ((ints str).map fun x => Value.int .u8 x)
    simpa [List.map_map, Function.comp_def] using this) hd
  unfold wpList
  rw [if_pos (by simp [Region.wanted, hg])]
  left
  simp only [Oper.wp, hop, Oper.upon_value]
  exact kk _ hle _ _ (by simpa only [putE, hds] using s3)

/-! ### Comparisons with nil -/
/-- The operator's run, for the two that compare. -/
def eqRes (op : BinOp) (b : Bool) : Option Bool := match op with | .eql => some b | .neq => some (!b) | _ => none
theorem run_eqOp {P : Program} {o : Oper} {op : BinOp} {T yT : TypeId} {x y : Operand} {ρ : Operand → Value} {c : Bool} {w : World} (ho : o.op = .binOp op T x y yT) (hg : (eqGuard op T x y (ρ x) (ρ y)).run P w = .ok () w) (hr : (binOp op T (ρ x) (ρ y)).run P w = .ok (.bool c) w) :
    (execOp ρ o).run P w = .ok (.value (.bool c)) w := by
  simp only [execOp, ho, Sem.run_bind, hg, hr, Result.andThen_ok, Sem.run_pure]
theorem run_eqOf {P : Program} {op : BinOp} {T : TypeId} {x y : Value} {b c : Bool} {w : World} (hop : eqRes op b = some c) (h1 : binOp .eql T x y = (do pure (.bool (← Op.equal T x y)))) (h2 : binOp .neq T x y = (do pure (.bool (!(← Op.equal T x y)))))
    (he : ∀ d, (Op.equalIn (d + 1) T x y).run P w = .ok b w) : (binOp op T x y).run P w = .ok (.bool c) w := by
  have h := he 9999
  cases op <;> simp only [eqRes, Option.some.injEq, reduceCtorEq] at hop <;> subst hop
  · rw [h1]
    show ((Op.equalIn 10000 T x y) >>= fun r => pure (.bool r) : Sem Value).run P w = _
    simp only [Sem.run_bind, h, Result.andThen_ok, Sem.run_pure]
  · rw [h2]
    show ((Op.equalIn 10000 T x y) >>= fun r => pure (.bool (!r)) : Sem Value).run P w = _
    simp only [Sem.run_bind, h, Result.andThen_ok, Sem.run_pure]
theorem equalIn_slice {P : Program} {T e : TypeId} (hu : P.underlying T = some (.slice e)) (a : Option Addr) (n c d : Nat) (w : World) : (Op.equalIn (d + 1) T (.slice a n c) (.slice none 0 0)).run P w = .ok a.isNone w := by
  cases a <;> simp [Op.equalIn, run_underlying hu]
theorem still_sl_nil {op : BinOp} {T yT el sz sz' : Nat} {c d : Bool} [t : SlT G.P T el sz] {x y : Operand} {es : List (List SV)} (ho : o.op = .binOp op T x y yT) (e : evL E x = some (.sl sz' es)) (ey : evO E y = some (.v (.slice none 0 0))) (hc : eqRes op true = some c) (hd' : eqRes op false = some d)
    (hg : o.guard = none) (hd : dstOk G o = true) (hcd : c ≠ d) (k : ∀ b : Bool, (b = c → es = []) → WL G ops rest (putE E o.dst (.v (.bool b))) L M K) : WL G ops (o :: rest) E L M K := fun a w s => by
  have hx := evL_rel s.env e
  have hy := rel_v.1 (evO_rel s.env ey)
  obtain ⟨hu, _⟩ := t.get
  simp only [SV.rel] at hx
  have hgd : ∀ A n c', (eqGuard op T x y (.slice A n c') (.slice none 0 0)).run G.P w = .ok () w := by
    intro A n c'
    unfold eqGuard
    split <;> rfl
  have key : ∃ b : Bool, (execOp a.eval o).run G.P w = .ok (.value (.bool b)) w ∧ (b = c → es = []) := by
    rcases hx with ⟨⟨a0, c0, hx⟩, h0⟩ | ⟨bb, off, cap, hx, _, _⟩
    · cases a0 with
      | some a0 => exact ⟨d, run_eqOp ho (by rw [hx, hy]; exact hgd _ _ _) (by rw [hx, hy]; exact run_eqOf hd' rfl rfl fun d => equalIn_slice hu _ _ _ d w), fun h => absurd h.symm hcd⟩
      | none => exact ⟨c, run_eqOp ho (by rw [hx, hy]; exact hgd _ _ _) (by rw [hx, hy]; exact run_eqOf hc rfl rfl fun d => equalIn_slice hu _ _ _ d w), fun _ => List.eq_nil_of_length_eq_zero h0⟩
    · exact ⟨d, run_eqOp ho (by rw [hx, hy]; exact hgd _ _ _) (by rw [hx, hy]; exact run_eqOf hd' rfl rfl fun d => equalIn_slice hu _ _ _ d w), fun h => absurd h.symm hcd⟩
  obtain ⟨b, hrun, hb⟩ := key
  unfold wpList
  rw [if_pos (by simp [Region.wanted, hg])]
  left
  simp only [Oper.wp, hrun, Oper.upon_value]
  exact k b hb _ _ (s.put (rel_v.2 rfl) hd)
theorem Ty.ifc {P : Program} {T : TypeId} {sz by_ : Nat} {z : Value} (t : Ty P T .iface sz by_ z) : ∃ ms, P.underlying T = some (.interface ms) := by
  obtain ⟨D, h, e⟩ := t.desc
  cases D <;> simp [TK.of] at e
  exact ⟨_, h⟩
/-- An interface value against nil. -/
theorem still_ifc_nil {T yT : Nat} {s1 b1 : Nat} {z1 : Value} [t : Ty G.P T .iface s1 b1 z1] {x y : Operand} {T' : TypeId} {s : SV} {op : BinOp} {c : Bool} (ho : o.op = .binOp op T x y yT) (e : evO E x = some (.ifc T' s)) (ey : evO E y = some (.v .nilIface)) (hop : eqRes op false = some c) : Still G o E L M (.v (.bool c)) := fun a w h _ _ =>
  ⟨_, rel_v.2 rfl, fun w' _ _ => by
    have hx := evO_rel h e
    have hy := rel_v.1 (evO_rel h ey)
    simp only [SV.rel] at hx
    obtain ⟨z, hx, _⟩ := hx
    obtain ⟨ms, hu⟩ := t.ifc
    refine run_eqOp ho ?_ ?_
    · rw [hx, hy]; unfold eqGuard; split <;> rfl
    · rw [hx, hy]; exact run_eqOf hop rfl rfl fun d => by simp [Op.equalIn, run_underlying hu]⟩
theorem still_nil_nil {T yT : Nat} {s1 b1 : Nat} {z1 : Value} [t : Ty G.P T .iface s1 b1 z1] {x : Operand} {op : BinOp} {c : Bool} (ho : o.op = .binOp op T x (.const .nilIface) yT) (e : evO E x = some (.v .nilIface)) (hop : eqRes op true = some c) : Still G o E L M (.v (.bool c)) := fun a w h _ _ =>
  ⟨_, rel_v.2 rfl, fun w' _ _ => by
    have hx := rel_v.1 (evO_rel h e)
    obtain ⟨ms, hu⟩ := t.ifc
    refine run_eqOp ho ?_ ?_
    · rw [hx]; unfold eqGuard; cases op <;> simp [Act.eval]
    · rw [hx]; exact run_eqOf hop rfl rfl fun d => by simp [Op.equalIn, run_underlying hu, Act.eval]⟩
/-- min of two whole numbers. -/
theorem still_min {c : Call} {x y : Operand} {k : IntKind} {a b : Int} (ho : o.op = .call c) (hc : c.callee = .builtin .min) (ha : c.args = #[x, y]) (ex : evO E x = some (.v (.int k a))) (ey : evO E y = some (.v (.int k b))) :
    Still G o E L M (.v (.int k (if b < a then b else a))) := fun act w h _ _ =>
  ⟨_, rel_v.2 rfl, fun w' _ _ => by
    have h1 := rel_v.1 (evO_rel h ex)
    have h2 := rel_v.1 (evO_rel h ey)
    simp [execOp, ho, resolve, hc, ha, invoke, builtin, h1, h2, Builtin.min_, Builtin.min2]⟩
/-- What is known to be a slice may be told as one. -/
theorem wl_sub {E' : Env} {l : List Oper} (h : SubE E E') (k : WL G ops l E' L M K) : WL G ops l E L M K := fun a w s => k a w { s with env := s.env.sub h.look }
/-- A slice that was made here, told as one that is only read. -/
theorem wl_see {i : Nat} {v : Value} {sz : Nat} {es : List (List SV)} {l : List Oper} (e : look E i = some (.rw v sz es)) (k : WL G ops l ((i, .sl sz es) :: E) L M K) : WL G ops l E L M K := fun a w s => k a w { s with
  env := fun j t h => by
    simp only [look] at h
    cases hb : Nat.beq i j with
    | true =>
      rw [hb] at h
      have := Nat.eq_of_beq_eq_true hb
      subst this
      simp only [cond_true, Option.some.injEq] at h
      subst h
      obtain ⟨y, hy, hr⟩ := s.env i _ e
      exact ⟨y, hy, rel_rw_sl hr⟩
    | false => rw [hb] at h; exact s.env j t h }
/-- nil, told as a slice of nothing. -/
theorem wl_nilsl {i : Nat} {sz : Nat} {l : List Oper} (e : look E i = some (.v (.slice none 0 0))) (k : WL G ops l ((i, .sl sz []) :: E) L M K) : WL G ops l E L M K := fun a w s => k a w { s with
  env := fun j t h => by
    simp only [look] at h
    cases hb : Nat.beq i j with
    | true =>
      rw [hb] at h
      have := Nat.eq_of_beq_eq_true hb
      subst this
      simp only [cond_true, Option.some.injEq] at h
      subst h
      obtain ⟨y, hy, hr⟩ := s.env i _ e
      rw [rel_v] at hr
      exact ⟨y, hy, by simp [SV.rel, hr]⟩
    | false => rw [hb] at h; exact s.env j t h }
/-- nil, told as a slice that may be appended to. -/
theorem wl_nilrw {i : Nat} {T sz : Nat} {l : List Oper} (e : look E i = some (.v (.slice none 0 0))) (k : WL G ops l ((i, .rw (.slice none 0 0) sz []) :: E) (.tail (.slice none 0 0) T sz 0 :: L) M K) : WL G ops l E L M K := fun a w s => k a w { s with
  env := fun j t h => by
    simp only [look] at h
    cases hb : Nat.beq i j with
    | true =>
      rw [hb] at h
      have := Nat.eq_of_beq_eq_true hb
      subst this
      simp only [cond_true, Option.some.injEq] at h
      subst h
      obtain ⟨y, hy, hr⟩ := s.env i _ e
      rw [rel_v] at hr
      exact ⟨y, hy, by simp [SV.rel, hr]⟩
    | false => rw [hb] at h; exact s.env j t h
  res := by
    intro r hr
    cases hr with
    | head => exact .inl ⟨rfl, rfl⟩
    | tail _ hr => exact s.res r hr
  nodup := by simpa only [nums, List.filterMap_cons, Res.num, Value.ownBlock] using s.nodup
  own := by simpa only [nums, List.filterMap_cons, Res.num, Value.ownBlock] using s.own }
end
end Go.Eng

/- Loads, stores, addresses, calls. -/
import Derived.Test.YtpakkedlfoapeaaDoorEngD
namespace Go.Eng
open Go

section
variable {G : Ctx} {E : Env} {L : List Res} {M : Mem} {o : Oper} {ops : Array Oper} {rest : List Oper} {K : KPost}

theorem add_addr (b o i : Nat) : (⟨b, o, none⟩ : Addr).add i = ⟨b, o + i, none⟩ := by
  unfold Addr.add
  split <;> simp_all

/-- What a load of a type reads out of cells from a place on. -/
def loadSV (d : TK) (sz : Nat) (cs : List SV) (off : Nat) : Option SV :=
  if aggK d then (if off + sz ≤ cs.length then some (.agg ((cs.drop off).take sz)) else none) else cs[off]?

/-- A load out of cells that hold these values. -/
theorem run_loadVar' {P : Program} {T : TypeId} {d : TK} {sz by_ : Nat} {z : Value} (t : Ty P T d sz by_ z) {b o : Nat} {vs : List Value} {M : Mem} {cs : List SV} {s : SV}
    (hr : SV.rels M cs vs) (h1 : aggK d = true → ∀ v ∈ vs, v.oneCell' = true) (off : Nat) (hs : loadSV d sz cs off = some s) :
    ∃ x, SV.rel M s x ∧ ∀ w : World, (∀ j v, vs[j]? = some v → w.cell? ⟨b, o + j, none⟩ = some v) → (loadVar T ⟨b, o + off, none⟩).run P w = .ok x w := by
  unfold loadSV at hs
  cases hd : aggK d with
  | false =>
    rw [hd] at hs
    simp only [Bool.false_eq_true, if_false] at hs
    obtain ⟨y, hy, hr2⟩ := rels_get hr hs
    refine ⟨y, hr2, fun w hw => ?_⟩
    simp only [loadVar, Sem.run_bind, run_isAgg' t, hd, Result.andThen_ok, Bool.false_eq_true, if_false, run_load, hw off y hy]
  | true =>
    rw [hd] at hs
    simp only [if_true] at hs
    split at hs
    · rename_i hl
      simp only [Option.some.injEq] at hs
      subst hs
      have hlen := rels_length hr
      refine ⟨.agg ((vs.drop off).take sz).toArray, ?_, fun w hw => ?_⟩
      · simp only [SV.rel]
        refine ⟨_, rfl, rels_take sz (rels_drop off hr), fun v hv => ?_⟩
        have hv : v ∈ (vs.drop off).take sz := by simpa using hv
        exact h1 hd v (List.mem_of_mem_drop (List.mem_of_mem_take hv))
      · have hcl := run_loadCells_list (P := P) w ⟨b, o + off, none⟩ ((vs.drop off).take sz) (fun j v e => by
          rw [add_addr]
          have e2 : vs[off + j]? = some v := by
            rw [List.getElem?_take] at e
            split at e
            · simpa using e
            · cases e
          have := hw (off + j) v e2
          rwa [← Nat.add_assoc] at this)
        have hsz : ((vs.drop off).take sz).length = sz := by simp; omega
        rw [hsz] at hcl
        simp only [loadVar, Sem.run_bind, run_isAgg' t, hd, Result.andThen_ok, if_true, run_sizeOf' t, hcl, Sem.run_pure]
    · cases hs

theorem still_load_lp {T : TypeId} {d : TK} {sz by_ : Nat} {z : Value} [t : Ty G.P T d sz by_ z] {x : Operand} {k n off : Nat} {T' : TypeId} {cs : List SV} {s : SV} (ho : o.op = .load T x) (e : evO E x = some (.lp k n off))
    (hb : getBox L k = some (n, T', cs)) (hs : loadSV d sz cs off = some s) : Still G o E L M s := fun a w h _ hL => by
  have hx := rel_lp.1 (evO_rel h e)
  obtain ⟨⟨vs, h1, h2, h3⟩, _⟩ := hL _ (getBox_mem hb)
  obtain ⟨y, hy, hrun⟩ := run_loadVar' (b := n) (o := 0) t h2 (fun _ => h3) off hs
  refine ⟨y, hy, fun w' _ hw' => ?_⟩
  have hh : w'.heap[n]? = some (.cells vs T' (0, 0)) := by rw [hw' _ (getBox_mem hb) n rfl]; exact h1
  have := hrun w' (fun j v e => by
    rw [Nat.zero_add, cell_of_row w' n j vs T' (0, 0) hh]
    simpa using e)
  simp only [Nat.zero_add] at this
  simp [execOp, ho, hx, Instr.loadAt, Instr.sureAddr, this]

/-- A load out of memory that never changes. -/
theorem still_load_mp {T : TypeId} {d : TK} {sz by_ : Nat} {z : Value} [t : Ty G.P T d sz by_ z] {x : Operand} {cs : List SV} {s : SV} (ho : o.op = .load T x) (e : evO E x = some (.mp cs))
    (hs : loadSV d sz cs 0 = some s) : Still G o E L M s := fun a w h hm _ => by
  have hx := evO_rel h e
  simp only [SV.rel] at hx
  obtain ⟨b, off, hx, hc⟩ := hx
  obtain ⟨vs, h2, h3⟩ := cellsAt_vals hc
  obtain ⟨y, hy, hrun⟩ := run_loadVar' (b := b) (o := off) t h2 (fun _ v hv => by
    obtain ⟨j, hj⟩ := List.getElem?_of_mem hv
    exact (hm _ _ _ (h3 j v hj)).2) 0 hs
  refine ⟨y, hy, fun w' hM _ => ?_⟩
  have := hrun w' (fun j v e => (hM _ _ _ (h3 j v e)).1)
  simp only [Nat.add_zero] at this
  simp [execOp, ho, hx, Instr.loadAt, Instr.sureAddr, this]

/-! ### Addresses -/
/-- Where a field lies: its type has cells. -/
def fldOff (P : Program) (T i : Nat) : Option Nat :=
  match P.underlying T with
  | some (.struct fs) => match fs[i]? with
    | some f => match (P.info? f.type).map (·.size) with
      | some (_ + 1) => some f.offset
      | _ => none
    | none => none
  | _ => none
class Fld (P : Program) (T i : Nat) (off : outParam Nat) : Prop where
  out : fldOff P T i = some off
theorem run_fieldAt {P : Program} {T i off : Nat} (f : Fld P T i off) (b c : Nat) (w : World) : (Instr.fieldAt T (.pointer (some ⟨b, c, none⟩)) i).run P w = .ok (.pointer (some ⟨b, c + off, none⟩)) w := by
  have h := f.out
  unfold fldOff at h
  split at h
  · rename_i fs hu
    split at h
    · rename_i fl hf
      split at h
      · rename_i m hs
        simp only [Option.some.injEq] at h
        subst h
        simp only [Option.map_eq_some_iff] at hs
        obtain ⟨inf, hi, hm⟩ := hs
        simp [Instr.fieldAt, run_underlying hu, hf, Instr.sureAddr, fieldPlace, sizeOf, typeInfo, hi, hm, add_addr]
      · cases h
    · cases h
  · cases h
theorem still_field_lp {T f off' : Nat} [fl : Fld G.P T f off'] {x : Operand} {k n off : Nat} (ho : o.op = .fieldAddr T x f) (e : evO E x = some (.lp k n off)) : Still G o E L M (.lp k n (off + off')) := fun a w h _ _ =>
  ⟨_, rel_lp.2 rfl, fun w' _ _ => by
    have hx := rel_lp.1 (evO_rel h e)
    simp only [execOp, ho, hx, Sem.run_bind, run_fieldAt fl, Result.andThen_ok, Sem.run_pure]⟩
theorem still_field_mp {T f off' : Nat} [fl : Fld G.P T f off'] {x : Operand} {cs : List SV} (ho : o.op = .fieldAddr T x f) (e : evO E x = some (.mp cs)) : Still G o E L M (.mp (cs.drop off')) := fun a w h _ _ => by
  have hx := evO_rel h e
  simp only [SV.rel] at hx
  obtain ⟨b, c, hx, hc⟩ := hx
  refine ⟨.pointer (some ⟨b, c + off', none⟩), ?_, fun w' _ _ => ?_⟩
  · simp only [SV.rel]
    exact ⟨b, _, rfl, cellsAt_drop off' hc⟩
  · simp only [execOp, ho, hx, Sem.run_bind, run_fieldAt fl, Result.andThen_ok, Sem.run_pure]

/-- An array's length and how many cells an element has. -/
def arrInf (P : Program) (T : Nat) : Option (Nat × Nat) :=
  match P.underlying T with
  | some (.array len e) => match (P.info? e).map (·.size) with
    | some m => some (len, m)
    | none => none
  | _ => none
class ArrT (P : Program) (T : Nat) (len sz : outParam Nat) : Prop where
  out : arrInf P T = some (len, sz)
def slInf (P : Program) (T : Nat) : Option (Nat × Nat) :=
  match P.underlying T with
  | some (.slice e) => match (P.info? e).map (·.size) with
    | some m => some (e, m)
    | none => none
  | _ => none
class SlT (P : Program) (T : Nat) (el sz : outParam Nat) : Prop where
  out : slInf P T = some (el, sz)
theorem ArrT.get {P : Program} {T len sz : Nat} (t : ArrT P T len sz) : ∃ e i, P.underlying T = some (.array len e) ∧ P.info? e = some i ∧ i.size = sz := by
  have h := t.out
  unfold arrInf at h
  split at h
  · rename_i l e hu
    split at h
    · rename_i m hs
      simp only [Option.some.injEq, Prod.mk.injEq] at h
      obtain ⟨rfl, rfl⟩ := h
      simp only [Option.map_eq_some_iff] at hs
      obtain ⟨i, hi, hm⟩ := hs
      exact ⟨e, i, hu, hi, hm⟩
    · cases h
  · cases h
theorem SlT.get {P : Program} {T el sz : Nat} (t : SlT P T el sz) : P.underlying T = some (.slice el) ∧ ∃ i, P.info? el = some i ∧ i.size = sz := by
  have h := t.out
  unfold slInf at h
  split at h
  · rename_i e hu
    split at h
    · rename_i m hs
      simp only [Option.some.injEq, Prod.mk.injEq] at h
      obtain ⟨rfl, rfl⟩ := h
      simp only [Option.map_eq_some_iff] at hs
      obtain ⟨i, hi, hm⟩ := hs
      exact ⟨hu, i, hi, hm⟩
    · cases h
  · cases h
theorem still_index_lp {T len sz : Nat} [t : ArrT G.P T len sz] {x ix : Operand} {k n off : Nat} {kk : IntKind} {i : Int} (ho : o.op = .indexAddr T x ix) (e : evO E x = some (.lp k n off)) (ei : evO E ix = some (.v (.int kk i))) (hi : 0 ≤ i ∧ i < len) :
    Still G o E L M (.lp k n (off + i.toNat * sz)) := fun a w h _ _ =>
  ⟨_, rel_lp.2 rfl, fun w' _ _ => by
    have hx := rel_lp.1 (evO_rel h e)
    have hix := rel_v.1 (evO_rel h ei)
    obtain ⟨el, inf, h1, h2, h3⟩ := t.get
    simp [execOp, ho, hx, hix, Instr.indexAt, asIntOf, run_underlying h1, Instr.sureAddr, hi, sizeOf, typeInfo, h2, h3, add_addr]⟩
theorem still_index_mp {T len sz : Nat} [t : ArrT G.P T len sz] {x ix : Operand} {cs : List SV} {kk : IntKind} {i : Int} (ho : o.op = .indexAddr T x ix) (e : evO E x = some (.mp cs)) (ei : evO E ix = some (.v (.int kk i))) (hi : 0 ≤ i ∧ i < len) :
    Still G o E L M (.mp (cs.drop (i.toNat * sz))) := fun a w h _ _ => by
  have hx := evO_rel h e
  have hix := rel_v.1 (evO_rel h ei)
  simp only [SV.rel] at hx
  obtain ⟨b, c, hx, hc⟩ := hx
  obtain ⟨el, inf, h1, h2, h3⟩ := t.get
  refine ⟨.pointer (some ⟨b, c + i.toNat * sz, none⟩), ?_, fun w' _ _ => ?_⟩
  · simp only [SV.rel]
    exact ⟨b, _, rfl, cellsAt_drop _ hc⟩
  · simp [execOp, ho, hx, hix, Instr.indexAt, asIntOf, run_underlying h1, Instr.sureAddr, hi, sizeOf, typeInfo, h2, h3, add_addr]
theorem rel_rw_sl {M : Mem} {x y : Value} {sz : Nat} {es : List (List SV)} (h : SV.rel M (.rw x sz es) y) : SV.rel M (.sl sz es) y := by
  simp only [SV.rel] at h ⊢
  exact h.2
/-- A slice that was made here is a slice. -/
def asSl : SV → SV
  | .rw _ sz es => .sl sz es
  | s => s
theorem asSl_rel {M : Mem} {s : SV} {y : Value} (h : SV.rel M s y) : SV.rel M (asSl s) y := by
  cases s <;> first | exact rel_rw_sl h | exact h
def evL (E : Env) (x : Operand) : Option SV := match evO E x with | some s => some (asSl s) | none => none
theorem evL_rel {M : Mem} {E : Env} {a : Act} (h : EnvOk M E a.tmps) {x : Operand} {s : SV} (e : evL E x = some s) : SV.rel M s (a.eval x) := by
  unfold evL at e
  split at e
  · rename_i t ht
    cases e
    exact asSl_rel (evO_rel h ht)
  · cases e
/-- A slice's element. -/
theorem still_index_sl {T el sz : Nat} [t : SlT G.P T el sz] {x ix : Operand} {es : List (List SV)} {c : List SV} {kk : IntKind} {i : Int} (ho : o.op = .indexAddr T x ix) (e : evL E x = some (.sl sz es)) (ei : evO E ix = some (.v (.int kk i))) (hi : 0 ≤ i) (hc : es[i.toNat]? = some c) :
    Still G o E L M (.mp c) := fun a w h _ _ => by
  have hx := evL_rel h e
  have hix := rel_v.1 (evO_rel h ei)
  have hlt : i.toNat < es.length := (List.getElem?_eq_some_iff.1 hc).1
  simp only [SV.rel] at hx
  rcases hx with ⟨_, h0⟩ | ⟨b, off, cap, hx, _, hr⟩
  · omega
  · obtain ⟨h1, inf, h2, h3⟩ := t.get
    refine ⟨.pointer (some ⟨b, off + i.toNat * sz, none⟩), ?_, fun w' _ _ => ?_⟩
    · simp only [SV.rel]
      exact ⟨b, _, rfl, rowsAt_get hr hc⟩
    · have hb : 0 ≤ i ∧ i < (es.length : Int) := ⟨hi, by omega⟩
      simp [execOp, ho, hx, hix, Instr.indexAt, asIntOf, run_underlying h1, hb, sizeOf, typeInfo, h2, h3, add_addr]
/-! ### Stores into boxes -/
def splice (cs : List SV) (off : Nat) (ds : List SV) : List SV := cs.take off ++ ds ++ cs.drop (off + ds.length)
theorem wl_store {T : TypeId} {d : TK} {sz by_ : Nat} {z : Value} [t : Ty G.P T d sz by_ z] {x y : Operand} {k n off : Nat} {T' : TypeId} {cs : List SV} {s : SV} (hg : o.guard = none) (hds : o.dst = none) (ho : o.op = .store T x y) (e : evO E x = some (.lp k n off))
    (es : evO E y = some s) (h1 : oneSV s = true) (hsz : (cellsOf s).length = sz) (hb : getBox L k = some (n, T', cs)) (hfit : off + sz ≤ cs.length)
    (kk : WL G ops rest E (setBox L k (splice cs off (cellsOf s))) M K) : WL G ops (o :: rest) E L M K := fun a w st => by
  have hx := rel_lp.1 (evO_rel st.env e)
  obtain ⟨r1, r2⟩ := rel_cells (evO_rel st.env es) h1
  obtain ⟨⟨vs, g1, g2, g3⟩, g4⟩ := st.res _ (getBox_mem hb)
  have hl1 := rels_length r1
  have hl2 := rels_length g2
  have hvs : vs.toList.length = vs.size := by simp
  have hrun := run_storeCells_at G.P n off T' (a.eval y).cells.toList 0 vs w g1 (by omega) r2
  simp only [Nat.add_zero] at hrun
  have hszc : (a.eval y).cells.size = sz := by rw [← hsz, hl1]; simp
  have hop : (execOp a.eval o).run G.P w = .ok .skip (w.setRow n (vs.toList.take off ++ (a.eval y).cells.toList ++ vs.toList.drop (off + (a.eval y).cells.toList.length)).toArray) := by
    simp [execOp, ho, hx, Instr.storeAt, Instr.sureAddr, storeVar, run_sizeOf' t, hszc, hrun]
  unfold wpList
  rw [if_pos (by simp [Region.wanted, hg])]
  left
  simp only [Oper.wp, hop, Oper.upon_skip, hds, Act.put]
  refine kk _ _ ?_
  have hother : ∀ b, b ≠ n → (w.setRow n (vs.toList.take off ++ (a.eval y).cells.toList ++ vs.toList.drop (off + (a.eval y).cells.toList.length)).toArray).heap[b]? = w.heap[b]? := fun b hne => setRow_other w n b _ hne
  have hrow := setRow_heap w n vs (vs.toList.take off ++ (a.eval y).cells.toList ++ vs.toList.drop (off + (a.eval y).cells.toList.length)).toArray T' (0, 0) g1
  have hnn : n ∈ nums L := mem_nums (getBox_mem hb) rfl
  exact {
    defers := st.defers
    size := st.size
    env := st.env
    keep := ⟨st.keep.os, st.keep.tape, st.keep.output, by have := st.keep.size; simpa [World.setRow] using this, fun b hb2 hk => (hother b fun he => by
      subst he
      rcases st.own b hnn with h | h
      · exact hk h
      · omega).trans (st.keep.block b hb2 hk)⟩
    le := st.le
    newc := st.newc
    mem := st.mem.keep fun b o v hv => hother b fun he => by subst he; rw [g4 o] at hv; cases hv
    res := by
      intro r hr
      rcases mem_setBox hb st.nodup r hr with rfl | ⟨hr, hne⟩
      · refine ⟨⟨_, hrow, ?_, ?_⟩, g4⟩
        · rw [List.toList_toArray]
          unfold splice
          rw [hl1]
          exact rels_append (rels_append (rels_take off g2) r1) (rels_drop _ g2)
        · intro v hv
          rw [List.toList_toArray] at hv
          simp only [List.mem_append] at hv
          rcases hv with (hv | hv) | hv
          · exact g3 v (List.mem_of_mem_take hv)
          · exact r2 v hv
          · exact g3 v (List.mem_of_mem_drop hv)
      · exact (st.res r hr).keep (Mem.le.refl M) (fun m hm => hother m fun he => by subst he; exact hne hm) (fun _ _ _ _ e => e)
    nodup := by rw [nums_setBox]; exact st.nodup
    own := by rw [nums_setBox]; exact st.own }

/-! ### Calls -/
def evs (E : Env) : List Operand → Option (List SV)
  | [] => some []
  | x :: xs => match evO E x with
    | some s => match evs E xs with
      | some ss => some (s :: ss)
      | none => none
    | none => none
theorem evs_rel {M : Mem} {a : Act} (h : EnvOk M E a.tmps) : ∀ {xs : List Operand} {ss : List SV}, evs E xs = some ss → SV.rels M ss (xs.map a.eval)
  | [], ss, e => by cases e; exact rels_nil.2 rfl
  | x :: xs, ss, e => by
    simp only [evs] at e
    split at e
    · rename_i s hs
      split at e
      · rename_i ts ht
        cases e
        exact rels_cons'.2 ⟨evO_rel h hs, evs_rel h ht⟩
      · cases e
    · cases e
def evsL (E : Env) : List Operand → Option (List SV)
  | [] => some []
  | x :: xs => match evL E x with
    | some s => match evsL E xs with
      | some ss => some (s :: ss)
      | none => none
    | none => none
theorem evsL_rel {M : Mem} {a : Act} (h : EnvOk M E a.tmps) : ∀ {xs : List Operand} {ss : List SV}, evsL E xs = some ss → SV.rels M ss (xs.map a.eval)
  | [], ss, e => by cases e; exact rels_nil.2 rfl
  | x :: xs, ss, e => by
    simp only [evsL] at e
    split at e
    · rename_i s hs
      split at e
      · rename_i ts ht
        cases e
        exact rels_cons'.2 ⟨evL_rel h hs, evsL_rel h ht⟩
      · cases e
    · cases e
def funOk (P : Program) (f : Nat) : Bool := match P.funcs[f]? with | some fn => !(fn.name == "runtime.NumGoroutine") && fn.body.isSome | none => false
class Fun (P : Program) (f : Nat) : Prop where
  out : funOk P f = true
theorem run_callFunc' {P : Program} {f : Nat} (h : Fun P f) (args : Array Value) (w : World) : (callFunc f args).run P w = .ok (.enter f args) w := by
  have h := h.out
  unfold funOk at h
  split at h
  · rename_i fn hf
    simp only [Bool.and_eq_true, Bool.not_eq_true'] at h
    obtain ⟨h1, h2⟩ := h
    have h1 : ¬ fn.name = "runtime.NumGoroutine" := by simpa using h1
    have h3 : ¬ fn.body = none := by intro h; rw [h] at h2; cases h2
    simp [callFunc, hf, h1, h3]
  · cases h

theorem nums_append (A B : List Res) : nums (A ++ B) = nums A ++ nums B := List.filterMap_append
/-- Behind a call that was handed nothing of the call's own. -/
theorem St.ret {a : Act} {w w' : World} (s : St G E L M a w) {L' : List Res} {M' : Mem} (r : Ret [] M w L' M' w') : St G E (L' ++ L) M' a w' where
  defers := s.defers
  size := s.size
  env := s.env.mono r.le
  keep := s.keep.trans ⟨r.keep.os, r.keep.tape, r.keep.output, r.keep.size, fun b hb _ => r.keep.block b hb (by simp [nums])⟩
  le := s.le.trans r.le
  newc := by
    intro b o v e
    rcases r.newc b o v e with h | h | h
    · exact s.newc b o v h
    · simp [nums] at h
    · exact .inr (.inr (Nat.le_trans s.keep.size h))
  mem := r.mem
  res := by
    intro x hx
    rcases List.mem_append.1 hx with hx | hx
    · exact r.res x hx
    · have ho := s.res x hx
      refine ho.keep r.le (fun n hn => r.keep.block n (ho.lt n hn) (by simp [nums])) (fun n hn o v e => ?_)
      rcases r.newc n o v e with h | h | h
      · exact h
      · simp [nums] at h
      · exact absurd (ho.lt n hn) (by omega)
  nodup := by
    rw [nums_append, List.nodup_append]
    refine ⟨r.nodup, s.nodup, fun x hx y hy he => ?_⟩
    subst he
    rcases r.own x hx with h | h
    · simp [nums] at h
    · obtain ⟨q, hq, hn⟩ := List.mem_filterMap.1 hy
      exact absurd ((s.res q hq).lt x hn) (by omega)
  own := by
    intro n hn
    rw [nums_append, List.mem_append] at hn
    rcases hn with hn | hn
    · rcases r.own n hn with h | h
      · simp [nums] at h
      · exact .inr (Nat.le_trans s.keep.size h)
    · exact s.own n hn

theorem wl_call {c : Call} {f : Nat} [hf : Fun G.P f] {ss : List SV} {Φ : SV → List Res → Mem → Prop} (hg : o.guard = none) (hd : dstOk G o = true) (ho : o.op = .call c) (hc : c.callee = .value (.func f)) (es : evsL E c.args.toList = some ss)
    (h : Spec G.P f ss [] M Φ) (k : ∀ s L' M', M.le M' → Φ s L' M' → WL G ops rest (putE E o.dst s) (L' ++ L) M' K) : WL G ops (o :: rest) E L M K := fun a w st => by
  have hop : (execOp a.eval o).run G.P w = .ok (.enter f (c.args.map a.eval)) w := by
    simp [execOp, ho, resolve, hc, Act.eval, Deferred.ofValue, invoke, run_callFunc' hf]
  unfold wpList
  rw [if_pos (by simp [Region.wanted, hg])]
  left
  simp only [Oper.wp, hop, Oper.upon_enter]
  have hargs : c.args.map a.eval = (c.args.toList.map a.eval).toArray := by rw [← Array.toList_map, Array.toArray_toList]
  rw [hargs]
  refine (h w _ (evsL_rel st.env es) st.mem (fun _ h => by cases h) List.nodup_nil).mono ?_
  rintro e w' ⟨x, s, L', M', rfl, hr, hΦ, R⟩
  exact k s L' M' R.le hΦ _ _ ((st.ret R).put hr hd)
end
end Go.Eng

/- What arguments read as, told as symbolic values; a contract made a law's row. -/
import Derived.Test.YtpakkedlfoapeaaDoorEngM
import Derived.Carry
import Derived.OpenShut
import Derived.JoinedCond
namespace Go.Eng
open Go Go.ChangeShapes Go.RowKit

/-- All of memory, as it lies. -/
def memOf (W : World) : Mem := fun b o => match W.cell? ⟨b, o, none⟩ with | some v => if v.oneCell' = true then some v else none | none => none
theorem memOf_holds (W : World) : (memOf W).Holds W := fun b o v h => by
  unfold memOf at h
  split at h
  · rename_i u hu
    split at h
    · rename_i h1
      simp only [Option.some.injEq] at h
      subst h
      exact ⟨hu, h1⟩
    · cases h
  · cases h
theorem memOf_some {W : World} {b o : Nat} {v : Value} (h : W.cell? ⟨b, o, none⟩ = some v) (h1 : v.oneCell' = true) : memOf W b o = some v := by
  unfold memOf
  rw [h]
  simp [h1]

/-- So many parts, one behind the other. -/
def Cat {α : Type} (R : α → List SV → Prop) : List α → List SV → Prop
  | [], ss => ss = []
  | a :: as, ss => ∃ s1 s2, ss = s1 ++ s2 ∧ R a s1 ∧ Cat R as s2
theorem Cat.imp {α : Type} {R S : α → List SV → Prop} (h : ∀ a ss, R a ss → S a ss) : ∀ {as : List α} {ss : List SV}, Cat R as ss → Cat S as ss
  | [], _, e => e
  | _ :: _, _, ⟨s1, s2, e, h1, h2⟩ => ⟨s1, s2, e, h _ _ h1, Cat.imp h h2⟩
/-- The cells of a value of a type. -/
def Shp (P : Program) (B : Nat) : Nat → TypeId → List SV → Prop
  | 0, _, _ => False
  | n + 1, t, ss => match P.underlying t with
    | some .bool => ∃ b, ss = [.v (.bool b)]
    | some (.int k) => ∃ z, ss = [.v (.int k z)] ∧ (Lit.int k z).wf = true
    | some .string => ∃ s, ss = [.v (.string s)] ∧ s.size ≤ B
    | some (.slice e) => ∃ es, ss = [.sl (P.cellsOf e) es] ∧ es.length ≤ B ∧ ∀ c ∈ es, Shp P B n e c
    | some (.struct fs) => Cat (fun (f : Field) ss => Shp P B n f.type ss) fs.toList ss
    | some (.array m e) => Cat (fun _ ss => Shp P B n e ss) (List.range m) ss
    | _ => False
theorem Shp.mono {P : Program} {B B' : Nat} (h : B ≤ B') : ∀ (n : Nat) {t : TypeId} {ss : List SV}, Shp P B n t ss → Shp P B' n t ss
  | 0, _, _, h => h
  | n + 1, t, ss, hs => by
    unfold Shp at hs ⊢
    cases hu : P.underlying t with
    | none => rw [hu] at hs; exact hs
    | some D =>
      rw [hu] at hs
      cases D with
      | string => obtain ⟨s, e, hl⟩ := hs; exact ⟨s, e, Nat.le_trans hl h⟩
      | slice e => obtain ⟨es, e, hl, hc⟩ := hs; exact ⟨es, e, Nat.le_trans hl h, fun c hm => Shp.mono h n (hc c hm)⟩
      | struct fs => exact Cat.imp (fun _ _ h' => Shp.mono h n h') hs
      | array m e => exact Cat.imp (fun _ _ h' => Shp.mono h n h') hs
      | _ => exact hs
/-- Fields that lie one behind the other. -/
def offs (P : Program) : List Field → Nat → Option Nat
  | [], o => some o
  | f :: fs, o => if f.offset = o then offs P fs (o + P.cellsOf f.type) else none
def okT (P : Program) : Nat → TypeId → Bool
  | 0, _ => false
  | n + 1, t => match P.underlying t with
    | some .bool => Nat.beq (P.cellsOf t) 1
    | some (.int _) => Nat.beq (P.cellsOf t) 1
    | some .string => Nat.beq (P.cellsOf t) 1
    | some (.slice e) => Nat.beq (P.cellsOf t) 1 && okT P n e && Nat.ble 1 (P.cellsOf e)
    | some (.struct fs) => decide (offs P fs.toList 0 = some (P.cellsOf t)) && fs.toList.all (fun f => okT P n f.type)
    | some (.array m e) => Nat.beq (m * P.cellsOf e) (P.cellsOf t) && okT P n e
    | _ => false

/-- A measure of data that bounds lengths. -/
structure Bulk {H : Type} (bk : DataW H → Nat) : Prop where
  str : ∀ l : List UInt8, l.length ≤ bk (.lit (.string l))
  len : ∀ es rest, es.length ≤ bk (.slice es rest)
  el : ∀ es rest d, d ∈ es → bk d ≤ bk (.slice es rest)
  part : ∀ ps d, d ∈ ps → bk d ≤ bk (.agg ps)

theorem choose_list {α : Type} {Q : Nat → α → Prop} : ∀ (n : Nat), (∀ i, i < n → ∃ s, Q i s) → ∃ l : List α, l.length = n ∧ ∀ i s, l[i]? = some s → Q i s
  | 0, _ => ⟨[], rfl, by simp⟩
  | n + 1, h => by
    obtain ⟨l, h1, h2⟩ := choose_list n (fun i hi => h i (by omega))
    obtain ⟨s, hs⟩ := h n (by omega)
    refine ⟨l ++ [s], by simp [h1], fun i t e => ?_⟩
    rw [List.getElem?_append] at e
    split at e
    · exact h2 i t e
    · rename_i hi
      have : i - l.length = 0 := by
        rcases Nat.eq_zero_or_pos (i - l.length) with h0 | h0
        · exact h0
        · rw [List.getElem?_eq_none (by simp; omega)] at e; cases e
      rw [this] at e
      simp at e
      subst e
      have : i = n := by omega
      subst this
      exact hs
theorem rowsAt_of_get {M : Mem} {sz b : Nat} : ∀ (es : List (List SV)) (o : Nat), (∀ i e, es[i]? = some e → SV.cellsAt M e b (o + i * sz) ∧ e.length = sz) → SV.rowsAt M sz es b o
  | [], _, _ => by simp only [SV.rowsAt]
  | e :: es, o, h => by
    simp only [SV.rowsAt]
    have h0 := h 0 e (by simp)
    refine ⟨by simpa using h0.1, h0.2, rowsAt_of_get es (o + sz) fun i e' h' => ?_⟩
    have := h (i + 1) e' (by simpa using h')
    rw [Nat.add_mul] at this
    rwa [show o + sz + i * sz = o + (i * sz + 1 * sz) by omega]

section
variable {H : Type} {enc : TypeId × Value → H} {P : Program} {w : World}

theorem cells_spot {a : Addr} {n : Nat} {cs : List Value} (h : w.cells? 0 a n = some cs) (hn : 1 ≤ n) : a.spot = none := by
  unfold World.cells? at h
  rw [if_pos (Nat.zero_le _)] at h
  have hl : cs.length = n := by simpa using mapM_some_length h
  have h0 := mapM_some_get h 0 0 (by rw [List.getElem?_range (by omega)])
  have h1 : cs[0]? = some cs[0] := List.getElem?_eq_getElem (by omega)
  rw [h1] at h0
  have e : a.add 0 = a := rfl
  rw [e] at h0
  unfold World.cell? at h0
  split at h0
  · cases hs : a.spot with
    | none => rfl
    | some s => simp [hs] at h0
  · cases h0
theorem cells_get {b o n : Nat} {cs : List Value} (h : w.cells? 0 ⟨b, o, none⟩ n = some cs) : cs.length = n ∧ ∀ j v, cs[j]? = some v → w.cell? ⟨b, o + j, none⟩ = some v := by
  unfold World.cells? at h
  rw [if_pos (Nat.zero_le _)] at h
  have hl : cs.length = n := by simpa using mapM_some_length h
  refine ⟨hl, fun j v e => ?_⟩
  have hj : j < n := by rw [← hl]; exact (List.getElem?_eq_some_iff.1 e).1
  have h0 := mapM_some_get h j j (by simp [hj])
  rw [add_addr] at h0
  rw [h0, e]
theorem cellsAt_memOf {b o : Nat} {ss : List SV} {cs : List Value} (hr : SV.rels (memOf w) ss cs) (h1 : ∀ v ∈ cs, v.oneCell' = true) (hc : ∀ j v, cs[j]? = some v → w.cell? ⟨b, o + j, none⟩ = some v) : SV.cellsAt (memOf w) ss b o :=
  cellsAt_of_vals hr fun j x e => memOf_some (hc j x e) (h1 x (List.mem_of_getElem? e))

/-- The pieces of a struct's cells. -/
theorem pieces {α : Type} {R : α → List SV → Prop} (off sz : α → Nat) (cs : List Value) : ∀ (as : List α) (o tot : Nat),
    (∀ i a, as[i]? = some a → off a = o + ((as.take i).map sz).sum) → tot = o + (as.map sz).sum → tot ≤ cs.length →
    (∀ a ∈ as, ∃ ss, SV.rels (memOf w) ss ((cs.drop (off a)).take (sz a)) ∧ (∀ v ∈ (cs.drop (off a)).take (sz a), v.oneCell' = true) ∧ ss.length = sz a ∧ R a ss) →
    ∃ ss, SV.rels (memOf w) ss ((cs.drop o).take (tot - o)) ∧ (∀ v ∈ (cs.drop o).take (tot - o), v.oneCell' = true) ∧ ss.length = tot - o ∧ Cat R as ss
  | [], o, tot, _, ht, _, _ => by
    simp at ht
    subst ht
    exact ⟨[], by simp [rels_nil], by simp, by simp, rfl⟩
  | a :: as, o, tot, ho, ht, hl, h => by
    have h0 := ho 0 a (by simp)
    simp at h0
    simp only [List.map_cons, List.sum_cons] at ht
    obtain ⟨s1, r1, o1, l1, q1⟩ := h a List.mem_cons_self
    rw [h0] at r1 o1
    obtain ⟨s2, r2, o2, l2, q2⟩ := pieces off sz cs as (o + sz a) tot (fun i b e => by
      have := ho (i + 1) b (by simpa using e)
      simp only [List.take_succ_cons, List.map_cons, List.sum_cons] at this
      omega) (by omega) hl (fun b hb => h b (List.mem_cons_of_mem _ hb))
    have e : (cs.drop o).take (tot - o) = (cs.drop o).take (sz a) ++ (cs.drop (o + sz a)).take (tot - (o + sz a)) := by
      have : tot - o = sz a + (tot - (o + sz a)) := by omega
      rw [this, List.take_add, List.drop_drop]
    rw [e]
    refine ⟨s1 ++ s2, rels_append r1 r2, fun v hv => ?_, by simp [l1, l2]; omega, s1, s2, rfl, q1, q2⟩
    rcases List.mem_append.1 hv with hv | hv
    · exact o1 v hv
    · exact o2 v hv
theorem offs_at : ∀ (fs : List Field) (o tot : Nat), offs P fs o = some tot → tot = o + (fs.map fun f => P.cellsOf f.type).sum ∧ ∀ (i : Nat) (f : Field), fs[i]? = some f → f.offset = o + ((fs.take i).map fun f => P.cellsOf f.type).sum
  | [], o, tot, h => by
    simp [offs] at h
    subst h
    exact ⟨by simp, by simp⟩
  | g :: fs, o, tot, h => by
    simp only [offs] at h
    split at h
    · rename_i hg
      obtain ⟨h1, h2⟩ := offs_at fs _ _ h
      refine ⟨by simp; omega, fun i f e => ?_⟩
      cases i with
      | zero => simp at e; subst e; simp [hg]
      | succ i =>
        have := h2 i f (by simpa using e)
        simp only [List.take_succ_cons, List.map_cons, List.sum_cons]
        omega
    · cases h

theorem trod_sv {bk : DataW H → Nat} (hb : Bulk bk) : ∀ (fuel n : Nat) (t : TypeId) (cs : List Value) (x : DataW H × List MemPlace), okT P n t = true → DataW.trod enc P w 0 (fun _ => true) true fuel t cs = some x →
    ∃ ss, SV.rels (memOf w) ss cs ∧ (∀ v ∈ cs, v.oneCell' = true) ∧ ss.length = P.cellsOf t ∧ Shp P (min maxLen (bk x.1)) n t ss := by
  intro fuel
  induction fuel with
  | zero => intro n t cs x _ h; simp [DataW.trod] at h
  | succ fuel ih =>
    intro n t cs x ok h
    cases n with
    | zero => cases ok
    | succ n =>
      unfold okT at ok
      unfold Shp
      cases hu : P.underlying t with
      | none => rw [hu] at ok; cases ok
      | some D =>
        rw [hu] at ok
        cases D with
        | bool =>
          obtain ⟨b, rfl, rfl⟩ := DataW.trod_bool hu h
          exact ⟨[.v (.bool b)], rels_vals [_], by simp [Value.oneCell'], (Nat.eq_of_beq_eq_true ok).symm, b, rfl⟩
        | int k =>
          obtain ⟨z, rfl, rfl, hw⟩ := DataW.trod_int hu h
          exact ⟨[.v (.int k z)], rels_vals [_], by simp [Value.oneCell'], (Nat.eq_of_beq_eq_true ok).symm, z, rfl, hw⟩
        | string =>
          obtain ⟨s, rfl, rfl, hl⟩ := DataW.trod_string hu h
          refine ⟨[.v (.string s)], rels_vals [_], by simp [Value.oneCell'], (Nat.eq_of_beq_eq_true ok).symm, s, rfl, Nat.le_min.2 ⟨hl, ?_⟩⟩
          have := hb.str s.data.toList
          simpa using this
        | slice e =>
          simp only [Bool.and_eq_true] at ok
          obtain ⟨⟨ok1, ok2⟩, ok3⟩ := ok
          have ok3 := Nat.le_of_ble_eq_true ok3
          rcases DataW.trod_slice hu h with ⟨rfl, rfl⟩ | ⟨a, len, cap, elems, rest, m, hm, rfl, rfl, _, hlc, hcm, hlen, hel, hsp, _⟩
          · refine ⟨[.sl (P.cellsOf e) []], rels_cons'.2 ⟨?_, rels_nil.2 rfl⟩, by simp [Value.oneCell'], (Nat.eq_of_beq_eq_true ok1).symm, [], rfl, Nat.zero_le _, by simp⟩
            simp only [SV.rel]
            exact .inl ⟨⟨none, 0, rfl⟩, rfl⟩
          · obtain rfl : fuel = m := by omega
            have hrest := (hsp rfl).2
            have spot : 1 ≤ cap → a.spot = none := by
              intro hc
              by_cases hl : 0 < len
              · have h0 := hel 0 hl
                rw [Nat.zero_mul] at h0
                have hx : elems[0]? = some (elems[0]'(by omega)) := List.getElem?_eq_getElem (by omega)
                rw [hx] at h0
                simp only [Option.bind_eq_some_iff] at h0
                obtain ⟨c, hc2, _⟩ := h0
                exact cells_spot (a := a) hc2 ok3
              · have h0 := hrest 0 (by omega)
                have hr0 : 0 < rest.length := by have := (hsp rfl).1; omega
                have hx : rest[0]? = some (rest[0]'hr0) := List.getElem?_eq_getElem hr0
                have e0 : len + 0 = 0 := by omega
                rw [hx, e0, Nat.zero_mul] at h0
                simp only [Option.bind_eq_some_iff] at h0
                obtain ⟨c, hc2, _⟩ := h0
                exact cells_spot (a := a) hc2 ok3
            have each : ∀ i, i < len → ∃ s, SV.cellsAt (memOf w) s a.block (a.off + i * P.cellsOf e) ∧ s.length = P.cellsOf e ∧ Shp P (min maxLen (bk (.slice (elems.map (·.1)) (rest.map (·.1))))) n e s := by
              intro i hi
              have ha : a = ⟨a.block, a.off, none⟩ := by
                have := spot (by omega)
                cases a
                simp_all
              have h0 := hel i hi
              have hie : i < elems.length := by omega
              have hx : elems[i]? = some (elems[i]'hie) := List.getElem?_eq_getElem hie
              rw [hx, ha, add_addr] at h0
              simp only [Option.bind_eq_some_iff] at h0
              obtain ⟨c, hc2, hc3⟩ := h0
              obtain ⟨s, r1, r2, r3, r4⟩ := ih n e c _ ok2 hc3
              obtain ⟨_, hg⟩ := cells_get hc2
              refine ⟨s, cellsAt_memOf r1 r2 hg, r3, Shp.mono ?_ n r4⟩
              have : bk elems[i].1 ≤ bk (.slice (elems.map (·.1)) (rest.map (·.1))) := hb.el _ _ _ (List.mem_map.2 ⟨elems[i], by simp, rfl⟩)
              omega
            obtain ⟨es, e1, e2⟩ := choose_list len each
            refine ⟨[.sl (P.cellsOf e) es], rels_cons'.2 ⟨?_, rels_nil.2 rfl⟩, by simp [Value.oneCell'], (Nat.eq_of_beq_eq_true ok1).symm, es, rfl, ?_, ?_⟩
            · simp only [SV.rel]
              by_cases hc : cap = 0
              · subst hc
                have : len = 0 := by omega
                subst this
                exact .inl ⟨⟨some a, 0, rfl⟩, e1⟩
              · refine .inr ⟨a.block, a.off, cap, ?_, by omega, rowsAt_of_get es a.off fun i s hs => ⟨(e2 i s hs).1, (e2 i s hs).2.1⟩⟩
                have := spot (by omega)
                rw [e1]
                cases a
                simp_all
            · rw [e1]
              have h1 := hb.len (elems.map (·.1)) (rest.map (·.1))
              simp only [List.length_map] at h1
              rw [hlen] at h1
              exact Nat.le_min.2 ⟨by omega, h1⟩
            · intro c hc
              obtain ⟨i, hi⟩ := List.getElem?_of_mem hc
              exact (e2 i c hi).2.2
        | struct fs =>
          simp only [Bool.and_eq_true, decide_eq_true_eq, List.all_eq_true] at ok
          obtain ⟨xs, m, hm, rfl, hcl, hxl, hxs⟩ := DataW.trod_struct hu h
          obtain rfl : fuel = m := by omega
          obtain ⟨o1, o2⟩ := offs_at _ _ _ ok.1
          have := pieces (w := w) (R := fun (f : Field) ss => Shp P (min maxLen (bk (.agg (xs.map (·.1))))) n f.type ss) (fun f => f.offset) (fun f => P.cellsOf f.type) cs fs.toList 0 (P.cellsOf t) o2 o1 (by omega) (fun f hf => by
            obtain ⟨i, hi⟩ := List.getElem?_of_mem hf
            have h1 := hxs i f (by simpa using hi)
            have hlt : i < xs.length := by rw [hxl]; simpa using (List.getElem?_eq_some_iff.1 hi).1
            rw [List.getElem?_eq_getElem hlt] at h1
            obtain ⟨s, r1, r2, r3, r4⟩ := ih n f.type _ _ (ok.2 f hf) h1
            refine ⟨s, r1, r2, r3, Shp.mono ?_ n r4⟩
            have : bk xs[i].1 ≤ bk (.agg (xs.map (·.1))) := hb.part _ _ (List.mem_map.2 ⟨xs[i], by simp, rfl⟩)
            omega)
          simp only [List.drop_zero, Nat.sub_zero, ← hcl, List.take_length] at this
          rw [← hcl]
          exact this
        | array m e =>
          simp only [Bool.and_eq_true] at ok
          have ok1 := Nat.eq_of_beq_eq_true ok.1
          obtain ⟨xs, q, hq, rfl, hcl, hxl, hxs⟩ := DataW.trod_array hu h
          obtain rfl : fuel = q := by omega
          have hsum : ∀ j, ((List.range j).map fun _ => P.cellsOf e).sum = j * P.cellsOf e := by
            intro j
            induction j with
            | zero => simp
            | succ j ihj => rw [List.range_succ, List.map_append, List.sum_append, ihj, Nat.add_mul]; simp
          have := pieces (w := w) (R := fun (_ : Nat) ss => Shp P (min maxLen (bk (.agg (xs.map (·.1))))) n e ss) (fun i => i * P.cellsOf e) (fun _ => P.cellsOf e) cs (List.range m) 0 (P.cellsOf t) (fun i a ha => by
              have hi : i < m := by simpa using (List.getElem?_eq_some_iff.1 ha).1
              have e1 : a = i := by simpa [hi] using ha.symm
              subst e1
              rw [List.take_range, hsum, Nat.min_eq_left (by omega), Nat.zero_add]) (by rw [hsum, ok1, Nat.zero_add]) (by omega) (fun i hi => by
            have hi := List.mem_range.1 hi
            have h1 := hxs i hi
            have hlt : i < xs.length := by omega
            rw [List.getElem?_eq_getElem hlt] at h1
            obtain ⟨s, r1, r2, r3, r4⟩ := ih n e _ _ ok.2 h1
            refine ⟨s, r1, r2, r3, Shp.mono ?_ n r4⟩
            have : bk xs[i].1 ≤ bk (.agg (xs.map (·.1))) := hb.part _ _ (List.mem_map.2 ⟨xs[i], by simp, rfl⟩)
            omega)
          simp only [List.drop_zero, Nat.sub_zero, ← hcl, List.take_length] at this
          rw [← hcl]
          exact this
        | _ => cases ok

/-- An argument. -/
def argSV (P : Program) (t : TypeId) (ss : List SV) : SV := match P.underlying t with
  | some (.struct _) => .agg ss
  | some (.array _ _) => .agg ss
  | _ => ss.headD (.v undef)
def ShpAll (P : Program) (B n : Nat) : List TypeId → List (List SV) → Prop
  | [], sss => sss = []
  | t :: ts, sss => ∃ ss rest, sss = ss :: rest ∧ Shp P B n t ss ∧ ShpAll P B n ts rest
def argSVs (P : Program) : List TypeId → List (List SV) → List SV
  | t :: ts, ss :: sss => argSV P t ss :: argSVs P ts sss
  | _, _ => []
theorem args_sv {bk : DataW H → Nat} (hb : Bulk bk) (n B : Nat) : ∀ (ts : List TypeId) (vs : List Value) (ds : List (DataW H)) (ps : List MemPlace),
    (∀ t ∈ ts, okT P n t = true) → (∀ (j : Nat) t v, ts[j]? = some t → vs[j]? = some v → ∃ base, Value.okWide P w .any base t v) → (∀ d ∈ ds, min maxLen (bk d) ≤ B) → DataW.TrodAll enc P w 0 (fun _ => true) true ts vs ds ps →
    ∃ sss, ShpAll P B n ts sss ∧ SV.rels (memOf w) (argSVs P ts sss) vs
  | [], [], [], _, _, _, _, _ => ⟨[], rfl, rels_nil.2 rfl⟩
  | t :: ts, v :: vs, d :: ds, ps, ok, hv, hd, h => by
    obtain ⟨p, q, ⟨fuel, h1⟩, h2, rfl⟩ := h
    obtain ⟨sss, g1, g2⟩ := args_sv hb n B ts vs ds q (fun t' h' => ok t' (List.mem_cons_of_mem _ h')) (fun j t' v' e1 e2 => hv (j + 1) t' v' (by simpa using e1) (by simpa using e2)) (fun d' h' => hd d' (List.mem_cons_of_mem _ h')) h2
    obtain ⟨ss, r1, r2, r3, r4⟩ := trod_sv hb fuel n t _ _ (ok t List.mem_cons_self) h1
    have r4 := Shp.mono (hd d List.mem_cons_self) n r4
    refine ⟨ss :: sss, ⟨ss, sss, rfl, r4, g1⟩, rels_cons'.2 ⟨?_, g2⟩⟩
    obtain ⟨base, hv0⟩ := hv 0 t v (by simp) (by simp)
    unfold argSV
    unfold Value.okWide at hv0
    have okt := ok t List.mem_cons_self
    cases n with
    | zero => cases okt
    | succ n =>
    unfold okT at okt
    cases hu : P.underlying t with
    | none => rw [hu] at okt; cases okt
    | some D =>
      rw [hu] at hv0 okt
      have one : P.cellsOf t = 1 → (∀ cs, v ≠ .agg cs) → SV.rel (memOf w) (ss.headD (.v undef)) v := by
        intro hc hna
        have hcells : v.cells.toList = [v] := by cases v <;> first | rfl | exact absurd rfl (hna _)
        rw [hcells] at r1
        rw [hc] at r3
        match ss, r3, r1 with
        | [s], _, r1 => exact (rels_cons'.1 r1).1
      cases D with
      | struct fs =>
        obtain ⟨cs, rfl, _⟩ := hv0
        simp only [SV.rel]
        exact ⟨cs, rfl, r1, r2⟩
      | array m e =>
        obtain ⟨cs, rfl, _⟩ := hv0
        simp only [SV.rel]
        exact ⟨cs, rfl, r1, r2⟩
      | bool => exact one (Nat.eq_of_beq_eq_true okt) (fun cs e => by subst e; simp [Cell.okWide, Cell.ok, hu] at hv0)
      | int k => exact one (Nat.eq_of_beq_eq_true okt) (fun cs e => by subst e; simp [Cell.okWide, Cell.ok, hu] at hv0)
      | string => exact one (Nat.eq_of_beq_eq_true okt) (fun cs e => by subst e; simp [Cell.okWide, Cell.ok, hu] at hv0)
      | slice e =>
        simp only [Bool.and_eq_true] at okt
        exact one (Nat.eq_of_beq_eq_true okt.1.1) (fun cs e => by subst e; simp [Cell.okWide, Cell.ok, hu] at hv0)
      | _ => cases okt
  | [], _ :: _, _, _, _, _, _, h => by cases h
  | [], [], _ :: _, _, _, _, _, h => by cases h
  | _ :: _, [], _, _, _, _, _, h => by cases h
  | _ :: _, _ :: _, [], _, _, _, _, h => by cases h

theorem keep_keptBut {W W' : World} (h : Keep [] W W') (may : MemPlace → Prop) : W.keptBut W' may := by
  refine ⟨h.os, h.output, fun i hi => ?_⟩
  rw [h.block i hi (by simp)]
  cases W.heap[i]? with
  | none => rfl
  | some o =>
    cases o with
    | cells c t fr => exact ⟨rfl, rfl, rfl, fun _ _ => rfl⟩
    | map es clock => exact .inr ⟨rfl, rfl⟩
    | _ => rfl
theorem keep_sameAt {W W' : World} (h : Keep [] W W') (p : MemPlace) (hp : p.block < W.heap.size) : W.sameAt W' p := by
  have hb := h.block p.block hp (by simp)
  cases p with
  | cell b o => exact World.cell?_of_block (w := W) hb
  | map b => exact hb
theorem trodAll_keep (hl : laidOutB P = true) {W W' : World} (hk : Keep [] W W') {sp : Nat → Bool} : ∀ {ts : List TypeId} {vs : List Value} {ds : List (DataW H)} {ps : List MemPlace},
    (∀ t ∈ ts, P.readableRec t = true ∧ t < P.types.size) → (∀ p ∈ ps, sp p.block = true) → (∀ p ∈ ps, p.block < W.heap.size) → DataW.TrodAll enc P W 0 (fun _ => true) true ts vs ds ps → DataW.TrodAll enc P W' 0 sp true ts vs ds ps
  | [], [], [], _, _, _, _, h => h
  | t :: ts, v :: vs, d :: ds, ps, hr, hsp, hlt, h => by
    obtain ⟨p, q, h1, h2, rfl⟩ := h
    refine ⟨p, q, ?_, trodAll_keep hl hk (fun t' h' => hr t' (List.mem_cons_of_mem _ h')) (fun x hx => hsp x (List.mem_append_right _ hx)) (fun x hx => hlt x (List.mem_append_right _ hx)) h2, rfl⟩
    obtain ⟨r1, r2⟩ := hr t List.mem_cons_self
    exact WideElems.Trod_stays hl r1 r2 h1 (fun x hx => keep_sameAt hk x (hlt x (List.mem_append_left _ hx))) (fun x hx => hsp x (List.mem_append_left _ hx))
  | [], _ :: _, _, _, _, _, _, h => by cases h
  | [], [], _ :: _, _, _, _, _, h => by cases h
  | _ :: _, [], _, _, _, _, _, h => by cases h
  | _ :: _, _ :: _, [], _, _, _, _, h => by cases h

/-- A law: it answers true, and its arguments stay. -/
theorem law_calls {f : FuncId} {fn : Func} {s : ChangeSpec} {bk : DataW H → Nat} (hb : Bulk bk) (n B : Nat) (hl : laidOutB P = true) {tb : TypeId} (hres : fn.resultTypes = #[tb]) (htb : P.underlying tb = some .bool) (hvars : s.vars = [])
    (hts : fn.params.toList.all (fun t => okT P n t && P.readableRec t && Nat.blt t P.types.size) = true)
    {W : World} {base : Nat} {args : Array Value} {ds gs : List (DataW H)} {before : List MemPlace} (hfn : s.fn H (ds ++ gs) = { results := [.lit (.bool true)], args := ds, vars := [] })
    (hval : ∀ (j : Nat) t v, fn.params[j]? = some t → args[j]? = some v → Value.okWide P W .any base t v) (hW : DataW.Whole enc P fn.params.toList s.vars false W args.toList ds gs before) (hB : ∀ d ∈ ds, min maxLen (bk d) ≤ B)
    (spec : ∀ sss, ShpAll P B n fn.params.toList sss → Spec P f (argSVs P fn.params.toList sss) [] (memOf W) (fun s _ _ => s = .v (.bool true))) :
    Calls P f args W fun e W' => ∃ v, e = .returned v ∧ s.post enc P fn false true false false W args v W' := by
  have hW' := hW
  have hlt := hW.lt
  obtain ⟨p, q, hA, hV, rfl, _, _⟩ := hW
  rw [hvars] at hV
  obtain ⟨rfl, rfl⟩ := trodVars_none hV
  simp only [List.all_eq_true, Bool.and_eq_true] at hts
  obtain ⟨sss, h1, h2⟩ := args_sv hb n B fn.params.toList args.toList ds p (fun t h => (hts t h).1.1) (fun j t v e1 e2 => ⟨base, hval j t v (by simpa using e1) (by simpa using e2)⟩) hB hA
  have hc := spec sss h1 W args.toList h2 (memOf_holds W) (fun _ h => by cases h) List.nodup_nil
  rw [Array.toArray_toList] at hc
  refine hc.mono ?_
  rintro e W' ⟨x, sv, L', M', rfl, hr, rfl, R⟩
  rw [rel_v] at hr
  subst hr
  have hk : Keep [] W W' := R.keep
  refine ⟨_, rfl, ds, [], p ++ [], [], p, [], hW', ?_, ?_, ?_, keep_keptBut hk _, fun h => by cases h⟩
  · rw [hfn, hres]
    exact ⟨[], [], shut_bool htb _, rfl, rfl⟩
  · rw [hfn]
    exact trodAll_keep hl hk (fun t h => ⟨(hts t h).1.2, Nat.blt_eq ▸ (hts t h).2⟩) (fun x hx => by simpa using hlt x (by simpa using hx)) (fun x hx => hlt x (by simpa using hx)) hA
  · rw [hfn, hvars]
    rfl
end

/-! ### The shapes of arguments, opened -/
theorem shp_bool {P : Program} {B n : Nat} {t : TypeId} {ss : List SV} (hu : P.underlying t = some .bool) (h : Shp P B (n + 1) t ss) : ∃ b, ss = [.v (.bool b)] := by
  unfold Shp at h; rw [hu] at h; exact h
theorem shp_int {P : Program} {B n : Nat} {t : TypeId} {k : IntKind} {ss : List SV} (hu : P.underlying t = some (.int k)) (h : Shp P B (n + 1) t ss) : ∃ z, ss = [.v (.int k z)] ∧ (Lit.int k z).wf = true := by
  unfold Shp at h; rw [hu] at h; exact h
theorem shp_str {P : Program} {B n : Nat} {t : TypeId} {ss : List SV} (hu : P.underlying t = some .string) (h : Shp P B (n + 1) t ss) : ∃ s, ss = [.v (.string s)] ∧ s.size ≤ B := by
  unfold Shp at h; rw [hu] at h; exact h
theorem shp_slice {P : Program} {B n : Nat} {t e : TypeId} {ss : List SV} (hu : P.underlying t = some (.slice e)) (h : Shp P B (n + 1) t ss) : ∃ es, ss = [.sl (P.cellsOf e) es] ∧ es.length ≤ B ∧ ∀ c ∈ es, Shp P B n e c := by
  unfold Shp at h; rw [hu] at h; exact h
theorem shp_struct {P : Program} {B n : Nat} {t : TypeId} {fs : Array Field} {ss : List SV} (hu : P.underlying t = some (.struct fs)) (h : Shp P B (n + 1) t ss) : Cat (fun (f : Field) ss => Shp P B n f.type ss) fs.toList ss := by
  unfold Shp at h; rw [hu] at h; exact h
theorem shp_array {P : Program} {B n m : Nat} {t e : TypeId} {ss : List SV} (hu : P.underlying t = some (.array m e)) (h : Shp P B (n + 1) t ss) : Cat (fun _ ss => Shp P B n e ss) (List.range m) ss := by
  unfold Shp at h; rw [hu] at h; exact h
theorem all_ints {k : IntKind} : ∀ {es : List (List SV)}, (∀ c ∈ es, ∃ z, c = [.v (.int k z)] ∧ (Lit.int k z).wf = true) → ∃ xs : List Int, es = ns k xs ∧ ∀ x ∈ xs, (Lit.int k x).wf = true
  | [], _ => ⟨[], rfl, by simp⟩
  | e :: es, h => by
    obtain ⟨z, rfl, hz⟩ := h e List.mem_cons_self
    obtain ⟨xs, rfl, hx⟩ := all_ints (es := es) (fun c hc => h c (List.mem_cons_of_mem _ hc))
    exact ⟨z :: xs, rfl, by simpa using ⟨hz, hx⟩⟩
/-- A slice of numbers. -/
theorem shp_ints {P : Program} {B n : Nat} {t e : TypeId} {k : IntKind} {ss : List SV} (hu : P.underlying t = some (.slice e)) (he : P.underlying e = some (.int k)) (hc : P.cellsOf e = 1) (h : Shp P B (n + 2) t ss) : ∃ xs : List Int, ss = [.sl 1 (ns k xs)] ∧ xs.length ≤ B ∧ ∀ x ∈ xs, (Lit.int k x).wf = true := by
  obtain ⟨es, rfl, hl, h⟩ := shp_slice hu h
  obtain ⟨xs, rfl, hx⟩ := all_ints fun c hm => shp_int he (h c hm)
  rw [ns_length] at hl
  exact ⟨xs, by rw [hc], hl, hx⟩
theorem trodAll_len {H : Type} {enc : TypeId × Value → H} {P : Program} {w : World} {base : Nat} {sp : Nat → Bool} {held : Bool} : ∀ {ts : List TypeId} {vs : List Value} {ds : List (DataW H)} {ps : List MemPlace}, DataW.TrodAll enc P w base sp held ts vs ds ps → ds.length = ts.length
  | [], [], [], _, _ => rfl
  | _ :: _, _ :: _, _ :: _, _, ⟨_, _, _, h, _⟩ => by simp [trodAll_len h]
  | [], _ :: _, _, _, h => by cases h
  | [], [], _ :: _, _, h => by cases h
  | _ :: _, [], _, _, h => by cases h
  | _ :: _, _ :: _, [], _, h => by cases h
end Go.Eng

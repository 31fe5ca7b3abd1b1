/- Building structs, arrays and slices; appending; slicing. -/
import Derived.Test.YtpakkedlfoapeaaDoorEngF
namespace Go.Eng
open Go

section
variable {G : Ctx} {E : Env} {L : List Res} {M : Mem} {o : Oper} {ops : Array Oper} {rest : List Oper} {K : KPost}

/-! ### fill -/
theorem foldl_set (off : Nat) : ∀ (vs : List Value) (j : Nat) (cs : Array Value), off + j + vs.length ≤ cs.size →
    ((vs.zipIdx j).foldl (fun cs (x : Value × Nat) => cs.setIfInBounds (off + x.2) x.1) cs).toList = cs.toList.take (off + j) ++ vs ++ cs.toList.drop (off + j + vs.length)
  | [], j, cs, _ => by simp
  | v :: vs, j, cs, h => by
    simp only [List.length_cons] at h
    rw [List.zipIdx_cons, List.foldl_cons]
    have := foldl_set off vs (j + 1) (cs.setIfInBounds (off + j) v) (by simp; omega)
    rw [this]
    apply List.ext_getElem?
    intro i
    simp only [Array.toList_setIfInBounds, List.getElem?_append, List.length_take, List.getElem?_take, List.getElem?_drop, List.getElem?_set, Array.length_toList, List.length_append, List.length_cons, List.length_set, List.getElem?_cons]
    repeat' split
    all_goals first
      | rfl
      | omega
      | (congr 1; omega)
      | simp_all

def fillSV (place : Nat → Option (Nat × Nat)) (cells : List SV) : List (Nat × SV) → Option (List SV)
  | [] => some cells
  | (i, s) :: rest => match place i with
    | none => none
    | some (off, size) => bif Nat.beq (cellsOf s).length size && Nat.ble (off + (cellsOf s).length) cells.length && oneSV s then fillSV place (splice cells off (cellsOf s)) rest else none
theorem splice_length {cs ds : List SV} {off : Nat} (h : off + ds.length ≤ cs.length) : (splice cs off ds).length = cs.length := by
  unfold splice
  simp
  omega
def PRel (M : Mem) : List (Nat × SV) → List (Nat × Value) → Prop
  | [], qs => qs = []
  | p :: ps, qs => ∃ q qs', qs = q :: qs' ∧ (p.1 = q.1 ∧ SV.rel M p.2 q.2) ∧ PRel M ps qs'
theorem fill_rel {M : Mem} {place : Nat → Option (Nat × Nat)} : ∀ (ps : List (Nat × SV)) (qs : List (Nat × Value)) (cs : List SV) (vs : Array Value) (cs' : List SV),
    PRel M ps qs → SV.rels M cs vs.toList → (∀ v ∈ vs.toList, v.oneCell' = true) → fillSV place cs ps = some cs' →
    ∃ vs', Instr.fill place vs qs = some vs' ∧ SV.rels M cs' vs'.toList ∧ (∀ v ∈ vs'.toList, v.oneCell' = true) := by
  intro ps
  induction ps with
  | nil =>
    intro qs cs vs cs' hf hr h1 e
    simp only [PRel] at hf
    subst hf
    cases e
    exact ⟨vs, rfl, hr, h1⟩
  | cons p ps ih =>
    intro qs cs vs cs' hf hr h1 e
    simp only [PRel] at hf
    obtain ⟨q, qs, rfl, hpq, hf⟩ := hf
    · obtain ⟨i, s⟩ := p
      obtain ⟨j, x⟩ := q
      obtain ⟨rfl, hrel⟩ := hpq
      simp only [fillSV] at e
      cases hp : place i with
      | none => rw [hp] at e; cases e
      | some os =>
        obtain ⟨off, size⟩ := os
        rw [hp] at e
        dsimp only at e
        cases hc : (Nat.beq (cellsOf s).length size && Nat.ble (off + (cellsOf s).length) cs.length && oneSV s) with
        | false => simp only [hc] at e; cases e
        | true =>
          simp only [hc, cond_true] at e
          simp only [Bool.and_eq_true] at hc
          obtain ⟨⟨c1, c2⟩, c3⟩ := hc
          have c1 := Nat.eq_of_beq_eq_true c1
          have c2 := Nat.le_of_ble_eq_true c2
          obtain ⟨r1, r2⟩ := rel_cells (x := x) hrel c3
          have l1 : (cellsOf s).length = x.cells.toList.length := rels_length r1
          have l2 := rels_length hr
          have lv : vs.toList.length = vs.size := by simp
          have lx : x.cells.toList.length = x.cells.size := by simp
          have hfold : (x.cells.zipIdx.foldl (fun cs (c, j) => cs.setIfInBounds (off + j) c) vs).toList = vs.toList.take off ++ x.cells.toList ++ vs.toList.drop (off + x.cells.toList.length) := by
            have := foldl_set off x.cells.toList 0 vs (by omega)
            simp only [Nat.add_zero] at this
            rw [← this, ← Array.foldl_toList, Array.toList_zipIdx]
          obtain ⟨vs', f1, f2, f3⟩ := ih qs (splice cs off (cellsOf s)) (x.cells.zipIdx.foldl (fun cs (c, j) => cs.setIfInBounds (off + j) c) vs) cs' hf (by
            rw [hfold]
            unfold splice
            rw [l1]
            exact rels_append (rels_append (rels_take off hr) r1) (rels_drop _ hr)) (by
            rw [hfold]
            intro v hv
            simp only [List.mem_append] at hv
            rcases hv with (hv | hv) | hv
            · exact h1 v (List.mem_of_mem_take hv)
            · exact r2 v hv
            · exact h1 v (List.mem_of_mem_drop hv)) e
          refine ⟨vs', ?_, f2, f3⟩
          simp only [Instr.fill, hp]
          rw [if_neg (by simp; omega)]
          exact f1

/-- The parts of a literal. -/
def evParts (E : Env) : List (Nat × Operand) → Option (List (Nat × SV))
  | [] => some []
  | (i, x) :: ps => match evO E x with
    | some s => match evParts E ps with
      | some ss => some ((i, s) :: ss)
      | none => none
    | none => none
theorem evParts_rel {M : Mem} {a : Act} (h : EnvOk M E a.tmps) : ∀ {ps : List (Nat × Operand)} {ss : List (Nat × SV)}, evParts E ps = some ss → PRel M ss (ps.map fun p => (p.1, a.eval p.2))
  | [], ss, e => by cases e; rfl
  | (i, x) :: ps, ss, e => by
    simp only [evParts] at e
    split at e
    · rename_i s hs
      split at e
      · rename_i ts ht
        cases e
        exact ⟨_, _, rfl, ⟨rfl, evO_rel h hs⟩, evParts_rel h ht⟩
      · cases e
    · cases e
/-- Where the fields of a struct lie. -/
def fldPlaces (P : Program) (T : Nat) : Option (List (Nat × Nat)) :=
  match P.underlying T with
  | some (.struct fs) => fs.toList.mapM fun f => ((P.info? f.type).map fun i => (f.offset, i.size))
  | _ => none
class StT (P : Program) (T : Nat) (pl : outParam (List (Nat × Nat))) : Prop where
  out : fldPlaces P T = some pl
theorem mapM_places {P : Program} (w : World) : ∀ (fs : List Field) (pl : List (Nat × Nat)), (fs.mapM fun f => ((P.info? f.type).map fun i => (f.offset, i.size))) = some pl →
    (fs.mapM fun f => (do pure (f.offset, ← sizeOf f.type) : Sem (Nat × Nat))).run P w = .ok pl w
  | [], pl, h => by simp at h; subst h; simp
  | f :: fs, pl, h => by
    rw [List.mapM_cons] at h ⊢
    cases hi : P.info? f.type with
    | none => simp [hi] at h
    | some i =>
      cases hr : (fs.mapM fun f => ((P.info? f.type).map fun i => (f.offset, i.size))) with
      | none => simp [hi, hr] at h
      | some ps =>
        simp [hi, hr] at h
        subst h
        have := mapM_places w fs ps hr
        have h1 : (sizeOf f.type).run P w = .ok i.size w := by simp [sizeOf, typeInfo, hi]
        simp only [Sem.run_bind, h1, Result.andThen_ok, Sem.run_pure]
        rw [show (fs.mapM fun f => (do pure (f.offset, ← sizeOf f.type) : Sem (Nat × Nat))).run P w = .ok ps w from this]
        rfl
theorem still_build_st {T : TypeId} {sz by_ : Nat} {z : Value} {pl : List (Nat × Nat)} [t : Ty G.P T .struct sz by_ z] [st : StT G.P T pl] {parts : Array (Nat × Operand)} {ss : List (Nat × SV)} {cs : List SV} (ho : o.op = .build T parts) (es : evParts E parts.toList = some ss)
    (hz : z.cells.toList.all Value.oneCell' = true) (hf : fillSV (fun i => pl[i]?) (zeroCs z) ss = some cs) : Still G o E L M (.agg cs) := fun a w h _ _ => by
  obtain ⟨vs, f1, f2, f3⟩ := fill_rel (place := fun i => pl[i]?) ss _ (zeroCs z) z.cells cs (evParts_rel h es) (rels_vals _) (List.all_eq_true.1 hz) hf
  refine ⟨.agg vs, by simp only [SV.rel]; exact ⟨vs, rfl, f2, f3⟩, fun w' _ _ => ?_⟩
  have hpl := st.out
  unfold fldPlaces at hpl
  split at hpl
  · rename_i fs hu
    have hm := mapM_places (P := G.P) w' fs.toList pl hpl
    have hm2 : (fs.mapM fun f => (do pure (f.offset, ← sizeOf f.type) : Sem (Nat × Nat))).run G.P w' = .ok pl.toArray w' := by
      rw [show fs = fs.toList.toArray by simp, List.mapM_toArray]
      simp only [Sem.run_map, hm, Result.andThen_ok]
    have hparts : (parts.map fun (i, x) => (i, a.eval x)).toList = parts.toList.map fun p => (p.1, a.eval p.2) := by simp
    have hpp : (fun i : Nat => (pl.toArray)[i]?) = fun i : Nat => pl[i]? := by funext i; simp
    simp only [execOp, ho, Instr.build, Sem.run_bind, run_zero' t, Result.andThen_ok, run_underlying hu, hm2, hparts, hpp, f1, Sem.run_pure]
  · cases hpl
theorem still_build_arr {T : TypeId} {n el len esz sz by_ : Nat} {z : Value} [t : Ty G.P T (.arr n el) sz by_ z] [at_ : ArrT G.P T len esz] {parts : Array (Nat × Operand)} {ss : List (Nat × SV)} {cs : List SV} (ho : o.op = .build T parts) (es : evParts E parts.toList = some ss)
    (hz : z.cells.toList.all Value.oneCell' = true) (hf : fillSV (fun i => some (i * esz, esz)) (zeroCs z) ss = some cs) : Still G o E L M (.agg cs) := fun a w h _ _ => by
  obtain ⟨vs, f1, f2, f3⟩ := fill_rel (place := fun i => some (i * esz, esz)) ss _ (zeroCs z) z.cells cs (evParts_rel h es) (rels_vals _) (List.all_eq_true.1 hz) hf
  refine ⟨.agg vs, by simp only [SV.rel]; exact ⟨vs, rfl, f2, f3⟩, fun w' _ _ => ?_⟩
  obtain ⟨e, i, h1, h2, h3⟩ := at_.get
  have hparts : (parts.map fun (i, x) => (i, a.eval x)).toList = parts.toList.map fun p => (p.1, a.eval p.2) := by simp
  simp only [execOp, ho, Instr.build, Sem.run_bind, run_zero' t, Result.andThen_ok, run_underlying h1, sizeOf, typeInfo, run_program, h2, Sem.run_pure, h3, hparts, f1]
end
end Go.Eng

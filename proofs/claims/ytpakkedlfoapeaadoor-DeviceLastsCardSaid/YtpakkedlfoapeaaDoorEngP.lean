/- Cuts; what is known of an argument; what was read only and is written now; contracts told anew; comparisons of errors and pointers. -/
import Derived.Test.YtpakkedlfoapeaaDoorEngO
import Derived.LaidEql
namespace Go.Eng
open Go

section
variable {G : Ctx} {E : Env} {L : List Res} {M : Mem} {o : Oper} {ops : Array Oper} {rest : List Oper} {K : KPost} {Q : Post}

/-- Two statements, and what stands behind them: the ways are joined there. -/
theorem w_cut2 {x y z : Code} {σ : Type} (env : σ → Env) (res : σ → List Res) (ok : σ → Mem → Prop)
    (h1 : W G x E L M (thenQ (fun E1 L1 M1 => W G y E1 L1 M1 (thenQ (fun E' L' M' => ∃ s, SubE E' (env s) ∧ L' = res s ∧ M.le M' ∧ ok s M') Q)) Q)) (h2 : ∀ s M', M.le M' → ok s M' → W G z (env s) (res s) M' Q) : W G (.seq x (.seq y z)) E L M Q := by
  refine w_seq (w_mono h1 ?_)
  intro ex E1 L1 M1 hq
  cases ex with
  | normal =>
    refine w_seq (w_mono hq ?_)
    intro ex2 E2 L2 M2 hq2
    cases ex2 with
    | normal =>
      obtain ⟨s, hs, rfl, hl, hok⟩ := hq2
      exact w_subE (env s) hs (h2 s M2 hl hok)
    | _ => exact hq2
  | _ => exact hq
theorem w_cut1 {x z : Code} {σ : Type} (env : σ → Env) (res : σ → List Res) (ok : σ → Mem → Prop)
    (h1 : W G x E L M (thenQ (fun E' L' M' => ∃ s, SubE E' (env s) ∧ L' = res s ∧ M.le M' ∧ ok s M') Q)) (h2 : ∀ s M', M.le M' → ok s M' → W G z (env s) (res s) M' Q) : W G (.seq x z) E L M Q := w_join env res ok h1 h2

/-- What is known from the beginning holds still. -/
theorem w_know {c : Code} {i : Nat} {x : Value} {s : SV} (hx : SV.rel G.M0 s x) (e : look E i = some (.v x) := by rfl) (k : W G c ((i, s) :: E) L M Q) : W G c E L M Q := fun a w st => k a w { st with
  env := fun j t h => by
    simp only [look] at h
    cases hb : Nat.beq i j with
    | true =>
      rw [hb] at h
      have := Nat.eq_of_beq_eq_true hb
      subst this
      simp only [cond_true, Option.some.injEq] at h
      subst h
      obtain ⟨y, hy, hr⟩ := st.env i _ e
      rw [rel_v] at hr
      subst hr
      exact ⟨_, hy, hx.mono st.le⟩
    | false => rw [hb] at h; exact st.env j t h }
/-- A contract told anew: its answer reads as something else as well, less is owned. -/
theorem Spec.told {P : Program} {f : FuncId} {ss : List SV} {L : List Res} {M : Mem} {Φ Ψ : SV → List Res → Mem → Prop} (h : Spec P f ss L M Φ)
    (k : ∀ s L' M', M.le M' → Φ s L' M' → ∃ s2 L2, (∀ x, SV.rel M' s x → SV.rel M' s2 x) ∧ L2.Sublist L' ∧ Ψ s2 L2 M') : Spec P f ss L M Ψ := fun w xs h1 h2 h3 h4 =>
  (h w xs h1 h2 h3 h4).mono fun _ _ ⟨x, s, L', M', he, hr, hΦ, R⟩ => by
    obtain ⟨s2, L2, g1, g2, g3⟩ := k s L' M' R.le hΦ
    exact ⟨x, s2, L2, M', he, g1 x hr, g3, { R with
      res := fun r hr => R.res r (g2.subset hr)
      nodup := R.nodup.sublist (g2.filterMap _)
      own := fun n hn => R.own n ((g2.filterMap _).subset hn) }⟩
/-- The arguments' own values. -/
theorem Spec.exact {P : Program} {f : FuncId} {ss : List SV} {L : List Res} {M : Mem} {Φ : SV → List Res → Mem → Prop} (h : ∀ xs, SV.rels M ss xs → Spec P f (xs.map .v) L M Φ) : Spec P f ss L M Φ := fun w xs h1 h2 h3 h4 =>
  h xs h1 w xs (rels_vals xs) h2 h3 h4

/-! ### What was read only is written now -/
/-- An entry stays where it hangs on nothing of a block. -/
inductive Stay (E : Env) (g : Option Nat) : Env → Prop
  | nil : Stay E g []
  | only {i : Nat} {s : SV} {E' : Env} : look E i = some s → Only s (fun b => some b ≠ g) → Stay E g E' → Stay E g ((i, s) :: E')
  | val {i sz : Nat} {x : Value} {es : List (List SV)} {E' : Env} : look E i = some (.rw x sz es) → Stay E g E' → Stay E g ((i, .v x) :: E')
theorem Stay.env {g : Option Nat} {M' : Mem} {tmps : Array Value} (h : EnvOk M E tmps) (hM : ∀ b, some b ≠ g → ∀ o, M b o = M' b o) : ∀ {E' : Env}, Stay E g E' → EnvOk M' E' tmps := by
  intro E' hs
  induction hs with
  | nil => intro i s e; simp [look] at e
  | @only i s E' h1 h2 _ ih =>
    intro j t e
    simp only [look] at e
    cases hb : Nat.beq i j with
    | true =>
      rw [hb] at e
      have := Nat.eq_of_beq_eq_true hb
      subst this
      simp only [cond_true, Option.some.injEq] at e
      subst e
      obtain ⟨y, hy, hr⟩ := h i _ h1
      exact ⟨y, hy, h2 M M' y hM hr⟩
    | false => rw [hb] at e; exact ih j t e
  | @val i sz x es E' h1 _ ih =>
    intro j t e
    simp only [look] at e
    cases hb : Nat.beq i j with
    | true =>
      rw [hb] at e
      have := Nat.eq_of_beq_eq_true hb
      subst this
      simp only [cond_true, Option.some.injEq] at e
      subst e
      obtain ⟨y, hy, hr⟩ := h i _ h1
      simp only [SV.rel] at hr
      exact ⟨y, hy, rel_v.2 hr.1⟩
    | false => rw [hb] at e; exact ih j t e
/-- What else is owned stays. -/
def StayR (g : Option Nat) : List Res → Prop
  | [] => True
  | .box _ _ _ cs :: L => (∀ s ∈ cs, Only s (fun b => some b ≠ g)) ∧ StayR g L
  | .tail .. :: L => StayR g L
theorem StayR.mem {g : Option Nat} : ∀ {L : List Res}, StayR g L → ∀ {k n T cs}, Res.box k n T cs ∈ L → ∀ s ∈ cs, Only s (fun b => some b ≠ g)
  | .box _ _ _ _ :: _, h, _, _, _, _, hm => by
    cases hm with
    | head => exact h.1
    | tail _ hm => exact StayR.mem h.2 hm
  | .tail x T sz n :: L, h, _, _, _, _, hm => by
    cases hm with
    | tail _ hm => exact StayR.mem (L := L) h hm
theorem w_thaw {c : Code} {v : Value} {T sz n : Nat} {Lr : List Res} (k : Nat) (E' : Env) (hE : Stay E v.ownBlock E') (hR : StayR v.ownBlock Lr)
    (k0 : v = .slice none 0 0 → n = 0 → W G c E' Lr (match v.ownBlock with | some g => M.off g | none => M) Q)
    (k1 : ∀ g cap cs, v = .slice (some ⟨g, 0, none⟩) n cap → n ≤ cap → cs.length = cap * sz → W G c E' (.box k g T cs :: Lr) (M.off g) Q) (hL : L = .tail v T sz n :: Lr := by rfl) : (∀ b o x, G.M0 b o = some x → some b ≠ v.ownBlock) → W G c E L M Q := fun hM0 a w st => by
  subst hL
  rcases st.res _ List.mem_cons_self with ⟨rfl, rfl⟩ | ⟨g, cap, cur, rfl, h1, h2, h3, h4, h5, h6⟩
  · refine k0 rfl rfl a w ?_
    have : (Value.slice none 0 0).ownBlock = none := rfl
    exact { (st.dropRes (List.sublist_cons_self _ _)) with env := hE.env st.env (fun b _ o => rfl) }
  · refine k1 g cap (cur.toList.map .v) rfl h2 (by simp [h4]) a w ?_
    have hown : (Value.slice (some ⟨g, 0, none⟩) n cap).ownBlock = some g := rfl
    rw [hown] at hE hR hM0
    have hagree : ∀ b, some b ≠ some g → ∀ o, M b o = M.off g b o := fun b hb o => by rw [Mem.off_other (fun h => hb (by rw [h]))]
    have hnd := st.nodup
    simp only [nums, List.filterMap_cons, Res.num, hown, List.nodup_cons] at hnd
    exact {
      defers := st.defers
      size := st.size
      env := hE.env st.env hagree
      keep := st.keep
      le := fun b o x e => by
        have hb := hM0 b o x e
        rw [← hagree b hb o]
        exact st.le b o x e
      newc := fun b o x e => by
        by_cases hb : b = g
        · subst hb; rw [Mem.off_same] at e; cases e
        · rw [Mem.off_other hb] at e; exact st.newc b o x e
      mem := fun b o x e => by
        by_cases hb : b = g
        · subst hb; rw [Mem.off_same] at e; cases e
        · rw [Mem.off_other hb] at e; exact st.mem b o x e
      res := by
        intro r hr
        cases hr with
        | head => exact ⟨⟨cur, h1, rels_vals _, h5⟩, fun o => Mem.off_same⟩
        | tail _ hr =>
          have ho := st.res r (List.mem_cons_of_mem _ hr)
          have hne : ∀ m, r.num = some m → m ≠ g := fun m hm he => by subst he; exact hnd.1 (mem_nums hr hm)
          cases r with
          | box k' n' T' cs' =>
            obtain ⟨⟨vs, q1, q2, q3⟩, q4⟩ := ho
            refine ⟨⟨vs, q1, only_rels (StayR.mem hR hr) hagree q2, q3⟩, fun o => ?_⟩
            rw [Mem.off_other (hne n' rfl)]; exact q4 o
          | tail x' T' sz' n' =>
            rcases ho with ho | ⟨g', cap', cur', rfl, q1, q2, q3, q4, q5, q6⟩
            · exact .inl ho
            · exact .inr ⟨g', cap', cur', rfl, q1, q2, q3, q4, q5, fun o v e => by rw [Mem.off_other (hne g' rfl)] at e; exact q6 o v e⟩
      nodup := by
        simp only [nums, List.filterMap_cons, Res.num, List.nodup_cons]
        exact hnd
      own := by
        have := st.own
        simpa only [nums, List.filterMap_cons, Res.num, hown] using this }

/-! ### Comparisons -/
theorem run_ifc_eq {P : Program} {ti tn : TypeId} {ms : Array (String × TypeId)} {i : TypeInfo} {k : IntKind} (a b : Int) (hi : P.underlying ti = some (.interface ms)) (hn : P.underlying tn = some (.int k)) (hinfo : P.info? tn = some i) (hcomp : i.comparable = true) (d : Nat) (w : World) :
    (Op.equalIn (d + 2) ti (.iface tn (.int k a)) (.iface tn (.int k b))).run P w = .ok (decide (a = b)) w := by
  simp [Op.equalIn, run_underlying hi, run_underlying hn, typeInfo, hinfo, hcomp]
  rfl
def cmpB (P : Program) (T : Nat) : Bool := match P.info? T with | some i => i.comparable | none => false
class Cmp (P : Program) (T : Nat) : Prop where
  out : cmpB P T = true
theorem run_eqOf2 {P : Program} {op : BinOp} {T : TypeId} {x y : Value} {b c : Bool} {w : World} (hop : eqRes op b = some c) (h1 : binOp .eql T x y = (do pure (.bool (← Op.equal T x y)))) (h2 : binOp .neq T x y = (do pure (.bool (!(← Op.equal T x y)))))
    (he : ∀ d, (Op.equalIn (d + 2) T x y).run P w = .ok b w) : (binOp op T x y).run P w = .ok (.bool c) w := by
  have h := he 9998
  cases op <;> simp only [eqRes, Option.some.injEq, reduceCtorEq] at hop <;> subst hop
  · rw [h1]
    show ((Op.equalIn 10000 T x y) >>= fun r => pure (.bool r) : Sem Value).run P w = _
    simp only [Sem.run_bind, h, Result.andThen_ok, Sem.run_pure]
  · rw [h2]
    show ((Op.equalIn 10000 T x y) >>= fun r => pure (.bool (!r)) : Sem Value).run P w = _
    simp only [Sem.run_bind, h, Result.andThen_ok, Sem.run_pure]
/-- Two errors that are numbers of one type. -/
theorem still_ifc_eq {T yT tn : Nat} {s1 b1 s2 b2 : Nat} {z1 z2 : Value} {kd : IntKind} [t : Ty G.P T .iface s1 b1 z1] [tt : Ty G.P tn (.int kd) s2 b2 z2] [cm : Cmp G.P tn] {x y : Operand} {op : BinOp} {a b : Int} {c : Bool} (ho : o.op = .binOp op T x y yT) (e : evO E x = some (.ifc tn (.v (.int kd a)))) (ey : evO E y = some (.ifc tn (.v (.int kd b)))) (hop : eqRes op (decide (a = b)) = some c) : Still G o E L M (.v (.bool c)) := fun act w h _ _ =>
  ⟨_, rel_v.2 rfl, fun w' _ _ => by
    have hx := evO_rel h e
    have hy := evO_rel h ey
    simp only [SV.rel] at hx hy
    obtain ⟨zx, hx, hx2⟩ := hx
    obtain ⟨zy, hy, hy2⟩ := hy
    subst hx2
    subst hy2
    obtain ⟨ms, hu⟩ := t.ifc
    obtain ⟨i, hi, _⟩ := tt.info
    have hc : i.comparable = true := by have := cm.out; unfold cmpB at this; rw [hi] at this; exact this
    refine run_eqOp ho ?_ ?_
    · rw [hx, hy]; unfold eqGuard; cases op <;> simp
    · rw [hx, hy]; exact run_eqOf2 hop rfl rfl fun d => run_ifc_eq a b hu tt.int hi hc d w'⟩
theorem Ty.ptr {P : Program} {T el : TypeId} {sz by_ : Nat} {z : Value} (t : Ty P T (.pointer el) sz by_ z) : P.underlying T = some (.pointer el) := by
  obtain ⟨D, h, e⟩ := t.desc
  cases D <;> simp [TK.of] at e
  subst e; exact h
/-- A pointer against nil. -/
theorem still_lp_nil {T yT el : Nat} {s1 b1 : Nat} {z1 : Value} [t : Ty G.P T (.pointer el) s1 b1 z1] {x y : Operand} {op : BinOp} {k n off : Nat} {c : Bool} (ho : o.op = .binOp op T x y yT) (e : evO E x = some (.lp k n off)) (ey : evO E y = some (.v (.pointer none))) (hop : eqRes op false = some c) : Still G o E L M (.v (.bool c)) := fun act w h _ _ =>
  ⟨_, rel_v.2 rfl, fun w' _ _ => by
    have hx := rel_lp.1 (evO_rel h e)
    have hy := rel_v.1 (evO_rel h ey)
    refine run_eqOp ho ?_ ?_
    · rw [hx, hy]; unfold eqGuard; cases op <;> simp
    · rw [hx, hy]; exact run_eqOf hop rfl rfl fun d => by simp [Op.equalIn, run_underlying t.ptr]⟩
theorem still_beq {T yT : TypeId} {x y : Operand} {op : BinOp} {a b c : Bool} {s1 b1 : Nat} {z1 : Value} [t : Ty G.P T .bool s1 b1 z1] (ho : o.op = .binOp op T x y yT) (ex : evO E x = some (.v (.bool a))) (ey : evO E y = some (.v (.bool b))) (hop : eqRes op (decide (a = b)) = some c) : Still G o E L M (.v (.bool c)) := fun act w h _ _ =>
  ⟨_, rel_v.2 rfl, fun w' _ _ => by
    have hx := rel_v.1 (evO_rel h ex)
    have hy := rel_v.1 (evO_rel h ey)
    obtain ⟨D, hD, e3⟩ := t.desc
    have hu : G.P.underlying T = some .bool := by cases D <;> simp [TK.of] at e3; exact hD
    refine run_eqOp ho ?_ ?_
    · rw [hx, hy]; unfold eqGuard; cases op <;> simp
    · rw [hx, hy]; exact run_eqOf hop rfl rfl fun d => by simp [Op.equalIn, run_underlying hu]; rfl⟩
end
end Go.Eng

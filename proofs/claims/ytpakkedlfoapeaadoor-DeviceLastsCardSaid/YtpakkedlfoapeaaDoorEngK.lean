/- Regions that draw their order: what only reads may be done at once; the frame. -/
import Derived.Test.YtpakkedlfoapeaaDoorEngJ
import Derived.Orders
import Derived.Still
namespace Go.Eng
open Go

/-! ### In whatever order, over worlds of a class -/
def opX (P : Program) (ops : Array Oper) (i : Nat) (K : Act → World → Prop) (a : Act) (w : World) : Prop :=
  match ops[i]? with
  | none => K a w
  | some o => if Region.wanted o (yielded ops a.tmps) then o.wp P a w K (fun _ _ _ => False) else K (a.put o.dst undef) w
def wpX (P : Program) (ops : Array Oper) (Q : Act → World → Prop) : Nat → (World → Prop) → Array Bool → Act → World → Prop
  | 0, _, listed, a, w => Region.ready .any ops listed = [] ∧ Q a w
  | fuel + 1, C, listed, a, w =>
    (Region.ready .any ops listed = [] → Q a w) ∧
    ∀ i ∈ Region.ready .any ops listed, opX P ops i (fun a' w' => ∃ C' : World → Prop, (∀ v, C' v → C v) ∧ C' w' ∧ wpX P ops Q fuel C' (listed.setIfInBounds i true) a' w') a w

section
variable {P : Program} {ops : Array Oper} {Q : Act → World → Prop}
theorem op_wp_mono {o : Oper} {a : Act} {w : World} {K K' : Act → World → Prop} {Q Q' : Exit → Act → World → Prop} (h : o.wp P a w K Q) (hK : ∀ a w, K a w → K' a w) (hQ : ∀ e a w, Q e a w → Q' e a w) : o.wp P a w K' Q' := by
  unfold Oper.wp at *
  generalize (execOp a.eval o).run P w = r at *
  cases r with
  | ok n w' =>
    cases n <;> simp only [Oper.upon] at h ⊢ <;>
      first
        | exact hK _ _ h
        | exact Calls.mono h (fun e w'' he => by cases e <;> first | exact hK _ _ he | exact hQ _ _ _ he | (obtain ⟨a, w, hq⟩ := he; exact ⟨a, w, hQ _ _ _ hq⟩))
        | exact Rows.mono h (fun _ _ he => hK _ _ he)
  | halt x w' => cases x <;> simp only [Oper.upon] at h ⊢ <;> first | exact h | exact hQ _ _ _ h
theorem op_wp_strict {o : Oper} {a : Act} {w : World} {K K' : Act → World → Prop} {Q Q' : Exit → Act → World → Prop} (h : o.wp P a w K Q) (hK : ∀ a w, K a w → K' a w) (hp : ∀ c a w, ¬ Q (.panic c) a w) (ho : ∀ a w, ¬ Q .outgrown a w) : o.wp P a w K' Q' := by
  unfold Oper.wp at *
  generalize (execOp a.eval o).run P w = r at *
  cases r with
  | ok n w' =>
    cases n <;> simp only [Oper.upon] at h ⊢ <;>
      first
        | exact hK _ _ h
        | exact Calls.mono h (fun e w'' he => by cases e <;> first | exact hK _ _ he | exact (hp _ _ _ he).elim | (obtain ⟨a, w, hq⟩ := he; exact (ho _ _ hq).elim))
        | exact Rows.mono h (fun _ _ he => hK _ _ he)
  | halt x w' => cases x <;> simp only [Oper.upon] at h ⊢ <;> first | exact h | exact (hp _ _ _ h).elim
theorem opX_mono {i : Nat} {K K' : Act → World → Prop} {a : Act} {w : World} (h : opX P ops i K a w) (hK : ∀ a w, K a w → K' a w) : opX P ops i K' a w := by
  unfold opX at *
  split
  · rename_i ho; simp only [ho] at h; exact hK _ _ h
  · rename_i o ho
    simp only [ho] at h
    split
    · rename_i hw; simp only [hw, if_true] at h; exact op_wp_mono h hK (fun _ _ _ h => h)
    · rename_i hw; simp only [hw] at h; exact hK _ _ h
theorem any_of_wpX {Q' : Exit → Act → World → Prop} (hQ : ∀ a w, Q a w → Q' .normal a w) : ∀ (fuel : Nat) (C : World → Prop) (listed : Array Bool) (a : Act) (w : World), wpX P ops Q fuel C listed a w → wpAny P .any ops Q' fuel listed a w
  | 0, _, _, _, _, h => ⟨h.1, hQ _ _ h.2⟩
  | fuel + 1, C, listed, a, w, h => ⟨fun h0 => hQ _ _ (h.1 h0), fun i hi => by
    have h1 := h.2 i hi
    unfold opX at h1
    unfold wpOp
    split
    · rename_i ho; simp only [ho] at h1; obtain ⟨C', _, _, h2⟩ := h1; exact any_of_wpX hQ fuel C' _ _ _ h2
    · rename_i o ho
      simp only [ho] at h1
      split
      · rename_i hw
        simp only [hw, if_true] at h1
        exact .inl (op_wp_mono h1 (fun a w ⟨C', _, _, h2⟩ => any_of_wpX hQ fuel C' _ _ _ h2) (fun _ _ _ h => h.elim))
      · rename_i hw
        simp only [hw] at h1
        obtain ⟨C', _, _, h2⟩ := h1
        exact any_of_wpX hQ fuel C' _ _ _ h2⟩

/-- The operation yields x in every world of the class. -/
def YX (P : Program) (ops : Array Oper) (C : World → Prop) (o : Oper) (x : Value) (a : Act) : Prop :=
  (Region.wanted o (yielded ops a.tmps) = true ∧ ∀ w, C w → (execOp a.eval o).run P w = .ok (.value x) w) ∨ (Region.wanted o (yielded ops a.tmps) = false ∧ x = undef)
theorem YX.of_same {C C' : World → Prop} {o : Oper} {x : Value} {a a' : Act} (hy : YX P ops C o x a) (hC : ∀ v, C' v → C v) (he : execOp a'.eval o = execOp a.eval o) (hw : Region.wanted o (yielded ops a'.tmps) = Region.wanted o (yielded ops a.tmps)) : YX P ops C' o x a' := by
  unfold YX at *
  rw [he, hw]
  exact hy.imp (fun h => ⟨h.1, fun w hw => h.2 w (hC w hw)⟩) id
theorem YX.opX {C : World → Prop} {i : Nat} {o : Oper} {x : Value} {a : Act} {w : World} (hi : ops[i]? = some o) (hy : YX P ops C o x a) (hC : C w) {K : Act → World → Prop} (h : K (a.put o.dst x) w) : Go.Eng.opX P ops i K a w := by
  unfold Go.Eng.opX
  simp only [hi]
  rcases hy with ⟨hw, hv⟩ | ⟨hw, rfl⟩
  · simp only [hw, if_true, Oper.wp, hv w hC, Oper.upon_value]; exact h
  · simp only [hw, Bool.false_eq_true, if_false]; exact h
theorem put_defers (a : Act) (d : Option Tmp) (v : Value) (ds : List Deferred) : { a.put d v with defers := ds } = ({ a with defers := ds }).put d v := by cases d <;> rfl
/-- An operation that stands apart from another one may be done before it. -/
theorem opX_put {C : World → Prop} {j : Nat} {oi oj : Oper} {x : Value} (hj : ops[j]? = some oj) (hap : oi.apart ops oj = true) (hsi : ∀ cs b, oi.op ≠ .select cs b) (hsj : ∀ cs b, oj.op ≠ .select cs b) {K : Act → World → Prop} {a : Act} {w : World}
    (hy : YX P ops C oi x a) (h : opX P ops j K (a.put oi.dst x) w) : opX P ops j (fun a' w' => YX P ops C oi x a' ∧ K (a'.put oi.dst x) w') a w := by
  obtain ⟨h1, h2, h3⟩ := Oper.apart_spec hap
  have keep : ∀ (a : Act), YX P ops C oi x a → ∀ u, YX P ops C oi x (a.put oj.dst u) := fun a hy u =>
    hy.of_same (fun _ h => h) (execOp_put oi hsi a oj.dst u h3) (wanted_put oi a oj.dst u h3)
  unfold opX at *
  simp only [hj] at *
  rw [wanted_put oj a oi.dst x h1] at h
  split
  · rename_i hw
    simp only [hw, if_true] at h
    unfold Oper.wp at *
    rw [execOp_put oj hsj a oi.dst x h1] at h
    generalize (execOp a.eval oj).run P w = r at *
    cases r with
    | ok n w' =>
      cases n <;> simp only [Oper.upon] at h ⊢
      case value u => exact ⟨keep a hy u, by rw [← Act.put_comm a x u h2]; exact h⟩
      case skip => exact ⟨keep a hy _, by rw [← Act.put_comm a x undef h2]; exact h⟩
      case defer d =>
        refine ⟨?_, ?_⟩
        · have := keep { a with defers := d :: a.defers } (hy.of_same (fun _ h => h) rfl rfl) undef
          exact this
        · have e : ({ a.put oi.dst x with defers := d :: (a.put oi.dst x).defers } : Act) = ({ a with defers := d :: a.defers } : Act).put oi.dst x := by
            rw [put_defers]
            cases oi.dst <;> rfl
          rw [e] at h
          rw [← Act.put_comm _ x undef h2]
          exact h
      case enter f args =>
        refine Calls.mono h fun e w'' he => ?_
        cases e with
        | returned u => exact ⟨keep a hy u, by rw [← Act.put_comm a x u h2]; exact he⟩
        | panicked ch => exact he
        | outgrown => exact he
      case row r args => exact Rows.mono h fun u w'' he => ⟨keep a hy u, by rw [← Act.put_comm a x u h2]; exact he⟩
    | halt hh w' => cases hh <;> simp only [Oper.upon] at h
  · rename_i hw
    simp only [hw] at h
    exact ⟨keep a hy _, by rw [← Act.put_comm a x undef h2]; exact h⟩
/-- What yields the same in every world of the class may be done first. -/
theorem wpX_first {i : Nat} {oi : Oper} {x : Value} (hi : ops[i]? = some oi) (hsel : ∀ (j : Nat) (o : Oper) cs b, ops[j]? = some o → o.op ≠ .select cs b) :
    ∀ (fuel : Nat) (C : World → Prop) (listed : Array Bool) (a : Act) (w : World),
      (∀ j oj, ops[j]? = some oj → j ≠ i → listed.getD j true = false → (∀ e ∈ oj.after, Region.binds .any e = true → e.on ≠ i) → oi.apart ops oj = true) →
      i ∈ Region.ready .any ops listed → C w → YX P ops C oi x a →
      wpX P ops Q fuel C (listed.setIfInBounds i true) (a.put oi.dst x) w → wpX P ops Q (fuel + 1) C listed a w := by
  intro fuel
  induction fuel with
  | zero =>
    intro C listed a w _ hr hC hy H
    refine ⟨fun h => (by rw [h] at hr; cases hr), fun j hj => ?_⟩
    by_cases hji : j = i
    · subst hji; exact hy.opX hi hC ⟨C, fun _ h => h, hC, H⟩
    · have := ready_mono hj hji
      rw [H.1] at this
      cases this
  | succ fuel ih =>
    intro C listed a w hfree hr hC hy H
    refine ⟨fun h => (by rw [h] at hr; cases hr), fun j hj => ?_⟩
    by_cases hji : j = i
    · subst hji; exact hy.opX hi hC ⟨C, fun _ h => h, hC, H⟩
    · have h1 := H.2 j (ready_mono hj hji)
      obtain ⟨hjun, oj, hoj, hall⟩ := mem_ready.1 hj
      have hnot : ∀ e ∈ oj.after, Region.binds .any e = true → e.on ≠ i := fun e he hb heq => by
        have h1 := hall e he hb
        have h0 := (mem_ready.1 hr).1
        rw [heq] at h1
        rcases Nat.lt_or_ge i listed.size with h' | h'
        · simp [h'] at h0 h1; rw [h0] at h1; cases h1
        · simp [Array.getElem?_eq_none h'] at h1
      have h2 := opX_put (C := C) hoj (hfree j oj hoj hji hjun hnot) (fun cs b => hsel i oi cs b hi) (fun cs b => hsel j oj cs b hoj) hy h1
      have hfree' : ∀ k ok, ops[k]? = some ok → k ≠ i → (listed.setIfInBounds j true).getD k true = false →
          (∀ e ∈ ok.after, Region.binds .any e = true → e.on ≠ i) → oi.apart ops ok = true := fun k ok hk hki hun hno => by
        refine hfree k ok hk hki ?_ hno
        by_cases hjk : j = k
        · subst hjk; exact hjun
        · rw [getD_set_ne true hjk] at hun; exact hun
      refine opX_mono h2 fun a' w' ⟨hy', C', hsub, hC', h3⟩ => ⟨C', hsub, hC', ?_⟩
      refine ih C' (listed.setIfInBounds j true) a' w' hfree' (ready_mono hr (Ne.symm hji)) hC' (hy'.of_same hsub rfl rfl) ?_
      rw [Array.setIfInBounds_comm _ _ hji]
      exact h3
end

/-! ### The same with the world hidden -/
/-- The worlds that are like this one in what M and Lr tell. -/
def Cls (M : Mem) (Lr : List Res) (w : World) : World → Prop := fun v => M.Holds v ∧ ∀ r ∈ Lr, ∀ n, r.num = some n → v.heap[n]? = w.heap[n]?
def WA (G : Ctx) (ops : Array Oper) (Lr : List Res) (fuel : Nat) (listed : List Bool) (E : Env) (L1 : List Res) (M : Mem) (K : KPost) : Prop :=
  ∀ a w, St G E (L1 ++ Lr) M a w → wpX G.P ops (fun a w => ∃ E L M, St G E L M a w ∧ K E L M) fuel (Cls M Lr w) listed.toArray a w
/-- The frame: what is set aside. -/
abbrev Ctx.cut (G : Ctx) (L : List Res) (M : Mem) (w : World) : Ctx := ⟨G.P, w, nums L, M, G.N⟩

section
variable {G : Ctx} {E : Env} {L : List Res} {M : Mem} {o : Oper} {ops : Array Oper} {rest : List Oper} {K : KPost}

theorem nums_app (A B : List Res) : nums (A ++ B) = nums A ++ nums B := List.filterMap_append
theorem St.split {L1 Lr : List Res} {a : Act} {w : World} (s : St G E (L1 ++ Lr) M a w) : St (G.cut L1 M w) E L1 M a w where
  defers := s.defers
  size := s.size
  env := s.env
  keep := Keep.refl _ _
  le := Mem.le.refl M
  newc := fun b o v e => .inl e
  mem := s.mem
  res := fun r hr => s.res r (List.mem_append_left _ hr)
  nodup := by have := s.nodup; rw [nums_app] at this; exact (List.nodup_append.1 this).1
  own := fun n hn => .inl hn
theorem St.join {L1 Lr L' : List Res} {a a' : Act} {w w' : World} {E' : Env} {M' : Mem} (s : St G E (L1 ++ Lr) M a w) (s' : St (G.cut L1 M w) E' L' M' a' w') :
    St G E' (L' ++ Lr) M' a' w' ∧ ∀ r ∈ Lr, ∀ n, r.num = some n → w'.heap[n]? = w.heap[n]? := by
  have hnd := s.nodup
  rw [nums_app, List.nodup_append] at hnd
  obtain ⟨n1, n2, n3⟩ := hnd
  have hb : ∀ r ∈ Lr, ∀ n, r.num = some n → w'.heap[n]? = w.heap[n]? := fun r hr n hn =>
    s'.keep.block n ((s.res r (List.mem_append_right _ hr)).lt n hn) fun h => n3 n h n (mem_nums hr hn) rfl
  refine ⟨{
    defers := s'.defers
    size := s'.size
    env := s'.env
    keep := ⟨s'.keep.os.trans s.keep.os, s'.keep.tape.trans s.keep.tape, s'.keep.output.trans s.keep.output, Nat.le_trans s.keep.size s'.keep.size, fun b hb hk => (s'.keep.block b (Nat.lt_of_lt_of_le hb s.keep.size) fun h => by
        rcases s.own b (by rw [nums_app]; exact List.mem_append_left _ h) with h | h
        · exact hk h
        · omega).trans (s.keep.block b hb hk)⟩
    le := s.le.trans s'.le
    newc := by
      intro b o v e
      rcases s'.newc b o v e with h | h | h
      · exact s.newc b o v h
      · exact .inr (s.own b (by rw [nums_app]; exact List.mem_append_left _ h))
      · exact .inr (.inr (Nat.le_trans s.keep.size h))
    mem := s'.mem
    res := by
      intro r hr
      rcases List.mem_append.1 hr with hr | hr
      · exact s'.res r hr
      · refine (s.res r (List.mem_append_right _ hr)).keep s'.le (hb r hr) fun n hn o v e => ?_
        rcases s'.newc n o v e with h | h | h
        · exact h
        · exact absurd rfl (n3 n h n (mem_nums hr hn))
        · exact absurd ((s.res r (List.mem_append_right _ hr)).lt n hn) (Nat.not_lt.2 h)
    nodup := by
      rw [nums_app, List.nodup_append]
      refine ⟨s'.nodup, n2, fun x hx y hy he => ?_⟩
      subst he
      rcases s'.own x hx with h | h
      · exact n3 x h x hy rfl
      · obtain ⟨r, hr, hn⟩ := List.mem_filterMap.1 hy
        exact absurd ((s.res r (List.mem_append_right _ hr)).lt x hn) (Nat.not_lt.2 h)
    own := by
      intro n hn
      rw [nums_app, List.mem_append] at hn
      rcases hn with hn | hn
      · rcases s'.own n hn with h | h
        · exact s.own n (by rw [nums_app]; exact List.mem_append_left _ h)
        · exact .inr (Nat.le_trans s.keep.size h)
      · exact s.own n (by rw [nums_app]; exact List.mem_append_right _ hn) }, hb⟩

theorem w_draw {id : Nat} {l : List Oper} {Q : Post} (Lr L1 : List Res) (hL : L = L1 ++ Lr) (hm : G.P.follows .mixedOrders = true) (n : Nat) (hn : l.length = n) (k : WA G l.toArray Lr n (List.replicate n false) E L1 M (fun E L M => Q .normal E L M)) : W G (.region id l.toArray true) E L M Q := fun a w s => by
  subst hL
  refine wp_region_any hm ?_
  have := k a _ (s.drew (w.drawn + 1))
  have h2 := any_of_wpX (Q' := post G Q) (fun a w ⟨E, L, M, s, q⟩ => ⟨E, L, M, s, q⟩) _ _ _ _ _ this
  subst hn
  simpa using h2
theorem w_sdraw {id : Nat} {l : List Oper} {y : Code} {Q : Post} (Lr L1 : List Res) (hL : L = L1 ++ Lr) (hm : G.P.follows .mixedOrders = true) (n : Nat) (hn : l.length = n) (k : WA G l.toArray Lr n (List.replicate n false) E L1 M (fun E L M => W G y E L M Q)) : W G (.seq (.region id l.toArray true) y) E L M Q :=
  w_seq (w_draw Lr L1 hL hm n hn k)

theorem wa_end {Lr L1 : List Res} {listed : List Bool} {fuel : Nat} (hr : Region.ready .any ops listed.toArray = []) (k : K E (L1 ++ Lr) M) : WA G ops Lr fuel listed E L1 M K := fun a w s => by
  cases fuel with
  | zero => exact ⟨hr, E, _, M, s, k⟩
  | succ n => exact ⟨fun _ => ⟨E, _, M, s, k⟩, fun i hi => by rw [hr] at hi; cases hi⟩
/-- Something that only reads. -/
theorem wa_still {Lr L1 : List Res} {listed : List Bool} {fuel : Nat} (i : Nat) {s : SV} (hi : ops[i]? = some o) (hsel : Region.noSelect ops = true) (hr : (Region.ready .any ops listed.toArray).contains i = true) (hf : Region.free .any ops listed.toArray i = true) (hg : o.guard = none) (hd : dstOk G o = true)
    (h : Still G o E Lr M s) (k : WA G ops Lr fuel (listed.set i true) (putE E o.dst s) L1 M K) : WA G ops Lr (fuel + 1) listed E L1 M K := fun a w st => by
  obtain ⟨x, hx, hrun⟩ := h a w st.env st.mem (fun r hr => st.res r (List.mem_append_right _ hr))
  have h1 := k _ _ (st.put hx hd)
  refine wpX_first hi (Region.noSelect_spec hsel) fuel _ _ a w (Region.free_spec hi hf) (by simpa using hr) ⟨st.mem, fun _ _ _ _ => rfl⟩ (.inl ⟨by simp [Region.wanted, hg], fun w' hw' => hrun w' hw'.1 hw'.2⟩) ?_
  have e : listed.toArray.setIfInBounds i true = (listed.set i true).toArray := by simp
  rw [e]
  exact h1
/-- A guarded one whose guard is decided. -/
theorem wa_gyes {Lr L1 : List Res} {listed : List Bool} {fuel : Nat} (i : Nat) {j g : Nat} {want : Bool} {s : SV} (hi : ops[i]? = some o) (hsel : Region.noSelect ops = true) (hr : (Region.ready .any ops listed.toArray).contains i = true) (hf : Region.free .any ops listed.toArray i = true) (hg : o.guard = some (j, want)) (hj : (ops[j]?).bind (·.dst) = some g) (e : look E g = some (.v (.bool want))) (hd : dstOk G o = true)
    (h : Still G o E Lr M s) (k : WA G ops Lr fuel (listed.set i true) (putE E o.dst s) L1 M K) : WA G ops Lr (fuel + 1) listed E L1 M K := fun a w st => by
  obtain ⟨x, hx, hrun⟩ := h a w st.env st.mem (fun r hr => st.res r (List.mem_append_right _ hr))
  have h1 := k _ _ (st.put hx hd)
  obtain ⟨y, hy, hr2⟩ := st.env g _ e
  rw [rel_v] at hr2
  subst hr2
  refine wpX_first hi (Region.noSelect_spec hsel) fuel _ _ a w (Region.free_spec hi hf) (by simpa using hr) ⟨st.mem, fun _ _ _ _ => rfl⟩ (.inl ⟨by simp only [Region.wanted, hg, yielded, hj, Option.bind_some, hy]; simp, fun w' hw' => hrun w' hw'.1 hw'.2⟩) ?_
  have e : listed.toArray.setIfInBounds i true = (listed.set i true).toArray := by simp
  rw [e]
  exact h1
theorem wa_gno {Lr L1 : List Res} {listed : List Bool} {fuel : Nat} (i : Nat) {j g : Nat} {want b : Bool} (hi : ops[i]? = some o) (hsel : Region.noSelect ops = true) (hr : (Region.ready .any ops listed.toArray).contains i = true) (hf : Region.free .any ops listed.toArray i = true) (hg : o.guard = some (j, want)) (hj : (ops[j]?).bind (·.dst) = some g) (e : look E g = some (.v (.bool b))) (hb : (b == want) = false) (hd : dstOk G o = true)
    (k : WA G ops Lr fuel (listed.set i true) (putE E o.dst (.v undef)) L1 M K) : WA G ops Lr (fuel + 1) listed E L1 M K := fun a w st => by
  have h1 := k _ _ (st.put (o := o) (rel_v.2 rfl) hd)
  obtain ⟨y, hy, hr2⟩ := st.env g _ e
  rw [rel_v] at hr2
  subst hr2
  refine wpX_first (x := undef) hi (Region.noSelect_spec hsel) fuel _ _ a w (Region.free_spec hi hf) (by simpa using hr) ⟨st.mem, fun _ _ _ _ => rfl⟩ (.inr ⟨by simp only [Region.wanted, hg, yielded, hj, Option.bind_some, hy]; cases b <;> cases want <;> simp_all, rfl⟩) ?_
  have e : listed.toArray.setIfInBounds i true = (listed.set i true).toArray := by simp
  rw [e]
  exact h1
theorem wa_split {Lr L1 : List Res} {listed : List Bool} {fuel g : Nat} {b : Bool} (e : look E g = some (.v (.bool b))) (ht : b = true → WA G ops Lr fuel listed ((g, .v (.bool true)) :: E) L1 M K) (hf : b = false → WA G ops Lr fuel listed ((g, .v (.bool false)) :: E) L1 M K) : WA G ops Lr fuel listed E L1 M K := fun a w st => by
  have aux : ∀ c, b = c → St G ((g, .v (.bool c)) :: E) (L1 ++ Lr) M a w := fun c hc => { st with
    env := fun i t h => by
      simp only [look] at h
      cases hb : Nat.beq g i with
      | true =>
        rw [hb] at h
        have : g = i := Nat.eq_of_beq_eq_true hb
        subst this
        simp at h
        subst h
        subst hc
        exact st.env g _ e
      | false => rw [hb] at h; exact st.env i t h }
  cases b with
  | true => exact ht rfl a w (aux true rfl)
  | false => exact hf rfl a w (aux false rfl)
/-- The only one that may come next, whatever it does to what isn't set aside. -/
theorem wa_step {Lr L1 : List Res} {listed : List Bool} {fuel : Nat} (i : Nat) (hi : ops[i]? = some o) (hr : Region.ready .any ops listed.toArray = [i])
    (k : ∀ w, WL (G.cut L1 M w) ops [o] E L1 M (fun E' L' M' => M.le M' → WA G ops Lr fuel (listed.set i true) E' L' M' K)) : WA G ops Lr (fuel + 1) listed E L1 M K := fun a w st => by
  refine ⟨fun h => (by rw [hr] at h; cases h), fun j hj => ?_⟩
  rw [hr] at hj
  simp only [List.mem_singleton] at hj
  subst hj
  have h1 := k w a w st.split
  have e : listed.toArray.setIfInBounds j true = (listed.set j true).toArray := by simp
  have go : ∀ a' w', kpost (G.cut L1 M w) (fun E' L' M' => M.le M' → WA G ops Lr fuel (listed.set j true) E' L' M' K) .normal a' w' →
      ∃ C' : World → Prop, (∀ v, C' v → Cls M Lr w v) ∧ C' w' ∧ wpX G.P ops (fun a w => ∃ E L M, St G E L M a w ∧ K E L M) fuel C' (listed.toArray.setIfInBounds j true) a' w' := by
    rintro a' w' ⟨_, E', L', M', s', hk⟩
    obtain ⟨s2, hb⟩ := st.join s'
    refine ⟨Cls M' Lr w', fun v hv => ⟨fun b o x e => hv.1 b o x (s'.le b o x e), fun r hr n hn => (hv.2 r hr n hn).trans (hb r hr n hn)⟩, ⟨s2.mem, fun _ _ _ _ => rfl⟩, ?_⟩
    rw [e]
    exact hk s'.le a' w' s2
  unfold opX
  simp only [hi]
  unfold wpList at h1
  split
  · rename_i hw
    rw [if_pos hw] at h1
    rcases h1 with h1 | ⟨_, a0, w0, h1, _⟩
    · exact op_wp_strict h1 (fun a' w' h => go a' w' h) (fun _ _ _ h => by cases h.1) (fun _ _ h => by cases h.1)
    · cases h1
  · rename_i hw
    rw [if_neg hw] at h1
    exact go _ _ h1
end
end Go.Eng

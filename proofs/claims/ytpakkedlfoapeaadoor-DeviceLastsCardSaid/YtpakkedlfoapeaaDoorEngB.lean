/- The state of a walk with the world hidden; contracts; rules for code. -/
import Derived.Test.YtpakkedlfoapeaaDoorEngA
namespace Go.Eng
open Go

/-! ### Resources -/
inductive Res where
  | box (k n : Nat) (T : TypeId) (cs : List SV)
  | tail (x : Value) (T : TypeId) (sz : Nat) (n : Nat)
def Res.num : Res → Option Nat
  | .box _ n _ _ => some n
  | .tail x _ _ _ => x.ownBlock
def Res.ok (M : Mem) (w : World) : Res → Prop
  | .box _ n T cs => (∃ vs, w.heap[n]? = some (.cells vs T (0, 0)) ∧ SV.rels M cs vs.toList ∧ (∀ v ∈ vs.toList, v.oneCell' = true)) ∧ ∀ o, M n o = none
  | .tail x T sz n => (x = .slice none 0 0 ∧ n = 0) ∨ ∃ g cap cur, x = .slice (some ⟨g, 0, none⟩) n cap ∧ w.heap[g]? = some (.cells cur T (0, 0)) ∧ n ≤ cap ∧ cap ≤ maxLen ∧ cur.size = cap * sz ∧ (∀ v ∈ cur.toList, v.oneCell' = true) ∧ ∀ o v, M g o = some v → o < n * sz
def nums (L : List Res) : List Nat := L.filterMap Res.num

/-- All that was there and isn't one of K is as it was. -/
structure Keep (K : List Nat) (w w' : World) : Prop where
  os : w'.os = w.os
  tape : w'.tape = w.tape
  output : w'.output = w.output
  size : w.heap.size ≤ w'.heap.size
  block : ∀ b, b < w.heap.size → b ∉ K → w'.heap[b]? = w.heap[b]?
theorem Keep.refl (K : List Nat) (w : World) : Keep K w w := ⟨rfl, rfl, rfl, Nat.le_refl _, fun _ _ _ => rfl⟩
theorem Keep.trans {K : List Nat} {a b c : World} (h : Keep K a b) (k : Keep K b c) : Keep K a c :=
  ⟨k.os.trans h.os, k.tape.trans h.tape, k.output.trans h.output, Nat.le_trans h.size k.size, fun i hi hk => (k.block i (Nat.lt_of_lt_of_le hi h.size) hk).trans (h.block i hi hk)⟩

/-- What stands round a walk: the program, the world that it began in, the blocks that may be written, what is known of memory, how many slots. -/
structure Ctx where
  P : Program
  w0 : World
  K : List Nat
  M0 : Mem
  N : Nat

structure St (G : Ctx) (E : Env) (L : List Res) (M : Mem) (a : Act) (w : World) : Prop where
  defers : a.defers = []
  size : a.tmps.size = G.N
  env : EnvOk M E a.tmps
  keep : Keep G.K G.w0 w
  le : G.M0.le M
  newc : ∀ b o v, M b o = some v → G.M0 b o = some v ∨ b ∈ G.K ∨ G.w0.heap.size ≤ b
  mem : M.Holds w
  res : ∀ r ∈ L, r.ok M w
  nodup : (nums L).Nodup
  own : ∀ n ∈ nums L, n ∈ G.K ∨ G.w0.heap.size ≤ n

theorem Mem.Holds.lt {M : Mem} {w : World} (h : M.Holds w) {b o : Nat} {v : Value} (e : M b o = some v) : b < w.heap.size :=
  World.block_lt_of_cell? w _ (h b o v e).1

/-- How a call ends, told to who called. -/
structure Ret (L0 : List Res) (M : Mem) (w : World) (L' : List Res) (M' : Mem) (w' : World) : Prop where
  le : M.le M'
  mem : M'.Holds w'
  newc : ∀ b o v, M' b o = some v → M b o = some v ∨ b ∈ nums L0 ∨ w.heap.size ≤ b
  res : ∀ r ∈ L', r.ok M' w'
  nodup : (nums L').Nodup
  own : ∀ n ∈ nums L', n ∈ nums L0 ∨ w.heap.size ≤ n
  keep : Keep (nums L0) w w'

/-- A contract. -/
def Spec (P : Program) (f : FuncId) (ss : List SV) (L : List Res) (M : Mem) (Φ : SV → List Res → Mem → Prop) : Prop :=
  ∀ w xs, SV.rels M ss xs → M.Holds w → (∀ r ∈ L, r.ok M w) → (nums L).Nodup →
    Calls P f xs.toArray w fun e w' => ∃ x s L' M', e = .returned x ∧ SV.rel M' s x ∧ Φ s L' M' ∧ Ret L M w L' M' w'

theorem Spec.mono {P : Program} {f : FuncId} {ss : List SV} {L : List Res} {M : Mem} {Φ Ψ : SV → List Res → Mem → Prop} (h : Spec P f ss L M Φ) (k : ∀ s L' M', M.le M' → Φ s L' M' → Ψ s L' M') : Spec P f ss L M Ψ :=
  fun w xs h1 h2 h3 h4 => (h w xs h1 h2 h3 h4).mono fun _ _ ⟨x, s, L', M', he, hr, hΦ, R⟩ => ⟨x, s, L', M', he, hr, k s L' M' R.le hΦ, R⟩

/-! ### Judgements -/
abbrev Post := Exit → Env → List Res → Mem → Prop
def post (G : Ctx) (Q : Post) : Exit → Act → World → Prop := fun ex a w => ∃ E L M, St G E L M a w ∧ Q ex E L M
def W (G : Ctx) (c : Code) (E : Env) (L : List Res) (M : Mem) (Q : Post) : Prop := ∀ a w, St G E L M a w → c.wp G.P (post G Q) a w
abbrev KPost := Env → List Res → Mem → Prop
def kpost (G : Ctx) (K : KPost) : Exit → Act → World → Prop := fun ex a w => ex = .normal ∧ ∃ E L M, St G E L M a w ∧ K E L M
def WL (G : Ctx) (ops : Array Oper) (l : List Oper) (E : Env) (L : List Res) (M : Mem) (K : KPost) : Prop := ∀ a w, St G E L M a w → wpList G.P ops (kpost G K) l a w
def thenQ (N : KPost) (Q : Post) : Post := fun ex E L M => match ex with | .normal => N E L M | _ => Q ex E L M
def blockQ (id : Nat) (Q : Post) : Post := fun ex E L M => match ex with | .exit j => bif Nat.beq j id then Q .normal E L M else Q (.exit j) E L M | _ => Q ex E L M

section
variable {G : Ctx} {E : Env} {L : List Res} {M : Mem} {Q : Post}

theorem w_mono {c : Code} {Q' : Post} (h : W G c E L M Q) (hq : ∀ ex E L M, Q ex E L M → Q' ex E L M) : W G c E L M Q' :=
  fun a w s => wp_mono (h a w s) fun _ _ _ ⟨E', L', M', s', q⟩ => ⟨E', L', M', s', hq _ _ _ _ q⟩
theorem w_skip (h : Q .normal E L M) : W G .skip E L M Q := fun _ _ s => wp_skip ⟨E, L, M, s, h⟩
theorem w_ret (h : Q .ret E L M) : W G .ret E L M Q := fun _ _ s => wp_ret ⟨E, L, M, s, h⟩
theorem w_exit {id : Nat} (h : Q (.exit id) E L M) : W G (.exit id) E L M Q := fun _ _ s => wp_exit ⟨E, L, M, s, h⟩
theorem w_seq {x y : Code} (h : W G x E L M (thenQ (fun E L M => W G y E L M Q) Q)) : W G (.seq x y) E L M Q := fun a w s =>
  wp_seq (wp_mono (h a w s) fun ex a' w' ⟨E', L', M', s', q⟩ => by
    cases ex with
    | normal => exact q a' w' s'
    | _ => exact ⟨E', L', M', s', q⟩)
theorem w_block {id : Nat} {c : Code} (h : W G c E L M (blockQ id Q)) : W G (.block id c) E L M Q := fun a w s =>
  wp_block (wp_mono (h a w s) fun ex a' w' ⟨E', L', M', s', q⟩ => by
    cases ex with
    | exit j =>
      simp only [blockQ] at q
      simp only [Exit.inBlock]
      by_cases hj : j = id
      · rw [if_pos hj]
        rw [(Nat.beq_eq ▸ hj : Nat.beq j id = true)] at q
        exact ⟨E', L', M', s', q⟩
      · rw [if_neg hj]
        have : Nat.beq j id = false := by rw [← Bool.not_eq_true, Nat.beq_eq]; exact hj
        rw [this] at q
        exact ⟨E', L', M', s', q⟩
    | _ => exact ⟨E', L', M', s', q⟩)
theorem w_cond {c : Operand} {x y : Code} {b : Bool} (e : evO E c = some (.v (.bool b))) (ht : b = true → W G x E L M Q) (hf : b = false → W G y E L M Q) : W G (.cond c x y) E L M Q := fun a w s =>
  wp_cond_split (rel_v.1 (evO_rel s.env e)) (fun h => ht h a w s) (fun h => hf h a w s)
theorem w_cond_t {c : Operand} {x y : Code} (e : evO E c = some (.v (.bool true))) (ht : W G x E L M Q) : W G (.cond c x y) E L M Q := w_cond e (fun _ => ht) (fun h => by cases h)
theorem w_cond_f {c : Operand} {x y : Code} (e : evO E c = some (.v (.bool false))) (ht : W G y E L M Q) : W G (.cond c x y) E L M Q := w_cond e (fun h => by cases h) (fun _ => ht)
theorem w_region {id : Nat} {l : List Oper} (h : WL G l.toArray l E L M (fun E L M => Q .normal E L M)) : W G (.region id l.toArray false) E L M Q := fun a w s => by
  have := h a w s
  refine wp_region_lit ?_
  refine wp_list_mono this ?_
  rintro ex a w ⟨rfl, E', L', M', s', q⟩
  exact ⟨E', L', M', s', q⟩
where
  wp_list_mono {P : Program} {ops : Array Oper} {Q Q' : Exit → Act → World → Prop} : ∀ {l : List Oper} {a : Act} {w : World}, wpList P ops Q l a w → (∀ e a w, Q e a w → Q' e a w) → wpList P ops Q' l a w
    | [], a, w, h, k => k _ _ _ h
    | o :: l, a, w, h, k => by
      unfold wpList at h ⊢
      split
      · rename_i hw
        rw [if_pos hw] at h
        refine h.imp ?_ ?_
        · intro h
          exact op_mono h (fun a w h => wp_list_mono h k) k
        · rintro ⟨h1, a, w, h2⟩
          exact ⟨h1, a, w, k _ _ _ h2⟩
      · rename_i hw
        rw [if_neg hw] at h
        exact wp_list_mono h k
  op_mono {P : Program} {o : Oper} {a : Act} {w : World} {K K' : Act → World → Prop} {Q Q' : Exit → Act → World → Prop} (h : o.wp P a w K Q) (hK : ∀ a w, K a w → K' a w) (hQ : ∀ e a w, Q e a w → Q' e a w) : o.wp P a w K' Q' := by
    unfold Oper.wp at *
    generalize (execOp a.eval o).run P w = r at *
    cases r with
    | ok n w' =>
      cases n <;> simp only [Oper.upon] at h ⊢ <;>
        first
          | exact hK _ _ h
          | exact Calls.mono h (fun e w'' he => by cases e <;> first | exact hK _ _ he | exact hQ _ _ _ he | (obtain ⟨a, w, hq⟩ := he; exact ⟨a, w, hQ _ _ _ hq⟩))
          | exact Rows.mono h (fun _ _ he => hK _ _ he)
    | halt x w' => cases x <;> simp only [Oper.upon] at h ⊢ <;> first | exact h | exact hQ _ _ _ h
theorem w_sregion {id : Nat} {l : List Oper} {y : Code} (h : WL G l.toArray l E L M (fun E L M => W G y E L M Q)) : W G (.seq (.region id l.toArray false) y) E L M Q :=
  w_seq (w_region h)

/-- A loop: at each head the state is that of some s; a round lowers its measure. -/
theorem w_loop {c : Code} {σ : Type} (Inv : σ → Env → List Res → Mem → Prop) (m : σ → Nat) (s0 : σ) (h0 : Inv s0 E L M)
    (round : ∀ s E L M, Inv s E L M → W G c E L M (thenQ (fun E' L' M' => ∃ s', m s' < m s ∧ Inv s' E' L' M') Q)) : W G (.loop c) E L M Q := by
  have key : ∀ n s E L M, m s = n → Inv s E L M → ∀ a w, St G E L M a w → ∀ (b : Frame) (k : List Item) (cs : List Frame),
      ∃ e a' w', post G Q e a' w' ∧ Arrives G.P (lone (b.at a (.code c :: .inLoop c :: k)) cs w) b k cs e a' w' := by
    intro n
    induction n using Nat.strongRecOn with
    | _ n ih =>
      intro s E L M hn hI a w st b k cs
      obtain ⟨e, a₁, w₁, ⟨E', L', M', st', hq⟩, harr⟩ := round s E L M hI a w st b (.inLoop c :: k) cs
      cases e with
      | normal =>
        obtain ⟨s', hlt, hI'⟩ := hq
        obtain ⟨e₂, a₂, w₂, hq₂, harr₂⟩ := ih (m s') (hn ▸ hlt) s' E' L' M' rfl hI' a₁ w₁ st' b k cs
        exact ⟨e₂, a₂, w₂, hq₂, .of_steps (Steps.trans harr (.one step_inLoop)) harr₂⟩
      | exit id => exact ⟨_, a₁, w₁, ⟨E', L', M', st', hq⟩, .pass (x := .inLoop c) rfl (fun _ _ => .inl (by simp)) harr⟩
      | goto l => exact ⟨_, a₁, w₁, ⟨E', L', M', st', hq⟩, .pass (x := .inLoop c) rfl (fun _ _ => .inl (by simp)) harr⟩
      | ret => exact ⟨_, a₁, w₁, ⟨E', L', M', st', hq⟩, .pass (x := .inLoop c) rfl (fun _ _ => .inl (by simp)) harr⟩
      | panic ch => exact ⟨_, a₁, w₁, ⟨E', L', M', st', hq⟩, .pass (x := .inLoop c) rfl (fun _ _ => .inl (by simp)) harr⟩
      | outgrown => exact ⟨_, a₁, w₁, ⟨E', L', M', st', hq⟩, .pass (x := .inLoop c) rfl (fun _ _ => .inl (by simp)) harr⟩
  intro a w st b k cs
  obtain ⟨e, a', w', hq, harr⟩ := key _ s0 E L M rfl h0 a w st b k cs
  exact ⟨e, a', w', hq, .of_steps (.one step_loop) harr⟩

/-- What is no longer needed may be forgotten. -/
theorem w_sub {c : Code} (E' : Env) (h : ∀ i s, look E' i = some s → look E i = some s) (k : W G c E' L M Q) : W G c E L M Q :=
  fun a w s => k a w { s with env := s.env.sub h }
end
end Go.Eng

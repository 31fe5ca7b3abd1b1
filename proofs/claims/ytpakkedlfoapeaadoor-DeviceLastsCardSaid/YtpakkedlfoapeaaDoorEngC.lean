/- Rules for operations that leave the world alone. -/
import Derived.Test.YtpakkedlfoapeaaDoorEngB
namespace Go.Eng
open Go

/-- A type's kind. -/
inductive TK where
  | bool | int (k : IntKind) | string | slice (e : TypeId) | arr (len : Nat) (e : TypeId) | struct | pointer (e : TypeId) | iface | func | other
def TK.of : TypeDesc → TK
  | .bool => .bool
  | .int k => .int k
  | .string => .string
  | .slice e => .slice e
  | .array len e => .arr len e
  | .struct _ => .struct
  | .pointer e => .pointer e
  | .interface _ => .iface
  | .func .. => .func
  | _ => .other
def aggK : TK → Bool
  | .struct | .arr _ _ => true
  | _ => false
/-- What is asked of a type. -/
class Ty (P : Program) (T : TypeId) (d : outParam TK) (sz : outParam Nat) (by_ : outParam Nat) (z : outParam Value) : Prop where
  und : (P.underlying T).map TK.of = some d
  inf : (P.info? T).map (fun i => (i.size, i.bytes, i.zero)) = some (sz, by_, some z)
theorem Ty.info {P : Program} {T : TypeId} {d : TK} {sz by_ : Nat} {z : Value} (t : Ty P T d sz by_ z) : ∃ i, P.info? T = some i ∧ i.size = sz ∧ i.bytes = by_ ∧ i.zero = some z := by
  have h := t.inf
  cases hi : P.info? T with
  | none => rw [hi] at h; cases h
  | some i => rw [hi] at h; simp at h; exact ⟨i, rfl, h.1, h.2.1, h.2.2⟩
theorem Ty.desc {P : Program} {T : TypeId} {d : TK} {sz by_ : Nat} {z : Value} (t : Ty P T d sz by_ z) : ∃ D, P.underlying T = some D ∧ TK.of D = d := by
  have h := t.und
  cases hi : P.underlying T with
  | none => rw [hi] at h; cases h
  | some i => rw [hi] at h; simp at h; exact ⟨i, rfl, h⟩
theorem Ty.int {P : Program} {T : TypeId} {k : IntKind} {sz by_ : Nat} {z : Value} (t : Ty P T (.int k) sz by_ z) : P.underlying T = some (.int k) := by
  obtain ⟨D, h, e⟩ := t.desc
  cases D <;> simp [TK.of] at e
  subst e; exact h
theorem Ty.str {P : Program} {T : TypeId} {sz by_ : Nat} {z : Value} (t : Ty P T .string sz by_ z) : P.underlying T = some .string := by
  obtain ⟨D, h, e⟩ := t.desc
  cases D <;> simp [TK.of] at e
  exact h
theorem Ty.slice {P : Program} {T : TypeId} {el : TypeId} {sz by_ : Nat} {z : Value} (t : Ty P T (.slice el) sz by_ z) : P.underlying T = some (.slice el) := by
  obtain ⟨D, h, e⟩ := t.desc
  cases D <;> simp [TK.of] at e
  subst e; exact h

section
variable {G : Ctx} {E : Env} {L : List Res} {M : Mem} {o : Oper} {ops : Array Oper} {rest : List Oper} {K : KPost}

theorem run_sizeOf' {P : Program} {T : TypeId} {d : TK} {sz by_ : Nat} {z : Value} (t : Ty P T d sz by_ z) (w : World) : (sizeOf T).run P w = .ok sz w := by
  obtain ⟨i, hi, h1, _, _⟩ := t.info
  simp [sizeOf, typeInfo, hi, h1]
theorem run_zero' {P : Program} {T : TypeId} {d : TK} {sz by_ : Nat} {z : Value} (t : Ty P T d sz by_ z) (w : World) : (zeroValue T).run P w = .ok z w := by
  obtain ⟨i, hi, _, _, h3⟩ := t.info
  simp [zeroValue, typeInfo, hi, h3]
theorem run_isAgg' {P : Program} {T : TypeId} {d : TK} {sz by_ : Nat} {z : Value} (t : Ty P T d sz by_ z) (w : World) : (isAgg T).run P w = .ok (aggK d) w := by
  obtain ⟨D, h, e⟩ := t.desc
  simp only [isAgg, Sem.run_bind, run_underlying h, Result.andThen_ok]
  subst e
  cases D <;> rfl

/-- The operation yields a value that reads as s, the world as it was: in every world that is like this one in what is known of it. -/
def Still (G : Ctx) (o : Oper) (E : Env) (L : List Res) (M : Mem) (s : SV) : Prop :=
  ∀ (a : Act) (w : World), EnvOk M E a.tmps → M.Holds w → (∀ r ∈ L, r.ok M w) →
    ∃ x, SV.rel M s x ∧ ∀ w', M.Holds w' → (∀ r ∈ L, ∀ n, r.num = some n → w'.heap[n]? = w.heap[n]?) → (execOp a.eval o).run G.P w' = .ok (.value x) w'

def dstOk (G : Ctx) (o : Oper) : Bool := match o.dst with | some d => Nat.blt d G.N | none => true
theorem dstOk_lt {G : Ctx} {o : Oper} (h : dstOk G o = true) (d : Nat) (hd : o.dst = some d) : d < G.N := by
  simp only [dstOk, hd] at h
  exact Nat.blt_eq ▸ h

theorem St.put {a : Act} {w : World} (s : St G E L M a w) {x : Value} {t : SV} (hr : SV.rel M t x) (hd : dstOk G o = true) : St G (putE E o.dst t) L M (a.put o.dst x) w :=
  { s with
    defers := by have := s.defers; cases h : o.dst <;> simp [Act.put, this]
    size := by have := s.size; cases h : o.dst <;> simp [Act.put, this]
    env := s.env.put hr fun d h => by rw [s.size]; exact dstOk_lt hd d h }

theorem wl_nil (h : K E L M) : WL G ops [] E L M K := fun _ _ s => wpList_nil ⟨rfl, E, L, M, s, h⟩

theorem wl_still {s : SV} (hg : o.guard = none) (hd : dstOk G o = true) (h : Still G o E L M s) (k : WL G ops rest (putE E o.dst s) L M K) : WL G ops (o :: rest) E L M K := fun a w st => by
  obtain ⟨x, hr, hx⟩ := h a w st.env st.mem st.res
  have hrun := hx w st.mem fun _ _ _ _ => rfl
  unfold wpList
  rw [if_pos (by simp [Region.wanted, hg])]
  left
  simp only [Oper.wp, hrun, Oper.upon_value]
  exact k _ _ (st.put hr hd)

/-- A guarded operation whose guard says no. -/
theorem wl_guard_no {j : Nat} {want b : Bool} {g : Nat} (hg : o.guard = some (j, want)) (hd : dstOk G o = true) (hj : (ops[j]?).bind (·.dst) = some g) (e : look E g = some (.v (.bool b))) (hb : (b == want) = false)
    (k : WL G ops rest (putE E o.dst (.v undef)) L M K) : WL G ops (o :: rest) E L M K := fun a w st => by
  obtain ⟨y, hy, hr⟩ := st.env g _ e
  rw [rel_v] at hr
  subst hr
  unfold wpList
  rw [if_neg (by simp only [Region.wanted, hg, yielded, hj, Option.bind_some, hy]; cases b <;> cases want <;> simp_all)]
  exact k _ _ (st.put (rel_v.2 rfl) hd)
/-- A guarded operation whose guard says yes. -/
theorem wl_guard_yes {j : Nat} {want : Bool} {g : Nat} {s : SV} (hg : o.guard = some (j, want)) (hd : dstOk G o = true) (hj : (ops[j]?).bind (·.dst) = some g) (e : look E g = some (.v (.bool want))) (h : Still G o E L M s)
    (k : WL G ops rest (putE E o.dst s) L M K) : WL G ops (o :: rest) E L M K := fun a w st => by
  obtain ⟨x, hr, hx⟩ := h a w st.env st.mem st.res
  have hrun := hx w st.mem fun _ _ _ _ => rfl
  obtain ⟨y, hy, hr2⟩ := st.env g _ e
  rw [rel_v] at hr2
  subst hr2
  unfold wpList
  rw [if_pos (by simp only [Region.wanted, hg, yielded, hj, Option.bind_some, hy]; simp)]
  left
  simp only [Oper.wp, hrun, Oper.upon_value]
  exact k _ _ (st.put hr hd)
/-- The known value of a slot, split. -/
theorem wl_split {g : Nat} {b : Bool} {l : List Oper} (e : look E g = some (.v (.bool b))) (ht : b = true → WL G ops l ((g, .v (.bool true)) :: E) L M K) (hf : b = false → WL G ops l ((g, .v (.bool false)) :: E) L M K) : WL G ops l E L M K := fun a w st => by
  have aux : ∀ c, b = c → St G ((g, .v (.bool c)) :: E) L M a w := fun c hc => { st with
    env := fun i t h => by
      simp only [look] at h
      cases hb : Nat.beq g i with
      | true =>
        rw [hb] at h
        have : g = i := Nat.eq_of_beq_eq_true hb
        subst this
        simp at h
        subst h
        subst hc
        exact st.env g _ e
      | false => rw [hb] at h; exact st.env i t h }
  cases b with
  | true => exact ht rfl a w (aux true rfl)
  | false => exact hf rfl a w (aux false rfl)

/-! ### Moves -/
theorem still_move {x : Operand} {s : SV} (ho : o.op = .move x) (e : evO E x = some s) : Still G o E L M s := fun a w h _ _ =>
  ⟨a.eval x, evO_rel h e, fun w' _ _ => by simp [execOp, ho]⟩
theorem still_assign {x : Operand} {s : SV} (ho : o.op = .assign x) (e : evO E x = some s) : Still G o E L M s := fun a w h _ _ =>
  ⟨a.eval x, evO_rel h e, fun w' _ _ => by simp [execOp, ho]⟩
theorem still_pick_t {c x y : Operand} {s : SV} (ho : o.op = .pick c x y) (ec : evO E c = some (.v (.bool true))) (e : evO E x = some s) : Still G o E L M s := fun a w h _ _ =>
  ⟨a.eval x, evO_rel h e, fun w' _ _ => by have := rel_v.1 (evO_rel h ec); simp [execOp, ho, this, asBool]⟩
theorem still_pick_f {c x y : Operand} {s : SV} (ho : o.op = .pick c x y) (ec : evO E c = some (.v (.bool false))) (e : evO E y = some s) : Still G o E L M s := fun a w h _ _ =>
  ⟨a.eval y, evO_rel h e, fun w' _ _ => by have := rel_v.1 (evO_rel h ec); simp [execOp, ho, this, asBool]⟩

/-! ### Numbers -/
/-- What an operator makes of two whole numbers, where nothing can go wrong. -/
def intBin (op : BinOp) (k : IntKind) (a b : Int) : Option Value :=
  match op with
  | .add => some (.int k (k.wrap (a + b)))
  | .sub => some (.int k (k.wrap (a - b)))
  | .mul => some (.int k (k.wrap (a * b)))
  | .and => some (.int k (k.wrap (BitVec.ofInt k.bits a &&& BitVec.ofInt k.bits b).toNat))
  | .or => some (.int k (k.wrap (BitVec.ofInt k.bits a ||| BitVec.ofInt k.bits b).toNat))
  | .xor => some (.int k (k.wrap (BitVec.ofInt k.bits a ^^^ BitVec.ofInt k.bits b).toNat))
  | .andNot => some (.int k (k.wrap (BitVec.ofInt k.bits a &&& ~~~BitVec.ofInt k.bits b).toNat))
  | .eql => some (.bool (decide (a = b)))
  | .neq => some (.bool (!decide (a = b)))
  | .lss => some (.bool (decide (a < b)))
  | .leq => some (.bool (decide (a ≤ b)))
  | .gtr => some (.bool (decide (b < a)))
  | .geq => some (.bool (decide (b ≤ a)))
  | _ => none
theorem still_bin {op : BinOp} {T yT : TypeId} {x y : Operand} {k : IntKind} {a b : Int} {z : Value} (ho : o.op = .binOp op T x y yT) (ex : evO E x = some (.v (.int k a))) (ey : evO E y = some (.v (.int k b))) (r : intBin op k a b = some z) :
    Still G o E L M (.v z) := fun act w h _ _ =>
  ⟨z, rel_v.2 rfl, fun w' _ _ => by
    have h1 := rel_v.1 (evO_rel h ex)
    have h2 := rel_v.1 (evO_rel h ey)
    cases op <;> simp only [intBin, Option.some.injEq, reduceCtorEq] at r <;> subst r <;>
      simp [execOp, ho, h1, h2, eqGuard, binOp, Op.intArith, Op.intBits, Op.intCmp, bne] <;> rfl⟩
theorem still_shl {T yT : TypeId} {x y : Operand} {k k' : IntKind} {a b : Int} (ho : o.op = .binOp .shl T x y yT) (ex : evO E x = some (.v (.int k a))) (ey : evO E y = some (.v (.int k' b))) (hb : 0 ≤ b) :
    Still G o E L M (.v (.int k (k.wrap (a * 2 ^ min b.toNat k.bits)))) := fun act w h _ _ =>
  ⟨_, rel_v.2 rfl, fun w' _ _ => by
    have h1 := rel_v.1 (evO_rel h ex)
    have h2 := rel_v.1 (evO_rel h ey)
    have h3 : ¬ b < 0 := by omega
    simp [execOp, ho, h1, h2, eqGuard, binOp, Op.shift, h3]⟩
theorem still_shr {T yT : TypeId} {x y : Operand} {k k' : IntKind} {a b : Int} (ho : o.op = .binOp .shr T x y yT) (ex : evO E x = some (.v (.int k a))) (ey : evO E y = some (.v (.int k' b))) (hb : 0 ≤ b) :
    Still G o E L M (.v (.int k (a.fdiv (2 ^ min b.toNat k.bits)))) := fun act w h _ _ =>
  ⟨_, rel_v.2 rfl, fun w' _ _ => by
    have h1 := rel_v.1 (evO_rel h ex)
    have h2 := rel_v.1 (evO_rel h ey)
    have h3 : ¬ b < 0 := by omega
    simp [execOp, ho, h1, h2, eqGuard, binOp, Op.shift, h3]⟩
theorem still_quo {T yT : TypeId} {x y : Operand} {k : IntKind} {a b : Int} (ho : o.op = .binOp .quo T x y yT) (ex : evO E x = some (.v (.int k a))) (ey : evO E y = some (.v (.int k b))) (hb : b ≠ 0) :
    Still G o E L M (.v (.int k (k.wrap (a.tdiv b)))) := fun act w h _ _ =>
  ⟨_, rel_v.2 rfl, fun w' _ _ => by
    have h1 := rel_v.1 (evO_rel h ex)
    have h2 := rel_v.1 (evO_rel h ey)
    simp [execOp, ho, h1, h2, eqGuard, binOp, Op.intDiv, hb]⟩
theorem still_rem {T yT : TypeId} {x y : Operand} {k : IntKind} {a b : Int} (ho : o.op = .binOp .rem T x y yT) (ex : evO E x = some (.v (.int k a))) (ey : evO E y = some (.v (.int k b))) (hb : b ≠ 0) :
    Still G o E L M (.v (.int k (a.tmod b))) := fun act w h _ _ =>
  ⟨_, rel_v.2 rfl, fun w' _ _ => by
    have h1 := rel_v.1 (evO_rel h ex)
    have h2 := rel_v.1 (evO_rel h ey)
    simp [execOp, ho, h1, h2, eqGuard, binOp, Op.intDiv, hb]⟩
theorem still_not {T : TypeId} {x : Operand} {b : Bool} (ho : o.op = .unOp .not T x) (ex : evO E x = some (.v (.bool b))) : Still G o E L M (.v (.bool (!b))) := fun act w h _ _ =>
  ⟨_, rel_v.2 rfl, fun w' _ _ => by
    have h1 := rel_v.1 (evO_rel h ex)
    simp [execOp, ho, h1, Op.unary]⟩
theorem still_neg {T : TypeId} {x : Operand} {k : IntKind} {a : Int} (ho : o.op = .unOp .neg T x) (ex : evO E x = some (.v (.int k a))) : Still G o E L M (.v (.int k (k.wrap (0 - a)))) := fun act w h _ _ =>
  ⟨_, rel_v.2 rfl, fun w' _ _ => by
    have h1 := rel_v.1 (evO_rel h ex)
    simp [execOp, ho, h1, Op.unary, Op.intArith]⟩
theorem still_conv {S D : TypeId} {x : Operand} {k k' : IntKind} {a : Int} {d1 : TK} {s1 b1 s2 b2 : Nat} {z1 z2 : Value} [t1 : Ty G.P S d1 s1 b1 z1] [t2 : Ty G.P D (.int k') s2 b2 z2] (ho : o.op = .convert S D x) (ex : evO E x = some (.v (.int k a))) :
    Still G o E L M (.v (.int k' (k'.wrap a))) := fun act w h _ _ =>
  ⟨_, rel_v.2 rfl, fun w' _ _ => by
    have h1 := rel_v.1 (evO_rel h ex)
    obtain ⟨D, h3, _⟩ := t1.desc
    simp [execOp, ho, h1, convert, run_underlying h3, run_underlying t2.int, Conv.intToInt]⟩

/-! ### Strings -/
theorem still_seql {T yT : TypeId} {x y : Operand} {a b : ByteArray} (ho : o.op = .binOp .eql T x y yT) (ex : evO E x = some (.v (.string a))) (ey : evO E y = some (.v (.string b))) :
    Still G o E L M (.v (.bool (a.toList == b.toList))) := fun act w h _ _ =>
  ⟨_, rel_v.2 rfl, fun w' _ _ => by
    have h1 := rel_v.1 (evO_rel h ex)
    have h2 := rel_v.1 (evO_rel h ey)
    simp [execOp, ho, h1, h2, eqGuard, binOp, Op.stringOp]⟩
theorem still_sneq {T yT : TypeId} {x y : Operand} {a b : ByteArray} (ho : o.op = .binOp .neq T x y yT) (ex : evO E x = some (.v (.string a))) (ey : evO E y = some (.v (.string b))) :
    Still G o E L M (.v (.bool (!(a.toList == b.toList)))) := fun act w h _ _ =>
  ⟨_, rel_v.2 rfl, fun w' _ _ => by
    have h1 := rel_v.1 (evO_rel h ex)
    have h2 := rel_v.1 (evO_rel h ey)
    simp [execOp, ho, h1, h2, eqGuard, binOp, Op.stringOp]⟩

/-! ### Interfaces, tuples, functions -/
def notIface : TK → Bool
  | .iface => false
  | _ => true
theorem still_iface {T : TypeId} {x : Operand} {s : SV} {d : TK} {s1 b1 : Nat} {z1 : Value} [t : Ty G.P T d s1 b1 z1] (ho : o.op = .makeInterface T x) (e : evO E x = some s) (hd : notIface d = true) : Still G o E L M (.ifc T s) := fun act w h _ _ =>
  ⟨.iface T (act.eval x), by simp only [SV.rel]; exact ⟨_, rfl, evO_rel h e⟩, fun w' _ _ => by
    obtain ⟨D, h3, e3⟩ := t.desc
    subst e3
    simp only [execOp, ho, Instr.makeInterface, Sem.run_bind, run_underlying h3, Result.andThen_ok]
    cases D <;> first | rfl | cases hd⟩
theorem still_extract {x : Operand} {i : Nat} {cs : List SV} {s : SV} (ho : o.op = .extract x i) (e : evO E x = some (.tup cs)) (hi : cs[i]? = some s) : Still G o E L M s := fun act w h _ _ => by
  have h1 := evO_rel h e
  simp only [SV.rel] at h1
  obtain ⟨ys, hy, hr⟩ := h1
  obtain ⟨y, hy2, hr2⟩ := rels_get hr hi
  exact ⟨y, hr2, fun w' _ _ => by
    have : ys[i]? = some y := by simpa using hy2
    simp [execOp, ho, hy, Instr.extract, this]⟩
end
end Go.Eng

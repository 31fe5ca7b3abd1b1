/- A program logic of my own over the kit's wp: symbolic values, ghost memory, own boxes. -/
import Derived.WalkKit
namespace Go.Eng
open Go

/-! ### Ghost memory: cells that never change any more -/
abbrev Mem := Nat → Nat → Option Value
def Mem.le (M N : Mem) : Prop := ∀ b o v, M b o = some v → N b o = some v
theorem Mem.le.refl (M : Mem) : M.le M := fun _ _ _ h => h
theorem Mem.le.trans {A B C : Mem} (h : A.le B) (k : B.le C) : A.le C := fun b o v x => k b o v (h b o v x)
def Mem.Holds (M : Mem) (w : World) : Prop := ∀ b o v, M b o = some v → w.cell? ⟨b, o, none⟩ = some v ∧ v.oneCell' = true

/-! ### Symbolic values -/
inductive SV where
  | v (x : Value)
  | lp (k n off : Nat)
  | mp (cs : List SV)
  | sl (sz : Nat) (es : List (List SV))
  | rw (x : Value) (sz : Nat) (es : List (List SV))
  | agg (cs : List SV)
  | tup (cs : List SV)
  | ifc (t : TypeId) (s : SV)
  | fn (f : FuncId) (caps : List SV)

mutual
def SV.rel (M : Mem) : SV → Value → Prop
  | .v x, y => y = x
  | .lp _ n off, y => y = .pointer (some ⟨n, off, none⟩)
  | .mp cs, y => ∃ b o, y = .pointer (some ⟨b, o, none⟩) ∧ SV.cellsAt M cs b o
  | .sl sz es, y => ((∃ a c, y = .slice a 0 c) ∧ es.length = 0) ∨ ∃ b o cap, y = .slice (some ⟨b, o, none⟩) es.length cap ∧ es.length ≤ cap ∧ SV.rowsAt M sz es b o
  | .rw x sz es, y => y = x ∧ (((∃ a c, y = .slice a 0 c) ∧ es.length = 0) ∨ ∃ b o cap, y = .slice (some ⟨b, o, none⟩) es.length cap ∧ es.length ≤ cap ∧ SV.rowsAt M sz es b o)
  | .agg cs, y => ∃ ys, y = .agg ys ∧ SV.rels M cs ys.toList ∧ ∀ v ∈ ys.toList, v.oneCell' = true
  | .tup cs, y => ∃ ys, y = .tuple ys ∧ SV.rels M cs ys.toList
  | .ifc t s, y => ∃ z, y = .iface t z ∧ SV.rel M s z
  | .fn f caps, y => ∃ ys, y = .func (.func f) #[] ys ∧ SV.rels M caps ys.toList
def SV.rels (M : Mem) : List SV → List Value → Prop
  | [], ys => ys = []
  | s :: ss, ys => ∃ y zs, ys = y :: zs ∧ SV.rel M s y ∧ SV.rels M ss zs
def SV.cellsAt (M : Mem) : List SV → Nat → Nat → Prop
  | [], _, _ => True
  | s :: ss, b, o => (∃ x, M b o = some x ∧ SV.rel M s x) ∧ SV.cellsAt M ss b (o + 1)
def SV.rowsAt (M : Mem) (sz : Nat) : List (List SV) → Nat → Nat → Prop
  | [], _, _ => True
  | e :: es, b, o => SV.cellsAt M e b o ∧ e.length = sz ∧ SV.rowsAt M sz es b (o + sz)
end

mutual
theorem SV.rel.mono {M N : Mem} (h : M.le N) : ∀ (s : SV) (y : Value), SV.rel M s y → SV.rel N s y
  | .v x, y, r => by simpa only [SV.rel] using r
  | .lp _ n off, y, r => by simpa only [SV.rel] using r
  | .mp cs, y, r => by
    simp only [SV.rel] at r ⊢
    obtain ⟨b, o, e, r⟩ := r
    exact ⟨b, o, e, SV.cellsAt.mono h cs b o r⟩
  | .sl sz es, y, r => by
    simp only [SV.rel] at r ⊢
    rcases r with r | ⟨b, o, cap, e, hc, r⟩
    · exact .inl r
    · exact .inr ⟨b, o, cap, e, hc, SV.rowsAt.mono h sz es b o r⟩
  | .rw x sz es, y, r => by
    simp only [SV.rel] at r ⊢
    obtain ⟨hx, r⟩ := r
    refine ⟨hx, ?_⟩
    rcases r with r | ⟨b, o, cap, e, hc, r⟩
    · exact .inl r
    · exact .inr ⟨b, o, cap, e, hc, SV.rowsAt.mono h sz es b o r⟩
  | .agg cs, y, r => by
    simp only [SV.rel] at r ⊢
    obtain ⟨ys, e, r, r1⟩ := r
    exact ⟨ys, e, SV.rels.mono h cs _ r, r1⟩
  | .tup cs, y, r => by
    simp only [SV.rel] at r ⊢
    obtain ⟨ys, e, r⟩ := r
    exact ⟨ys, e, SV.rels.mono h cs _ r⟩
  | .ifc t s, y, r => by
    simp only [SV.rel] at r ⊢
    obtain ⟨z, e, r⟩ := r
    exact ⟨z, e, SV.rel.mono h s z r⟩
  | .fn f caps, y, r => by
    simp only [SV.rel] at r ⊢
    obtain ⟨ys, e, r⟩ := r
    exact ⟨ys, e, SV.rels.mono h caps _ r⟩
theorem SV.rels.mono {M N : Mem} (h : M.le N) : ∀ (ss : List SV) (ys : List Value), SV.rels M ss ys → SV.rels N ss ys
  | [], ys, r => by simpa only [SV.rels] using r
  | s :: ss, ys, r => by
    simp only [SV.rels] at r ⊢
    obtain ⟨y, zs, e, r1, r2⟩ := r
    exact ⟨y, zs, e, SV.rel.mono h s y r1, SV.rels.mono h ss zs r2⟩
theorem SV.cellsAt.mono {M N : Mem} (h : M.le N) : ∀ (ss : List SV) (b o : Nat), SV.cellsAt M ss b o → SV.cellsAt N ss b o
  | [], _, _, _ => by simp only [SV.cellsAt]
  | s :: ss, b, o, r => by
    simp only [SV.cellsAt] at r ⊢
    obtain ⟨⟨x, hx, r1⟩, r2⟩ := r
    exact ⟨⟨x, h _ _ _ hx, SV.rel.mono h s x r1⟩, SV.cellsAt.mono h ss b (o + 1) r2⟩
theorem SV.rowsAt.mono {M N : Mem} (h : M.le N) : ∀ (sz : Nat) (es : List (List SV)) (b o : Nat), SV.rowsAt M sz es b o → SV.rowsAt N sz es b o
  | _, [], _, _, _ => by simp only [SV.rowsAt]
  | sz, e :: es, b, o, r => by
    simp only [SV.rowsAt] at r ⊢
    exact ⟨SV.cellsAt.mono h e b o r.1, r.2.1, SV.rowsAt.mono h sz es b (o + sz) r.2.2⟩
end

/-! ### Small facts on relations -/
theorem rel_v {M : Mem} {x y : Value} : SV.rel M (.v x) y ↔ y = x := by simp only [SV.rel]
theorem rel_lp {M : Mem} {k n off : Nat} {y : Value} : SV.rel M (.lp k n off) y ↔ y = .pointer (some ⟨n, off, none⟩) := by simp only [SV.rel]
theorem rels_nil {M : Mem} {ys : List Value} : SV.rels M [] ys ↔ ys = [] := by simp only [SV.rels]
theorem rels_cons {M : Mem} {s : SV} {ss : List SV} {ys : List Value} : SV.rels M (s :: ss) ys ↔ ∃ y zs, ys = y :: zs ∧ SV.rel M s y ∧ SV.rels M ss zs := by simp only [SV.rels]
theorem rels_cons' {M : Mem} {s : SV} {ss : List SV} {y : Value} {ys : List Value} : SV.rels M (s :: ss) (y :: ys) ↔ SV.rel M s y ∧ SV.rels M ss ys := by
  rw [rels_cons]
  constructor
  · rintro ⟨_, _, e, h⟩; cases e; exact h
  · intro h; exact ⟨_, _, rfl, h⟩
theorem rels_length {M : Mem} : ∀ {ss : List SV} {ys : List Value}, SV.rels M ss ys → ss.length = ys.length
  | [], ys, h => by rw [rels_nil] at h; subst h; rfl
  | s :: ss, ys, h => by
    rw [rels_cons] at h
    obtain ⟨y, zs, rfl, _, h⟩ := h
    simp [rels_length h]
theorem rels_get {M : Mem} : ∀ {ss : List SV} {ys : List Value} {i : Nat} {s : SV}, SV.rels M ss ys → ss[i]? = some s → ∃ y, ys[i]? = some y ∧ SV.rel M s y
  | [], _, i, s, _, e => by simp at e
  | t :: ss, ys, i, s, h, e => by
    rw [rels_cons] at h
    obtain ⟨y, zs, rfl, h1, h2⟩ := h
    cases i with
    | zero => simp at e; subst e; exact ⟨y, by simp, h1⟩
    | succ i => simp at e; simpa using rels_get h2 e
theorem rels_append {M : Mem} : ∀ {ss ts : List SV} {ys zs : List Value}, SV.rels M ss ys → SV.rels M ts zs → SV.rels M (ss ++ ts) (ys ++ zs)
  | [], ts, ys, zs, h, k => by rw [rels_nil] at h; subst h; exact k
  | s :: ss, ts, ys, zs, h, k => by
    rw [rels_cons] at h
    obtain ⟨y, ys', rfl, h1, h2⟩ := h
    exact rels_cons'.2 ⟨h1, rels_append h2 k⟩
theorem rels_take {M : Mem} : ∀ (n : Nat) {ss : List SV} {ys : List Value}, SV.rels M ss ys → SV.rels M (ss.take n) (ys.take n)
  | 0, _, _, _ => by simp [rels_nil]
  | n + 1, [], ys, h => by rw [rels_nil] at h; subst h; simp [rels_nil]
  | n + 1, s :: ss, ys, h => by
    rw [rels_cons] at h
    obtain ⟨y, zs, rfl, h1, h2⟩ := h
    exact rels_cons'.2 ⟨h1, rels_take n h2⟩
theorem rels_drop {M : Mem} : ∀ (n : Nat) {ss : List SV} {ys : List Value}, SV.rels M ss ys → SV.rels M (ss.drop n) (ys.drop n)
  | 0, _, _, h => h
  | n + 1, [], ys, h => by rw [rels_nil] at h; subst h; simp [rels_nil]
  | n + 1, s :: ss, ys, h => by
    rw [rels_cons] at h
    obtain ⟨y, zs, rfl, h1, h2⟩ := h
    exact rels_drop n h2
theorem cellsAt_get {M : Mem} : ∀ {ss : List SV} {b o i : Nat} {s : SV}, SV.cellsAt M ss b o → ss[i]? = some s → ∃ x, M b (o + i) = some x ∧ SV.rel M s x
  | [], _, _, i, s, _, e => by simp at e
  | t :: ss, b, o, i, s, h, e => by
    simp only [SV.cellsAt] at h
    cases i with
    | zero => simp at e; subst e; exact h.1
    | succ i =>
      simp at e
      have := cellsAt_get h.2 e
      rwa [show o + 1 + i = o + (i + 1) by omega] at this
theorem cellsAt_drop {M : Mem} : ∀ (n : Nat) {ss : List SV} {b o : Nat}, SV.cellsAt M ss b o → SV.cellsAt M (ss.drop n) b (o + n)
  | 0, _, _, _, h => h
  | n + 1, [], _, _, _ => by simp only [List.drop_nil, SV.cellsAt]
  | n + 1, s :: ss, b, o, h => by
    simp only [SV.cellsAt] at h
    have := cellsAt_drop n h.2
    rwa [show o + 1 + n = o + (n + 1) by omega] at this
theorem cellsAt_take {M : Mem} : ∀ (n : Nat) {ss : List SV} {b o : Nat}, SV.cellsAt M ss b o → SV.cellsAt M (ss.take n) b o
  | 0, _, _, _, _ => by simp only [List.take_zero, SV.cellsAt]
  | n + 1, [], _, _, _ => by simp only [List.take_nil, SV.cellsAt]
  | n + 1, s :: ss, b, o, h => by
    simp only [SV.cellsAt, List.take_succ_cons] at h ⊢
    exact ⟨h.1, cellsAt_take n h.2⟩
theorem cellsAt_vals {M : Mem} : ∀ {ss : List SV} {b o : Nat}, SV.cellsAt M ss b o → ∃ xs, SV.rels M ss xs ∧ ∀ j x, xs[j]? = some x → M b (o + j) = some x
  | [], _, _, _ => ⟨[], by simp [rels_nil], by simp⟩
  | s :: ss, b, o, h => by
    simp only [SV.cellsAt] at h
    obtain ⟨⟨x, hx, hr⟩, h⟩ := h
    obtain ⟨xs, h1, h2⟩ := cellsAt_vals h
    refine ⟨x :: xs, rels_cons'.2 ⟨hr, h1⟩, fun j y e => ?_⟩
    cases j with
    | zero => simp at e; subst e; exact hx
    | succ j =>
      simp at e
      have := h2 j y e
      rwa [show o + 1 + j = o + (j + 1) by omega] at this
theorem cellsAt_of_vals {M : Mem} : ∀ {ss : List SV} {xs : List Value} {b o : Nat}, SV.rels M ss xs → (∀ j x, xs[j]? = some x → M b (o + j) = some x) → SV.cellsAt M ss b o
  | [], _, _, _, _, _ => by simp only [SV.cellsAt]
  | s :: ss, xs, b, o, h, k => by
    rw [rels_cons] at h
    obtain ⟨y, zs, rfl, h1, h2⟩ := h
    simp only [SV.cellsAt]
    refine ⟨⟨y, by simpa using k 0 y (by simp), h1⟩, cellsAt_of_vals h2 fun j x e => ?_⟩
    have := k (j + 1) x (by simpa using e)
    rwa [show o + (j + 1) = o + 1 + j by omega] at this
theorem rowsAt_get {M : Mem} {sz : Nat} : ∀ {es : List (List SV)} {b o i : Nat} {e : List SV}, SV.rowsAt M sz es b o → es[i]? = some e → SV.cellsAt M e b (o + i * sz)
  | [], _, _, i, e, _, h => by simp at h
  | t :: es, b, o, i, e, h, k => by
    simp only [SV.rowsAt] at h
    cases i with
    | zero => simp at k; subst k; simpa using h.1
    | succ i =>
      simp at k
      have := rowsAt_get h.2.2 k
      rwa [show o + sz + i * sz = o + (i + 1) * sz by rw [Nat.add_mul]; omega] at this
theorem rowsAt_drop {M : Mem} {sz : Nat} : ∀ (n : Nat) {es : List (List SV)} {b o : Nat}, SV.rowsAt M sz es b o → SV.rowsAt M sz (es.drop n) b (o + n * sz)
  | 0, _, _, _, h => by simpa using h
  | n + 1, [], _, _, _ => by simp only [List.drop_nil, SV.rowsAt]
  | n + 1, s :: ss, b, o, h => by
    simp only [SV.rowsAt] at h
    have := rowsAt_drop n h.2.2
    rwa [show o + sz + n * sz = o + (n + 1) * sz by rw [Nat.add_mul]; omega] at this
theorem rowsAt_take {M : Mem} {sz : Nat} : ∀ (n : Nat) {es : List (List SV)} {b o : Nat}, SV.rowsAt M sz es b o → SV.rowsAt M sz (es.take n) b o
  | 0, _, _, _, _ => by simp only [List.take_zero, SV.rowsAt]
  | n + 1, [], _, _, _ => by simp only [List.take_nil, SV.rowsAt]
  | n + 1, s :: ss, b, o, h => by
    simp only [SV.rowsAt, List.take_succ_cons] at h ⊢
    exact ⟨h.1, h.2.1, rowsAt_take n h.2.2⟩
theorem rowsAt_vals {M : Mem} {sz : Nat} : ∀ {es : List (List SV)} {b o : Nat}, SV.rowsAt M sz es b o → ∃ xs, SV.rels M es.flatten xs ∧ xs.length = es.length * sz ∧ (∀ e ∈ es, e.length = sz) ∧ ∀ j x, xs[j]? = some x → M b (o + j) = some x
  | [], _, _, _ => ⟨[], rels_nil.2 rfl, by simp, by simp, by simp⟩
  | e :: es, b, o, h => by
    simp only [SV.rowsAt] at h
    obtain ⟨h1, h2, h3⟩ := h
    obtain ⟨ys, y1, y2⟩ := cellsAt_vals h1
    obtain ⟨xs, x1, x2, x3, x4⟩ := rowsAt_vals h3
    have hl := rels_length y1
    refine ⟨ys ++ xs, by simpa using rels_append y1 x1, by simp [x2, ← hl, h2, Nat.add_mul]; omega, by simpa using ⟨h2, x3⟩, fun j x e2 => ?_⟩
    rw [List.getElem?_append] at e2
    split at e2
    · exact y2 j x e2
    · have := x4 _ x e2
      rwa [show o + sz + (j - ys.length) = o + j by omega] at this
theorem rowsAt_of_vals {M : Mem} {sz : Nat} : ∀ {es : List (List SV)} {xs : List Value} {b o : Nat}, SV.rels M es.flatten xs → (∀ e ∈ es, e.length = sz) → (∀ j x, xs[j]? = some x → M b (o + j) = some x) → SV.rowsAt M sz es b o
  | [], _, _, _, _, _, _ => by simp only [SV.rowsAt]
  | e :: es, xs, b, o, h, hl, k => by
    simp only [SV.rowsAt]
    have he := hl e List.mem_cons_self
    rw [List.flatten_cons] at h
    have h1 := rels_take e.length h
    have h2 := rels_drop e.length h
    rw [List.take_left] at h1
    rw [List.drop_left] at h2
    refine ⟨cellsAt_of_vals h1 fun j x e2 => ?_, he, rowsAt_of_vals h2 (fun e' h' => hl e' (List.mem_cons_of_mem _ h')) fun j x e2 => ?_⟩
    · rw [List.getElem?_take] at e2
      split at e2
      · exact k j x e2
      · cases e2
    · rw [List.getElem?_drop] at e2
      have := k _ x e2
      rwa [he, ← Nat.add_assoc] at this

/-! ### Environment -/
abbrev Env := List (Nat × SV)
def look : Env → Nat → Option SV
  | [], _ => none
  | (i, s) :: E, j => bif Nat.beq i j then some s else look E j
def EnvOk (M : Mem) (E : Env) (tmps : Array Value) : Prop := ∀ i s, look E i = some s → ∃ y, tmps[i]? = some y ∧ SV.rel M s y
theorem EnvOk.mono {M N : Mem} {E : Env} {t : Array Value} (h : EnvOk M E t) (hl : M.le N) : EnvOk N E t := fun i s e =>
  let ⟨y, hy, r⟩ := h i s e
  ⟨y, hy, r.mono hl⟩
theorem EnvOk.sub {M : Mem} {E E' : Env} {t : Array Value} (h : EnvOk M E t) (hs : ∀ i s, look E' i = some s → look E i = some s) : EnvOk M E' t := fun i s e => h i s (hs i s e)
def putE (E : Env) (dst : Option Nat) (s : SV) : Env := match dst with | some d => (d, s) :: E | none => E
theorem EnvOk.put {M : Mem} {E : Env} {a : Act} (h : EnvOk M E a.tmps) {dst : Option Nat} {s : SV} {x : Value} (hr : SV.rel M s x) (hd : ∀ d, dst = some d → d < a.tmps.size) : EnvOk M (putE E dst s) (a.put dst x).tmps := by
  intro i t e
  cases dst with
  | none => exact h i t e
  | some d =>
    simp only [putE, look] at e
    have hd := hd d rfl
    by_cases hi : d = i
    · subst hi
      simp at e
      subst e
      exact ⟨x, by simp [Act.put, hd], hr⟩
    · have : (Nat.beq d i) = false := by rw [← Bool.not_eq_true, Nat.beq_eq]; exact hi
      rw [this] at e
      obtain ⟨y, hy, r⟩ := h i t e
      exact ⟨y, by simp [Act.put, hi, hy], r⟩
/-- A constant. -/
def ofVal : Value → SV
  | .agg vs => bif vs.toList.all Value.oneCell' then .agg (vs.toList.map .v) else .v (.agg vs)
  | x => .v x
theorem rels_vals {M : Mem} : ∀ vs : List Value, SV.rels M (vs.map .v) vs
  | [] => rels_nil.2 rfl
  | v :: vs => by rw [List.map_cons]; exact rels_cons'.2 ⟨rel_v.2 rfl, rels_vals vs⟩
theorem ofVal_rel {M : Mem} (v : Value) : SV.rel M (ofVal v) v := by
  cases v with
  | agg vs =>
    simp only [ofVal]
    cases h : vs.toList.all Value.oneCell' with
    | true => simp only [cond_true, SV.rel]; exact ⟨vs, rfl, rels_vals _, List.all_eq_true.1 h⟩
    | false => simp only [cond_false, SV.rel]
  | _ => simp only [ofVal, SV.rel]
def evO (E : Env) : Operand → Option SV
  | .tmp t => look E t
  | .const v => some (ofVal v)
  | .global g => some (.v (.pointer (some ⟨g, 0, none⟩)))
  | .func f => some (.fn f [])
theorem evO_rel {M : Mem} {E : Env} {a : Act} (h : EnvOk M E a.tmps) {x : Operand} {s : SV} (e : evO E x = some s) : SV.rel M s (a.eval x) := by
  cases x with
  | tmp t =>
    obtain ⟨y, hy, r⟩ := h t s e
    simpa [Act.eval, hy] using r
  | const v => cases e; exact ofVal_rel v
  | global g => cases e; simp [Act.eval, SV.rel]
  | func f => cases e; simp [Act.eval, SV.rel, SV.rels]
end Go.Eng

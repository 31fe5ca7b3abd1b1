/- A function's contract out of its body; lengths; small things. -/
import Derived.Test.YtpakkedlfoapeaaDoorEngE
namespace Go.Eng
open Go

section
variable {G : Ctx} {E : Env} {L : List Res} {M : Mem} {o : Oper} {ops : Array Oper} {rest : List Oper} {K : KPost}

def resSem (tmps : Array Value) : ResultVar → Sem Value
  | .tmp t => pure (tmps.getD t undef)
  | .cell p t => do loadVar t (← asAddr (tmps.getD p undef))
theorem results_eq (fn : Func) (tmps : Array Value) : results fn tmps = (do
    let vs ← fn.results.mapM (resSem tmps)
    pure (if h : vs.size = 1 then vs[0] else .tuple vs)) := by
  unfold results
  have : (fun x => match x with
    | ResultVar.tmp t => pure (tmps.getD t undef)
    | ResultVar.cell a t => do loadVar t (← asAddr (tmps.getD a undef)) : ResultVar → Sem Value) = resSem tmps := by
    funext rv
    cases rv <;> rfl
  rw [← this]
  rfl
/-- What a result variable holds at the end. -/
def ResV (G : Ctx) (E : Env) (L : List Res) (M : Mem) (rv : ResultVar) (s : SV) : Prop :=
  ∀ a w, St G E L M a w → ∃ x, SV.rel M s x ∧ (resSem a.tmps rv).run G.P w = .ok x w
theorem resV_tmp {t : Nat} {s : SV} (h : look E t = some s) : ResV G E L M (.tmp t) s := fun a w st => by
  obtain ⟨y, hy, hr⟩ := st.env t s h
  exact ⟨y, hr, by simp [resSem, hy]⟩
theorem resV_cell {T : TypeId} {d : TK} {sz by_ : Nat} {z : Value} [t : Ty G.P T d sz by_ z] {p k n off : Nat} {T' : TypeId} {cs : List SV} {s : SV} (h : look E p = some (.lp k n off)) (hb : getBox L k = some (n, T', cs)) (hs : loadSV d sz cs off = some s) :
    ResV G E L M (.cell p T) s := fun a w st => by
  obtain ⟨y, hy, hr⟩ := st.env p _ h
  rw [rel_lp] at hr
  subst hr
  obtain ⟨⟨vs, h1, h2, h3⟩, _⟩ := st.res _ (getBox_mem hb)
  obtain ⟨x, hx, hrun⟩ := run_loadVar' (b := n) (o := 0) t h2 (fun _ => h3) off hs
  have := hrun w (fun j v e => by
    rw [Nat.zero_add, cell_of_row w n j vs T' (0, 0) h1]
    simpa using e)
  simp only [Nat.zero_add] at this
  refine ⟨x, hx, ?_⟩
  simp [resSem, hy, asAddr, this]
inductive ResVs (G : Ctx) (E : Env) (L : List Res) (M : Mem) : List ResultVar → List SV → Prop
  | nil : ResVs G E L M [] []
  | cons {rv : ResultVar} {s : SV} {rvs : List ResultVar} {ss : List SV} : ResV G E L M rv s → ResVs G E L M rvs ss → ResVs G E L M (rv :: rvs) (s :: ss)
/-- One result, or several. -/
def packSV : List SV → SV
  | [s] => s
  | ss => .tup ss
theorem run_results {a : Act} {w : World} (st : St G E L M a w) {fn : Func} {rvs : List ResultVar} {ss : List SV} (h : ResVs G E L M rvs ss) (hr : fn.results = rvs.toArray) :
    ∃ x, SV.rel M (packSV ss) x ∧ (results fn a.tmps).run G.P w = .ok x w := by
  have key : ∃ xs : List Value, SV.rels M ss xs ∧ (rvs.mapM (resSem a.tmps)).run G.P w = .ok xs w := by
    clear hr
    induction h with
    | nil => exact ⟨[], rels_nil.2 rfl, by simp⟩
    | cons h1 _ ih =>
      obtain ⟨x, hx, hrun⟩ := h1 a w st
      obtain ⟨xs, hxs, hruns⟩ := ih
      refine ⟨x :: xs, rels_cons'.2 ⟨hx, hxs⟩, ?_⟩
      rw [List.mapM_cons]
      simp only [Sem.run_bind, hrun, hruns, Result.andThen_ok, Sem.run_pure]
  obtain ⟨xs, hxs, hrun⟩ := key
  have hm : (rvs.toArray.mapM (resSem a.tmps)).run G.P w = .ok xs.toArray w := by
    rw [List.mapM_toArray]
    simp only [Sem.run_map, hrun, Result.andThen_ok]
  have hlen := rels_length hxs
  refine ⟨if h : xs.toArray.size = 1 then xs.toArray[0] else .tuple xs.toArray, ?_, ?_⟩
  · match ss, xs, hxs with
    | [], xs, hx => rw [rels_nil] at hx; subst hx; simp [packSV, SV.rel, rels_nil]
    | [s], xs, hx =>
      rw [rels_cons] at hx
      obtain ⟨y, zs, rfl, h1, h2⟩ := hx
      rw [rels_nil] at h2
      subst h2
      simpa [packSV] using h1
    | s :: t :: ss, xs, hx =>
      have h2 : xs.length ≠ 1 := by have := rels_length hx; simp at this; omega
      simp only [packSV, List.size_toArray, h2, dif_neg, not_false_eq_true, SV.rel]
      exact ⟨_, rfl, by simpa using hx⟩
  · rw [results_eq, hr]
    simp only [Sem.run_bind, hm, Result.andThen_ok, Sem.run_pure]

/-- What stands at the end of a body. -/
def retQ (G : Ctx) (rvs : List ResultVar) (Φ : SV → List Res → Mem → Prop) : Post := fun ex E L M =>
  (ex = .ret ∨ ex = .normal) ∧ ∃ ss L', ResVs G E L M rvs ss ∧ L'.Sublist L ∧ Φ (packSV ss) L' M
def argEnv : Nat → List SV → Env
  | _, [] => []
  | i, s :: ss => (i, s) :: argEnv (i + 1) ss
theorem argEnv_ok {M : Mem} : ∀ (ss : List SV) (xs : List Value) (i : Nat) (pre post : List Value), SV.rels M ss xs → pre.length = i → EnvOk M (argEnv i ss) (pre ++ xs ++ post).toArray
  | [], _, _, _, _, _, _ => by intro i s e; simp [argEnv, look] at e
  | s :: ss, xs, i, pre, post, h, hl => by
    rw [rels_cons] at h
    obtain ⟨y, zs, rfl, h1, h2⟩ := h
    intro j t e
    simp only [argEnv, look] at e
    cases hb : Nat.beq i j with
    | true =>
      rw [hb] at e
      have := Nat.eq_of_beq_eq_true hb
      subst this
      simp only [cond_true, Option.some.injEq] at e
      subst e
      refine ⟨y, ?_, h1⟩
      subst hl
      simp
    | false =>
      rw [hb] at e
      have := argEnv_ok ss zs (i + 1) (pre ++ [y]) post h2 (by simp [hl]) j t e
      simpa using this
theorem spec_of {P : Program} {f : FuncId} {fn : Func} {c : Code} {ss : List SV} {L : List Res} {M : Mem} {Φ : SV → List Res → Mem → Prop} (rvs : List ResultVar) (hf : P.funcs[f]? = some fn) (hb : fn.body = some c) (hr : fn.results = rvs.toArray) (hn : Nat.ble ss.length fn.ntmps = true)
    (h : ∀ w0, W ⟨P, w0, nums L, M, fn.ntmps⟩ c (argEnv 0 ss) L M (retQ ⟨P, w0, nums L, M, fn.ntmps⟩ rvs Φ)) : Spec P f ss L M Φ := fun w xs hx hm hL hnd => by
  have hlen := rels_length hx
  have hn := Nat.le_of_ble_eq_true hn
  refine calls_of_wp hf hb ?_
  have st : St ⟨P, w, nums L, M, fn.ntmps⟩ (argEnv 0 ss) L M { tmps := xs.toArray ++ Array.replicate (fn.ntmps - xs.toArray.size) undef, defers := [] } w := {
    defers := rfl
    size := by simp; omega
    env := by
      have := argEnv_ok (M := M) ss xs 0 [] (List.replicate (fn.ntmps - xs.length) undef) hx rfl
      intro i s e
      obtain ⟨y, hy, hr⟩ := this i s e
      refine ⟨y, ?_, hr⟩
      rw [← hy]
      congr 1
      apply Array.toList_inj.1
      simp
    keep := Keep.refl _ _
    le := Mem.le.refl M
    newc := fun b o v e => .inl e
    mem := hm
    res := hL
    nodup := hnd
    own := fun n hn => .inl hn }
  refine wp_mono (h w _ _ st) ?_
  rintro ex a w' ⟨E', L', M', st', hex, ss', L'', hres, hsub, hΦ⟩
  obtain ⟨x, hx', hrun⟩ := run_results st' hres hr
  have fin : ∃ (x_1 : Value) (s : SV) (L_1 : List Res) (M_1 : Mem), Ending.returned x = .returned x_1 ∧ SV.rel M_1 s x_1 ∧ Φ s L_1 M_1 ∧ Ret L M w L_1 M_1 w' :=
    ⟨x, packSV ss', L'', M', rfl, hx', hΦ, {
      le := st'.le
      mem := st'.mem
      newc := st'.newc
      res := fun r hr => st'.res r (hsub.subset hr)
      nodup := st'.nodup.sublist (hsub.filterMap _)
      own := fun n hn => st'.own n ((hsub.filterMap _).subset hn)
      keep := st'.keep }⟩
  rcases hex with rfl | rfl
  · exact ⟨st'.defers, x, hrun, fin⟩
  · exact ⟨st'.defers, x, hrun, fin⟩

/-! ### bits.Add64, Sub64, Mul64 -/
/-- A function that the model carries out itself. -/
class ExtF (P : Program) (f : Nat) (e : outParam (Array Value → Sem Value)) : Prop where
  out : ∃ fn, P.funcs[f]? = some fn ∧ (fn.name == "runtime.NumGoroutine") = false ∧ fn.body.isNone = true ∧ Extern.findNext fn = none ∧ Extern.find fn = some e
def sub64E : Array Value → Sem Value := fun args => do
  let (x, y, b) ← Extern.MathBitsCarry.three "Sub64" args
  pure (Extern.MathBitsCarry.pair ((x + Extern.MathBitsCarry.m64 - y - b) % Extern.MathBitsCarry.m64) (if x < y + b then 1 else 0))
theorem run_sub64E {P : Program} (x y b : Int) (hx : 0 ≤ x) (hy : 0 ≤ y) (hb0 : 0 ≤ b) (hb : b ≤ 1) (hx2 : x < 18446744073709551616) (hy2 : y < 18446744073709551616) (w : World) :
    (sub64E #[.int .u64 x, .int .u64 y, .int .u64 b]).run P w = .ok (.tuple #[.int .u64 ((x - y - b) % 18446744073709551616), .int .u64 (if x < y + b then 1 else 0)]) w := by
  have key : ∀ k : Nat, k ≤ 1 → (sub64E #[.int .u64 x, .int .u64 y, .int .u64 (k : Int)]).run P w =
      .ok (Extern.MathBitsCarry.pair ((x.toNat + Extern.MathBitsCarry.m64 - y.toNat - k) % Extern.MathBitsCarry.m64) (if x.toNat < y.toNat + k then 1 else 0)) w := by
    intro k hk
    have : k = 0 ∨ k = 1 := by omega
    rcases this with rfl | rfl <;> rfl
  obtain ⟨k, rfl⟩ := Int.eq_ofNat_of_zero_le hb0
  rw [key k (by omega)]
  obtain ⟨X, rfl⟩ := Int.eq_ofNat_of_zero_le hx
  obtain ⟨Y, rfl⟩ := Int.eq_ofNat_of_zero_le hy
  simp only [Extern.MathBitsCarry.pair, Extern.MathBitsCarry.m64, Int.toNat_natCast]
  have e1 : (((X + 18446744073709551616 - Y - k) % 18446744073709551616 : Nat) : Int) = ((X : Int) - Y - k) % 18446744073709551616 := by omega
  have e2 : (((if X < Y + k then 1 else 0 : Nat)) : Int) = if (X : Int) < (Y : Int) + (k : Int) then 1 else 0 := by
    by_cases h : X < Y + k
    · rw [if_pos h, if_pos (by omega)]; rfl
    · rw [if_neg h, if_neg (by omega)]; rfl
  have e2' : (((if X < Y + k then 1 else 0 : Nat)) : Int) = _ := e2
  rw [← e1, ← e2]
  rfl
theorem still_ext {c : Call} {f : Nat} {e : Array Value → Sem Value} [hf : ExtF G.P f e] {ss : List SV} {s : SV} (ho : o.op = .call c) (hc : c.callee = .value (.func f)) (es : evs E c.args.toList = some ss)
    (h : ∀ xs, SV.rels M ss xs → ∃ x, SV.rel M s x ∧ ∀ w, (e xs.toArray).run G.P w = .ok x w) : Still G o E L M s := fun a w h1 _ _ => by
  obtain ⟨x, hx, hrun⟩ := h _ (evs_rel h1 es)
  obtain ⟨fn, h1, h2, h3, h4, h5⟩ := hf.out
  have hargs : c.args.map a.eval = (c.args.toList.map a.eval).toArray := by rw [← Array.toList_map, Array.toArray_toList]
  refine ⟨x, hx, fun w' _ _ => ?_⟩
  simp [execOp, ho, resolve, hc, Act.eval, Deferred.ofValue, invoke, run_callFunc_extern h1 h2 h3 h4 h5, hargs, hrun]
theorem still_add64 {c : Call} {f : Nat} [hf : ExtF G.P f add64Entry] {x y z : Int} (ho : o.op = .call c) (hc : c.callee = .value (.func f)) (es : evs E c.args.toList = some [.v (.int .u64 x), .v (.int .u64 y), .v (.int .u64 z)]) (hx : 0 ≤ x) (hy : 0 ≤ y) (hz : 0 ≤ z ∧ z ≤ 1) :
    Still G o E L M (.tup [.v (.int .u64 ((x + y + z) % 18446744073709551616)), .v (.int .u64 ((x + y + z) / 18446744073709551616))]) :=
  still_ext ho hc es fun xs h => by
    simp only [rels_cons, rels_nil, rel_v] at h
    obtain ⟨_, _, rfl, rfl, _, _, rfl, rfl, _, _, rfl, rfl, rfl⟩ := h
    exact ⟨_, by simp only [SV.rel]; exact ⟨_, rfl, rels_vals [_, _]⟩, fun w => run_add64 x y z hx hy hz.1 hz.2 w⟩
theorem still_sub64 {c : Call} {f : Nat} [hf : ExtF G.P f sub64E] {x y z : Int} (ho : o.op = .call c) (hc : c.callee = .value (.func f)) (es : evs E c.args.toList = some [.v (.int .u64 x), .v (.int .u64 y), .v (.int .u64 z)]) (hx : 0 ≤ x ∧ x < 18446744073709551616) (hy : 0 ≤ y ∧ y < 18446744073709551616) (hz : 0 ≤ z ∧ z ≤ 1) :
    Still G o E L M (.tup [.v (.int .u64 ((x - y - z) % 18446744073709551616)), .v (.int .u64 (if x < y + z then 1 else 0))]) :=
  still_ext ho hc es fun xs h => by
    simp only [rels_cons, rels_nil, rel_v] at h
    obtain ⟨_, _, rfl, rfl, _, _, rfl, rfl, _, _, rfl, rfl, rfl⟩ := h
    exact ⟨_, by simp only [SV.rel]; exact ⟨_, rfl, rels_vals [_, _]⟩, fun w => run_sub64E x y z hx.1 hy.1 hz.1 hz.2 hx.2 hy.2 w⟩

/-! ### Lengths -/
theorem still_len_sl {c : Call} {T el sz : Nat} [t : SlT G.P T el sz] {x : Operand} {sz' : Nat} {es : List (List SV)} (ho : o.op = .call c) (hc : c.callee = .builtin .len) (ha : c.args = #[x]) (hT : c.argTypes = #[T]) (e : evL E x = some (.sl sz' es)) :
    Still G o E L M (.v (.int .i64 es.length)) := fun a w h1 _ _ =>
  ⟨_, rel_v.2 rfl, fun w' _ _ => by
    have hx := evL_rel h1 e
    obtain ⟨hu, _⟩ := t.get
    simp only [SV.rel] at hx
    rcases hx with ⟨⟨_, _, hx⟩, h0⟩ | ⟨b, off, cap, hx, _, _⟩ <;> simp [execOp, ho, resolve, hc, ha, hT, invoke, builtin, Builtin.len_, run_underlying hu, hx, goInt]
    exact h0.symm ▸ rfl⟩
theorem still_len_str {c : Call} {T : TypeId} {s1 b1 : Nat} {z1 : Value} [t : Ty G.P T .string s1 b1 z1] {x : Operand} {s : ByteArray} (ho : o.op = .call c) (hc : c.callee = .builtin .len) (ha : c.args = #[x]) (hT : c.argTypes = #[T]) (e : evO E x = some (.v (.string s))) :
    Still G o E L M (.v (.int .i64 s.size)) := fun a w h1 _ _ =>
  ⟨_, rel_v.2 rfl, fun w' _ _ => by
    have hx := rel_v.1 (evO_rel h1 e)
    simp [execOp, ho, resolve, hc, ha, hT, invoke, builtin, Builtin.len_, run_underlying t.str, hx, goInt]⟩

/-! ### Calls through a function value -/
theorem evs_append {M : Mem} {ss ts : List SV} {xs ys : List Value} (h : SV.rels M ss xs) (k : SV.rels M ts ys) : SV.rels M (ss ++ ts) (xs ++ ys) := rels_append h k
theorem wl_callv {c : Call} {t : Nat} {f : Nat} [hf : Fun G.P f] {caps ss : List SV} {Φ : SV → List Res → Mem → Prop} (hg : o.guard = none) (hd : dstOk G o = true) (ho : o.op = .call c) (hc : c.callee = .value (.tmp t)) (ht : look E t = some (.fn f caps)) (es : evsL E c.args.toList = some ss)
    (h : Spec G.P f (ss ++ caps) [] M Φ) (k : ∀ s L' M', M.le M' → Φ s L' M' → WL G ops rest (putE E o.dst s) (L' ++ L) M' K) : WL G ops (o :: rest) E L M K := fun a w st => by
  obtain ⟨y, hy, hr⟩ := st.env t _ ht
  simp only [SV.rel] at hr
  obtain ⟨ys, rfl, hcaps⟩ := hr
  have hev : a.eval (.tmp t) = .func (.func f) #[] ys := by simp [Act.eval, hy]
  have hop : (execOp a.eval o).run G.P w = .ok (.enter f (c.args.map a.eval ++ ys)) w := by
    simp [execOp, ho, resolve, hc, hev, Deferred.ofValue, invoke, run_callFunc' hf]
  unfold wpList
  rw [if_pos (by simp [Region.wanted, hg])]
  left
  simp only [Oper.wp, hop, Oper.upon_enter]
  have hargs : c.args.map a.eval ++ ys = (c.args.toList.map a.eval ++ ys.toList).toArray := by rw [← Array.toList_map, ← Array.toList_append, Array.toArray_toList]
  rw [hargs]
  refine (h w _ (rels_append (evsL_rel st.env es) hcaps) st.mem (fun _ h => by cases h) List.nodup_nil).mono ?_
  rintro e w' ⟨x, s, L', M', rfl, hr, hΦ, R⟩
  exact k s L' M' R.le hΦ _ _ ((st.ret R).put hr hd)
/-- A guarded call whose guard says yes. -/
theorem wl_gcall {c : Call} {f : Nat} {j : Nat} {want : Bool} {g : Nat} [hf : Fun G.P f] {ss : List SV} {Φ : SV → List Res → Mem → Prop} (hg : o.guard = some (j, want)) (hj : (ops[j]?).bind (·.dst) = some g) (e : look E g = some (.v (.bool want))) (hd : dstOk G o = true) (ho : o.op = .call c) (hc : c.callee = .value (.func f)) (es : evsL E c.args.toList = some ss)
    (h : Spec G.P f ss [] M Φ) (k : ∀ s L' M', M.le M' → Φ s L' M' → WL G ops rest (putE E o.dst s) (L' ++ L) M' K) : WL G ops (o :: rest) E L M K := fun a w st => by
  obtain ⟨y, hy, hr2⟩ := st.env g _ e
  rw [rel_v] at hr2
  subst hr2
  have hop : (execOp a.eval o).run G.P w = .ok (.enter f (c.args.map a.eval)) w := by
    simp [execOp, ho, resolve, hc, Act.eval, Deferred.ofValue, invoke, run_callFunc' hf]
  unfold wpList
  rw [if_pos (by simp only [Region.wanted, hg, yielded, hj, Option.bind_some, hy]; simp)]
  left
  simp only [Oper.wp, hop, Oper.upon_enter]
  have hargs : c.args.map a.eval = (c.args.toList.map a.eval).toArray := by rw [← Array.toList_map, Array.toArray_toList]
  rw [hargs]
  refine (h w _ (evsL_rel st.env es) st.mem (fun _ h => by cases h) List.nodup_nil).mono ?_
  rintro e w' ⟨x, s, L', M', rfl, hr, hΦ, R⟩
  exact k s L' M' R.le hΦ _ _ ((st.ret R).put hr hd)

/-! ### Loops with the state written out -/
def SubE (E : Env) : Env → Prop
  | [] => True
  | (i, s) :: E' => look E i = some s ∧ SubE E E'
theorem SubE.look {E : Env} : ∀ {E' : Env}, SubE E E' → ∀ i s, look E' i = some s → Go.Eng.look E i = some s
  | [], _, i, s, e => by simp [Go.Eng.look] at e
  | (j, t) :: E', h, i, s, e => by
    simp only [Go.Eng.look] at e
    cases hb : Nat.beq j i with
    | true =>
      rw [hb] at e
      have := Nat.eq_of_beq_eq_true hb
      subst this
      simp only [cond_true, Option.some.injEq] at e
      subst e
      exact h.1
    | false => rw [hb] at e; exact SubE.look h.2 i s e
theorem w_subE {c : Code} {Q : Post} (E' : Env) (h : SubE E E') (k : W G c E' L M Q) : W G c E L M Q := w_sub E' h.look k
theorem w_loopE {c : Code} {Q : Post} {σ : Type} (env : σ → Env) (res : σ → List Res) (ok : σ → Mem → Prop) (m : σ → Nat) (s0 : σ) (hE : SubE E (env s0)) (hL : L = res s0) (h0 : ok s0 M)
    (round : ∀ s M', M.le M' → ok s M' → W G c (env s) (res s) M' (thenQ (fun E' L' M'' => ∃ s', m s' < m s ∧ SubE E' (env s') ∧ L' = res s' ∧ M'.le M'' ∧ ok s' M'') Q)) : W G (.loop c) E L M Q := by
  subst hL
  refine w_subE (env s0) hE ?_
  refine w_loop (σ := σ) (fun s E' L' M' => E' = env s ∧ L' = res s ∧ M.le M' ∧ ok s M') m s0 ⟨rfl, rfl, Mem.le.refl M, h0⟩ ?_
  rintro s E' L' M' ⟨rfl, rfl, hle, hok⟩ a w st
  refine wp_mono (round s M' hle hok a w st) ?_
  rintro ex a' w' ⟨E2, L2, M2, st2, hq⟩
  cases ex with
  | normal =>
    obtain ⟨s', hm, hs, rfl, hl2, hok2⟩ := hq
    exact ⟨env s', res s', M2, { st2 with env := st2.env.sub hs.look }, s', hm, rfl, rfl, hle.trans hl2, hok2⟩
  | exit id => exact ⟨E2, L2, M2, st2, hq⟩
  | goto l => exact ⟨E2, L2, M2, st2, hq⟩
  | ret => exact ⟨E2, L2, M2, st2, hq⟩
  | panic ch => exact ⟨E2, L2, M2, st2, hq⟩
  | outgrown => exact ⟨E2, L2, M2, st2, hq⟩

/-! ### Data -/
def ns (k : IntKind) (xs : List Int) : List (List SV) := xs.map fun x => [.v (.int k x)]
abbrev bs (xs : List Int) : List (List SV) := ns .u8 xs
theorem ns_length (k : IntKind) (xs : List Int) : (ns k xs).length = xs.length := by simp [ns]
theorem bs_length (xs : List Int) : (bs xs).length = xs.length := by simp [ns]
theorem ns_get {k : IntKind} {xs : List Int} {i : Nat} (h : i < xs.length) : (ns k xs)[i]? = some [.v (.int k (xs.getD i 0))] := by
  simp [ns, h]
theorem bs_get {xs : List Int} {i : Nat} (h : i < xs.length) : (bs xs)[i]? = some [.v (.int .u8 (xs.getD i 0))] := ns_get h
theorem ns_drop (k : IntKind) (xs : List Int) (n : Nat) : (ns k xs).drop n = ns k (xs.drop n) := by simp [ns, List.map_drop]
theorem ns_take (k : IntKind) (xs : List Int) (n : Nat) : (ns k xs).take n = ns k (xs.take n) := by simp [ns, List.map_take]
theorem ns_append (k : IntKind) (xs ys : List Int) : ns k xs ++ ns k ys = ns k (xs ++ ys) := by simp [ns]
end
end Go.Eng

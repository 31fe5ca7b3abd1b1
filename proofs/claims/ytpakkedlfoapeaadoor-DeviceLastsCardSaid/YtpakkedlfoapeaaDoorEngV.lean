/- Arguments told anew; what is known of an argument; blocks apart; a box labelled anew; what was read is written, from the beginning's memory. -/
import Derived.Test.YtpakkedlfoapeaaDoorEngU
namespace Go.Eng
open Go

/-- A contract for arguments that read as something else as well. -/
theorem Spec.args {P : Program} {f : FuncId} {ss ss' : List SV} {L : List Res} {M : Mem} {Φ : SV → List Res → Mem → Prop} (h : Spec P f ss L M Φ) (k : ImpAll M ss' ss) : Spec P f ss' L M Φ := fun w xs h1 h2 h3 h4 => h w xs (rels_imp k h1) h2 h3 h4
/-- A walk that knows that the memory it began in holds. -/
theorem spec_ofH {P : Program} {f : FuncId} {fn : Func} {c : Code} {ss : List SV} {L : List Res} {M : Mem} {Φ : SV → List Res → Mem → Prop} (rvs : List ResultVar) (hf : P.funcs[f]? = some fn) (hb : fn.body = some c) (hr : fn.results = rvs.toArray) (hn : Nat.ble ss.length fn.ntmps = true)
    (h : ∀ w0, M.Holds w0 → W ⟨P, w0, nums L, M, fn.ntmps⟩ c (argEnv 0 ss) L M (retQ ⟨P, w0, nums L, M, fn.ntmps⟩ rvs Φ)) : Spec P f ss L M Φ := fun w xs hx hm hL hnd => by
  have hlen := rels_length hx
  have hn := Nat.le_of_ble_eq_true hn
  refine calls_of_wp hf hb ?_
  have st : St ⟨P, w, nums L, M, fn.ntmps⟩ (argEnv 0 ss) L M { tmps := xs.toArray ++ Array.replicate (fn.ntmps - xs.toArray.size) undef, defers := [] } w := {
    defers := rfl
    size := by simp; omega
    env := by
      have := argEnv_ok (M := M) ss xs 0 [] (List.replicate (fn.ntmps - xs.length) undef) hx rfl
      intro i s e
      obtain ⟨y, hy, hr⟩ := this i s e
      refine ⟨y, ?_, hr⟩
      rw [← hy]
      congr 1
      apply Array.toList_inj.1
      simp
    keep := Keep.refl _ _
    le := Mem.le.refl M
    newc := fun b o v e => .inl e
    mem := hm
    res := hL
    nodup := hnd
    own := fun n hn => .inl hn }
  refine wp_mono (h w hm _ _ st) ?_
  rintro ex a w' ⟨E', L', M', st', hex, ss', L'', hres, hsub, hΦ⟩
  obtain ⟨x, hx', hrun⟩ := run_results st' hres hr
  have fin : ∃ (x_1 : Value) (s : SV) (L_1 : List Res) (M_1 : Mem), Ending.returned x = .returned x_1 ∧ SV.rel M_1 s x_1 ∧ Φ s L_1 M_1 ∧ Ret L M w L_1 M_1 w' :=
    ⟨x, packSV ss', L'', M', rfl, hx', hΦ, {
      le := st'.le
      mem := st'.mem
      newc := st'.newc
      res := fun r hr => st'.res r (hsub.subset hr)
      nodup := st'.nodup.sublist (hsub.filterMap _)
      own := fun n hn => st'.own n ((hsub.filterMap _).subset hn)
      keep := st'.keep }⟩
  rcases hex with rfl | rfl
  · exact ⟨st'.defers, x, hrun, fin⟩
  · exact ⟨st'.defers, x, hrun, fin⟩

section
variable {G : Ctx} {E : Env} {L : List Res} {M : Mem} {o : Oper} {ops : Array Oper} {rest : List Oper} {K : KPost} {Q : Post}
theorem wl_know (i : Nat) {l : List Oper} {x : Value} {s : SV} (hx : SV.rel G.M0 s x) (k : WL G ops l ((i, s) :: E) L M K) (e : look E i = some (.v x) := by rfl) : WL G ops l E L M K := fun a w st =>
  k a w (st.tell e fun y hy => by rw [rel_v] at hy; subst hy; exact hx.mono st.le)
theorem St.relabel {a : Act} {w : World} {k n : Nat} (k' : Nat) {T : TypeId} {cs : List SV} {Lr : List Res} (st : St G E (.box k n T cs :: Lr) M a w) : St G E (.box k' n T cs :: Lr) M a w := { st with
  res := by
    intro r hr
    cases hr with
    | head => exact st.res (.box k n T cs) List.mem_cons_self
    | tail _ hr => exact st.res r (List.mem_cons_of_mem _ hr)
  nodup := st.nodup
  own := st.own }
theorem wl_relabel (k' : Nat) {l : List Oper} {k n : Nat} {T : TypeId} {cs : List SV} {Lr : List Res} (kk : WL G ops l E (.box k' n T cs :: Lr) M K) (hL : L = .box k n T cs :: Lr := by rfl) : WL G ops l E L M K := fun a w st => by
  subst hL; exact kk a w (st.relabel k')
theorem w_relabel (k' : Nat) {c : Code} {k n : Nat} {T : TypeId} {cs : List SV} {Lr : List Res} (kk : W G c E (.box k' n T cs :: Lr) M Q) (hL : L = .box k n T cs :: Lr := by rfl) : W G c E L M Q := fun a w st => by
  subst hL; exact kk a w (st.relabel k')
/-- Two blocks that are owned are two. -/
theorem w_apart {c : Code} {v v2 : Value} {T T2 sz s2 n n2 : Nat} {Lr : List Res} (kk : (∀ b, v2.ownBlock = some b → some b ≠ v.ownBlock) → W G c E L M Q) (hL : L = .tail v T sz n :: .tail v2 T2 s2 n2 :: Lr := by rfl) : W G c E L M Q := fun a w st => by
  refine kk (fun b hb hb2 => ?_) a w st
  have := st.nodup
  subst hL
  simp only [nums, List.filterMap_cons, Res.num, hb, ← hb2, List.nodup_cons, List.mem_cons, true_or, not_true_eq_false, false_and] at this
theorem w_thawH {c : Code} {v : Value} {T sz n : Nat} {Lr : List Res} (hM : G.M0.Holds G.w0) (hK : G.K = []) (k : Nat) (E' : Env) (hE : Stay E v.ownBlock E') (hR : StayR v.ownBlock Lr)
    (k0 : v = .slice none 0 0 → n = 0 → W G c E' Lr (match v.ownBlock with | some g => M.off g | none => M) Q)
    (k1 : ∀ g cap cs, v = .slice (some ⟨g, 0, none⟩) n cap → n ≤ cap → cs.length = cap * sz → W G c E' (.box k g T cs :: Lr) (M.off g) Q) (hL : L = .tail v T sz n :: Lr := by rfl) : W G c E L M Q := fun a w st => by
  refine w_thaw k E' hE hR k0 k1 hL (fun b o x e hb => ?_) a w st
  subst hL
  have h1 : b ∈ nums (.tail v T sz n :: Lr) := by
    simp only [nums, List.filterMap_cons, Res.num, ← hb]
    exact List.mem_cons_self
  rcases st.own b h1 with h | h
  · rw [hK] at h; cases h
  · have := hM.lt e; omega
end
end Go.Eng

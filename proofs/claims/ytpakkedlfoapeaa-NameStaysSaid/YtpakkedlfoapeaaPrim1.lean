/- Walks: slices.Clone, IndexFunc, ContainsFunc at bytes; prim.Text. -/
import Derived.Test.YtpakkedlfoapeaaTy
namespace Go.Eng
open Go Go.Proofs
set_option maxRecDepth 100000
def idxI (p : Int → Bool) (xs : List Int) : Int := match xs.findIdx? p with | some i => i | none => -1
theorem idxI_none {p : Int → Bool} {xs : List Int} (h : ∀ j, j < xs.length → p (xs.getD j 0) = false) : idxI p xs = -1 := by
  unfold idxI
  rw [List.findIdx?_eq_none_iff.2]
  intro x hx
  obtain ⟨i, hi, rfl⟩ := List.getElem_of_mem hx
  simpa [hi] using h i hi
theorem idxI_some {p : Int → Bool} {xs : List Int} {i : Nat} (hi : i < xs.length) (h : ∀ j, j < i → p (xs.getD j 0) = false) (h1 : p (xs.getD i 0) = true) : idxI p xs = i := by
  unfold idxI
  rw [List.findIdx?_eq_some_iff_getElem.2 ⟨hi, by simpa [hi] using h1, fun j hj => by have := h j hj; simpa [Nat.lt_trans hj hi] using this⟩]
theorem idxI_any (p : Int → Bool) (xs : List Int) : decide (0 ≤ idxI p xs) = xs.any p := by
  unfold idxI
  cases h : xs.findIdx? p with
  | none => rw [List.findIdx?_eq_none_iff] at h; simpa using h
  | some i =>
    obtain ⟨hi, h1, _⟩ := List.findIdx?_eq_some_iff_getElem.1 h
    have : xs.any p = true := List.any_eq_true.2 ⟨_, List.getElem_mem hi, h1⟩
    rw [this]; simp

theorem idxF (p : Int → Bool) (g : Nat) [Fun Try.prog g] (caps : List SV) (xs : List Int) (M : Mem) (hn : xs.length < 9223372036854775807)
    (hp : ∀ i (_ : i < xs.length) M', M.le M' → Spec Try.prog g ([.v (.int .u8 (xs.getD i 0))] ++ caps) [] M' (fun s L' _ => s = .v (.bool (p (xs.getD i 0))) ∧ L' = [])) :
    Spec Try.prog 31 [.sl 1 (bs xs), .fn g caps] [] M (fun s L' _ => s = .v (.int .i64 (idxI p xs)) ∧ L' = []) := by
  refine spec_of [.tmp 4] Try.func31 rfl rfl rfl fun w0 => ?_
  repeat' (first | refine wl_nil ?_ | refine wl_s ?_ | refine w_sregion ?_ | refine w_seq ?_ | refine w_block ?_)
  refine w_loopE (σ := Nat) (fun i => [(8, .v (.int .i64 i)), (7, .v (.int .i64 (bs xs).length)), (1, .fn g caps), (0, .sl 1 (bs xs))]) (fun _ => []) (fun i _ => i ≤ xs.length ∧ ∀ j, j < i → p (xs.getD j 0) = false) (fun i => xs.length - i) 0 ⟨rfl, rfl, rfl, rfl, trivial⟩ rfl ⟨Nat.zero_le _, fun j h => absurd h (Nat.not_lt_zero j)⟩ ?_
  rintro i M' hle ⟨hi, hno⟩
  repeat' (first | refine wl_nil ?_ | refine wl_s ?_ | refine w_sregion ?_ | refine w_seq (w_cond rfl (fun h => ?_) (fun h => ?_)) | refine w_seq ?_ | refine w_block ?_ | refine w_skip ?_ | refine w_exit ?_ | refine w_ret ?_)
  · have hlt : i < xs.length := by rw [bs_length] at h; simpa using h
    refine wl_still rfl rfl (still_index_sl rfl rfl rfl (by omega) (bs_get hlt)) ?_
    refine wl_s ?_
    refine wl_callv rfl rfl rfl rfl rfl rfl (hp i hlt _ hle) ?_
    rintro _ _ M2 hle2 ⟨rfl, rfl⟩
    repeat' (first | refine wl_nil ?_ | refine wl_s ?_ | refine w_sregion ?_ | refine w_region ?_ | refine w_cond rfl (fun h => ?_) (fun h => ?_) | refine w_seq ?_ | refine w_block ?_ | refine w_skip ?_ | refine w_exit ?_ | refine w_ret ?_)
    · exact ⟨.inl rfl, _, [], .cons (resV_tmp rfl) .nil, .slnil, by rw [idxI_some hlt hno ‹_›]; rfl, rfl⟩
    · have hw : IntKind.i64.wrap ((i : Int) + 1) = ((i + 1 : Nat) : Int) := by rw [IntWalk.i64_in _ (by omega)]; rfl
      rw [hw]
      refine ⟨i + 1, by omega, ⟨rfl, rfl, rfl, rfl, trivial⟩, rfl, hle2, by omega, fun j hj => ?_⟩
      by_cases hj2 : j < i
      · exact hno j hj2
      · have : j = i := by omega
        subst this
        assumption
  · have : i = xs.length := by rw [bs_length] at h; simp at h; omega
    subst this
    exact ⟨.inl rfl, _, [], .cons (resV_tmp rfl) .nil, .slnil, by rw [idxI_none hno]; rfl, rfl⟩
theorem anyF (p : Int → Bool) (g : Nat) [Fun Try.prog g] (caps : List SV) (xs : List Int) (M : Mem) (hn : xs.length < 9223372036854775807)
    (hp : ∀ i (_ : i < xs.length) M', M.le M' → Spec Try.prog g ([.v (.int .u8 (xs.getD i 0))] ++ caps) [] M' (fun s L' _ => s = .v (.bool (p (xs.getD i 0))) ∧ L' = [])) :
    Spec Try.prog 24 [.sl 1 (bs xs), .fn g caps] [] M (fun s L' _ => s = .v (.bool (xs.any p)) ∧ L' = []) := by
  refine spec_of [.tmp 4] Try.func24 rfl rfl rfl fun w0 => ?_
  repeat' (first | refine wl_nil ?_ | refine wl_s ?_ | refine w_sregion ?_)
  refine wl_call rfl rfl rfl rfl rfl (idxF p g caps xs M hn hp) ?_
  rintro _ _ M2 hle2 ⟨rfl, rfl⟩
  repeat' (first | refine wl_nil ?_ | refine wl_s ?_ | refine w_sregion ?_ | refine w_ret ?_)
  exact ⟨.inl rfl, _, [], .cons (resV_tmp rfl) .nil, .slnil, by simp only [packSV, idxI_any], rfl⟩

def oddB (x : Int) : Bool := decide (x < 32) || decide (126 < x)
theorem textC (x : Int) (M : Mem) : Spec Try.prog 25 [.v (.int .u8 x)] [] M (fun s L' _ => s = .v (.bool (oddB x)) ∧ L' = []) := by
  refine spec_of [.tmp 2] Try.func25 rfl rfl rfl fun w0 => ?_
  repeat' (first | refine wl_nil ?_ | refine wl_s ?_ | refine wl_gno ?_ | refine wl_gyes ?_ | refine wl_gsplit rfl rfl rfl (fun h1 => ?_) (fun h1 => ?_) | refine w_sregion ?_ | refine w_ret ?_)
  · exact ⟨.inl rfl, _, [], .cons (resV_tmp rfl) .nil, .slnil, by simp [packSV, ofVal, oddB, h1], rfl⟩
  · exact ⟨.inl rfl, _, [], .cons (resV_tmp rfl) .nil, .slnil, by simp [packSV, oddB, h1], rfl⟩

/-- What prim.Text answers: the text; else an error's number. -/
def textF (xs : List Int) : Int := if 64 < xs.length then 2 else if xs.length = 0 ∨ xs.any oddB = true then 7 else 0
def eCode (c : Int) : SV := .ifc 54 (.v (.int .i64 c))
def textR (xs : List Int) : SV := if textF xs = 0 then .tup [.v (.string (ofBytes xs)), .v .nilIface] else .tup [.v (.string .empty), eCode (textF xs)]
theorem textS (xs : List Int) (M : Mem) (hn : xs.length ≤ 9223372036854775807) : Spec Try.prog 14 [.sl 1 (bs xs)] [] M (fun s L' _ => s = textR xs ∧ L' = []) := by
  have e2 : 64 < xs.length → textF xs = 2 := fun h => by simp [textF, h]
  have e7 : ¬ 64 < xs.length → (xs.length = 0 ∨ xs.any oddB = true) → textF xs = 7 := fun h k => by rw [textF, if_neg h, if_pos k]
  have e0 : ¬ 64 < xs.length → ¬ xs.length = 0 → xs.any oddB = false → textF xs = 0 := fun h k l => by rw [textF, if_neg h, if_neg]; simp [k, l]
  refine spec_of [.tmp 2, .tmp 3] Try.func14 rfl rfl rfl fun w0 => ?_
  repeat' (first | refine wl_nil ?_ | refine wl_s ?_ | refine wl_gno ?_ | refine wl_gyes ?_ | refine wl_gsplit rfl rfl rfl (fun h1 => ?_) (fun h1 => ?_) | refine w_sregion ?_ | refine w_cond_t rfl ?_ | refine w_cond_f rfl ?_ | refine w_cond rfl (fun h => ?_) (fun h => ?_) | refine w_seq ?_ | refine w_block ?_ | refine w_skip ?_)
  · have h : 64 < xs.length := by have := of_decide_eq_true ‹decide (64 < ((bs xs).length : Int)) = true›; rw [bs_length] at this; omega
    exact w_ret ⟨.inl rfl, _, [], resVs2, List.nil_sublist _, by rw [textR, e2 h]; rfl, rfl⟩
  · have h : ¬ 64 < xs.length := by have := of_decide_eq_false ‹decide (64 < ((bs xs).length : Int)) = false›; rw [bs_length] at this; omega
    have h1 : xs.length = 0 := by have := of_decide_eq_true ‹decide (((bs xs).length : Int) = 0) = true›; rw [bs_length] at this; omega
    exact w_ret ⟨.inl rfl, _, [], resVs2, List.nil_sublist _, by rw [textR, e7 h (.inl h1)]; rfl, rfl⟩
  · have h : ¬ 64 < xs.length := by have := of_decide_eq_false ‹decide (64 < ((bs xs).length : Int)) = false›; rw [bs_length] at this; omega
    have h1 : ¬ xs.length = 0 := by have := of_decide_eq_false ‹decide (((bs xs).length : Int) = 0) = false›; rw [bs_length] at this; omega
    refine wl_c (anyF oddB 25 [] xs M (by simp at *; omega) fun i _ M' _ => textC _ M') ?_
    rintro _ _ M2 hle2 ⟨rfl, rfl⟩
    repeat' (first | refine wl_nil ?_ | refine wl_s ?_ | refine w_sregion ?_ | refine w_cond rfl (fun h9 => ?_) (fun h9 => ?_) | refine w_seq ?_ | refine w_block ?_ | refine w_skip ?_)
    · exact w_ret ⟨.inl rfl, _, [], resVs2, List.nil_sublist _, by rw [textR, e7 h (.inr ‹_›)]; rfl, rfl⟩
    · exact w_ret ⟨.inl rfl, _, [], resVs2, List.nil_sublist _, by rw [textR, e0 h h1 ‹_›]; rfl, rfl⟩

/-- A slice of the call's own, told with its data. -/
def OwnB (s : SV) (L : List Res) (xs : List Int) : Prop := ∃ v, s = .rw v 1 (bs xs) ∧ L = [.tail v 5 1 xs.length]
theorem cloneS (xs : List Int) (M : Mem) (hn : xs.length ≤ 140737488355328) : Spec Try.prog 22 [.sl 1 (bs xs)] [] M (fun s L' _ => OwnB s L' xs) := by
  refine spec_of [.tmp 2] Try.func22 rfl rfl rfl fun w0 => ?_
  repeat' (first | refine wl_nil ?_ | refine wl_s ?_ | refine w_sregion ?_ | refine w_seq ?_)
  refine wl_slnil fun b hb => ?_
  repeat' (first | refine wl_nil ?_ | refine wl_s ?_ | refine w_sregion ?_ | refine w_cond rfl (fun h => ?_) (fun h => ?_) | refine w_seq ?_ | refine w_skip ?_)
  · subst b
    have hx : xs = [] := by have := hb rfl; simpa [ns] using this
    subst hx
    refine w_nilrw (i := 2) 5 1 rfl ?_
    exact w_ret ⟨.inl rfl, _, _, resVs1, List.Sublist.refl _, _, rfl, rfl⟩
  · refine wl_bs fun v M2 hle2 => ?_
    refine wl_s ?_
    refine wl_ap 0 ?_ ?_ ?_ fun v' M3 hle3 => ?_
    · rw [bs_length]; omega
    · rw [bs_length]; omega
    · rfl
    repeat' (first | refine wl_nil ?_ | refine wl_s ?_ | refine w_sregion ?_)
    exact w_ret ⟨.inl rfl, _, _, resVs1, List.Sublist.refl _, _, rfl, by simp [bs_length]⟩
end Go.Eng

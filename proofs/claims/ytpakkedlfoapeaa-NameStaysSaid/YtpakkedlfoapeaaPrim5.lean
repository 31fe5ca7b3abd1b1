/- Walks: escutcheonlaw13.same, prim.Bits. -/
import Derived.Test.YtpakkedlfoapeaaPrim4
import Derived.Test.YtpakkedlfoapeaaEngM
namespace Go.Eng
open Go Go.Proofs
set_option maxRecDepth 100000

theorem list_ext_getD {xs ys : List Int} (hl : xs.length = ys.length) (h : ∀ j, j < xs.length → xs.getD j 0 = ys.getD j 0) : xs = ys := by
  refine List.ext_getElem hl fun j h1 h2 => ?_
  have := h j h1
  simpa [h1, h2] using this
theorem sameS (xs ys : List Int) (M : Mem) (hx : xs.length < 9223372036854775807) : Spec Try.prog 15 [.sl 1 (ns .u64 xs), .sl 1 (ns .u64 ys)] [] M (fun s L' _ => s = .v (.bool (decide (xs = ys))) ∧ L' = []) := by
  refine spec_of [.tmp 4] Try.func15 rfl rfl rfl fun w0 => ?_
  repeat' (first | (refine wt_id ?_; first | with_reducible refine wt_put ?_ | refine wt_ldT ?_ | refine wt_lenn ?_ | refine wt_t ?_ | refine wt_t2 ?_ | refine wt_eq ?_ | refine wt_pt ?_ | refine wt_pf ?_ | refine wt_n ?_ | refine wt_u ?_ | refine wt_ixn ?_ ?_ | refine wt_lon ?_ ?_ | refine wt_shl ?_ ?_ | refine wt_shr ?_ ?_ | refine wt_z ?_ | refine wt_gs (fun h1 => ?_) (fun h1 => ?_)) | (refine wl_id ?_; first | with_reducible refine wl_put ?_ | refine wl_ldT ?_ | refine wl_lenn ?_ | refine wl_s ?_ | refine wl_s2 ?_ | refine wl_eq ?_ | refine wl_st ?_ | refine wl_nil ?_ | refine wl_pt ?_ | refine wl_pf ?_ | refine wl_kn ?_ | refine wl_ky ?_ | refine wl_gu ?_ | refine wl_gs (fun h1 => ?_) (fun h1 => ?_) | refine wl_ixn ?_ ?_ | refine wl_lon ?_ ?_ | refine wl_shl ?_ ?_ | refine wl_shr ?_ ?_) | (refine w_id ?_; first | with_reducible refine w_put ?_ | refine w_sregion ?_ | refine w_sdr ?_ | refine w_region ?_ | refine w_dr ?_ | refine w_kt ?_ | refine w_kf ?_ | refine w_cond rfl (fun h => ?_) (fun h => ?_) | refine w_seq ?_ | refine w_block ?_ | refine w_skip ?_ | refine w_exit ?_))
  · refine w_ret ⟨.inl rfl, _, [], resVs1, List.nil_sublist _, ?_⟩
    have hn : xs ≠ ys := by rintro rfl; simp at h
    exact ⟨by rw [decide_eq_false hn]; rfl, rfl⟩
  · have hl : xs.length = ys.length := by simp at h; omega
    refine w_loopE (σ := Nat) (fun i => [(5, .v (.int .i64 i)), (0, .sl 1 (ns .u64 xs)), (1, .sl 1 (ns .u64 ys))]) (fun _ => []) (fun i _ => i ≤ xs.length ∧ ∀ j, j < i → xs.getD j 0 = ys.getD j 0) (fun i => xs.length - i) 0 ⟨rfl, rfl, rfl, trivial⟩ rfl ⟨Nat.zero_le _, fun j h => absurd h (Nat.not_lt_zero j)⟩ ?_
    rintro i M1 hle1 ⟨hi, hs⟩
    repeat' (first | (refine wt_id ?_; first | with_reducible refine wt_put ?_ | refine wt_ldT ?_ | refine wt_lenn ?_ | refine wt_t ?_ | refine wt_t2 ?_ | refine wt_eq ?_ | refine wt_pt ?_ | refine wt_pf ?_ | refine wt_n ?_ | refine wt_u ?_ | refine wt_ixn ?_ ?_ | refine wt_lon ?_ ?_ | refine wt_shl ?_ ?_ | refine wt_shr ?_ ?_ | refine wt_z ?_ | refine wt_gs (fun h1 => ?_) (fun h1 => ?_)) | (refine wl_id ?_; first | with_reducible refine wl_put ?_ | refine wl_ldT ?_ | refine wl_lenn ?_ | refine wl_s ?_ | refine wl_s2 ?_ | refine wl_eq ?_ | refine wl_st ?_ | refine wl_nil ?_ | refine wl_pt ?_ | refine wl_pf ?_ | refine wl_kn ?_ | refine wl_ky ?_ | refine wl_gu ?_ | refine wl_gs (fun h1 => ?_) (fun h1 => ?_) | refine wl_ixn ?_ ?_ | refine wl_lon ?_ ?_ | refine wl_shl ?_ ?_ | refine wl_shr ?_ ?_) | (refine w_id ?_; first | with_reducible refine w_put ?_ | refine w_sregion ?_ | refine w_sdr ?_ | refine w_region ?_ | refine w_dr ?_ | refine w_kt ?_ | refine w_kf ?_ | refine w_cond rfl (fun h => ?_) (fun h => ?_) | refine w_seq ?_ | refine w_block ?_ | refine w_skip ?_ | refine w_exit ?_))
    all_goals simp only [decide_eq_true_eq, decide_eq_false_iff_not, Int.toNat_natCast, Bool.not_eq_true', Bool.not_eq_false', Bool.not_eq_eq_eq_not, Bool.not_true, Bool.not_false] at *
    · refine ⟨by omega, ?_⟩; omega
    · refine ⟨by omega, ?_⟩; omega
    · refine w_ret ⟨.inl rfl, _, [], resVs1, List.nil_sublist _, ?_⟩
      have hn : xs ≠ ys := by rintro rfl; exact h rfl
      exact ⟨by rw [decide_eq_false hn]; rfl, rfl⟩
    · have hw : IntKind.i64.wrap ((i : Int) + 1) = ((i + 1 : Nat) : Int) := by rw [IntWalk.i64_in _ (by omega)]; rfl
      rw [hw]
      refine ⟨i + 1, by omega, ⟨rfl, rfl, rfl, trivial⟩, rfl, Mem.le.refl _, by omega, fun j hj => ?_⟩
      by_cases hj2 : j < i
      · exact hs j hj2
      · have : j = i := by omega
        subst this
        assumption
    · refine w_ret ⟨.inl rfl, _, [], resVs1, List.nil_sublist _, ?_⟩
      have hn : xs = ys := list_ext_getD hl fun j hj => hs j (by omega)
      exact ⟨by rw [decide_eq_true hn]; rfl, rfl⟩
end Go.Eng

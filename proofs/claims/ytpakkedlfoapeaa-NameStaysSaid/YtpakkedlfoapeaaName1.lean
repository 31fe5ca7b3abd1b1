/- Walks: name.kind, is. -/
import Derived.Test.YtpakkedlfoapeaaPrim9
namespace Go.Eng
open Go Go.Proofs
set_option maxRecDepth 100000

theorem kindS (k : Int) (M : Mem) : Spec Try.prog 19 [.v (.int .i64 k)] [] M (fun s L' _ => s = .v (.bool (decide (k = 3 ∨ k = 6 ∨ k = 10 ∨ k = 11))) ∧ L' = []) := by
  refine spec_of [.tmp 2] Try.func19 rfl rfl rfl fun w0 => ?_
  repeat' (first | (refine wt_id ?_; first | with_reducible refine wt_put ?_ | refine wt_ldT ?_ | refine wt_lenn ?_ | refine wt_t ?_ | refine wt_t2 ?_ | refine wt_eq ?_ | refine wt_pt ?_ | refine wt_pf ?_ | refine wt_n ?_ | refine wt_u ?_ | refine wt_ixn ?_ ?_ | refine wt_lon ?_ ?_ | refine wt_shl ?_ ?_ | refine wt_shr ?_ ?_ | refine wt_z ?_ | refine wt_gs (fun h1 => ?_) (fun h1 => ?_)) | (refine wl_id ?_; first | with_reducible refine wl_put ?_ | refine wl_nt ?_ | refine wl_nf ?_ | refine wl_ldT ?_ | refine wl_lenn ?_ | refine wl_s ?_ | refine wl_s2 ?_ | refine wl_eq ?_ | refine wl_st ?_ | refine wl_nil ?_ | refine wl_pt ?_ | refine wl_pf ?_ | refine wl_kn ?_ | refine wl_ky ?_ | refine wl_gu ?_ | refine wl_gs (fun h1 => ?_) (fun h1 => ?_) | refine wl_ixn ?_ ?_ | refine wl_lon ?_ ?_ | refine wl_shl ?_ ?_ | refine wl_shr ?_ ?_) | (refine w_id ?_; first | with_reducible refine w_put ?_ | refine w_sregion ?_ | refine w_sdr ?_ | refine w_region ?_ | refine w_dr ?_ | refine w_kt ?_ | refine w_kf ?_ | refine w_cond rfl (fun h => ?_) (fun h => ?_) | refine w_seq ?_ | refine w_block ?_ | refine w_skip ?_ | refine w_exit ?_))
  all_goals simp only [decide_eq_true_eq, decide_eq_false_iff_not] at *
  all_goals refine w_ret ⟨.inl rfl, _, [], resVs1, List.nil_sublist _, ?_, rfl⟩
  all_goals first
    | (show SV.v (Value.bool true) = _; rw [decide_eq_true (by omega)])
    | (show SV.v (Value.bool _) = _; congr 2; simp only [decide_eq_decide]; omega)
def okK (k : Int) : Bool := decide (k = 3 ∨ k = 6 ∨ k = 10 ∨ k = 11)
/-- name.is. -/
def isT (t : TL) (tag many : Int) : Bool := match t with | .mk c g m _ ks => decide (c = 0) && decide (g = tag) && ((decide (many < 0) && !m) || (decide (0 ≤ many) && m && decide ((ks.length : Int) = many)))
theorem isS (t : TL) (tag many : Int) (M : Mem) : Spec Try.prog 20 [.agg (svT t), .v (.int .i64 tag), .v (.int .i64 many)] [] M (fun s L' _ => s = .v (.bool (isT t tag many)) ∧ L' = []) := by
  obtain ⟨c, g, m, b, ks⟩ := t
  refine spec_of [.tmp 6] Try.func20 rfl rfl rfl fun w0 => ?_
  simp only [svT]
  refine w_sregion ?_
  refine wl_bx fun n3 => ?_
  repeat' (first | (refine wt_id ?_; first | with_reducible refine wt_put ?_ | refine wt_ldT ?_ | refine wt_lenn ?_ | refine wt_t ?_ | refine wt_t2 ?_ | refine wt_eq ?_ | refine wt_pt ?_ | refine wt_pf ?_ | refine wt_n ?_ | refine wt_u ?_ | refine wt_ixn ?_ ?_ | refine wt_lon ?_ ?_ | refine wt_shl ?_ ?_ | refine wt_shr ?_ ?_ | refine wt_z ?_ | refine wt_gs (fun h1 => ?_) (fun h1 => ?_)) | (refine wl_id ?_; first | with_reducible refine wl_put ?_ | refine wl_nt ?_ | refine wl_nf ?_ | refine wl_ldT ?_ | refine wl_lenn ?_ | refine wl_s ?_ | refine wl_s2 ?_ | refine wl_eq ?_ | refine wl_st ?_ | refine wl_nil ?_ | refine wl_pt ?_ | refine wl_pf ?_ | refine wl_kn ?_ | refine wl_ky ?_ | refine wl_gu ?_ | refine wl_gs (fun h1 => ?_) (fun h1 => ?_) | refine wl_ixn ?_ ?_ | refine wl_lon ?_ ?_ | refine wl_shl ?_ ?_ | refine wl_shr ?_ ?_) | (refine w_id ?_; first | with_reducible refine w_put ?_ | refine w_sregion ?_ | refine w_sdr ?_ | refine w_region ?_ | refine w_dr ?_ | refine w_kt ?_ | refine w_kf ?_ | refine w_cond rfl (fun h => ?_) (fun h => ?_) | refine w_seq ?_ | refine w_block ?_ | refine w_skip ?_ | refine w_exit ?_))
  all_goals simp only [decide_eq_true_eq, decide_eq_false_iff_not, Bool.not_eq_true', Bool.not_eq_false'] at *
  all_goals refine w_ret ⟨.inl rfl, _, [], resVs1, List.nil_sublist _, ?_, rfl⟩
  all_goals simp_all [packSV, ofVal, isT, svTs_length]
  all_goals (intros; omega)
end Go.Eng

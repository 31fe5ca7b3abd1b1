/- Walks: prim.Bits. -/
import Derived.Test.YtpakkedlfoapeaaPrim5
namespace Go.Eng
open Go Go.Proofs
set_option maxRecDepth 100000

def bitsN (xs : List Int) : Int := IntKind.i64.wrap (xs.getD 0 0)
def bitsX (xs : List Int) : Int := IntKind.u8.wrap (BitVec.ofInt IntKind.u8.bits ((xs.drop 1).getD (IntKind.i64.wrap (((xs.drop 1).length : Int) - 1)).toNat 0) &&&
  BitVec.ofInt IntKind.u8.bits (IntKind.u8.wrap (IntKind.u8.wrap (1 * 2 ^ min (IntKind.i64.wrap (xs.getD 0 0)).toNat IntKind.u8.bits) - 1))).toNat
def bitsBad (xs : List Int) : Prop := xs.length = 0 ∨ 7 < xs.getD 0 0 ∨ (0 < bitsN xs ∧ ((xs.drop 1).length = 0 ∨ bitsX xs ≠ 0))
instance (xs : List Int) : Decidable (bitsBad xs) := by unfold bitsBad; infer_instance
def BitsQ (xs : List Int) (s : SV) (L : List Res) : Prop := if bitsBad xs then s = .tup [.v (.slice none 0 0), .v (.int .i64 0), eCode 7] ∧ L = [] else ∃ t, s = .tup [t, .v (.int .i64 (bitsN xs)), .v .nilIface] ∧ OwnB t L (xs.drop 1)
set_option maxHeartbeats 2000000 in
theorem bitsS (xs : List Int) (M : Mem) (hn : xs.length ≤ 140737488355328) : Spec Try.prog 13 [.sl 1 (bs xs)] [] M (fun s L' _ => BitsQ xs s L') := by
  refine spec_of [.tmp 2, .tmp 3, .tmp 4] Try.func13 rfl rfl rfl fun w0 => ?_
  repeat' (first | (refine wt_id ?_; first | with_reducible refine wt_put ?_ | refine wt_ldT ?_ | refine wt_lenn ?_ | refine wt_t ?_ | refine wt_t2 ?_ | refine wt_eq ?_ | refine wt_pt ?_ | refine wt_pf ?_ | refine wt_n ?_ | refine wt_u ?_ | refine wt_ixn ?_ ?_ | refine wt_lon ?_ ?_ | refine wt_shl ?_ ?_ | refine wt_shr ?_ ?_ | refine wt_z ?_ | refine wt_gs (fun h1 => ?_) (fun h1 => ?_)) | (refine wl_id ?_; first | with_reducible refine wl_put ?_ | refine wl_ldT ?_ | refine wl_lenn ?_ | refine wl_s ?_ | refine wl_s2 ?_ | refine wl_eq ?_ | refine wl_st ?_ | refine wl_nil ?_ | refine wl_pt ?_ | refine wl_pf ?_ | refine wl_kn ?_ | refine wl_ky ?_ | refine wl_gu ?_ | refine wl_gs (fun h1 => ?_) (fun h1 => ?_) | refine wl_ixn ?_ ?_ | refine wl_lon ?_ ?_ | refine wl_shl ?_ ?_ | refine wl_shr ?_ ?_) | (refine w_id ?_; first | with_reducible refine w_put ?_ | refine w_sregion ?_ | refine w_sdr ?_ | refine w_region ?_ | refine w_dr ?_ | refine w_kt ?_ | refine w_kf ?_ | refine w_cond rfl (fun h => ?_) (fun h => ?_) | refine w_seq ?_ | refine w_block ?_ | refine w_skip ?_ | refine w_exit ?_))
  all_goals simp only [decide_eq_true_eq, decide_eq_false_iff_not, Bool.not_eq_eq_eq_not, Bool.not_true, Bool.not_false, show Int.toNat 0 = 0 from rfl, show Int.toNat 1 = 1 from rfl] at *
  all_goals first
    | (refine ⟨by omega, ?_⟩; omega)
    | (have h3 : IntKind.i64.wrap (((xs.drop 1).length : Int) - 1) = ((xs.drop 1).length : Int) - 1 := by rw [IntWalk.i64_in _ (by rw [List.length_drop]; omega)]
       rw [h3]; omega)
    | omega
    | (refine w_ret ⟨.inl rfl, _, [], resVs3, List.nil_sublist _, ?_⟩
       show BitsQ _ _ _
       rw [BitsQ, if_pos]
       · exact ⟨rfl, rfl⟩
       · unfold bitsBad
         first
           | exact .inl (by omega)
           | exact .inr (.inl (by assumption))
           | exact .inr (.inr ⟨by assumption, .inl (by omega)⟩)
           | exact .inr (.inr ⟨by assumption, .inr (by assumption)⟩))
    | (have h0 : True := trivial
       refine wl_c (cloneS (xs.drop 1) _ (by rw [List.length_drop]; omega)) ?_
       rintro _ _ M2 hle2 ⟨v, rfl, rfl⟩
       repeat' (first | refine wl_s ?_ | refine wl_nil ?_ | refine w_sregion ?_)
       refine w_ret ⟨.inl rfl, _, _, resVs3, List.Sublist.refl _, ?_⟩
       show BitsQ _ _ _
       rw [BitsQ, if_neg]
       · exact ⟨_, rfl, v, rfl, rfl⟩
       · unfold bitsBad
         rintro (h5 | h5 | ⟨h5, h6 | h6⟩)
         · omega
         · omega
         · first | omega | exact absurd h5 (by assumption)
         · first | exact absurd (by assumption) h6 | exact absurd h5 (by assumption))

end Go.Eng

/- Walks: prim.Number, NumberOf. -/
import Derived.Test.YtpakkedlfoapeaaPrim1
namespace Go.Eng
open Go Go.Proofs
set_option maxRecDepth 100000

def numBad (xs : List Int) : Prop := xs.length = 0 ∨ 128 ≤ xs.getD 0 0 ∨ (1 < xs.length ∧ xs.getD 0 0 = 0 ∧ xs.getD 1 0 < 128)
instance (xs : List Int) : Decidable (numBad xs) := by unfold numBad; infer_instance
def numTrim (xs : List Int) : List Int := if xs.getD 0 0 = 0 then xs.drop 1 else xs
def numberF (xs : List Int) : Int := if numBad xs then 7 else if 64 < (numTrim xs).length then 2 else 0
/-- A slice of bytes and no error; or nil and an error. -/
def BytesOr (c : Int) (ys : List Int) (s : SV) (L : List Res) : Prop := if c = 0 then ∃ t, s = .tup [t, .v .nilIface] ∧ OwnB t L ys else s = .tup [.v (.slice none 0 0), eCode c] ∧ L = []
theorem numberS (xs : List Int) (M : Mem) (hn : xs.length ≤ 140737488355328) : Spec Try.prog 10 [.sl 1 (bs xs)] [] M (fun s L' _ => BytesOr (numberF xs) (numTrim xs) s L') := by
  refine spec_of [.tmp 2, .tmp 3] Try.func10 rfl rfl rfl fun w0 => ?_
  repeat' (first | refine wl_lenn ?_ | refine wl_s ?_ | refine wl_nil ?_ | refine wl_pt ?_ | refine wl_pf ?_ | refine wl_kn ?_ | refine wl_ky ?_ | refine wl_gu ?_ | refine wl_gs (fun h1 => ?_) (fun h1 => ?_) | refine wl_ixn ?_ ?_ | refine wl_lon ?_ ?_ | refine w_sregion ?_ | refine w_region ?_ | refine w_kt ?_ | refine w_kf ?_ | refine w_cond rfl (fun h => ?_) (fun h => ?_) | refine w_seq ?_ | refine w_block ?_ | refine w_skip ?_)
  all_goals first
    | (refine ⟨by omega, ?_⟩; simp only [decide_eq_true_eq, decide_eq_false_iff_not] at *; omega)
    | (refine w_ret ⟨.inl rfl, _, [], resVs2, List.nil_sublist _, ?_⟩
       simp only [decide_eq_true_eq, decide_eq_false_iff_not, show Int.toNat 0 = 0 from rfl, show Int.toNat 1 = 1 from rfl] at *
       first
         | (have hF : numberF xs = 7 := by (rw [numberF, if_pos]; unfold numBad; omega)
            rw [BytesOr, hF]; exact ⟨rfl, rfl⟩)
         | (have hF : numberF xs = 2 := by (rw [numberF, if_neg (by unfold numBad; omega), if_pos]; unfold numTrim; split <;> omega)
            rw [BytesOr, hF]; exact ⟨rfl, rfl⟩))
    | (refine wl_c (cloneS (xs.drop (Int.toNat 1)) _ (by rw [List.length_drop]; omega)) ?_
       rintro _ _ M2 hle2 ⟨v, rfl, rfl⟩
       repeat' (first | refine wl_s ?_ | refine wl_nil ?_ | refine w_sregion ?_)
       refine w_ret ⟨.inl rfl, _, _, resVs2, List.Sublist.refl _, ?_⟩
       simp only [decide_eq_true_eq, decide_eq_false_iff_not, show Int.toNat 0 = 0 from rfl, show Int.toNat 1 = 1 from rfl] at *
       have hT : numTrim xs = xs.drop 1 := by rw [numTrim, if_pos (by omega)]
       have hF : numberF xs = 0 := by rw [numberF, if_neg (by unfold numBad; omega), hT, if_neg (by omega)]
       rw [BytesOr, hF, hT]; exact ⟨_, rfl, v, rfl, rfl⟩)
    | (refine wl_c (cloneS xs _ hn) ?_
       rintro _ _ M2 hle2 ⟨v, rfl, rfl⟩
       repeat' (first | refine wl_s ?_ | refine wl_nil ?_ | refine w_sregion ?_)
       refine w_ret ⟨.inl rfl, _, _, resVs2, List.Sublist.refl _, ?_⟩
       simp only [decide_eq_true_eq, decide_eq_false_iff_not, show Int.toNat 0 = 0 from rfl, show Int.toNat 1 = 1 from rfl] at *
       have hT : numTrim xs = xs := by rw [numTrim, if_neg (by omega)]
       have hF : numberF xs = 0 := by rw [numberF, if_neg (by unfold numBad; omega), hT, if_neg (by omega)]
       rw [BytesOr, hF, hT]; exact ⟨_, rfl, v, rfl, rfl⟩)
end Go.Eng

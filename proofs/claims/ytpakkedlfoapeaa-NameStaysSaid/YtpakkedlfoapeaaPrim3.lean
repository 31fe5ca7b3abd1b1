/- Walks: prim.NumberOf. -/
import Derived.Test.YtpakkedlfoapeaaPrim2
namespace Go.Eng
open Go Go.Proofs
set_option maxRecDepth 100000

def stripF (xs : List Int) : List Int := xs.dropWhile fun x => decide (x = 0)
def numOfF (xs : List Int) : Int := if 64 < (stripF xs).length then 2 else 0
def numOfR (xs : List Int) : List Int := if (stripF xs).length = 0 ∨ 128 ≤ (stripF xs).getD 0 0 then 0 :: stripF xs else stripF xs
theorem stripF_cons {xs : List Int} (h : 0 < xs.length) (h0 : xs.getD 0 0 = 0) : stripF (xs.drop 1) = stripF xs := by
  cases xs with
  | nil => simp at h
  | cons x r => simp at h0; subst h0; simp [stripF]
theorem stripF_stop {xs : List Int} (h : xs.length = 0 ∨ xs.getD 0 0 ≠ 0) : stripF xs = xs := by
  cases xs with
  | nil => rfl
  | cons x r => simp at h; simp [stripF, h]
theorem numOfS (xs : List Int) (M : Mem) (hn : xs.length ≤ 140737488355326) : Spec Try.prog 11 [.sl 1 (bs xs)] [] M (fun s L' _ => BytesOr (numOfF xs) (numOfR xs) s L') := by
  refine spec_of [.tmp 2, .tmp 3] Try.func11 rfl rfl rfl fun w0 => ?_
  repeat' (first | refine wl_s ?_ | refine wl_nil ?_ | refine w_sregion ?_ | refine w_seq ?_ | refine w_block ?_)
  refine w_loopE (σ := List Int) (fun ys => [(0, .sl 1 (bs ys))]) (fun _ => []) (fun ys _ => stripF ys = stripF xs ∧ ys.length ≤ xs.length) (fun ys => ys.length) xs ⟨rfl, trivial⟩ rfl ⟨rfl, Nat.le_refl _⟩ ?_
  rintro ys M1 hle1 ⟨hs, hl⟩
  repeat' (first | refine wl_lenn ?_ | refine wl_s ?_ | refine wl_nil ?_ | refine wl_pt ?_ | refine wl_pf ?_ | refine wl_kn ?_ | refine wl_ky ?_ | refine wl_gu ?_ | refine wl_gs (fun h1 => ?_) (fun h1 => ?_) | refine wl_ixn ?_ ?_ | refine wl_lon ?_ ?_ | refine w_sregion ?_ | refine w_region ?_ | refine w_kt ?_ | refine w_kf ?_ | refine w_cond rfl (fun h => ?_) (fun h => ?_) | refine w_seq ?_ | refine w_block ?_ | refine w_skip ?_ | refine w_exit ?_)
  all_goals simp only [decide_eq_true_eq, decide_eq_false_iff_not, show Int.toNat 0 = 0 from rfl] at *
  all_goals first
    | (refine ⟨by omega, ?_⟩; omega)
    | (refine ⟨ys.drop 1, ?_, ⟨rfl, trivial⟩, rfl, Mem.le.refl _, ?_, ?_⟩
       · rw [List.length_drop]; omega
       · rw [stripF_cons (by omega) (by omega)]; exact hs
       · rw [List.length_drop]; omega)
    | (have hst : stripF ys = ys := stripF_stop (by omega)
       rw [hst] at hs
       subst hs
       first
         | (refine w_ret ⟨.inl rfl, _, [], resVs2, List.nil_sublist _, ?_⟩
            have hF : numOfF xs = 2 := by rw [numOfF, if_pos (by omega)]
            show BytesOr _ _ _ _; rw [BytesOr, hF]; exact ⟨rfl, rfl⟩)
         | (have hF : numOfF xs = 0 := by rw [numOfF, if_neg (by omega)]
            have hR : numOfR xs = 0 :: stripF xs := by rw [numOfR, if_pos (by omega)]
            refine wl_bs fun v M2 hle2 => ?_
            refine wl_s ?_
            refine wl_ap 0 ?_ ?_ ?_ fun v' M3 hle3 => ?_
            · rw [bs_length]; omega
            · rw [bs_length]; omega
            · rfl
            repeat' (first | refine wl_s ?_ | refine wl_nil ?_ | refine w_sregion ?_)
            refine w_ret ⟨.inl rfl, _, _, resVs2, List.Sublist.refl _, ?_⟩
            show BytesOr _ _ _ _; rw [BytesOr, hF, hR]; exact ⟨_, rfl, v', rfl, by simp [ns_length, Nat.add_comm]⟩)
         | (have hF : numOfF xs = 0 := by rw [numOfF, if_neg (by omega)]
            have hR : numOfR xs = stripF xs := by rw [numOfR, if_neg (by omega)]
            refine wl_c (cloneS (stripF xs) _ (by omega)) ?_
            rintro _ _ M2 hle2 ⟨v, rfl, rfl⟩
            repeat' (first | refine wl_s ?_ | refine wl_nil ?_ | refine w_sregion ?_)
            refine w_ret ⟨.inl rfl, _, _, resVs2, List.Sublist.refl _, ?_⟩
            show BytesOr _ _ _ _; rw [BytesOr, hF, hR]; exact ⟨_, rfl, v, rfl, rfl⟩)
         | (exfalso; omega))
end Go.Eng

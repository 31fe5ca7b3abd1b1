/- Walks: prim.Oid. -/
import Derived.Test.YtpakkedlfoapeaaPrim6
namespace Go.Eng
open Go Go.Proofs
set_option maxRecDepth 100000

theorem arcsG_len : ∀ (xs out : List Int) (v : Int) (b : Bool) (o : List Int) (c : Bool), arcsG xs out v b = some (o, c) → o.length ≤ out.length + xs.length
  | [], out, v, b, o, c, h => by simp [arcsG] at h; rw [h.1]; simp
  | x :: r, out, v, b, o, c, h => by
    rw [arcsG] at h
    split at h
    · cases h
    · split at h
      · have := arcsG_len r _ _ _ _ _ h
        simp at this ⊢; omega
      · have := arcsG_len r _ _ _ _ _ h
        simp at this ⊢; omega
theorem nb_t' {b : Bool} (h : (!b) = true) : b = false := by cases b <;> simp_all
theorem nb_f' {b : Bool} (h : (!b) = false) : b = true := by cases b <;> simp_all
def oidOdd (i : Nat) (x : Int) : Prop := 4294967375 < x ∨ (0 < i ∧ 4294967295 < x)
def oidBad (l : List Int) : Prop := ∃ i, i < l.length ∧ oidOdd i (l.getD i 0)
def oidFst (l : List Int) : Int := if (2 : Int) < IntKind.u64.wrap ((l.getD 0 0).tdiv 40) then 2 else IntKind.u64.wrap ((l.getD 0 0).tdiv 40)
def oidSnd (l : List Int) : Int := IntKind.u64.wrap (l.getD 0 0 - IntKind.u64.wrap (40 * oidFst l))
def oidL (l : List Int) : List Int := oidFst l :: oidSnd l :: l.drop 1
def OidE (c : Int) (s : SV) (L : List Res) : Prop := s = .tup [.v (.slice none 0 0), eCode c] ∧ L = []
open Classical in
noncomputable def oidC (xs : List Int) : Option (List Int) × Int := match arcsG xs [] 0 true with
  | none => (none, 7)
  | some (l, b) => if (b && decide (0 < l.length)) = false then (none, 7) else if oidBad l then (none, 3) else if 16 < (oidL l).length then (none, 2) else (some (oidL l), 0)
def OidQ (xs : List Int) (s : SV) (L : List Res) : Prop := match oidC xs with
  | (some l, _) => ∃ t, s = .tup [t, .v .nilIface] ∧ OwnN 63 .u64 t L l
  | (none, c) => OidE c s L
set_option maxHeartbeats 2000000 in
theorem oidS (xs : List Int) (M : Mem) (hn : xs.length ≤ 8796093022207) : Spec Try.prog 12 [.sl 1 (bs xs)] [] M (fun s L' _ => OidQ xs s L') := by
  refine spec_of [.tmp 2, .tmp 3] Try.func12 rfl rfl rfl fun w0 => ?_
  repeat' (first | (refine wt_id ?_; first | with_reducible refine wt_put ?_ | refine wt_ldT ?_ | refine wt_lenn ?_ | refine wt_t ?_ | refine wt_t2 ?_ | refine wt_eq ?_ | refine wt_pt ?_ | refine wt_pf ?_ | refine wt_n ?_ | refine wt_u ?_ | refine wt_ixn ?_ ?_ | refine wt_lon ?_ ?_ | refine wt_shl ?_ ?_ | refine wt_shr ?_ ?_ | refine wt_z ?_ | refine wt_gs (fun h1 => ?_) (fun h1 => ?_)) | (refine wl_id ?_; first | with_reducible refine wl_put ?_ | refine wl_ldT ?_ | refine wl_lenn ?_ | refine wl_s ?_ | refine wl_s2 ?_ | refine wl_eq ?_ | refine wl_st ?_ | refine wl_nil ?_ | refine wl_pt ?_ | refine wl_pf ?_ | refine wl_kn ?_ | refine wl_ky ?_ | refine wl_gu ?_ | refine wl_gs (fun h1 => ?_) (fun h1 => ?_) | refine wl_ixn ?_ ?_ | refine wl_lon ?_ ?_ | refine wl_shl ?_ ?_ | refine wl_shr ?_ ?_) | (refine w_id ?_; first | with_reducible refine w_put ?_ | refine w_sregion ?_ | refine w_sdr ?_ | refine w_region ?_ | refine w_dr ?_ | refine w_kt ?_ | refine w_kf ?_ | refine w_cond rfl (fun h => ?_) (fun h => ?_) | refine w_seq ?_ | refine w_block ?_ | refine w_skip ?_ | refine w_exit ?_))
  refine wl_c (arcsS xs _ (by omega)) ?_
  rintro s L1 M2 hle2 hq
  unfold arcsQ at hq
  cases hA : arcsG xs [] 0 true with
  | none =>
    rw [hA] at hq
    obtain ⟨rfl, rfl⟩ := hq
    repeat' (first | (refine wt_id ?_; first | with_reducible refine wt_put ?_ | refine wt_ldT ?_ | refine wt_lenn ?_ | refine wt_t ?_ | refine wt_t2 ?_ | refine wt_eq ?_ | refine wt_pt ?_ | refine wt_pf ?_ | refine wt_n ?_ | refine wt_u ?_ | refine wt_ixn ?_ ?_ | refine wt_lon ?_ ?_ | refine wt_shl ?_ ?_ | refine wt_shr ?_ ?_ | refine wt_z ?_ | refine wt_gs (fun h1 => ?_) (fun h1 => ?_)) | (refine wl_id ?_; first | with_reducible refine wl_put ?_ | refine wl_ldT ?_ | refine wl_lenn ?_ | refine wl_s ?_ | refine wl_s2 ?_ | refine wl_eq ?_ | refine wl_st ?_ | refine wl_nil ?_ | refine wl_pt ?_ | refine wl_pf ?_ | refine wl_kn ?_ | refine wl_ky ?_ | refine wl_gu ?_ | refine wl_gs (fun h1 => ?_) (fun h1 => ?_) | refine wl_ixn ?_ ?_ | refine wl_lon ?_ ?_ | refine wl_shl ?_ ?_ | refine wl_shr ?_ ?_) | (refine w_id ?_; first | with_reducible refine w_put ?_ | refine w_sregion ?_ | refine w_sdr ?_ | refine w_region ?_ | refine w_dr ?_ | refine w_kt ?_ | refine w_kf ?_ | refine w_cond rfl (fun h => ?_) (fun h => ?_) | refine w_seq ?_ | refine w_block ?_ | refine w_skip ?_ | refine w_exit ?_))
    · refine w_ret ⟨.inl rfl, _, [], resVs2, List.nil_sublist _, ?_⟩
      show OidQ _ _ _
      unfold OidQ oidC
      rw [hA]; exact ⟨rfl, rfl⟩
    · cases h
  | some p =>
    obtain ⟨l, b⟩ := p
    rw [hA] at hq
    obtain ⟨t, rfl, v, rfl, rfl⟩ := hq
    have hlen := arcsG_len _ _ _ _ _ _ hA
    simp only [List.length_nil, Nat.zero_add] at hlen
    repeat' (first | (refine wt_id ?_; first | with_reducible refine wt_put ?_ | refine wt_ldT ?_ | refine wt_lenn ?_ | refine wt_t ?_ | refine wt_t2 ?_ | refine wt_eq ?_ | refine wt_pt ?_ | refine wt_pf ?_ | refine wt_n ?_ | refine wt_u ?_ | refine wt_ixn ?_ ?_ | refine wt_lon ?_ ?_ | refine wt_shl ?_ ?_ | refine wt_shr ?_ ?_ | refine wt_z ?_ | refine wt_gs (fun h1 => ?_) (fun h1 => ?_)) | (refine wl_id ?_; first | with_reducible refine wl_put ?_ | refine wl_ldT ?_ | refine wl_lenn ?_ | refine wl_s ?_ | refine wl_s2 ?_ | refine wl_eq ?_ | refine wl_st ?_ | refine wl_nil ?_ | refine wl_pt ?_ | refine wl_pf ?_ | refine wl_kn ?_ | refine wl_ky ?_ | refine wl_gu ?_ | refine wl_gs (fun h1 => ?_) (fun h1 => ?_) | refine wl_ixn ?_ ?_ | refine wl_lon ?_ ?_ | refine wl_shl ?_ ?_ | refine wl_shr ?_ ?_) | (refine w_id ?_; first | with_reducible refine w_put ?_ | refine w_sregion ?_ | refine w_sdr ?_ | refine w_region ?_ | refine w_dr ?_ | refine w_kt ?_ | refine w_kf ?_ | refine w_cond rfl (fun h => ?_) (fun h => ?_) | refine w_seq ?_ | refine w_block ?_ | refine w_skip ?_ | refine w_exit ?_))
    · refine w_ret ⟨.inl rfl, _, [], resVs2, List.nil_sublist _, ?_⟩
      show OidQ _ _ _
      have h5 : (b && decide (0 < l.length)) = false := by have := nb_t' h; simpa using this
      unfold OidQ oidC
      rw [hA]; dsimp only; rw [if_pos h5]; exact ⟨rfl, rfl⟩
    · have h5 : (b && decide (0 < l.length)) = true := by have := nb_f' h; simpa using this
      have h6 : 0 < l.length := by rw [Bool.and_eq_true, decide_eq_true_eq] at h5; exact h5.2
      refine w_loopE (σ := Nat) (fun i => [(20, .v (.int .i64 i)), (19, .v (.int .i64 l.length)), (18, .rw v 1 (ns .u64 l)), (4, .rw v 1 (ns .u64 l))]) (fun _ => [.tail v 63 1 l.length]) (fun i _ => i ≤ l.length ∧ ∀ j, j < i → ¬ oidOdd j (l.getD j 0)) (fun i => l.length - i) 0 ⟨rfl, rfl, rfl, rfl, trivial⟩ rfl ⟨Nat.zero_le _, fun j h => absurd h (Nat.not_lt_zero j)⟩ ?_
      rintro i M3 hle3 ⟨hi, hs⟩
      repeat' (first | (refine wt_id ?_; first | with_reducible refine wt_put ?_ | refine wt_ldT ?_ | refine wt_lenn ?_ | refine wt_t ?_ | refine wt_t2 ?_ | refine wt_eq ?_ | refine wt_pt ?_ | refine wt_pf ?_ | refine wt_n ?_ | refine wt_u ?_ | refine wt_ixn ?_ ?_ | refine wt_lon ?_ ?_ | refine wt_shl ?_ ?_ | refine wt_shr ?_ ?_ | refine wt_z ?_ | refine wt_gs (fun h1 => ?_) (fun h1 => ?_)) | (refine wl_id ?_; first | with_reducible refine wl_put ?_ | refine wl_ldT ?_ | refine wl_lenn ?_ | refine wl_s ?_ | refine wl_s2 ?_ | refine wl_eq ?_ | refine wl_st ?_ | refine wl_nil ?_ | refine wl_pt ?_ | refine wl_pf ?_ | refine wl_kn ?_ | refine wl_ky ?_ | refine wl_gu ?_ | refine wl_gs (fun h1 => ?_) (fun h1 => ?_) | refine wl_ixn ?_ ?_ | refine wl_lon ?_ ?_ | refine wl_shl ?_ ?_ | refine wl_shr ?_ ?_) | (refine w_id ?_; first | with_reducible refine w_put ?_ | refine w_sregion ?_ | refine w_sdr ?_ | refine w_region ?_ | refine w_dr ?_ | refine w_kt ?_ | refine w_kf ?_ | refine w_cond rfl (fun h => ?_) (fun h => ?_) | refine w_seq ?_ | refine w_block ?_ | refine w_skip ?_ | refine w_exit ?_))
      all_goals simp only [decide_eq_true_eq, decide_eq_false_iff_not, Int.toNat_natCast] at *
      all_goals first
        | (refine ⟨by omega, ?_⟩; omega)
        | (refine w_ret ⟨.inl rfl, _, [], resVs2, List.nil_sublist _, ?_⟩
           show OidQ _ _ _
           unfold OidQ oidC
           rw [hA]; dsimp only; rw [if_neg (by rw [h5]; decide), if_pos ⟨i, by omega, by first | exact .inl (by assumption) | exact .inr ⟨by omega, by assumption⟩⟩]; exact ⟨rfl, rfl⟩)
        | (have hw : IntKind.i64.wrap ((i : Int) + 1) = ((i + 1 : Nat) : Int) := by rw [IntWalk.i64_in _ (by omega)]; rfl
           rw [hw]
           refine ⟨i + 1, by omega, ⟨rfl, rfl, rfl, rfl, trivial⟩, rfl, Mem.le.refl _, by omega, fun j hj => ?_⟩
           by_cases hj2 : j < i
           · exact hs j hj2
           · have : j = i := by omega
             subst this
             unfold oidOdd
             omega)
        | skip
      have hob : ¬ oidBad l := by rintro ⟨j, h8, h9⟩; exact hs j (by omega) h9
      refine wt_out ?_
      refine wa_s 8 ?_
      refine wa_still 9 rfl (by kernel_rfl) (by kernel_rfl) (by kernel_rfl) rfl rfl (still_slice_lo rfl rfl rfl (by rw [ns_length]; omega)) ?_
      refine wa_step 7 rfl (by kernel_rfl) fun w => ?_
      refine wl_bs fun v2 M4 hle4 => ?_
      refine wl_nil ?_
      intro _
      refine wa_step 10 rfl (by kernel_rfl) fun w2 => ?_
      refine wl_ap 0 ?_ ?_ ?_ fun v3 M5 hle5 => ?_
      · simp only [List.length_drop, ns_length, show Int.toNat 1 = 1 from rfl]; omega
      · simp only [List.length_drop, ns_length, show Int.toNat 1 = 1 from rfl]; omega
      · rfl
      refine wl_nil ?_
      intro _
      refine wa_s 11 ?_
      refine wa_end (by kernel_rfl) ?_
      repeat' (first | (refine wt_id ?_; first | with_reducible refine wt_put ?_ | refine wt_ldT ?_ | refine wt_lenn ?_ | refine wt_t ?_ | refine wt_t2 ?_ | refine wt_eq ?_ | refine wt_pt ?_ | refine wt_pf ?_ | refine wt_n ?_ | refine wt_u ?_ | refine wt_ixn ?_ ?_ | refine wt_lon ?_ ?_ | refine wt_shl ?_ ?_ | refine wt_shr ?_ ?_ | refine wt_z ?_ | refine wt_gs (fun h1 => ?_) (fun h1 => ?_)) | (refine wl_id ?_; first | with_reducible refine wl_put ?_ | refine wl_ldT ?_ | refine wl_lenn ?_ | refine wl_s ?_ | refine wl_s2 ?_ | refine wl_eq ?_ | refine wl_st ?_ | refine wl_nil ?_ | refine wl_pt ?_ | refine wl_pf ?_ | refine wl_kn ?_ | refine wl_ky ?_ | refine wl_gu ?_ | refine wl_gs (fun h1 => ?_) (fun h1 => ?_) | refine wl_ixn ?_ ?_ | refine wl_lon ?_ ?_ | refine wl_shl ?_ ?_ | refine wl_shr ?_ ?_) | (refine w_id ?_; first | with_reducible refine w_put ?_ | refine w_sregion ?_ | refine w_sdr ?_ | refine w_region ?_ | refine w_dr ?_ | refine w_kt ?_ | refine w_kf ?_ | refine w_cond rfl (fun h => ?_) (fun h => ?_) | refine w_seq ?_ | refine w_block ?_ | refine w_skip ?_ | refine w_exit ?_))
      · have h7 : (16 : Int) < (((ns .u64 (l.drop 1)).length + 1 + 1 : Nat) : Int) := by rw [← ns_drop]; exact of_decide_eq_true h
        rw [ns_length] at h7
        have h8 : 16 < (oidL l).length := by show 16 < (l.drop 1).length + 1 + 1; omega
        refine w_ret ⟨.inl rfl, _, [], resVs2, List.nil_sublist _, ?_⟩
        show OidQ _ _ _
        unfold OidQ oidC
        rw [hA]; dsimp only; rw [if_neg (by rw [h5]; decide), if_neg hob, if_pos h8]; exact ⟨rfl, rfl⟩
      · have h7 : ¬ (16 : Int) < (((ns .u64 (l.drop 1)).length + 1 + 1 : Nat) : Int) := by rw [← ns_drop]; exact of_decide_eq_false h
        rw [ns_length] at h7
        have h8 : ¬ 16 < (oidL l).length := by show ¬ 16 < (l.drop 1).length + 1 + 1; omega
        refine w_ret ⟨.inl rfl, _, [_], resVs2, (List.nil_sublist _).cons_cons _, ?_⟩
        show OidQ _ _ _
        unfold OidQ oidC
        rw [hA]; dsimp only; rw [if_neg (by rw [h5]; decide), if_neg hob, if_neg h8]
        refine ⟨_, rfl, v3, ?_, ?_⟩
        · rw [ns_drop]; rfl
        · have h9 : 2 + (List.drop (Int.toNat 1) (ns .u64 l)).length = (oidL l).length := by
            rw [ns_drop, ns_length]; show 2 + (l.drop 1).length = (l.drop 1).length + 1 + 1; omega
          rw [h9]
end Go.Eng

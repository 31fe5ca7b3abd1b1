/- Walks: name.part of what name.Element makes. -/
import Derived.Test.YtpakkedlfoapeaaName4
namespace Go.Eng
open Go Go.Proofs
set_option maxRecDepth 100000

theorem oid4 (k : Int) (h : okK k = true) : oidY [85, 4, IntKind.u8.wrap k] = [2, 5, 4, k] ∧ oidE [85, 4, IntKind.u8.wrap k] = .v .nilIface := by
  have hk : k = 3 ∨ k = 6 ∨ k = 10 ∨ k = 11 := of_decide_eq_true h
  have key : ∀ j : Int, arcsG [85, 4, j] [] 0 true = some ([85, 4, j], true) → 0 ≤ j → j < 12 → (oidC [85, 4, j]).1 = some [2, 5, 4, j] := by
    intro j h1 h2 h3
    have hb : ¬ oidBad [85, 4, j] := by
      rintro ⟨i, hi, ho⟩
      unfold oidOdd at ho
      match i, hi with
      | 0, _ => simp at ho
      | 1, _ => simp at ho
      | 2, _ => simp at ho; omega
    unfold oidC
    rw [h1]
    dsimp only
    rw [if_neg (by simp), if_neg hb, if_neg (by unfold oidL; simp)]
    unfold oidL
    rfl
  unfold oidY oidE
  rcases hk with rfl | rfl | rfl | rfl
  · rw [show IntKind.u8.wrap 3 = 3 from rfl, key 3 rfl (by decide) (by decide)]; exact ⟨rfl, rfl⟩
  · rw [show IntKind.u8.wrap 6 = 6 from rfl, key 6 rfl (by decide) (by decide)]; exact ⟨rfl, rfl⟩
  · rw [show IntKind.u8.wrap 10 = 10 from rfl, key 10 rfl (by decide) (by decide)]; exact ⟨rfl, rfl⟩
  · rw [show IntKind.u8.wrap 11 = 11 from rfl, key 11 rfl (by decide) (by decide)]; exact ⟨rfl, rfl⟩
set_option maxHeartbeats 2000000 in
theorem partS (p : Int × ByteArray) (M : Mem) (hn : p.2.size ≤ 9223372036854775807) (hg : badP p = false) : Spec Try.prog 21 [.agg (svT (kidP p))] [] M (fun s L' _ => s = .tup [.agg [.v (.int .i64 p.1), .v (.string p.2)], .v (.bool true)] ∧ L' = []) := by
  have hg2 : textF (ints p.2) = 0 ∧ okK p.1 = true := by
    unfold badP at hg
    simpa using hg
  obtain ⟨ht, hok⟩ := hg2
  obtain ⟨ho1, ho2⟩ := oid4 p.1 hok
  have hk : p.1 = 3 ∨ p.1 = 6 ∨ p.1 = 10 ∨ p.1 = 11 := of_decide_eq_true hok
  refine spec_of [.cell 2 35, .tmp 3] Try.func21 rfl rfl rfl fun w0 => ?_
  have qnt : (!true) = false := rfl
  have qnf : (!false) = true := rfl
  refine w_sregion ?_
  refine wl_bx fun n1 => ?_
  refine wl_put ?_
  refine wl_al fun n2 => ?_
  repeat' (first | (refine wt_id ?_; first | with_reducible refine wt_put ?_ | refine wt_ldT ?_ | refine wt_lenn ?_ | refine wt_t ?_ | refine wt_t2 ?_ | refine wt_eq ?_ | refine wt_pt ?_ | refine wt_pf ?_ | refine wt_n ?_ | refine wt_u ?_ | refine wt_ixn ?_ ?_ | refine wt_lon ?_ ?_ | refine wt_shl ?_ ?_ | refine wt_shr ?_ ?_ | refine wt_z ?_ | refine wt_gs (fun h1 => ?_) (fun h1 => ?_)) | (refine wl_id ?_; first | with_reducible refine wl_put ?_ | refine wl_nt ?_ | refine wl_nf ?_ | refine wl_ldT ?_ | refine wl_lenn ?_ | refine wl_s ?_ | refine wl_s2 ?_ | refine wl_eq ?_ | refine wl_st ?_ | refine wl_nil ?_ | refine wl_pt ?_ | refine wl_pf ?_ | refine wl_kn ?_ | refine wl_ky ?_ | refine wl_gu ?_ | refine wl_gs (fun h1 => ?_) (fun h1 => ?_) | refine wl_ixn ?_ ?_ | refine wl_lon ?_ ?_ | refine wl_shl ?_ ?_ | refine wl_shr ?_ ?_) | (refine w_id ?_; first | with_reducible refine w_put ?_ | refine w_sregion ?_ | refine w_sdr ?_ | refine w_region ?_ | refine w_dr ?_ | refine w_kt ?_ | refine w_kf ?_ | refine w_cond rfl (fun h => ?_) (fun h => ?_) | refine w_seq ?_ | refine w_block ?_ | refine w_skip ?_ | refine w_exit ?_))
  refine wl_c (isS (kidP p) 17 1 _) ?_
  rintro _ _ M1 hle1 ⟨rfl, rfl⟩
  rw [show isT (kidP p) 17 1 = true from rfl]
  repeat' (first | (refine wt_id ?_; first | with_reducible refine wt_put ?_ | refine wt_ldT ?_ | refine wt_lenn ?_ | refine wt_t ?_ | refine wt_t2 ?_ | refine wt_eq ?_ | refine wt_pt ?_ | refine wt_pf ?_ | refine wt_n ?_ | refine wt_u ?_ | refine wt_ixn ?_ ?_ | refine wt_lon ?_ ?_ | refine wt_shl ?_ ?_ | refine wt_shr ?_ ?_ | refine wt_z ?_ | refine wt_gs (fun h1 => ?_) (fun h1 => ?_)) | (refine wl_id ?_; first | with_reducible refine wl_put ?_ | refine wl_nt ?_ | refine wl_nf ?_ | refine wl_ldT ?_ | refine wl_lenn ?_ | refine wl_s ?_ | refine wl_s2 ?_ | refine wl_eq ?_ | refine wl_st ?_ | refine wl_nil ?_ | refine wl_pt ?_ | refine wl_pf ?_ | refine wl_kn ?_ | refine wl_ky ?_ | refine wl_gu ?_ | refine wl_gs (fun h1 => ?_) (fun h1 => ?_) | refine wl_ixn ?_ ?_ | refine wl_lon ?_ ?_ | refine wl_shl ?_ ?_ | refine wl_shr ?_ ?_) | (refine w_id ?_; first | with_reducible refine w_put ?_ | refine w_sregion ?_ | refine w_sdr ?_ | refine w_region ?_ | refine w_dr ?_ | refine w_kt ?_ | refine w_kf ?_ | refine w_cond rfl (fun h => ?_) (fun h => ?_) | refine w_seq ?_ | refine w_block ?_ | refine w_skip ?_ | refine w_exit ?_))
  refine wl_ix (i := 0) (by decide) (c := svT (.mk 0 16 true [] [.mk 0 6 false [85, 4, IntKind.u8.wrap p.1] [], .mk 0 12 false (ints p.2) []])) rfl ?_
  repeat' (first | (refine wt_id ?_; first | with_reducible refine wt_put ?_ | refine wt_ldT ?_ | refine wt_lenn ?_ | refine wt_t ?_ | refine wt_t2 ?_ | refine wt_eq ?_ | refine wt_pt ?_ | refine wt_pf ?_ | refine wt_n ?_ | refine wt_u ?_ | refine wt_ixn ?_ ?_ | refine wt_lon ?_ ?_ | refine wt_shl ?_ ?_ | refine wt_shr ?_ ?_ | refine wt_z ?_ | refine wt_gs (fun h1 => ?_) (fun h1 => ?_)) | (refine wl_id ?_; first | with_reducible refine wl_put ?_ | refine wl_nt ?_ | refine wl_nf ?_ | refine wl_ldT ?_ | refine wl_lenn ?_ | refine wl_s ?_ | refine wl_s2 ?_ | refine wl_eq ?_ | refine wl_st ?_ | refine wl_nil ?_ | refine wl_pt ?_ | refine wl_pf ?_ | refine wl_kn ?_ | refine wl_ky ?_ | refine wl_gu ?_ | refine wl_gs (fun h1 => ?_) (fun h1 => ?_) | refine wl_ixn ?_ ?_ | refine wl_lon ?_ ?_ | refine wl_shl ?_ ?_ | refine wl_shr ?_ ?_) | (refine w_id ?_; first | with_reducible refine w_put ?_ | refine w_sregion ?_ | refine w_sdr ?_ | refine w_region ?_ | refine w_dr ?_ | refine w_kt ?_ | refine w_kf ?_ | refine w_cond rfl (fun h => ?_) (fun h => ?_) | refine w_seq ?_ | refine w_block ?_ | refine w_skip ?_ | refine w_exit ?_))
  refine wl_c (isS _ 16 2 _) ?_
  rintro _ _ M2 hle2 ⟨rfl, rfl⟩
  rw [show isT (.mk 0 16 true [] [.mk 0 6 false [85, 4, IntKind.u8.wrap p.1] [], .mk 0 12 false (ints p.2) []]) 16 2 = true from rfl]
  repeat' (first | with_reducible refine wl_put ?_ | refine wl_nt ?_ | refine wl_nf ?_ | refine wl_ldT ?_ | refine wl_lenn ?_ | refine wl_s ?_ | refine wl_s2 ?_ | refine wl_eq ?_ | refine wl_st ?_ | refine wl_nil ?_ | refine wl_pt ?_ | refine wl_pf ?_ | refine wl_kn ?_ | refine wl_ky ?_ | refine wl_gu ?_ | refine wl_gs (fun h1 => ?_) (fun h1 => ?_) | refine wl_ixn ?_ ?_ | refine wl_lon ?_ ?_ | refine wl_shl ?_ ?_ | refine wl_shr ?_ ?_)
  refine w_kf ?_
  refine w_skip ?_
  refine w_cut1P (σ := Nat × Nat) (fun s => [(1, .lp 1 n1 0), (2, .lp 2 n2 0), (4, .lp 4 s.1 0), (5, .lp 5 s.2 0)]) (fun s => [.box 5 s.2 28 (svT (.mk 0 12 false (ints p.2) [])), .box 4 s.1 28 (svT (.mk 0 6 false [85, 4, IntKind.u8.wrap p.1] [])), .box 2 n2 35 [.v (.int .i64 0), .v (.string .empty)], .box 1 n1 28 (svT (kidP p))]) (fun _ _ => True) ?_ ?_
  · repeat' (first | (refine wt_id ?_; first | with_reducible refine wt_put ?_ | refine wt_ldT ?_ | refine wt_lenn ?_ | refine wt_t ?_ | refine wt_t2 ?_ | refine wt_eq ?_ | refine wt_pt ?_ | refine wt_pf ?_ | refine wt_n ?_ | refine wt_u ?_ | refine wt_ixn ?_ ?_ | refine wt_lon ?_ ?_ | refine wt_shl ?_ ?_ | refine wt_shr ?_ ?_ | refine wt_z ?_ | refine wt_gs (fun h1 => ?_) (fun h1 => ?_)) | (refine wl_id ?_; first | with_reducible refine wl_put ?_ | refine wl_nt ?_ | refine wl_nf ?_ | refine wl_ldT ?_ | refine wl_lenn ?_ | refine wl_s ?_ | refine wl_s2 ?_ | refine wl_eq ?_ | refine wl_st ?_ | refine wl_nil ?_ | refine wl_pt ?_ | refine wl_pf ?_ | refine wl_kn ?_ | refine wl_ky ?_ | refine wl_gu ?_ | refine wl_gs (fun h1 => ?_) (fun h1 => ?_) | refine wl_ixn ?_ ?_ | refine wl_lon ?_ ?_ | refine wl_shl ?_ ?_ | refine wl_shr ?_ ?_) | (refine w_id ?_; first | with_reducible refine w_put ?_ | refine w_sregion ?_ | refine w_sdr ?_ | refine w_region ?_ | refine w_dr ?_ | refine w_kt ?_ | refine w_kf ?_ | refine w_cond rfl (fun h => ?_) (fun h => ?_) | refine w_seq ?_ | refine w_block ?_ | refine w_skip ?_ | refine w_exit ?_))
    refine wt_ix (j := 0) (by decide) (c := svT (.mk 0 16 true [] [.mk 0 6 false [85, 4, IntKind.u8.wrap p.1] [], .mk 0 12 false (ints p.2) []])) rfl ?_
    repeat' (first | (refine wt_id ?_; first | with_reducible refine wt_put ?_ | refine wt_ldT ?_ | refine wt_lenn ?_ | refine wt_t ?_ | refine wt_t2 ?_ | refine wt_eq ?_ | refine wt_pt ?_ | refine wt_pf ?_ | refine wt_n ?_ | refine wt_u ?_ | refine wt_ixn ?_ ?_ | refine wt_lon ?_ ?_ | refine wt_shl ?_ ?_ | refine wt_shr ?_ ?_ | refine wt_z ?_ | refine wt_gs (fun h1 => ?_) (fun h1 => ?_)) | (refine wl_id ?_; first | with_reducible refine wl_put ?_ | refine wl_nt ?_ | refine wl_nf ?_ | refine wl_ldT ?_ | refine wl_lenn ?_ | refine wl_s ?_ | refine wl_s2 ?_ | refine wl_eq ?_ | refine wl_st ?_ | refine wl_nil ?_ | refine wl_pt ?_ | refine wl_pf ?_ | refine wl_kn ?_ | refine wl_ky ?_ | refine wl_gu ?_ | refine wl_gs (fun h1 => ?_) (fun h1 => ?_) | refine wl_ixn ?_ ?_ | refine wl_lon ?_ ?_ | refine wl_shl ?_ ?_ | refine wl_shr ?_ ?_) | (refine w_id ?_; first | with_reducible refine w_put ?_ | refine w_sregion ?_ | refine w_sdr ?_ | refine w_region ?_ | refine w_dr ?_ | refine w_kt ?_ | refine w_kf ?_ | refine w_cond rfl (fun h => ?_) (fun h => ?_) | refine w_seq ?_ | refine w_block ?_ | refine w_skip ?_ | refine w_exit ?_))
    refine wt_ix (j := 0) (by decide) (c := svT (.mk 0 6 false [85, 4, IntKind.u8.wrap p.1] [])) rfl ?_
    repeat' (first | (refine wt_id ?_; first | with_reducible refine wt_put ?_ | refine wt_ldT ?_ | refine wt_lenn ?_ | refine wt_t ?_ | refine wt_t2 ?_ | refine wt_eq ?_ | refine wt_pt ?_ | refine wt_pf ?_ | refine wt_n ?_ | refine wt_u ?_ | refine wt_ixn ?_ ?_ | refine wt_lon ?_ ?_ | refine wt_shl ?_ ?_ | refine wt_shr ?_ ?_ | refine wt_z ?_ | refine wt_gs (fun h1 => ?_) (fun h1 => ?_)) | (refine wl_id ?_; first | with_reducible refine wl_put ?_ | refine wl_nt ?_ | refine wl_nf ?_ | refine wl_ldT ?_ | refine wl_lenn ?_ | refine wl_s ?_ | refine wl_s2 ?_ | refine wl_eq ?_ | refine wl_st ?_ | refine wl_nil ?_ | refine wl_pt ?_ | refine wl_pf ?_ | refine wl_kn ?_ | refine wl_ky ?_ | refine wl_gu ?_ | refine wl_gs (fun h1 => ?_) (fun h1 => ?_) | refine wl_ixn ?_ ?_ | refine wl_lon ?_ ?_ | refine wl_shl ?_ ?_ | refine wl_shr ?_ ?_) | (refine w_id ?_; first | with_reducible refine w_put ?_ | refine w_sregion ?_ | refine w_sdr ?_ | refine w_region ?_ | refine w_dr ?_ | refine w_kt ?_ | refine w_kf ?_ | refine w_cond rfl (fun h => ?_) (fun h => ?_) | refine w_seq ?_ | refine w_block ?_ | refine w_skip ?_ | refine w_exit ?_))
    refine wt_ix (j := 0) (by decide) (c := svT (.mk 0 16 true [] [.mk 0 6 false [85, 4, IntKind.u8.wrap p.1] [], .mk 0 12 false (ints p.2) []])) rfl ?_
    repeat' (first | (refine wt_id ?_; first | with_reducible refine wt_put ?_ | refine wt_ldT ?_ | refine wt_lenn ?_ | refine wt_t ?_ | refine wt_t2 ?_ | refine wt_eq ?_ | refine wt_pt ?_ | refine wt_pf ?_ | refine wt_n ?_ | refine wt_u ?_ | refine wt_ixn ?_ ?_ | refine wt_lon ?_ ?_ | refine wt_shl ?_ ?_ | refine wt_shr ?_ ?_ | refine wt_z ?_ | refine wt_gs (fun h1 => ?_) (fun h1 => ?_)) | (refine wl_id ?_; first | with_reducible refine wl_put ?_ | refine wl_nt ?_ | refine wl_nf ?_ | refine wl_ldT ?_ | refine wl_lenn ?_ | refine wl_s ?_ | refine wl_s2 ?_ | refine wl_eq ?_ | refine wl_st ?_ | refine wl_nil ?_ | refine wl_pt ?_ | refine wl_pf ?_ | refine wl_kn ?_ | refine wl_ky ?_ | refine wl_gu ?_ | refine wl_gs (fun h1 => ?_) (fun h1 => ?_) | refine wl_ixn ?_ ?_ | refine wl_lon ?_ ?_ | refine wl_shl ?_ ?_ | refine wl_shr ?_ ?_) | (refine w_id ?_; first | with_reducible refine w_put ?_ | refine w_sregion ?_ | refine w_sdr ?_ | refine w_region ?_ | refine w_dr ?_ | refine w_kt ?_ | refine w_kf ?_ | refine w_cond rfl (fun h => ?_) (fun h => ?_) | refine w_seq ?_ | refine w_block ?_ | refine w_skip ?_ | refine w_exit ?_))
    refine wt_ix (j := 1) (by decide) (c := svT (.mk 0 12 false (ints p.2) [])) rfl ?_
    repeat' (first | (refine wt_id ?_; first | with_reducible refine wt_put ?_ | refine wt_ldT ?_ | refine wt_lenn ?_ | refine wt_t ?_ | refine wt_t2 ?_ | refine wt_eq ?_ | refine wt_pt ?_ | refine wt_pf ?_ | refine wt_n ?_ | refine wt_u ?_ | refine wt_ixn ?_ ?_ | refine wt_lon ?_ ?_ | refine wt_shl ?_ ?_ | refine wt_shr ?_ ?_ | refine wt_z ?_ | refine wt_gs (fun h1 => ?_) (fun h1 => ?_)) | (refine wl_id ?_; first | with_reducible refine wl_put ?_ | refine wl_nt ?_ | refine wl_nf ?_ | refine wl_ldT ?_ | refine wl_lenn ?_ | refine wl_s ?_ | refine wl_s2 ?_ | refine wl_eq ?_ | refine wl_st ?_ | refine wl_nil ?_ | refine wl_pt ?_ | refine wl_pf ?_ | refine wl_kn ?_ | refine wl_ky ?_ | refine wl_gu ?_ | refine wl_gs (fun h1 => ?_) (fun h1 => ?_) | refine wl_ixn ?_ ?_ | refine wl_lon ?_ ?_ | refine wl_shl ?_ ?_ | refine wl_shr ?_ ?_) | (refine w_id ?_; first | with_reducible refine w_put ?_ | refine w_sregion ?_ | refine w_sdr ?_ | refine w_region ?_ | refine w_dr ?_ | refine w_kt ?_ | refine w_kf ?_ | refine w_cond rfl (fun h => ?_) (fun h => ?_) | refine w_seq ?_ | refine w_block ?_ | refine w_skip ?_ | refine w_exit ?_))
    refine wt_out ?_
    refine wa_two 14 15 rfl rfl (by kernel_rfl) (fun w => ?_) (fun w => ?_)
    · refine wl_al fun n4 => ?_
      refine wl_nil ?_
      intro _
      refine wa_step 15 rfl (by kernel_rfl) fun w => ?_
      refine wl_al fun n5 => ?_
      refine wl_nil ?_
      intro _
      refine wa_step 16 rfl (by kernel_rfl) fun w => ?_
      refine wl_st ?_
      refine wl_nil ?_
      intro _
      refine wa_step 17 rfl (by kernel_rfl) fun w => ?_
      refine wl_st ?_
      refine wl_nil ?_
      intro _
      refine wa_end (by kernel_rfl) ?_
      exact ⟨(n4, n5), ⟨rfl, rfl, rfl, rfl, trivial⟩, List.Perm.refl _, Mem.le.refl _, trivial⟩
    · refine wl_al fun n5 => ?_
      refine wl_nil ?_
      intro _
      refine wa_step 14 rfl (by kernel_rfl) fun w => ?_
      refine wl_al fun n4 => ?_
      refine wl_nil ?_
      intro _
      refine wa_step 16 rfl (by kernel_rfl) fun w => ?_
      refine wl_st ?_
      refine wl_nil ?_
      intro _
      refine wa_step 17 rfl (by kernel_rfl) fun w => ?_
      refine wl_st ?_
      refine wl_nil ?_
      intro _
      refine wa_end (by kernel_rfl) ?_
      exact ⟨(n4, n5), ⟨rfl, rfl, rfl, rfl, trivial⟩, List.Perm.swap _ _ _, Mem.le.refl _, trivial⟩
  rintro ⟨n4, n5⟩ M3 hle3 _
  dsimp only
  repeat' (first | (refine wt_id ?_; first | with_reducible refine wt_put ?_ | refine wt_ldT ?_ | refine wt_lenn ?_ | refine wt_t ?_ | refine wt_t2 ?_ | refine wt_eq ?_ | refine wt_pt ?_ | refine wt_pf ?_ | refine wt_n ?_ | refine wt_u ?_ | refine wt_ixn ?_ ?_ | refine wt_lon ?_ ?_ | refine wt_shl ?_ ?_ | refine wt_shr ?_ ?_ | refine wt_z ?_ | refine wt_gs (fun h1 => ?_) (fun h1 => ?_)) | (refine wl_id ?_; first | with_reducible refine wl_put ?_ | refine wl_nt ?_ | refine wl_nf ?_ | refine wl_ldT ?_ | refine wl_lenn ?_ | refine wl_s ?_ | refine wl_s2 ?_ | refine wl_eq ?_ | refine wl_st ?_ | refine wl_nil ?_ | refine wl_pt ?_ | refine wl_pf ?_ | refine wl_kn ?_ | refine wl_ky ?_ | refine wl_gu ?_ | refine wl_gs (fun h1 => ?_) (fun h1 => ?_) | refine wl_ixn ?_ ?_ | refine wl_lon ?_ ?_ | refine wl_shl ?_ ?_ | refine wl_shr ?_ ?_) | (refine w_id ?_; first | with_reducible refine w_put ?_ | refine w_sregion ?_ | refine w_sdr ?_ | refine w_region ?_ | refine w_dr ?_ | refine w_kt ?_ | refine w_kf ?_ | refine w_cond rfl (fun h => ?_) (fun h => ?_) | refine w_seq ?_ | refine w_block ?_ | refine w_skip ?_ | refine w_exit ?_))
  refine wl_c (isS (.mk 0 6 false [85, 4, IntKind.u8.wrap p.1] []) 6 (-1) _) ?_
  rintro _ _ M4 hle4 ⟨rfl, rfl⟩
  rw [show isT (.mk 0 6 false [85, 4, IntKind.u8.wrap p.1] []) 6 (-1) = true from rfl]
  repeat' (first | (refine wt_id ?_; first | with_reducible refine wt_put ?_ | refine wt_ldT ?_ | refine wt_lenn ?_ | refine wt_t ?_ | refine wt_t2 ?_ | refine wt_eq ?_ | refine wt_pt ?_ | refine wt_pf ?_ | refine wt_n ?_ | refine wt_u ?_ | refine wt_ixn ?_ ?_ | refine wt_lon ?_ ?_ | refine wt_shl ?_ ?_ | refine wt_shr ?_ ?_ | refine wt_z ?_ | refine wt_gs (fun h1 => ?_) (fun h1 => ?_)) | (refine wl_id ?_; first | with_reducible refine wl_put ?_ | refine wl_nt ?_ | refine wl_nf ?_ | refine wl_ldT ?_ | refine wl_lenn ?_ | refine wl_s ?_ | refine wl_s2 ?_ | refine wl_eq ?_ | refine wl_st ?_ | refine wl_nil ?_ | refine wl_pt ?_ | refine wl_pf ?_ | refine wl_kn ?_ | refine wl_ky ?_ | refine wl_gu ?_ | refine wl_gs (fun h1 => ?_) (fun h1 => ?_) | refine wl_ixn ?_ ?_ | refine wl_lon ?_ ?_ | refine wl_shl ?_ ?_ | refine wl_shr ?_ ?_) | (refine w_id ?_; first | with_reducible refine w_put ?_ | refine w_sregion ?_ | refine w_sdr ?_ | refine w_region ?_ | refine w_dr ?_ | refine w_kt ?_ | refine w_kf ?_ | refine w_cond rfl (fun h => ?_) (fun h => ?_) | refine w_seq ?_ | refine w_block ?_ | refine w_skip ?_ | refine w_exit ?_))
  refine wl_c (isS (.mk 0 12 false (ints p.2) []) 12 (-1) _) ?_
  rintro _ _ M5 hle5 ⟨rfl, rfl⟩
  rw [show isT (.mk 0 12 false (ints p.2) []) 12 (-1) = true from rfl]
  repeat' (first | (refine wt_id ?_; first | with_reducible refine wt_put ?_ | refine wt_ldT ?_ | refine wt_lenn ?_ | refine wt_t ?_ | refine wt_t2 ?_ | refine wt_eq ?_ | refine wt_pt ?_ | refine wt_pf ?_ | refine wt_n ?_ | refine wt_u ?_ | refine wt_ixn ?_ ?_ | refine wt_lon ?_ ?_ | refine wt_shl ?_ ?_ | refine wt_shr ?_ ?_ | refine wt_z ?_ | refine wt_gs (fun h1 => ?_) (fun h1 => ?_)) | (refine wl_id ?_; first | with_reducible refine wl_put ?_ | refine wl_nt ?_ | refine wl_nf ?_ | refine wl_ldT ?_ | refine wl_lenn ?_ | refine wl_s ?_ | refine wl_s2 ?_ | refine wl_eq ?_ | refine wl_st ?_ | refine wl_nil ?_ | refine wl_pt ?_ | refine wl_pf ?_ | refine wl_kn ?_ | refine wl_ky ?_ | refine wl_gu ?_ | refine wl_gs (fun h1 => ?_) (fun h1 => ?_) | refine wl_ixn ?_ ?_ | refine wl_lon ?_ ?_ | refine wl_shl ?_ ?_ | refine wl_shr ?_ ?_) | (refine w_id ?_; first | with_reducible refine w_put ?_ | refine w_sregion ?_ | refine w_sdr ?_ | refine w_region ?_ | refine w_dr ?_ | refine w_kt ?_ | refine w_kf ?_ | refine w_cond rfl (fun h => ?_) (fun h => ?_) | refine w_seq ?_ | refine w_block ?_ | refine w_skip ?_ | refine w_exit ?_))
  refine wl_c (oidT [85, 4, IntKind.u8.wrap p.1] _ (by simp)) ?_
  rintro _ L6 M6 hle6 ⟨t, rfl, v, rfl, _, _⟩
  rw [ho1, ho2]
  refine wl_drop _ (List.sublist_append_right _ _) ?_
  have q1 : (!decide ((([2, 5, 4, p.1] : List Int).length : Int) = 4)) = false := by simp
  have q2 : (!decide (([2, 5, 4, p.1] : List Int).getD (Int.toNat 0) 0 = 2)) = false := by simp
  have q3 : (!decide (([2, 5, 4, p.1] : List Int).getD (Int.toNat 1) 0 = 5)) = false := by simp
  have q4 : (!decide (([2, 5, 4, p.1] : List Int).getD (Int.toNat 2) 0 = 4)) = false := by simp
  have q5 : decide ((255 : Int) < ([2, 5, 4, p.1] : List Int).getD (Int.toNat 3) 0) = false := by
    rw [decide_eq_false_iff_not]
    show ¬ 255 < p.1
    omega
  have q6 : IntKind.i64.wrap (([2, 5, 4, p.1] : List Int).getD (Int.toNat 3) 0) = p.1 := by
    show IntKind.i64.wrap p.1 = p.1
    rw [IntWalk.i64_in _ (by omega)]
  repeat' (first | (refine wt_id ?_; first | with_reducible refine wt_put ?_ | refine wt_ldT ?_ | refine wt_lenn ?_ | refine wt_t ?_ | refine wt_t2 ?_ | refine wt_eq ?_ | refine wt_pt ?_ | refine wt_pf ?_ | refine wt_n ?_ | refine wt_u ?_ | refine wt_ixn ?_ ?_ | refine wt_lon ?_ ?_ | refine wt_shl ?_ ?_ | refine wt_shr ?_ ?_ | refine wt_z ?_ | refine wt_gs (fun h1 => ?_) (fun h1 => ?_)) | (refine wl_id ?_; first | with_reducible refine wl_put ?_ | refine wl_nt ?_ | refine wl_nf ?_ | refine wl_ldT ?_ | refine wl_lenn ?_ | refine wl_s ?_ | refine wl_s2 ?_ | refine wl_eq ?_ | refine wl_st ?_ | refine wl_nil ?_ | refine wl_pt ?_ | refine wl_pf ?_ | refine wl_kn ?_ | refine wl_ky ?_ | refine wl_gu ?_ | refine wl_gs (fun h1 => ?_) (fun h1 => ?_) | refine wl_ixn ?_ ?_ | refine wl_lon ?_ ?_ | refine wl_shl ?_ ?_ | refine wl_shr ?_ ?_) | (refine w_id ?_; first | with_reducible refine w_put ?_ | refine w_sregion ?_ | refine w_sdr ?_ | refine w_region ?_ | refine w_dr ?_ | refine w_kt ?_ | refine w_kf ?_ | refine w_cond rfl (fun h => ?_) (fun h => ?_) | refine w_seq ?_ | refine w_block ?_ | refine w_skip ?_ | refine w_exit ?_))
  all_goals first
    | (refine ⟨by decide, ?_⟩; simp; done)
    | skip
  refine wl_c (kindS _ _) ?_
  rintro _ _ M7 hle7 ⟨rfl, rfl⟩
  rw [q6, show decide (p.1 = 3 ∨ p.1 = 6 ∨ p.1 = 10 ∨ p.1 = 11) = true from hok]
  repeat' (first | (refine wt_id ?_; first | with_reducible refine wt_put ?_ | refine wt_ldT ?_ | refine wt_lenn ?_ | refine wt_t ?_ | refine wt_t2 ?_ | refine wt_eq ?_ | refine wt_pt ?_ | refine wt_pf ?_ | refine wt_n ?_ | refine wt_u ?_ | refine wt_ixn ?_ ?_ | refine wt_lon ?_ ?_ | refine wt_shl ?_ ?_ | refine wt_shr ?_ ?_ | refine wt_z ?_ | refine wt_gs (fun h1 => ?_) (fun h1 => ?_)) | (refine wl_id ?_; first | with_reducible refine wl_put ?_ | refine wl_nt ?_ | refine wl_nf ?_ | refine wl_ldT ?_ | refine wl_lenn ?_ | refine wl_s ?_ | refine wl_s2 ?_ | refine wl_eq ?_ | refine wl_st ?_ | refine wl_nil ?_ | refine wl_pt ?_ | refine wl_pf ?_ | refine wl_kn ?_ | refine wl_ky ?_ | refine wl_gu ?_ | refine wl_gs (fun h1 => ?_) (fun h1 => ?_) | refine wl_ixn ?_ ?_ | refine wl_lon ?_ ?_ | refine wl_shl ?_ ?_ | refine wl_shr ?_ ?_) | (refine w_id ?_; first | with_reducible refine w_put ?_ | refine w_sregion ?_ | refine w_sdr ?_ | refine w_region ?_ | refine w_dr ?_ | refine w_kt ?_ | refine w_kf ?_ | refine w_cond rfl (fun h => ?_) (fun h => ?_) | refine w_seq ?_ | refine w_block ?_ | refine w_skip ?_ | refine w_exit ?_))
  refine wl_c (textT (ints p.2) _ (by rw [ints_length]; exact hn)) ?_
  rintro _ _ M8 hle8 ⟨rfl, rfl⟩
  rw [show textY (ints p.2) = p.2 by unfold textY; rw [if_pos ht, ofBytes_ints], show errSV (textF (ints p.2)) = .v .nilIface by unfold errSV; rw [if_pos ht]]
  repeat' (first | with_reducible refine wl_put ?_ | refine wl_nt ?_ | refine wl_nf ?_ | refine wl_ldT ?_ | refine wl_lenn ?_ | refine wl_s ?_ | refine wl_s2 ?_ | refine wl_eq ?_ | refine wl_st ?_ | refine wl_nil ?_ | refine wl_pt ?_ | refine wl_pf ?_ | refine wl_kn ?_ | refine wl_ky ?_ | refine wl_gu ?_ | refine wl_gs (fun h1 => ?_) (fun h1 => ?_) | refine wl_ixn ?_ ?_ | refine wl_lon ?_ ?_ | refine wl_shl ?_ ?_ | refine wl_shr ?_ ?_)
  refine w_drop [.box 2 n2 35 [.v (.int .i64 0), .v (.string .empty)]] ?_ ?_
  · exact .cons _ (.cons _ (.cons_cons _ (.cons _ .slnil)))
  refine w_sdrw [] [.box 2 n2 35 [.v (.int .i64 0), .v (.string .empty)]] ?_
  repeat' (first | (refine wt_id ?_; first | with_reducible refine wt_put ?_ | refine wt_ldT ?_ | refine wt_lenn ?_ | refine wt_t ?_ | refine wt_t2 ?_ | refine wt_eq ?_ | refine wt_pt ?_ | refine wt_pf ?_ | refine wt_n ?_ | refine wt_u ?_ | refine wt_ixn ?_ ?_ | refine wt_lon ?_ ?_ | refine wt_shl ?_ ?_ | refine wt_shr ?_ ?_ | refine wt_z ?_ | refine wt_gs (fun h1 => ?_) (fun h1 => ?_)) | (refine wl_id ?_; first | with_reducible refine wl_put ?_ | refine wl_nt ?_ | refine wl_nf ?_ | refine wl_ldT ?_ | refine wl_lenn ?_ | refine wl_s ?_ | refine wl_s2 ?_ | refine wl_eq ?_ | refine wl_st ?_ | refine wl_nil ?_ | refine wl_pt ?_ | refine wl_pf ?_ | refine wl_kn ?_ | refine wl_ky ?_ | refine wl_gu ?_ | refine wl_gs (fun h1 => ?_) (fun h1 => ?_) | refine wl_ixn ?_ ?_ | refine wl_lon ?_ ?_ | refine wl_shl ?_ ?_ | refine wl_shr ?_ ?_) | (refine w_id ?_; first | with_reducible refine w_put ?_ | refine w_sregion ?_ | refine w_sdr ?_ | refine w_region ?_ | refine w_dr ?_ | refine w_kt ?_ | refine w_kf ?_ | refine w_cond rfl (fun h => ?_) (fun h => ?_) | refine w_seq ?_ | refine w_block ?_ | refine w_skip ?_ | refine w_exit ?_))
  · refine ⟨by decide, ?_⟩; simp
  rw [q6]
  repeat' (first | (refine wt_id ?_; first | with_reducible refine wt_put ?_ | refine wt_ldT ?_ | refine wt_lenn ?_ | refine wt_t ?_ | refine wt_t2 ?_ | refine wt_eq ?_ | refine wt_pt ?_ | refine wt_pf ?_ | refine wt_n ?_ | refine wt_u ?_ | refine wt_ixn ?_ ?_ | refine wt_lon ?_ ?_ | refine wt_shl ?_ ?_ | refine wt_shr ?_ ?_ | refine wt_z ?_ | refine wt_gs (fun h1 => ?_) (fun h1 => ?_)) | (refine wl_id ?_; first | with_reducible refine wl_put ?_ | refine wl_nt ?_ | refine wl_nf ?_ | refine wl_ldT ?_ | refine wl_lenn ?_ | refine wl_s ?_ | refine wl_s2 ?_ | refine wl_eq ?_ | refine wl_st ?_ | refine wl_nil ?_ | refine wl_pt ?_ | refine wl_pf ?_ | refine wl_kn ?_ | refine wl_ky ?_ | refine wl_gu ?_ | refine wl_gs (fun h1 => ?_) (fun h1 => ?_) | refine wl_ixn ?_ ?_ | refine wl_lon ?_ ?_ | refine wl_shl ?_ ?_ | refine wl_shr ?_ ?_) | (refine w_id ?_; first | with_reducible refine w_put ?_ | refine w_sregion ?_ | refine w_sdr ?_ | refine w_region ?_ | refine w_dr ?_ | refine w_kt ?_ | refine w_kf ?_ | refine w_cond rfl (fun h => ?_) (fun h => ?_) | refine w_seq ?_ | refine w_block ?_ | refine w_skip ?_ | refine w_exit ?_))
  refine wt_step fun w => ?_
  refine wl_st ?_
  refine wl_nil ?_
  intro _
  refine wt_in ?_ rfl
  repeat' (first | (refine wt_id ?_; first | with_reducible refine wt_put ?_ | refine wt_ldT ?_ | refine wt_lenn ?_ | refine wt_t ?_ | refine wt_t2 ?_ | refine wt_eq ?_ | refine wt_pt ?_ | refine wt_pf ?_ | refine wt_n ?_ | refine wt_u ?_ | refine wt_ixn ?_ ?_ | refine wt_lon ?_ ?_ | refine wt_shl ?_ ?_ | refine wt_shr ?_ ?_ | refine wt_z ?_ | refine wt_gs (fun h1 => ?_) (fun h1 => ?_)) | (refine wl_id ?_; first | with_reducible refine wl_put ?_ | refine wl_nt ?_ | refine wl_nf ?_ | refine wl_ldT ?_ | refine wl_lenn ?_ | refine wl_s ?_ | refine wl_s2 ?_ | refine wl_eq ?_ | refine wl_st ?_ | refine wl_nil ?_ | refine wl_pt ?_ | refine wl_pf ?_ | refine wl_kn ?_ | refine wl_ky ?_ | refine wl_gu ?_ | refine wl_gs (fun h1 => ?_) (fun h1 => ?_) | refine wl_ixn ?_ ?_ | refine wl_lon ?_ ?_ | refine wl_shl ?_ ?_ | refine wl_shr ?_ ?_) | (refine w_id ?_; first | with_reducible refine w_put ?_ | refine w_sregion ?_ | refine w_sdr ?_ | refine w_region ?_ | refine w_dr ?_ | refine w_kt ?_ | refine w_kf ?_ | refine w_cond rfl (fun h => ?_) (fun h => ?_) | refine w_seq ?_ | refine w_block ?_ | refine w_skip ?_ | refine w_exit ?_))
  exact w_ret ⟨.inl rfl, _, [], .cons resV_box (.cons (resV_tmp rfl) .nil), List.nil_sublist _, rfl, rfl⟩
end Go.Eng

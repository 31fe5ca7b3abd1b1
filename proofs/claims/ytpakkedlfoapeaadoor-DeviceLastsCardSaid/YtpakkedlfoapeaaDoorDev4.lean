/- Walks: device. Write. -/
import Derived.Test.YtpakkedlfoapeaaDoorDev3
namespace Go.Eng
open Go Go.Proofs
set_option maxRecDepth 100000
def chunk (b : List Int) : Nat := if (16 : Int) < b.length then 16 else b.length
theorem chunk_le (b : List Int) : chunk b ≤ b.length := by unfold chunk; split <;> omega
theorem chunk_pos {b : List Int} (h : 0 < b.length) : 0 < chunk b := by unfold chunk; split <;> omega
theorem chunk_16 (b : List Int) : chunk b ≤ 16 := by unfold chunk; split <;> omega
theorem chunk_eq (b : List Int) : (if (16 : Int) < (b.length : Int) then (16 : Int) else (b.length : Int)) = ((chunk b : Nat) : Int) := by unfold chunk; split <;> rfl
def copyD (d : Dv) (p : Nat) (xs : List Int) : Dv := { d with ram := d.ram.take p ++ xs ++ d.ram.drop (p + xs.length) }
def wrD : Nat → Dv → Nat → List Int → Dv × Int
  | 0, d, _, _ => (d, 0)
  | k + 1, d, p, b => if b.length = 0 then (d, 0) else if (stepD d).2 then wrD k (copyD (stepD d).1 p (b.take (chunk b))) (p + chunk b) (b.drop (chunk b)) else ((stepD d).1, 15)
def writeD (d : Dv) (p : Int) (b : List Int) : Dv × Int :=
  if d.off then (d, 15) else if p < 0 ∨ d.ram.length < b.length ∨ ((d.ram.length : Int) - b.length) < p then (d, 20) else wrD (b.length + 1) d p.toNat b
theorem step_ram (d : Dv) : (stepD d).1.ram.length = d.ram.length := by
  unfold stepD
  split
  · rfl
  · split
    · simp [zeros]
    · rfl
theorem copy_ram {d : Dv} {p : Nat} {xs : List Int} (h : p + xs.length ≤ d.ram.length) : (copyD d p xs).ram.length = d.ram.length := by
  simp only [copyD, List.length_append, List.length_take, List.length_drop]; omega
theorem writeS (nd nr : Nat) (d : Dv) (p : Int) (b : List Int) (M : Mem) (hl : d.ram.length ≤ 65536) : Spec Tryd.prog 9 [.lp 900 nd 0, .v (.int .i64 p), .sl 1 (bs b)] (devL nd nr d) M (fun s L' _ => s = errD (writeD d p b).2 ∧ L' = devL nd nr (writeD d p b).1) := by
  refine spec_of [.tmp 6] Tryd.func9 rfl rfl rfl fun w0 => ?_
  repeat' (first | (refine wl_id ?_; first | with_reducible refine wl_put ?_ | refine wl_nt ?_ | refine wl_nf ?_ | refine wl_ldT ?_ | refine wl_lenn ?_ | refine wl_s ?_ | refine wl_s2 ?_ | refine wl_eq ?_ | refine wl_st ?_ | refine wl_nil ?_ | refine wl_pt ?_ | refine wl_pf ?_ | refine wl_kn ?_ | refine wl_ky ?_ | refine wl_gu ?_ | refine wl_gs (fun h1 => ?_) (fun h1 => ?_) | refine wl_ixn ?_ ?_ | refine wl_lon ?_ ?_ | refine wl_shl ?_ ?_ | refine wl_shr ?_ ?_ | refine wl_nck ?_) | (refine w_id ?_; first | with_reducible refine w_put ?_ | refine w_sregion ?_ | refine w_region ?_ | refine w_kt ?_ | refine w_kf ?_ | refine w_cond rfl (fun h => ?_) (fun h => ?_) | refine w_seq ?_ | refine w_block ?_ | refine w_skip ?_ | refine w_exit ?_))
  · exact w_ret ⟨.inl rfl, _, _, resVs1, List.Sublist.refl _, by rw [writeD, if_pos h]; rfl, by rw [writeD, if_pos h]⟩
  all_goals have hoff : ¬ d.off = true := by rw [(by assumption : d.off = false)]; decide
  · have h0 := of_decide_eq_true h1
    exact w_ret ⟨.inl rfl, _, _, resVs1, List.Sublist.refl _, by rw [writeD, if_neg hoff, if_pos (.inl h0)]; rfl, by rw [writeD, if_neg hoff, if_pos (.inl h0)]⟩
  all_goals have g1 := of_decide_eq_false (by assumption : decide (p < 0) = false)
  · have h0 := of_decide_eq_true (by assumption : decide ((d.ram.length : Int) < b.length) = true)
    have h2 : p < 0 ∨ d.ram.length < b.length ∨ ((d.ram.length : Int) - b.length) < p := .inr (.inl (by omega))
    exact w_ret ⟨.inl rfl, _, _, resVs1, List.Sublist.refl _, by rw [writeD, if_neg hoff, if_pos h2]; rfl, by rw [writeD, if_neg hoff, if_pos h2]⟩
  all_goals have g2 := of_decide_eq_false (by assumption : decide ((d.ram.length : Int) < b.length) = false)
  all_goals rw [IntWalk.i64_in _ (by omega)] at *
  · have h0 := of_decide_eq_true (by assumption : decide ((d.ram.length : Int) - b.length < p) = true)
    have h2 : p < 0 ∨ d.ram.length < b.length ∨ ((d.ram.length : Int) - b.length) < p := .inr (.inr (by omega))
    exact w_ret ⟨.inl rfl, _, _, resVs1, List.Sublist.refl _, by rw [writeD, if_neg hoff, if_pos h2]; rfl, by rw [writeD, if_neg hoff, if_pos h2]⟩
  have g3 := of_decide_eq_false (by assumption : decide ((d.ram.length : Int) - b.length < p) = false)
  have h2 : ¬ (p < 0 ∨ d.ram.length < b.length ∨ ((d.ram.length : Int) - b.length) < p) := by omega
  have hw : writeD d p b = wrD (b.length + 1) d p.toNat b := by rw [writeD, if_neg hoff, if_neg h2]
  rw [hw]
  generalize hR : wrD (b.length + 1) d p.toNat b = R
  obtain ⟨q, rfl⟩ : ∃ q : Nat, p = q := ⟨p.toNat, by omega⟩
  rw [Int.toNat_natCast] at hR
  refine w_loopS (σ := Nat × Dv × Nat × List Int) (fun s => [(2, .sl 1 (bs s.2.2.2)), (1, .v (.int .i64 s.2.2.1)), (0, .lp 900 nd 0)]) (fun s => devL nd nr s.2.1) (fun s _ => wrD s.1 s.2.1 s.2.2.1 s.2.2.2 = R ∧ s.2.2.2.length < s.1 ∧ s.2.2.1 + s.2.2.2.length ≤ s.2.1.ram.length ∧ s.2.1.ram.length ≤ 65536) (fun s => s.2.2.2.length) (b.length + 1, d, q, b) ?_ (List.Sublist.refl _) ⟨hR, by dsimp only; omega, by dsimp only; omega, hl⟩ ?_
  · exact ⟨rfl, rfl, rfl, trivial⟩
  clear hR hw h2 g3 g1 h h1 g2
  rintro ⟨k, d2, q2, b2⟩ M2 hle2 ⟨hR, hk, hq, hl2⟩
  dsimp only at hR hk hq hl2 ⊢
  repeat' (first | (refine wt_id ?_; first | with_reducible refine wt_put ?_ | refine wt_ldT ?_ | refine wt_lenn ?_ | refine wt_t ?_ | refine wt_t2 ?_ | refine wt_eq ?_ | refine wt_pt ?_ | refine wt_pf ?_ | refine wt_n ?_ | refine wt_u ?_ | refine wt_ixn ?_ ?_ | refine wt_lon ?_ ?_ | refine wt_shl ?_ ?_ | refine wt_shr ?_ ?_ | refine wt_nck ?_ | refine wt_z ?_ | refine wt_gs (fun h1 => ?_) (fun h1 => ?_)) | (refine wl_id ?_; first | with_reducible refine wl_put ?_ | refine wl_nt ?_ | refine wl_nf ?_ | refine wl_ldT ?_ | refine wl_lenn ?_ | refine wl_s ?_ | refine wl_s2 ?_ | refine wl_eq ?_ | refine wl_st ?_ | refine wl_nil ?_ | refine wl_pt ?_ | refine wl_pf ?_ | refine wl_kn ?_ | refine wl_ky ?_ | refine wl_gu ?_ | refine wl_gs (fun h1 => ?_) (fun h1 => ?_) | refine wl_ixn ?_ ?_ | refine wl_lon ?_ ?_ | refine wl_shl ?_ ?_ | refine wl_shr ?_ ?_ | refine wl_nck ?_) | (refine w_id ?_; first | with_reducible refine w_put ?_ | refine w_sregion ?_ | refine w_sdr ?_ | refine w_region ?_ | refine w_dr ?_ | refine w_seq ?_ | refine w_block ?_ | refine w_skip ?_ | refine w_exit ?_))
  refine w_cond rfl (fun h => ?_) (fun h => ?_)
  · have h0 := of_decide_eq_true h
    obtain ⟨k, rfl⟩ : ∃ j, k = j + 1 := ⟨k - 1, by omega⟩
    rw [wrD, if_neg (by omega)] at hR
    have hc1 := chunk_le b2
    have hc2 := chunk_pos (b := b2) (by omega)
    repeat' (first | (refine wl_id ?_; first | with_reducible refine wl_put ?_ | refine wl_nt ?_ | refine wl_nf ?_ | refine wl_ldT ?_ | refine wl_lenn ?_ | refine wl_s ?_ | refine wl_s2 ?_ | refine wl_eq ?_ | refine wl_st ?_ | refine wl_nil ?_ | refine wl_pt ?_ | refine wl_pf ?_ | refine wl_kn ?_ | refine wl_ky ?_ | refine wl_gu ?_ | refine wl_gs (fun h1 => ?_) (fun h1 => ?_) | refine wl_ixn ?_ ?_ | refine wl_lon ?_ ?_ | refine wl_shl ?_ ?_ | refine wl_shr ?_ ?_ | refine wl_nck ?_) | (refine w_id ?_; first | with_reducible refine w_put ?_ | refine w_sregion ?_ | refine w_region ?_ | refine w_kt ?_ | refine w_kf ?_ | refine w_cond rfl (fun h => ?_) (fun h => ?_) | refine w_seq ?_ | refine w_block ?_ | refine w_skip ?_ | refine w_exit ?_))
    rw [chunk_eq]
    refine wl_callL (devL nd nr d2) [] (stepS nd nr d2 _) ?_
    rintro _ _ M3 hle3 ⟨rfl, rfl⟩
    cases hs : (stepD d2).2 with
    | false =>
      rw [hs] at hR
      repeat' (first | (refine wl_id ?_; first | with_reducible refine wl_put ?_ | refine wl_nt ?_ | refine wl_nf ?_ | refine wl_ldT ?_ | refine wl_lenn ?_ | refine wl_s ?_ | refine wl_s2 ?_ | refine wl_eq ?_ | refine wl_st ?_ | refine wl_nil ?_ | refine wl_pt ?_ | refine wl_pf ?_ | refine wl_kn ?_ | refine wl_ky ?_ | refine wl_gu ?_ | refine wl_gs (fun h1 => ?_) (fun h1 => ?_) | refine wl_ixn ?_ ?_ | refine wl_lon ?_ ?_ | refine wl_shl ?_ ?_ | refine wl_shr ?_ ?_ | refine wl_nck ?_) | (refine w_id ?_; first | with_reducible refine w_put ?_ | refine w_sregion ?_ | refine w_region ?_ | refine w_kt ?_ | refine w_kf ?_ | refine w_cond rfl (fun h => ?_) (fun h => ?_) | refine w_seq ?_ | refine w_block ?_ | refine w_skip ?_ | refine w_exit ?_))
      subst hR
      exact w_ret ⟨.inl rfl, _, _, resVs1, List.Sublist.refl _, rfl, rfl⟩
    | true =>
      rw [hs, if_pos rfl] at hR
      repeat' (first | (refine wl_id ?_; first | with_reducible refine wl_put ?_ | refine wl_nt ?_ | refine wl_nf ?_ | refine wl_ldT ?_ | refine wl_lenn ?_ | refine wl_s ?_ | refine wl_s2 ?_ | refine wl_eq ?_ | refine wl_st ?_ | refine wl_nil ?_ | refine wl_pt ?_ | refine wl_pf ?_ | refine wl_kn ?_ | refine wl_ky ?_ | refine wl_gu ?_ | refine wl_gs (fun h1 => ?_) (fun h1 => ?_) | refine wl_ixn ?_ ?_ | refine wl_lon ?_ ?_ | refine wl_shl ?_ ?_ | refine wl_shr ?_ ?_ | refine wl_nck ?_) | (refine w_id ?_; first | with_reducible refine w_put ?_ | refine w_sregion ?_ | refine w_region ?_ | refine w_kt ?_ | refine w_kf ?_ | refine w_cond rfl (fun h => ?_) (fun h => ?_) | refine w_seq ?_ | refine w_block ?_ | refine w_skip ?_ | refine w_exit ?_))
      have hr3 := step_ram d2
      generalize (stepD d2).1 = d3 at hR hr3 ⊢
      have hne : ¬ d3.ram.length = q2 := by omega
      refine w_perm [ramL nr d3.ram, .box 900 nd 47 (devC nr d3)] (List.Perm.swap _ _ _) ?_
      refine w_drw [.box 900 nd 47 (devC nr d3)] [ramL nr d3.ram] ?_
      repeat' (first | (refine wt_id ?_; first | with_reducible refine wt_put ?_ | refine wt_ldT ?_ | refine wt_lenn ?_ | refine wt_t ?_ | refine wt_t2 ?_ | refine wt_eq ?_ | refine wt_pt ?_ | refine wt_pf ?_ | refine wt_n ?_ | refine wt_u ?_ | refine wt_ixn ?_ ?_ | refine wt_lon ?_ ?_ | refine wt_shl ?_ ?_ | refine wt_shr ?_ ?_ | refine wt_nck ?_ | refine wt_z ?_ | refine wt_gs (fun h1 => ?_) (fun h1 => ?_)) | (refine wl_id ?_; first | with_reducible refine wl_put ?_ | refine wl_nt ?_ | refine wl_nf ?_ | refine wl_ldT ?_ | refine wl_lenn ?_ | refine wl_s ?_ | refine wl_s2 ?_ | refine wl_eq ?_ | refine wl_st ?_ | refine wl_nil ?_ | refine wl_pt ?_ | refine wl_pf ?_ | refine wl_kn ?_ | refine wl_ky ?_ | refine wl_gu ?_ | refine wl_gs (fun h1 => ?_) (fun h1 => ?_) | refine wl_ixn ?_ ?_ | refine wl_lon ?_ ?_ | refine wl_shl ?_ ?_ | refine wl_shr ?_ ?_ | refine wl_nck ?_) | (refine w_id ?_; first | with_reducible refine w_put ?_ | refine w_sregion ?_ | refine w_sdr ?_ | refine w_region ?_ | refine w_dr ?_ | refine w_kt ?_ | refine w_kf ?_ | refine w_cond rfl (fun h => ?_) (fun h => ?_) | refine w_seq ?_ | refine w_block ?_ | refine w_skip ?_ | refine w_exit ?_))
      refine wt_on ?_ (gon_none rfl) rfl (still_slice_row (l := q2) (h := d3.ram.length) rfl rfl ⟨_, _, rfl, rfl⟩ rfl (by omega) (Nat.le_refl _)) (by kernel_rfl) (by kernel_rfl) (by kernel_rfl)
      rw [if_neg hne]
      repeat' (first | (refine wt_id ?_; first | with_reducible refine wt_put ?_ | refine wt_ldT ?_ | refine wt_lenn ?_ | refine wt_t ?_ | refine wt_t2 ?_ | refine wt_eq ?_ | refine wt_pt ?_ | refine wt_pf ?_ | refine wt_n ?_ | refine wt_u ?_ | refine wt_ixn ?_ ?_ | refine wt_lon ?_ ?_ | refine wt_shl ?_ ?_ | refine wt_shr ?_ ?_ | refine wt_nck ?_ | refine wt_z ?_ | refine wt_gs (fun h1 => ?_) (fun h1 => ?_)) | (refine wl_id ?_; first | with_reducible refine wl_put ?_ | refine wl_nt ?_ | refine wl_nf ?_ | refine wl_ldT ?_ | refine wl_lenn ?_ | refine wl_s ?_ | refine wl_s2 ?_ | refine wl_eq ?_ | refine wl_st ?_ | refine wl_nil ?_ | refine wl_pt ?_ | refine wl_pf ?_ | refine wl_kn ?_ | refine wl_ky ?_ | refine wl_gu ?_ | refine wl_gs (fun h1 => ?_) (fun h1 => ?_) | refine wl_ixn ?_ ?_ | refine wl_lon ?_ ?_ | refine wl_shl ?_ ?_ | refine wl_shr ?_ ?_ | refine wl_nck ?_) | (refine w_id ?_; first | with_reducible refine w_put ?_ | refine w_sregion ?_ | refine w_sdr ?_ | refine w_region ?_ | refine w_dr ?_ | refine w_kt ?_ | refine w_kf ?_ | refine w_cond rfl (fun h => ?_) (fun h => ?_) | refine w_seq ?_ | refine w_block ?_ | refine w_skip ?_ | refine w_exit ?_))
      refine wt_on ?_ (gon_none rfl) rfl (still_slice_hi rfl rfl rfl ⟨by omega, by rw [ns_length]; omega⟩) (by kernel_rfl) (by kernel_rfl) (by kernel_rfl)
      repeat' (first | (refine wt_id ?_; first | with_reducible refine wt_put ?_ | refine wt_ldT ?_ | refine wt_lenn ?_ | refine wt_t ?_ | refine wt_t2 ?_ | refine wt_eq ?_ | refine wt_pt ?_ | refine wt_pf ?_ | refine wt_n ?_ | refine wt_u ?_ | refine wt_ixn ?_ ?_ | refine wt_lon ?_ ?_ | refine wt_shl ?_ ?_ | refine wt_shr ?_ ?_ | refine wt_nck ?_ | refine wt_z ?_ | refine wt_gs (fun h1 => ?_) (fun h1 => ?_)) | (refine wl_id ?_; first | with_reducible refine wl_put ?_ | refine wl_nt ?_ | refine wl_nf ?_ | refine wl_ldT ?_ | refine wl_lenn ?_ | refine wl_s ?_ | refine wl_s2 ?_ | refine wl_eq ?_ | refine wl_st ?_ | refine wl_nil ?_ | refine wl_pt ?_ | refine wl_pf ?_ | refine wl_kn ?_ | refine wl_ky ?_ | refine wl_gu ?_ | refine wl_gs (fun h1 => ?_) (fun h1 => ?_) | refine wl_ixn ?_ ?_ | refine wl_lon ?_ ?_ | refine wl_shl ?_ ?_ | refine wl_shr ?_ ?_ | refine wl_nck ?_) | (refine w_id ?_; first | with_reducible refine w_put ?_ | refine w_sregion ?_ | refine w_sdr ?_ | refine w_region ?_ | refine w_dr ?_ | refine w_kt ?_ | refine w_kf ?_ | refine w_cond rfl (fun h => ?_) (fun h => ?_) | refine w_seq ?_ | refine w_block ?_ | refine w_skip ?_ | refine w_exit ?_))
      refine wt_step fun w => ?_
      have hx : (b2.take (chunk b2)).length = chunk b2 := by rw [List.length_take]; omega
      have hbt : (bs b2).take ((chunk b2 : Nat) : Int).toNat = bs (b2.take (chunk b2)) := by rw [Int.toNat_natCast]; simp only [ns, List.map_take]
      rw [hbt]
      have hbl : (bs (b2.take (chunk b2))).length = chunk b2 := (ns_length _ _).trans hx
      refine wl_copy 901 rfl ?_ ?_
      · rw [hbl, ram_len]; omega
      repeat' (first | (refine wt_id ?_; first | with_reducible refine wt_put ?_ | refine wt_ldT ?_ | refine wt_lenn ?_ | refine wt_t ?_ | refine wt_t2 ?_ | refine wt_eq ?_ | refine wt_pt ?_ | refine wt_pf ?_ | refine wt_n ?_ | refine wt_u ?_ | refine wt_ixn ?_ ?_ | refine wt_lon ?_ ?_ | refine wt_shl ?_ ?_ | refine wt_shr ?_ ?_ | refine wt_nck ?_ | refine wt_z ?_ | refine wt_gs (fun h1 => ?_) (fun h1 => ?_)) | (refine wl_id ?_; first | with_reducible refine wl_put ?_ | refine wl_nt ?_ | refine wl_nf ?_ | refine wl_ldT ?_ | refine wl_lenn ?_ | refine wl_s ?_ | refine wl_s2 ?_ | refine wl_eq ?_ | refine wl_st ?_ | refine wl_nil ?_ | refine wl_pt ?_ | refine wl_pf ?_ | refine wl_kn ?_ | refine wl_ky ?_ | refine wl_gu ?_ | refine wl_gs (fun h1 => ?_) (fun h1 => ?_) | refine wl_ixn ?_ ?_ | refine wl_lon ?_ ?_ | refine wl_shl ?_ ?_ | refine wl_shr ?_ ?_ | refine wl_nck ?_) | (refine w_id ?_; first | with_reducible refine w_put ?_ | refine w_sregion ?_ | refine w_sdr ?_ | refine w_region ?_ | refine w_dr ?_ | refine w_kt ?_ | refine w_kf ?_ | refine w_cond rfl (fun h => ?_) (fun h => ?_) | refine w_seq ?_ | refine w_block ?_ | refine w_skip ?_ | refine w_exit ?_))
      intro _
      refine wt_in ?_ rfl
      refine wt_z ?_
      have eC : devC nr (copyD d3 q2 (b2.take (chunk b2))) = devC nr d3 := by
        have := copy_ram (d := d3) (p := q2) (xs := b2.take (chunk b2)) (by rw [hx]; omega)
        unfold devC
        rw [this]
        rfl
      have eR : splice (d3.ram.map fun z => SV.v (.int .u8 z)) (0 + q2 * 1) ((bs (b2.take (chunk b2))).flatten.take (min (bs (b2.take (chunk b2))).length (d3.ram.length - q2))) = (copyD d3 q2 (b2.take (chunk b2))).ram.map fun z => SV.v (.int .u8 z) := by
        rw [hbl, ns_flatten, List.take_of_length_le (by rw [List.length_map, hx]; omega)]
        simp only [splice, copyD, List.map_append, List.map_take, List.map_drop, Nat.zero_add, Nat.mul_one, List.length_map, List.length_take]
      refine w_perm (devL nd nr (copyD d3 q2 (b2.take (chunk b2)))) ?_ ?_
      · show [Res.box 900 nd 47 (devC nr (copyD d3 q2 (b2.take (chunk b2)))), Res.box 901 nr 5 ((copyD d3 q2 (b2.take (chunk b2))).ram.map fun z => SV.v (.int .u8 z))].Perm [Res.box 901 nr 5 (splice (d3.ram.map fun z => SV.v (.int .u8 z)) (0 + q2 * 1) ((bs (b2.take (chunk b2))).flatten.take (min (bs (b2.take (chunk b2))).length (d3.ram.length - q2)))), Res.box 900 nd 47 (devC nr d3)]
        rw [eC, eR]
        exact List.Perm.swap _ _ _
      repeat' (first | (refine wt_id ?_; first | with_reducible refine wt_put ?_ | refine wt_ldT ?_ | refine wt_lenn ?_ | refine wt_t ?_ | refine wt_t2 ?_ | refine wt_eq ?_ | refine wt_pt ?_ | refine wt_pf ?_ | refine wt_n ?_ | refine wt_u ?_ | refine wt_ixn ?_ ?_ | refine wt_lon ?_ ?_ | refine wt_shl ?_ ?_ | refine wt_shr ?_ ?_ | refine wt_nck ?_ | refine wt_z ?_ | refine wt_gs (fun h1 => ?_) (fun h1 => ?_)) | (refine wl_id ?_; first | with_reducible refine wl_put ?_ | refine wl_nt ?_ | refine wl_nf ?_ | refine wl_ldT ?_ | refine wl_lenn ?_ | refine wl_s ?_ | refine wl_s2 ?_ | refine wl_eq ?_ | refine wl_st ?_ | refine wl_nil ?_ | refine wl_pt ?_ | refine wl_pf ?_ | refine wl_kn ?_ | refine wl_ky ?_ | refine wl_gu ?_ | refine wl_gs (fun h1 => ?_) (fun h1 => ?_) | refine wl_ixn ?_ ?_ | refine wl_lon ?_ ?_ | refine wl_shl ?_ ?_ | refine wl_shr ?_ ?_ | refine wl_nck ?_) | (refine w_id ?_; first | with_reducible refine w_put ?_ | refine w_sregion ?_ | refine w_sdr ?_ | refine w_region ?_ | refine w_dr ?_ | refine w_kt ?_ | refine w_kf ?_ | refine w_cond rfl (fun h => ?_) (fun h => ?_) | refine w_seq ?_ | refine w_block ?_ | refine w_skip ?_ | refine w_exit ?_))
      · exact ⟨by omega, by omega⟩
      have hw : IntKind.i64.wrap ((q2 : Int) + (chunk b2 : Nat)) = ((q2 + chunk b2 : Nat) : Int) := by rw [IntWalk.i64_in _ (by omega)]; omega
      rw [hw]
      have hdl : (b2.drop (chunk b2)).length = b2.length - chunk b2 := List.length_drop
      have hcr := copy_ram (d := d3) (p := q2) (xs := b2.take (chunk b2)) (by rw [hx]; omega)
      refine ⟨(k, copyD d3 q2 (b2.take (chunk b2)), q2 + chunk b2, b2.drop (chunk b2)), by dsimp only; omega, ⟨rfl, rfl, rfl, trivial⟩, List.Sublist.refl _, hle3, hR, by dsimp only; omega, by dsimp only; omega, by dsimp only; omega⟩
  · have h0 := of_decide_eq_false h
    obtain ⟨k, rfl⟩ : ∃ j, k = j + 1 := ⟨k - 1, by omega⟩
    rw [wrD, if_pos (by omega)] at hR
    repeat' (first | (refine wt_id ?_; first | with_reducible refine wt_put ?_ | refine wt_ldT ?_ | refine wt_lenn ?_ | refine wt_t ?_ | refine wt_t2 ?_ | refine wt_eq ?_ | refine wt_pt ?_ | refine wt_pf ?_ | refine wt_n ?_ | refine wt_u ?_ | refine wt_ixn ?_ ?_ | refine wt_lon ?_ ?_ | refine wt_shl ?_ ?_ | refine wt_shr ?_ ?_ | refine wt_nck ?_ | refine wt_z ?_ | refine wt_gs (fun h1 => ?_) (fun h1 => ?_)) | (refine wl_id ?_; first | with_reducible refine wl_put ?_ | refine wl_nt ?_ | refine wl_nf ?_ | refine wl_ldT ?_ | refine wl_lenn ?_ | refine wl_s ?_ | refine wl_s2 ?_ | refine wl_eq ?_ | refine wl_st ?_ | refine wl_nil ?_ | refine wl_pt ?_ | refine wl_pf ?_ | refine wl_kn ?_ | refine wl_ky ?_ | refine wl_gu ?_ | refine wl_gs (fun h1 => ?_) (fun h1 => ?_) | refine wl_ixn ?_ ?_ | refine wl_lon ?_ ?_ | refine wl_shl ?_ ?_ | refine wl_shr ?_ ?_ | refine wl_nck ?_) | (refine w_id ?_; first | with_reducible refine w_put ?_ | refine w_sregion ?_ | refine w_sdr ?_ | refine w_region ?_ | refine w_dr ?_ | refine w_kt ?_ | refine w_kf ?_ | refine w_cond rfl (fun h => ?_) (fun h => ?_) | refine w_seq ?_ | refine w_block ?_ | refine w_skip ?_ | refine w_exit ?_))
    subst hR
    exact w_ret ⟨.inl rfl, _, _, resVs1, List.Sublist.refl _, rfl, rfl⟩
end Go.Eng

/- Walks: device. What a device holds; On, Fuses, Steps, Cut, Power, slot, pick. -/
import Derived.Test.YtpakkedlfoapeaaDoorTy
import Derived.Test.YtpakkedlfoapeaaDoorEngW
namespace Go.Eng
open Go Go.Proofs
set_option maxRecDepth 100000

structure Dv where
  a : List Int
  b : List Int
  ram : List Int
  fu : Int
  off : Bool
  st : Int
  le : Int
def devC (nr : Nat) (d : Dv) : List SV := [.sl 1 (bs d.a), .sl 1 (bs d.b), .v (.slice (some ⟨nr, 0, none⟩) d.ram.length d.ram.length), .v (.int .u64 d.fu), .v (.bool d.off), .v (.int .i64 d.st), .v (.int .i64 d.le)]
def ramL (nr : Nat) (r : List Int) : Res := .box 901 nr 5 (r.map fun z => .v (.int .u8 z))
def devL (nd nr : Nat) (d : Dv) : List Res := [.box 900 nd 47 (devC nr d), ramL nr d.ram]
theorem slotS (i : Int) (M : Mem) : Spec Tryd.prog 21 [.v (.int .i64 i)] [] M (fun s L' _ => s = .v (.bool (decide (i = 0 ∨ i = 1))) ∧ L' = []) := by
  refine spec_of [.tmp 2] Tryd.func21 rfl rfl rfl fun w0 => ?_
  repeat' (first | (refine wt_id ?_; first | with_reducible refine wt_put ?_ | refine wt_ldT ?_ | refine wt_lenn ?_ | refine wt_t ?_ | refine wt_t2 ?_ | refine wt_eq ?_ | refine wt_pt ?_ | refine wt_pf ?_ | refine wt_n ?_ | refine wt_u ?_ | refine wt_ixn ?_ ?_ | refine wt_lon ?_ ?_ | refine wt_shl ?_ ?_ | refine wt_shr ?_ ?_ | refine wt_nck ?_ | refine wt_z ?_ | refine wt_gs (fun h1 => ?_) (fun h1 => ?_)) | (refine wl_id ?_; first | with_reducible refine wl_put ?_ | refine wl_nt ?_ | refine wl_nf ?_ | refine wl_ldT ?_ | refine wl_lenn ?_ | refine wl_s ?_ | refine wl_s2 ?_ | refine wl_eq ?_ | refine wl_st ?_ | refine wl_nil ?_ | refine wl_pt ?_ | refine wl_pf ?_ | refine wl_kn ?_ | refine wl_ky ?_ | refine wl_gu ?_ | refine wl_gs (fun h1 => ?_) (fun h1 => ?_) | refine wl_ixn ?_ ?_ | refine wl_lon ?_ ?_ | refine wl_shl ?_ ?_ | refine wl_shr ?_ ?_ | refine wl_nck ?_) | (refine w_id ?_; first | with_reducible refine w_put ?_ | refine w_sregion ?_ | refine w_sdr ?_ | refine w_region ?_ | refine w_dr ?_ | refine w_kt ?_ | refine w_kf ?_ | refine w_cond rfl (fun h => ?_) (fun h => ?_) | refine w_seq ?_ | refine w_block ?_ | refine w_skip ?_ | refine w_exit ?_))
  all_goals refine w_ret ⟨.inl rfl, _, [], resVs1, List.nil_sublist _, ?_, rfl⟩
  · have := of_decide_eq_true h1
    show SV.v (.bool true) = _
    rw [decide_eq_true (.inl this)]
  · have := of_decide_eq_false h1
    show SV.v (.bool (decide (i = 1))) = _
    simp [this]
def eC (c : Int) : SV := .ifc 39 (.v (.int .i64 c))
def errD (c : Int) : SV := if c = 0 then .v .nilIface else eC c
def pickN (c n : Int) : Int := (if c < 0 then IntKind.i64.wrap (0 - IntKind.i64.wrap (c + 1)) else c).tmod n
theorem pickS (c n : Int) (M : Mem) (hn : 0 < n) : Spec Tryd.prog 6 [.v (.int .i64 c), .v (.int .i64 n)] [] M (fun s L' _ => s = .v (.int .i64 (pickN c n)) ∧ L' = []) := by
  refine spec_of [.tmp 4] Tryd.func6 rfl rfl rfl fun w0 => ?_
  repeat' (first | (refine wt_id ?_; first | with_reducible refine wt_put ?_ | refine wt_ldT ?_ | refine wt_lenn ?_ | refine wt_t ?_ | refine wt_t2 ?_ | refine wt_eq ?_ | refine wt_pt ?_ | refine wt_pf ?_ | refine wt_n ?_ | refine wt_u ?_ | refine wt_ixn ?_ ?_ | refine wt_lon ?_ ?_ | refine wt_shl ?_ ?_ | refine wt_shr ?_ ?_ | refine wt_nck ?_ | refine wt_z ?_ | refine wt_gs (fun h1 => ?_) (fun h1 => ?_)) | (refine wl_id ?_; first | with_reducible refine wl_put ?_ | refine wl_nt ?_ | refine wl_nf ?_ | refine wl_ldT ?_ | refine wl_lenn ?_ | refine wl_s ?_ | refine wl_s2 ?_ | refine wl_eq ?_ | refine wl_st ?_ | refine wl_nil ?_ | refine wl_pt ?_ | refine wl_pf ?_ | refine wl_kn ?_ | refine wl_ky ?_ | refine wl_gu ?_ | refine wl_gs (fun h1 => ?_) (fun h1 => ?_) | refine wl_ixn ?_ ?_ | refine wl_lon ?_ ?_ | refine wl_shl ?_ ?_ | refine wl_shr ?_ ?_ | refine wl_nck ?_) | (refine w_id ?_; first | with_reducible refine w_put ?_ | refine w_sregion ?_ | refine w_sdr ?_ | refine w_region ?_ | refine w_dr ?_ | refine w_kt ?_ | refine w_kf ?_ | refine w_cond rfl (fun h => ?_) (fun h => ?_) | refine w_seq ?_ | refine w_block ?_ | refine w_skip ?_ | refine w_exit ?_))
  all_goals refine wl_still rfl rfl (still_rem rfl rfl rfl (by omega)) ?_
  · have h' := of_decide_eq_true h
    repeat' (first | (refine wt_id ?_; first | with_reducible refine wt_put ?_ | refine wt_ldT ?_ | refine wt_lenn ?_ | refine wt_t ?_ | refine wt_t2 ?_ | refine wt_eq ?_ | refine wt_pt ?_ | refine wt_pf ?_ | refine wt_n ?_ | refine wt_u ?_ | refine wt_ixn ?_ ?_ | refine wt_lon ?_ ?_ | refine wt_shl ?_ ?_ | refine wt_shr ?_ ?_ | refine wt_nck ?_ | refine wt_z ?_ | refine wt_gs (fun h1 => ?_) (fun h1 => ?_)) | (refine wl_id ?_; first | with_reducible refine wl_put ?_ | refine wl_nt ?_ | refine wl_nf ?_ | refine wl_ldT ?_ | refine wl_lenn ?_ | refine wl_s ?_ | refine wl_s2 ?_ | refine wl_eq ?_ | refine wl_st ?_ | refine wl_nil ?_ | refine wl_pt ?_ | refine wl_pf ?_ | refine wl_kn ?_ | refine wl_ky ?_ | refine wl_gu ?_ | refine wl_gs (fun h1 => ?_) (fun h1 => ?_) | refine wl_ixn ?_ ?_ | refine wl_lon ?_ ?_ | refine wl_shl ?_ ?_ | refine wl_shr ?_ ?_ | refine wl_nck ?_) | (refine w_id ?_; first | with_reducible refine w_put ?_ | refine w_sregion ?_ | refine w_sdr ?_ | refine w_region ?_ | refine w_dr ?_ | refine w_kt ?_ | refine w_kf ?_ | refine w_cond rfl (fun h => ?_) (fun h => ?_) | refine w_seq ?_ | refine w_block ?_ | refine w_skip ?_ | refine w_exit ?_))
    exact w_ret ⟨.inl rfl, _, _, resVs1, List.Sublist.refl _, by rw [pickN, if_pos h']; rfl, rfl⟩
  · have h' := of_decide_eq_false h
    repeat' (first | (refine wt_id ?_; first | with_reducible refine wt_put ?_ | refine wt_ldT ?_ | refine wt_lenn ?_ | refine wt_t ?_ | refine wt_t2 ?_ | refine wt_eq ?_ | refine wt_pt ?_ | refine wt_pf ?_ | refine wt_n ?_ | refine wt_u ?_ | refine wt_ixn ?_ ?_ | refine wt_lon ?_ ?_ | refine wt_shl ?_ ?_ | refine wt_shr ?_ ?_ | refine wt_nck ?_ | refine wt_z ?_ | refine wt_gs (fun h1 => ?_) (fun h1 => ?_)) | (refine wl_id ?_; first | with_reducible refine wl_put ?_ | refine wl_nt ?_ | refine wl_nf ?_ | refine wl_ldT ?_ | refine wl_lenn ?_ | refine wl_s ?_ | refine wl_s2 ?_ | refine wl_eq ?_ | refine wl_st ?_ | refine wl_nil ?_ | refine wl_pt ?_ | refine wl_pf ?_ | refine wl_kn ?_ | refine wl_ky ?_ | refine wl_gu ?_ | refine wl_gs (fun h1 => ?_) (fun h1 => ?_) | refine wl_ixn ?_ ?_ | refine wl_lon ?_ ?_ | refine wl_shl ?_ ?_ | refine wl_shr ?_ ?_ | refine wl_nck ?_) | (refine w_id ?_; first | with_reducible refine w_put ?_ | refine w_sregion ?_ | refine w_sdr ?_ | refine w_region ?_ | refine w_dr ?_ | refine w_kt ?_ | refine w_kf ?_ | refine w_cond rfl (fun h => ?_) (fun h => ?_) | refine w_seq ?_ | refine w_block ?_ | refine w_skip ?_ | refine w_exit ?_))
    exact w_ret ⟨.inl rfl, _, _, resVs1, List.Sublist.refl _, by rw [pickN, if_neg h']; rfl, rfl⟩
theorem onS (nd nr : Nat) (d : Dv) (M : Mem) : Spec Tryd.prog 8 [.lp 900 nd 0] (devL nd nr d) M (fun s L' _ => s = .v (.bool (!d.off)) ∧ L' = devL nd nr d) := by
  refine spec_of [.tmp 2] Tryd.func8 rfl rfl rfl fun w0 => ?_
  repeat' (first | (refine wt_id ?_; first | with_reducible refine wt_put ?_ | refine wt_ldT ?_ | refine wt_lenn ?_ | refine wt_t ?_ | refine wt_t2 ?_ | refine wt_eq ?_ | refine wt_pt ?_ | refine wt_pf ?_ | refine wt_n ?_ | refine wt_u ?_ | refine wt_ixn ?_ ?_ | refine wt_lon ?_ ?_ | refine wt_shl ?_ ?_ | refine wt_shr ?_ ?_ | refine wt_nck ?_ | refine wt_z ?_ | refine wt_gs (fun h1 => ?_) (fun h1 => ?_)) | (refine wl_id ?_; first | with_reducible refine wl_put ?_ | refine wl_nt ?_ | refine wl_nf ?_ | refine wl_ldT ?_ | refine wl_lenn ?_ | refine wl_s ?_ | refine wl_s2 ?_ | refine wl_eq ?_ | refine wl_st ?_ | refine wl_nil ?_ | refine wl_pt ?_ | refine wl_pf ?_ | refine wl_kn ?_ | refine wl_ky ?_ | refine wl_gu ?_ | refine wl_gs (fun h1 => ?_) (fun h1 => ?_) | refine wl_ixn ?_ ?_ | refine wl_lon ?_ ?_ | refine wl_shl ?_ ?_ | refine wl_shr ?_ ?_ | refine wl_nck ?_) | (refine w_id ?_; first | with_reducible refine w_put ?_ | refine w_sregion ?_ | refine w_sdr ?_ | refine w_region ?_ | refine w_dr ?_ | refine w_kt ?_ | refine w_kf ?_ | refine w_cond rfl (fun h => ?_) (fun h => ?_) | refine w_seq ?_ | refine w_block ?_ | refine w_skip ?_ | refine w_exit ?_))
  exact w_ret ⟨.inl rfl, _, _, resVs1, List.Sublist.refl _, rfl, rfl⟩
theorem fusesS (nd nr : Nat) (d : Dv) (M : Mem) : Spec Tryd.prog 14 [.lp 900 nd 0] (devL nd nr d) M (fun s L' _ => s = .v (.int .u64 d.fu) ∧ L' = devL nd nr d) := by
  refine spec_of [.tmp 2] Tryd.func14 rfl rfl rfl fun w0 => ?_
  repeat' (first | (refine wt_id ?_; first | with_reducible refine wt_put ?_ | refine wt_ldT ?_ | refine wt_lenn ?_ | refine wt_t ?_ | refine wt_t2 ?_ | refine wt_eq ?_ | refine wt_pt ?_ | refine wt_pf ?_ | refine wt_n ?_ | refine wt_u ?_ | refine wt_ixn ?_ ?_ | refine wt_lon ?_ ?_ | refine wt_shl ?_ ?_ | refine wt_shr ?_ ?_ | refine wt_nck ?_ | refine wt_z ?_ | refine wt_gs (fun h1 => ?_) (fun h1 => ?_)) | (refine wl_id ?_; first | with_reducible refine wl_put ?_ | refine wl_nt ?_ | refine wl_nf ?_ | refine wl_ldT ?_ | refine wl_lenn ?_ | refine wl_s ?_ | refine wl_s2 ?_ | refine wl_eq ?_ | refine wl_st ?_ | refine wl_nil ?_ | refine wl_pt ?_ | refine wl_pf ?_ | refine wl_kn ?_ | refine wl_ky ?_ | refine wl_gu ?_ | refine wl_gs (fun h1 => ?_) (fun h1 => ?_) | refine wl_ixn ?_ ?_ | refine wl_lon ?_ ?_ | refine wl_shl ?_ ?_ | refine wl_shr ?_ ?_ | refine wl_nck ?_) | (refine w_id ?_; first | with_reducible refine w_put ?_ | refine w_sregion ?_ | refine w_sdr ?_ | refine w_region ?_ | refine w_dr ?_ | refine w_kt ?_ | refine w_kf ?_ | refine w_cond rfl (fun h => ?_) (fun h => ?_) | refine w_seq ?_ | refine w_block ?_ | refine w_skip ?_ | refine w_exit ?_))
  exact w_ret ⟨.inl rfl, _, _, resVs1, List.Sublist.refl _, rfl, rfl⟩
theorem stepsS (nd nr : Nat) (d : Dv) (M : Mem) : Spec Tryd.prog 17 [.lp 900 nd 0] (devL nd nr d) M (fun s L' _ => s = .v (.int .i64 d.st) ∧ L' = devL nd nr d) := by
  refine spec_of [.tmp 2] Tryd.func17 rfl rfl rfl fun w0 => ?_
  repeat' (first | (refine wt_id ?_; first | with_reducible refine wt_put ?_ | refine wt_ldT ?_ | refine wt_lenn ?_ | refine wt_t ?_ | refine wt_t2 ?_ | refine wt_eq ?_ | refine wt_pt ?_ | refine wt_pf ?_ | refine wt_n ?_ | refine wt_u ?_ | refine wt_ixn ?_ ?_ | refine wt_lon ?_ ?_ | refine wt_shl ?_ ?_ | refine wt_shr ?_ ?_ | refine wt_nck ?_ | refine wt_z ?_ | refine wt_gs (fun h1 => ?_) (fun h1 => ?_)) | (refine wl_id ?_; first | with_reducible refine wl_put ?_ | refine wl_nt ?_ | refine wl_nf ?_ | refine wl_ldT ?_ | refine wl_lenn ?_ | refine wl_s ?_ | refine wl_s2 ?_ | refine wl_eq ?_ | refine wl_st ?_ | refine wl_nil ?_ | refine wl_pt ?_ | refine wl_pf ?_ | refine wl_kn ?_ | refine wl_ky ?_ | refine wl_gu ?_ | refine wl_gs (fun h1 => ?_) (fun h1 => ?_) | refine wl_ixn ?_ ?_ | refine wl_lon ?_ ?_ | refine wl_shl ?_ ?_ | refine wl_shr ?_ ?_ | refine wl_nck ?_) | (refine w_id ?_; first | with_reducible refine w_put ?_ | refine w_sregion ?_ | refine w_sdr ?_ | refine w_region ?_ | refine w_dr ?_ | refine w_kt ?_ | refine w_kf ?_ | refine w_cond rfl (fun h => ?_) (fun h => ?_) | refine w_seq ?_ | refine w_block ?_ | refine w_skip ?_ | refine w_exit ?_))
  exact w_ret ⟨.inl rfl, _, _, resVs1, List.Sublist.refl _, rfl, rfl⟩
def powerD (d : Dv) : Dv := if d.off then { d with off := false, le := 0 } else d
theorem powerS (nd nr : Nat) (d : Dv) (M : Mem) : Spec Tryd.prog 12 [.lp 900 nd 0] (devL nd nr d) M (fun _ L' _ => L' = devL nd nr (powerD d)) := by
  refine spec_of [] Tryd.func12 rfl rfl rfl fun w0 => ?_
  repeat' (first | (refine wt_id ?_; first | with_reducible refine wt_put ?_ | refine wt_ldT ?_ | refine wt_lenn ?_ | refine wt_t ?_ | refine wt_t2 ?_ | refine wt_eq ?_ | refine wt_pt ?_ | refine wt_pf ?_ | refine wt_n ?_ | refine wt_u ?_ | refine wt_ixn ?_ ?_ | refine wt_lon ?_ ?_ | refine wt_shl ?_ ?_ | refine wt_shr ?_ ?_ | refine wt_nck ?_ | refine wt_z ?_ | refine wt_gs (fun h1 => ?_) (fun h1 => ?_)) | (refine wl_id ?_; first | with_reducible refine wl_put ?_ | refine wl_nt ?_ | refine wl_nf ?_ | refine wl_ldT ?_ | refine wl_lenn ?_ | refine wl_s ?_ | refine wl_s2 ?_ | refine wl_eq ?_ | refine wl_st ?_ | refine wl_nil ?_ | refine wl_pt ?_ | refine wl_pf ?_ | refine wl_kn ?_ | refine wl_ky ?_ | refine wl_gu ?_ | refine wl_gs (fun h1 => ?_) (fun h1 => ?_) | refine wl_ixn ?_ ?_ | refine wl_lon ?_ ?_ | refine wl_shl ?_ ?_ | refine wl_shr ?_ ?_ | refine wl_nck ?_) | (refine w_id ?_; first | with_reducible refine w_put ?_ | refine w_sregion ?_ | refine w_sdr ?_ | refine w_region ?_ | refine w_dr ?_ | refine w_kt ?_ | refine w_kf ?_ | refine w_cond rfl (fun h => ?_) (fun h => ?_) | refine w_seq ?_ | refine w_block ?_ | refine w_skip ?_ | refine w_exit ?_))
  · exact ⟨.inr rfl, [], _, .nil, List.Sublist.refl _, by rw [powerD, if_pos h]; rfl⟩
  · exact ⟨.inr rfl, [], _, .nil, List.Sublist.refl _, by rw [powerD, if_neg (by rw [h]; decide)]⟩
def cutD (d : Dv) (n : Int) : Dv × Int := if n < 0 then (d, 1) else if d.off then (d, 15) else ({ d with le := if n = 9223372036854775807 then n else IntKind.i64.wrap (n + 1) }, 0)
theorem cutS (nd nr : Nat) (d : Dv) (n : Int) (M : Mem) : Spec Tryd.prog 11 [.lp 900 nd 0, .v (.int .i64 n)] (devL nd nr d) M (fun s L' _ => s = errD (cutD d n).2 ∧ L' = devL nd nr (cutD d n).1) := by
  refine spec_of [.tmp 4] Tryd.func11 rfl rfl rfl fun w0 => ?_
  repeat' (first | (refine wt_id ?_; first | with_reducible refine wt_put ?_ | refine wt_ldT ?_ | refine wt_lenn ?_ | refine wt_t ?_ | refine wt_t2 ?_ | refine wt_eq ?_ | refine wt_pt ?_ | refine wt_pf ?_ | refine wt_n ?_ | refine wt_u ?_ | refine wt_ixn ?_ ?_ | refine wt_lon ?_ ?_ | refine wt_shl ?_ ?_ | refine wt_shr ?_ ?_ | refine wt_nck ?_ | refine wt_z ?_ | refine wt_gs (fun h1 => ?_) (fun h1 => ?_)) | (refine wl_id ?_; first | with_reducible refine wl_put ?_ | refine wl_nt ?_ | refine wl_nf ?_ | refine wl_ldT ?_ | refine wl_lenn ?_ | refine wl_s ?_ | refine wl_s2 ?_ | refine wl_eq ?_ | refine wl_st ?_ | refine wl_nil ?_ | refine wl_pt ?_ | refine wl_pf ?_ | refine wl_kn ?_ | refine wl_ky ?_ | refine wl_gu ?_ | refine wl_gs (fun h1 => ?_) (fun h1 => ?_) | refine wl_ixn ?_ ?_ | refine wl_lon ?_ ?_ | refine wl_shl ?_ ?_ | refine wl_shr ?_ ?_ | refine wl_nck ?_) | (refine w_id ?_; first | with_reducible refine w_put ?_ | refine w_sregion ?_ | refine w_sdr ?_ | refine w_region ?_ | refine w_dr ?_ | refine w_kt ?_ | refine w_kf ?_ | refine w_cond rfl (fun h => ?_) (fun h => ?_) | refine w_seq ?_ | refine w_block ?_ | refine w_skip ?_ | refine w_exit ?_))
  · have h0 := of_decide_eq_true h
    exact w_ret ⟨.inl rfl, _, _, resVs1, List.Sublist.refl _, by rw [cutD, if_pos h0]; rfl, by rw [cutD, if_pos h0]⟩
  · have h0 := of_decide_eq_false (by assumption : decide (n < 0) = false)
    exact w_ret ⟨.inl rfl, _, _, resVs1, List.Sublist.refl _, by rw [cutD, if_neg h0, if_pos h]; rfl, by rw [cutD, if_neg h0, if_pos h]⟩
  · have h0 := of_decide_eq_false (by assumption : decide (n < 0) = false)
    have ho : ¬ d.off = true := by rw [(by assumption : d.off = false)]; decide
    have h2 := of_decide_eq_true (by assumption : decide (n = 9223372036854775807) = true)
    exact w_ret ⟨.inl rfl, _, _, resVs1, List.Sublist.refl _, by rw [cutD, if_neg h0, if_neg ho]; rfl, by rw [cutD, if_neg h0, if_neg ho, if_pos h2]; rfl⟩
  · have h0 := of_decide_eq_false (by assumption : decide (n < 0) = false)
    have ho : ¬ d.off = true := by rw [(by assumption : d.off = false)]; decide
    have h2 := of_decide_eq_false (by assumption : decide (n = 9223372036854775807) = false)
    exact w_ret ⟨.inl rfl, _, _, resVs1, List.Sublist.refl _, by rw [cutD, if_neg h0, if_neg ho]; rfl, by rw [cutD, if_neg h0, if_neg ho, if_neg h2]; rfl⟩
/-- A slice of the call's own, told with its data. -/
def OwnB (s : SV) (L : List Res) (xs : List Int) : Prop := ∃ v, s = .rw v 1 (bs xs) ∧ L = [.tail v 5 1 xs.length]
theorem cloneS (xs : List Int) (M : Mem) (hn : xs.length ≤ 140737488355328) : Spec Tryd.prog 19 [.sl 1 (bs xs)] [] M (fun s L' _ => OwnB s L' xs) := by
  refine spec_of [.tmp 2] Tryd.func19 rfl rfl rfl fun w0 => ?_
  repeat' (first | refine wl_nil ?_ | refine wl_s ?_ | refine w_sregion ?_ | refine w_seq ?_)
  refine wl_slnil fun b hb => ?_
  repeat' (first | refine wl_nil ?_ | refine wl_s ?_ | refine w_sregion ?_ | refine w_cond rfl (fun h => ?_) (fun h => ?_) | refine w_seq ?_ | refine w_skip ?_)
  · subst b
    have hx : xs = [] := by have := hb rfl; simpa [ns] using this
    subst hx
    refine w_nilrw (i := 2) 5 1 rfl ?_
    exact w_ret ⟨.inl rfl, _, _, resVs1, List.Sublist.refl _, _, rfl, rfl⟩
  · refine wl_bs fun v M2 hle2 => ?_
    refine wl_s ?_
    refine wl_ap 0 ?_ ?_ ?_ fun v' M3 hle3 => ?_
    · rw [bs_length]; omega
    · rw [bs_length]; omega
    · rfl
    repeat' (first | refine wl_nil ?_ | refine wl_s ?_ | refine w_sregion ?_)
    exact w_ret ⟨.inl rfl, _, _, resVs1, List.Sublist.refl _, _, rfl, by simp [bs_length]⟩
def zeros (n : Nat) : List Int := List.replicate n 0
def stepD (d : Dv) : Dv × Bool :=
  if d.le = 0 then ({ d with st := IntKind.i64.wrap (d.st + 1) }, true)
  else if d.le = 1 then ({ d with off := true, ram := zeros d.ram.length }, false)
  else ({ d with st := IntKind.i64.wrap (d.st + 1), le := IntKind.i64.wrap (d.le - 1) }, true)
theorem ram_len (r : List Int) : (r.map fun z => SV.v (.int .u8 z)).length = r.length := List.length_map _
theorem ram_zeros (n : Nat) : (zeros n).map (fun z => SV.v (.int .u8 z)) = List.replicate n (.v (.int .u8 0)) := by simp [zeros]
theorem stepS (nd nr : Nat) (d : Dv) (M : Mem) : Spec Tryd.prog 20 [.lp 900 nd 0] (devL nd nr d) M (fun s L' _ => s = .v (.bool (stepD d).2) ∧ L' = devL nd nr (stepD d).1) := by
  refine spec_of [.tmp 2] Tryd.func20 rfl rfl rfl fun w0 => ?_
  repeat' (first | (refine wt_id ?_; first | with_reducible refine wt_put ?_ | refine wt_ldT ?_ | refine wt_lenn ?_ | refine wt_t ?_ | refine wt_t2 ?_ | refine wt_eq ?_ | refine wt_pt ?_ | refine wt_pf ?_ | refine wt_n ?_ | refine wt_u ?_ | refine wt_ixn ?_ ?_ | refine wt_lon ?_ ?_ | refine wt_shl ?_ ?_ | refine wt_shr ?_ ?_ | refine wt_nck ?_ | refine wt_z ?_ | refine wt_gs (fun h1 => ?_) (fun h1 => ?_)) | (refine wl_id ?_; first | with_reducible refine wl_put ?_ | refine wl_nt ?_ | refine wl_nf ?_ | refine wl_ldT ?_ | refine wl_lenn ?_ | refine wl_s ?_ | refine wl_s2 ?_ | refine wl_eq ?_ | refine wl_st ?_ | refine wl_nil ?_ | refine wl_pt ?_ | refine wl_pf ?_ | refine wl_kn ?_ | refine wl_ky ?_ | refine wl_gu ?_ | refine wl_gs (fun h1 => ?_) (fun h1 => ?_) | refine wl_ixn ?_ ?_ | refine wl_lon ?_ ?_ | refine wl_shl ?_ ?_ | refine wl_shr ?_ ?_ | refine wl_nck ?_) | (refine w_id ?_; first | with_reducible refine w_put ?_ | refine w_sregion ?_ | refine w_sdr ?_ | refine w_region ?_ | refine w_dr ?_ | refine w_kt ?_ | refine w_kf ?_ | refine w_cond rfl (fun h => ?_) (fun h => ?_) | refine w_seq ?_ | refine w_block ?_ | refine w_skip ?_ | refine w_exit ?_))
  · have h0 := of_decide_eq_true h
    exact w_ret ⟨.inl rfl, _, _, resVs1, List.Sublist.refl _, by rw [stepD, if_pos h0]; rfl, by rw [stepD, if_pos h0]; rfl⟩
  · have h1 := of_decide_eq_true h
    have h0 : ¬ d.le = 0 := by omega
    refine wl_clear 901 rfl (ram_len _) ?_
    repeat' (first | (refine wt_id ?_; first | with_reducible refine wt_put ?_ | refine wt_ldT ?_ | refine wt_lenn ?_ | refine wt_t ?_ | refine wt_t2 ?_ | refine wt_eq ?_ | refine wt_pt ?_ | refine wt_pf ?_ | refine wt_n ?_ | refine wt_u ?_ | refine wt_ixn ?_ ?_ | refine wt_lon ?_ ?_ | refine wt_shl ?_ ?_ | refine wt_shr ?_ ?_ | refine wt_nck ?_ | refine wt_z ?_ | refine wt_gs (fun h1 => ?_) (fun h1 => ?_)) | (refine wl_id ?_; first | with_reducible refine wl_put ?_ | refine wl_nt ?_ | refine wl_nf ?_ | refine wl_ldT ?_ | refine wl_lenn ?_ | refine wl_s ?_ | refine wl_s2 ?_ | refine wl_eq ?_ | refine wl_st ?_ | refine wl_nil ?_ | refine wl_pt ?_ | refine wl_pf ?_ | refine wl_kn ?_ | refine wl_ky ?_ | refine wl_gu ?_ | refine wl_gs (fun h1 => ?_) (fun h1 => ?_) | refine wl_ixn ?_ ?_ | refine wl_lon ?_ ?_ | refine wl_shl ?_ ?_ | refine wl_shr ?_ ?_ | refine wl_nck ?_) | (refine w_id ?_; first | with_reducible refine w_put ?_ | refine w_sregion ?_ | refine w_sdr ?_ | refine w_region ?_ | refine w_dr ?_ | refine w_kt ?_ | refine w_kf ?_ | refine w_cond rfl (fun h => ?_) (fun h => ?_) | refine w_seq ?_ | refine w_block ?_ | refine w_skip ?_ | refine w_exit ?_))
    refine w_ret ⟨.inl rfl, _, _, resVs1, List.Sublist.refl _, by rw [stepD, if_neg h0, if_pos h1]; rfl, ?_⟩
    rw [stepD, if_neg h0, if_pos h1]
    show [Res.box 900 nd 47 _, Res.box 901 nr 5 (List.replicate d.ram.length (.v (.int .u8 0)))] = _
    simp only [devL, ramL, ram_zeros, devC, zeros, List.length_replicate, List.map_replicate]
    rfl
  · have h1 := of_decide_eq_false h
    have h0 := of_decide_eq_false (by assumption : decide (d.le = 0) = false)
    exact w_ret ⟨.inl rfl, _, _, resVs1, List.Sublist.refl _, by rw [stepD, if_neg h0, if_neg h1]; rfl, by rw [stepD, if_neg h0, if_neg h1]; rfl⟩
end Go.Eng

/- Walks: slices.IndexFunc, ContainsFunc at uint64; prim.OidOf. -/
import Derived.Test.YtpakkedlfoapeaaPrim7
namespace Go.Eng
open Go Go.Proofs
set_option maxRecDepth 100000

theorem idxU (p : Int → Bool) (g : Nat) [Fun Try.prog g] (caps : List SV) (xs : List Int) (M : Mem) (hn : xs.length < 9223372036854775807)
    (hp : ∀ i (_ : i < xs.length) M', M.le M' → Spec Try.prog g ([.v (.int .u64 (xs.getD i 0))] ++ caps) [] M' (fun s L' _ => s = .v (.bool (p (xs.getD i 0))) ∧ L' = [])) :
    Spec Try.prog 32 [.sl 1 (ns .u64 xs), .fn g caps] [] M (fun s L' _ => s = .v (.int .i64 (idxI p xs)) ∧ L' = []) := by
  refine spec_of [.tmp 4] Try.func32 rfl rfl rfl fun w0 => ?_
  repeat' (first | refine wl_nil ?_ | refine wl_s ?_ | refine w_sregion ?_ | refine w_seq ?_ | refine w_block ?_)
  refine w_loopE (σ := Nat) (fun i => [(8, .v (.int .i64 i)), (7, .v (.int .i64 (ns .u64 xs).length)), (1, .fn g caps), (0, .sl 1 (ns .u64 xs))]) (fun _ => []) (fun i _ => i ≤ xs.length ∧ ∀ j, j < i → p (xs.getD j 0) = false) (fun i => xs.length - i) 0 ⟨rfl, rfl, rfl, rfl, trivial⟩ rfl ⟨Nat.zero_le _, fun j h => absurd h (Nat.not_lt_zero j)⟩ ?_
  rintro i M' hle ⟨hi, hno⟩
  repeat' (first | refine wl_nil ?_ | refine wl_s ?_ | refine w_sregion ?_ | refine w_seq (w_cond rfl (fun h => ?_) (fun h => ?_)) | refine w_seq ?_ | refine w_block ?_ | refine w_skip ?_ | refine w_exit ?_ | refine w_ret ?_)
  · have hlt : i < xs.length := by rw [ns_length] at h; simpa using h
    refine wl_still rfl rfl (still_index_sl rfl rfl rfl (by omega) (ns_get hlt)) ?_
    refine wl_s ?_
    refine wl_callv rfl rfl rfl rfl rfl rfl (hp i hlt _ hle) ?_
    rintro _ _ M2 hle2 ⟨rfl, rfl⟩
    repeat' (first | refine wl_nil ?_ | refine wl_s ?_ | refine w_sregion ?_ | refine w_region ?_ | refine w_cond rfl (fun h => ?_) (fun h => ?_) | refine w_seq ?_ | refine w_block ?_ | refine w_skip ?_ | refine w_exit ?_ | refine w_ret ?_)
    · exact ⟨.inl rfl, _, [], .cons (resV_tmp rfl) .nil, .slnil, by rw [idxI_some hlt hno ‹_›]; rfl, rfl⟩
    · have hw : IntKind.i64.wrap ((i : Int) + 1) = ((i + 1 : Nat) : Int) := by rw [IntWalk.i64_in _ (by omega)]; rfl
      rw [hw]
      refine ⟨i + 1, by omega, ⟨rfl, rfl, rfl, rfl, trivial⟩, rfl, hle2, by omega, fun j hj => ?_⟩
      by_cases hj2 : j < i
      · exact hno j hj2
      · have : j = i := by omega
        subst this
        assumption
  · have : i = xs.length := by rw [ns_length] at h; simp at h; omega
    subst this
    exact ⟨.inl rfl, _, [], .cons (resV_tmp rfl) .nil, .slnil, by rw [idxI_none hno]; rfl, rfl⟩
theorem anyU (p : Int → Bool) (g : Nat) [Fun Try.prog g] (caps : List SV) (xs : List Int) (M : Mem) (hn : xs.length < 9223372036854775807)
    (hp : ∀ i (_ : i < xs.length) M', M.le M' → Spec Try.prog g ([.v (.int .u64 (xs.getD i 0))] ++ caps) [] M' (fun s L' _ => s = .v (.bool (p (xs.getD i 0))) ∧ L' = [])) :
    Spec Try.prog 26 [.sl 1 (ns .u64 xs), .fn g caps] [] M (fun s L' _ => s = .v (.bool (xs.any p)) ∧ L' = []) := by
  refine spec_of [.tmp 4] Try.func26 rfl rfl rfl fun w0 => ?_
  repeat' (first | refine wl_nil ?_ | refine wl_s ?_ | refine w_sregion ?_)
  refine wl_call rfl rfl rfl rfl rfl (idxU p g caps xs M hn hp) ?_
  rintro _ _ M2 hle2 ⟨rfl, rfl⟩
  repeat' (first | refine wl_nil ?_ | refine wl_s ?_ | refine w_sregion ?_ | refine w_ret ?_)
  exact ⟨.inl rfl, _, [], .cons (resV_tmp rfl) .nil, .slnil, by simp only [packSV, idxI_any], rfl⟩


def bigU (x : Int) : Bool := decide (4294967295 < x)
theorem any_bigU {xs : List Int} (h : xs.any bigU = false) : ∀ i, i < xs.length → xs.getD i 0 ≤ 4294967295 := fun i hi => by
  have h8 : bigU (xs.getD i 0) = false := by
    have h9 := List.any_eq_false.1 h (xs.getD i 0) (by simp [hi])
    simpa using h9
  have h10 := of_decide_eq_false h8
  omega
theorem u64_lt (x : Int) : IntKind.u64.wrap x < 18446744073709551616 := by
  unfold IntKind.wrap
  simp [IntKind.bits, IntKind.signed]
  omega
theorem u64_pos (x : Int) : 0 ≤ IntKind.u64.wrap x := by
  unfold IntKind.wrap
  simp [IntKind.bits, IntKind.signed]
  omega
theorem oidOfC (x : Int) (M : Mem) : Spec Try.prog 27 [.v (.int .u64 x)] [] M (fun s L' _ => s = .v (.bool (bigU x)) ∧ L' = []) := by
  refine spec_of [.tmp 2] Try.func27 rfl rfl rfl fun w0 => ?_
  repeat' (first | (refine wt_id ?_; first | with_reducible refine wt_put ?_ | refine wt_lenn ?_ | refine wt_t ?_ | refine wt_t2 ?_ | refine wt_pt ?_ | refine wt_pf ?_ | refine wt_n ?_ | refine wt_u ?_ | refine wt_ixn ?_ ?_ | refine wt_lon ?_ ?_ | refine wt_shl ?_ ?_ | refine wt_shr ?_ ?_ | refine wt_z ?_ | refine wt_gs (fun h1 => ?_) (fun h1 => ?_)) | (refine wl_id ?_; first | with_reducible refine wl_put ?_ | refine wl_lenn ?_ | refine wl_s ?_ | refine wl_s2 ?_ | refine wl_nil ?_ | refine wl_pt ?_ | refine wl_pf ?_ | refine wl_kn ?_ | refine wl_ky ?_ | refine wl_gu ?_ | refine wl_gs (fun h1 => ?_) (fun h1 => ?_) | refine wl_ixn ?_ ?_ | refine wl_lon ?_ ?_ | refine wl_shl ?_ ?_ | refine wl_shr ?_ ?_) | (refine w_id ?_; first | with_reducible refine w_put ?_ | refine w_sregion ?_ | refine w_sdr ?_ | refine w_region ?_ | refine w_dr ?_ | refine w_kt ?_ | refine w_kf ?_ | refine w_cond rfl (fun h => ?_) (fun h => ?_) | refine w_seq ?_ | refine w_block ?_ | refine w_skip ?_ | refine w_exit ?_))
  exact w_ret ⟨.inl rfl, _, [], resVs1, List.nil_sublist _, rfl, rfl⟩
def OidOfQ (s : SV) (L : List Res) : Prop := (s = .tup [.v (.slice none 0 0), eCode 1] ∧ L = []) ∨ ∃ v out, s = .tup [.rw v 1 (bs out), .v .nilIface] ∧ L = [.tail v 5 1 out.length]
set_option maxHeartbeats 2000000 in
theorem oidOfS (xs : List Int) (M : Mem) (hn : xs.length < 9223372036854775807) : Spec Try.prog 16 [.sl 1 (ns .u64 xs)] [] M (fun s L' _ => OidOfQ s L') := by
  refine spec_of [.tmp 2, .tmp 3] Try.func16 rfl rfl rfl fun w0 => ?_
  refine w_sregion ?_
  repeat' (first | with_reducible refine wl_put ?_ | refine wl_lenn ?_ | refine wl_s ?_ | refine wl_s2 ?_ | refine wl_nil ?_ | refine wl_pt ?_ | refine wl_pf ?_ | refine wl_kn ?_ | refine wl_ky ?_ | refine wl_gu ?_ | refine wl_gs (fun h1 => ?_) (fun h1 => ?_) | refine wl_ixn ?_ ?_ | refine wl_lon ?_ ?_ | refine wl_shl ?_ ?_ | refine wl_shr ?_ ?_)
  refine w_cut2 (σ := Unit) (fun _ => [(0, .sl 1 (ns .u64 xs)), (4, .v (.slice none 0 0)), (3, .v .nilIface)]) (fun _ => []) (fun _ _ => 2 ≤ xs.length ∧ xs.length ≤ 16 ∧ ∀ i, i < xs.length → xs.getD i 0 ≤ 4294967295) ?_ ?_
  · repeat' (first | (refine wt_id ?_; first | with_reducible refine wt_put ?_ | refine wt_lenn ?_ | refine wt_t ?_ | refine wt_t2 ?_ | refine wt_pt ?_ | refine wt_pf ?_ | refine wt_n ?_ | refine wt_u ?_ | refine wt_ixn ?_ ?_ | refine wt_lon ?_ ?_ | refine wt_shl ?_ ?_ | refine wt_shr ?_ ?_ | refine wt_z ?_ | refine wt_gs (fun h1 => ?_) (fun h1 => ?_)) | (refine wl_id ?_; first | with_reducible refine wl_put ?_ | refine wl_lenn ?_ | refine wl_s ?_ | refine wl_s2 ?_ | refine wl_nil ?_ | refine wl_pt ?_ | refine wl_pf ?_ | refine wl_kn ?_ | refine wl_ky ?_ | refine wl_gu ?_ | refine wl_gs (fun h1 => ?_) (fun h1 => ?_) | refine wl_ixn ?_ ?_ | refine wl_lon ?_ ?_ | refine wl_shl ?_ ?_ | refine wl_shr ?_ ?_) | (refine w_id ?_; first | with_reducible refine w_put ?_ | refine w_sregion ?_ | refine w_sdr ?_ | refine w_region ?_ | refine w_dr ?_ | refine w_kt ?_ | refine w_kf ?_ | refine w_cond rfl (fun h => ?_) (fun h => ?_) | refine w_seq ?_ | refine w_block ?_ | refine w_skip ?_ | refine w_exit ?_))
    all_goals first
      | (refine ⟨by omega, ?_⟩; simp only [decide_eq_true_eq, decide_eq_false_iff_not] at *; omega)
      | exact w_ret ⟨.inl rfl, _, [], resVs2, List.nil_sublist _, .inl ⟨rfl, rfl⟩⟩
      | skip
    all_goals refine wl_c (anyU bigU 27 [] xs _ hn fun i _ M' _ => oidOfC _ M') ?_
    all_goals rintro _ _ M2 hle2 ⟨rfl, rfl⟩
    all_goals repeat' (first | (refine wt_id ?_; first | with_reducible refine wt_put ?_ | refine wt_lenn ?_ | refine wt_t ?_ | refine wt_t2 ?_ | refine wt_pt ?_ | refine wt_pf ?_ | refine wt_n ?_ | refine wt_u ?_ | refine wt_ixn ?_ ?_ | refine wt_lon ?_ ?_ | refine wt_shl ?_ ?_ | refine wt_shr ?_ ?_ | refine wt_z ?_ | refine wt_gs (fun h1 => ?_) (fun h1 => ?_)) | (refine wl_id ?_; first | with_reducible refine wl_put ?_ | refine wl_lenn ?_ | refine wl_s ?_ | refine wl_s2 ?_ | refine wl_nil ?_ | refine wl_pt ?_ | refine wl_pf ?_ | refine wl_kn ?_ | refine wl_ky ?_ | refine wl_gu ?_ | refine wl_gs (fun h1 => ?_) (fun h1 => ?_) | refine wl_ixn ?_ ?_ | refine wl_lon ?_ ?_ | refine wl_shl ?_ ?_ | refine wl_shr ?_ ?_) | (refine w_id ?_; first | with_reducible refine w_put ?_ | refine w_sregion ?_ | refine w_sdr ?_ | refine w_region ?_ | refine w_dr ?_ | refine w_kt ?_ | refine w_kf ?_ | refine w_cond rfl (fun h => ?_) (fun h => ?_) | refine w_seq ?_ | refine w_block ?_ | refine w_skip ?_ | refine w_exit ?_))
    all_goals first
      | exact w_ret ⟨.inl rfl, _, [], resVs2, List.nil_sublist _, .inl ⟨rfl, rfl⟩⟩
      | (refine ⟨(), ⟨rfl, rfl, rfl, trivial⟩, rfl, hle2, ?_, ?_, any_bigU (by assumption)⟩ <;> (simp only [decide_eq_true_eq, decide_eq_false_iff_not] at *; omega))
  rintro _ M3 hle3 ⟨h2, hl, hb⟩
  repeat' (first | (refine wt_id ?_; first | with_reducible refine wt_put ?_ | refine wt_lenn ?_ | refine wt_t ?_ | refine wt_t2 ?_ | refine wt_pt ?_ | refine wt_pf ?_ | refine wt_n ?_ | refine wt_u ?_ | refine wt_ixn ?_ ?_ | refine wt_lon ?_ ?_ | refine wt_shl ?_ ?_ | refine wt_shr ?_ ?_ | refine wt_z ?_ | refine wt_gs (fun h1 => ?_) (fun h1 => ?_)) | (refine wl_id ?_; first | with_reducible refine wl_put ?_ | refine wl_lenn ?_ | refine wl_s ?_ | refine wl_s2 ?_ | refine wl_nil ?_ | refine wl_pt ?_ | refine wl_pf ?_ | refine wl_kn ?_ | refine wl_ky ?_ | refine wl_gu ?_ | refine wl_gs (fun h1 => ?_) (fun h1 => ?_) | refine wl_ixn ?_ ?_ | refine wl_lon ?_ ?_ | refine wl_shl ?_ ?_ | refine wl_shr ?_ ?_) | (refine w_id ?_; first | with_reducible refine w_put ?_ | refine w_sregion ?_ | refine w_sdr ?_ | refine w_region ?_ | refine w_dr ?_ | refine w_kt ?_ | refine w_kf ?_ | refine w_cond rfl (fun h => ?_) (fun h => ?_) | refine w_seq ?_ | refine w_block ?_ | refine w_skip ?_ | refine w_exit ?_))
  · omega
  refine w_nilrw (i := 4) 5 1 rfl ?_
  refine w_loopE (σ := Nat × List Int × Value) (fun s => [(44, .v (.int .i64 s.1)), (43, .v (.int .i64 (xs.drop 1).length)), (42, .sl 1 (ns .u64 (xs.drop 1))), (0, .sl 1 (ns .u64 xs)), (4, .rw s.2.2 1 (ns .u8 s.2.1)), (3, .v .nilIface)]) (fun s => [.tail s.2.2 5 1 s.2.1.length]) (fun s _ => s.1 ≤ (xs.drop 1).length ∧ s.2.1.length ≤ 10 * s.1) (fun s => (xs.drop 1).length - s.1) (0, [], .slice none 0 0) ⟨rfl, rfl, rfl, rfl, rfl, rfl, trivial⟩ rfl ⟨Nat.zero_le _, Nat.zero_le _⟩ ?_
  rintro ⟨i, out, v⟩ M3 hle3 ⟨hi, ho⟩
  dsimp only at hi ho ⊢
  repeat' (first | (refine wt_id ?_; first | with_reducible refine wt_put ?_ | refine wt_lenn ?_ | refine wt_t ?_ | refine wt_t2 ?_ | refine wt_pt ?_ | refine wt_pf ?_ | refine wt_n ?_ | refine wt_u ?_ | refine wt_ixn ?_ ?_ | refine wt_lon ?_ ?_ | refine wt_shl ?_ ?_ | refine wt_shr ?_ ?_ | refine wt_z ?_ | refine wt_gs (fun h1 => ?_) (fun h1 => ?_)) | (refine wl_id ?_; first | with_reducible refine wl_put ?_ | refine wl_lenn ?_ | refine wl_s ?_ | refine wl_s2 ?_ | refine wl_nil ?_ | refine wl_pt ?_ | refine wl_pf ?_ | refine wl_kn ?_ | refine wl_ky ?_ | refine wl_gu ?_ | refine wl_gs (fun h1 => ?_) (fun h1 => ?_) | refine wl_ixn ?_ ?_ | refine wl_lon ?_ ?_ | refine wl_shl ?_ ?_ | refine wl_shr ?_ ?_) | (refine w_id ?_; first | with_reducible refine w_put ?_ | refine w_sregion ?_ | refine w_sdr ?_ | refine w_region ?_ | refine w_dr ?_ | refine w_seq ?_ | refine w_block ?_ | refine w_skip ?_ | refine w_exit ?_))
  refine w_cond rfl (fun h => ?_) (fun h => ?_)
  · repeat' (first | (refine wt_id ?_; first | with_reducible refine wt_put ?_ | refine wt_lenn ?_ | refine wt_t ?_ | refine wt_t2 ?_ | refine wt_pt ?_ | refine wt_pf ?_ | refine wt_n ?_ | refine wt_u ?_ | refine wt_ixn ?_ ?_ | refine wt_lon ?_ ?_ | refine wt_shl ?_ ?_ | refine wt_shr ?_ ?_ | refine wt_z ?_ | refine wt_gs (fun h1 => ?_) (fun h1 => ?_)) | (refine wl_id ?_; first | with_reducible refine wl_put ?_ | refine wl_lenn ?_ | refine wl_s ?_ | refine wl_s2 ?_ | refine wl_nil ?_ | refine wl_pt ?_ | refine wl_pf ?_ | refine wl_kn ?_ | refine wl_ky ?_ | refine wl_gu ?_ | refine wl_gs (fun h1 => ?_) (fun h1 => ?_) | refine wl_ixn ?_ ?_ | refine wl_lon ?_ ?_ | refine wl_shl ?_ ?_ | refine wl_shr ?_ ?_) | (refine w_id ?_; first | with_reducible refine w_put ?_ | refine w_sregion ?_ | refine w_sdr ?_ | refine w_region ?_ | refine w_dr ?_ | refine w_seq ?_ | refine w_block ?_ | refine w_skip ?_ | refine w_exit ?_))
    · have := of_decide_eq_true h; omega
    refine w_joinT (σ := Int) (fun x => [(6, .v (.int .u64 x)), (44, .v (.int .i64 i)), (43, .v (.int .i64 (xs.drop 1).length)), (42, .sl 1 (ns .u64 (xs.drop 1))), (0, .sl 1 (ns .u64 xs)), (4, .rw v 1 (ns .u8 out)), (3, .v .nilIface)]) (fun _ => [.tail v 5 1 out.length]) (fun x _ => x < 18446744073709551616) ?_ ?_
    · refine w_cond rfl (fun h => ?_) (fun h => ?_)
      · repeat' (first | (refine wt_id ?_; first | with_reducible refine wt_put ?_ | refine wt_lenn ?_ | refine wt_t ?_ | refine wt_t2 ?_ | refine wt_pt ?_ | refine wt_pf ?_ | refine wt_n ?_ | refine wt_u ?_ | refine wt_ixn ?_ ?_ | refine wt_lon ?_ ?_ | refine wt_shl ?_ ?_ | refine wt_shr ?_ ?_ | refine wt_z ?_ | refine wt_gs (fun h1 => ?_) (fun h1 => ?_)) | (refine wl_id ?_; first | with_reducible refine wl_put ?_ | refine wl_lenn ?_ | refine wl_s ?_ | refine wl_s2 ?_ | refine wl_nil ?_ | refine wl_pt ?_ | refine wl_pf ?_ | refine wl_kn ?_ | refine wl_ky ?_ | refine wl_gu ?_ | refine wl_gs (fun h1 => ?_) (fun h1 => ?_) | refine wl_ixn ?_ ?_ | refine wl_lon ?_ ?_ | refine wl_shl ?_ ?_ | refine wl_shr ?_ ?_) | (refine w_id ?_; first | with_reducible refine w_put ?_ | refine w_sregion ?_ | refine w_sdr ?_ | refine w_region ?_ | refine w_dr ?_ | refine w_kt ?_ | refine w_kf ?_ | refine w_cond rfl (fun h => ?_) (fun h => ?_) | refine w_seq ?_ | refine w_block ?_ | refine w_skip ?_ | refine w_exit ?_))
        · omega
        exact ⟨_, ⟨rfl, rfl, rfl, rfl, rfl, rfl, rfl, trivial⟩, rfl, Mem.le.refl _, u64_lt _⟩
      · repeat' (first | (refine wt_id ?_; first | with_reducible refine wt_put ?_ | refine wt_lenn ?_ | refine wt_t ?_ | refine wt_t2 ?_ | refine wt_pt ?_ | refine wt_pf ?_ | refine wt_n ?_ | refine wt_u ?_ | refine wt_ixn ?_ ?_ | refine wt_lon ?_ ?_ | refine wt_shl ?_ ?_ | refine wt_shr ?_ ?_ | refine wt_z ?_ | refine wt_gs (fun h1 => ?_) (fun h1 => ?_)) | (refine wl_id ?_; first | with_reducible refine wl_put ?_ | refine wl_lenn ?_ | refine wl_s ?_ | refine wl_s2 ?_ | refine wl_nil ?_ | refine wl_pt ?_ | refine wl_pf ?_ | refine wl_kn ?_ | refine wl_ky ?_ | refine wl_gu ?_ | refine wl_gs (fun h1 => ?_) (fun h1 => ?_) | refine wl_ixn ?_ ?_ | refine wl_lon ?_ ?_ | refine wl_shl ?_ ?_ | refine wl_shr ?_ ?_) | (refine w_id ?_; first | with_reducible refine w_put ?_ | refine w_sregion ?_ | refine w_sdr ?_ | refine w_region ?_ | refine w_dr ?_ | refine w_kt ?_ | refine w_kf ?_ | refine w_cond rfl (fun h => ?_) (fun h => ?_) | refine w_seq ?_ | refine w_block ?_ | refine w_skip ?_ | refine w_exit ?_))
        refine ⟨_, ⟨rfl, rfl, rfl, rfl, rfl, rfl, rfl, trivial⟩, rfl, Mem.le.refl _, ?_⟩
        have hlt : (i : Int) < ((xs.drop 1).length : Int) := of_decide_eq_true (by assumption)
        rw [List.length_drop] at hlt
        have h11 := hb (i + 1) (by omega)
        have h12 : (xs.drop 1).getD ((i : Int).toNat) 0 = xs.getD (i + 1) 0 := by simp [Nat.add_comm]
        rw [h12]; omega
    intro x M4 hle4 hx
    repeat' (first | (refine wt_id ?_; first | with_reducible refine wt_put ?_ | refine wt_lenn ?_ | refine wt_t ?_ | refine wt_t2 ?_ | refine wt_pt ?_ | refine wt_pf ?_ | refine wt_n ?_ | refine wt_u ?_ | refine wt_ixn ?_ ?_ | refine wt_lon ?_ ?_ | refine wt_shl ?_ ?_ | refine wt_shr ?_ ?_ | refine wt_z ?_ | refine wt_gs (fun h1 => ?_) (fun h1 => ?_)) | (refine wl_id ?_; first | with_reducible refine wl_put ?_ | refine wl_lenn ?_ | refine wl_s ?_ | refine wl_s2 ?_ | refine wl_nil ?_ | refine wl_pt ?_ | refine wl_pf ?_ | refine wl_kn ?_ | refine wl_ky ?_ | refine wl_gu ?_ | refine wl_gs (fun h1 => ?_) (fun h1 => ?_) | refine wl_ixn ?_ ?_ | refine wl_lon ?_ ?_ | refine wl_shl ?_ ?_ | refine wl_shr ?_ ?_) | (refine w_id ?_; first | with_reducible refine w_put ?_ | refine w_sregion ?_ | refine w_sdr ?_ | refine w_region ?_ | refine w_dr ?_ | refine w_kt ?_ | refine w_kf ?_ | refine w_cond rfl (fun h => ?_) (fun h => ?_) | refine w_seq ?_ | refine w_block ?_ | refine w_skip ?_ | refine w_exit ?_))
    refine w_loopE (σ := Nat) (fun n => [(7, .v (.int .i64 n)), (4, .rw v 1 (ns .u8 out)), (6, .v (.int .u64 x)), (44, .v (.int .i64 i)), (43, .v (.int .i64 (xs.drop 1).length)), (42, .sl 1 (ns .u64 (xs.drop 1))), (0, .sl 1 (ns .u64 xs)), (3, .v .nilIface)]) (fun _ => [.tail v 5 1 out.length]) (fun n _ => 1 ≤ n ∧ n ≤ 10) (fun n => 11 - n) 1 ⟨rfl, rfl, rfl, rfl, rfl, rfl, rfl, rfl, trivial⟩ rfl ⟨Nat.le_refl _, by omega⟩ ?_
    rintro n M5 hle5 ⟨hn1, hn10⟩
    have h7 : IntKind.i64.wrap (7 * (n : Int)) = 7 * n := by rw [IntWalk.i64_in _ (by omega)]
    repeat' (first | (refine wt_id ?_; first | with_reducible refine wt_put ?_ | refine wt_lenn ?_ | refine wt_t ?_ | refine wt_t2 ?_ | refine wt_pt ?_ | refine wt_pf ?_ | refine wt_n ?_ | refine wt_u ?_ | refine wt_ixn ?_ ?_ | refine wt_lon ?_ ?_ | refine wt_shl ?_ ?_ | refine wt_shr ?_ ?_ | refine wt_z ?_ | refine wt_gs (fun h1 => ?_) (fun h1 => ?_)) | (refine wl_id ?_; first | with_reducible refine wl_put ?_ | refine wl_lenn ?_ | refine wl_s ?_ | refine wl_s2 ?_ | refine wl_nil ?_ | refine wl_pt ?_ | refine wl_pf ?_ | refine wl_kn ?_ | refine wl_ky ?_ | refine wl_gu ?_ | refine wl_gs (fun h1 => ?_) (fun h1 => ?_) | refine wl_ixn ?_ ?_ | refine wl_lon ?_ ?_ | refine wl_shl ?_ ?_ | refine wl_shr ?_ ?_) | (refine w_id ?_; first | with_reducible refine w_put ?_ | refine w_sregion ?_ | refine w_sdr ?_ | refine w_region ?_ | refine w_dr ?_ | refine w_seq ?_ | refine w_block ?_ | refine w_skip ?_ | refine w_exit ?_))
    refine w_cond rfl (fun h => ?_) (fun h => ?_)
    · repeat' (first | (refine wt_id ?_; first | with_reducible refine wt_put ?_ | refine wt_lenn ?_ | refine wt_t ?_ | refine wt_t2 ?_ | refine wt_pt ?_ | refine wt_pf ?_ | refine wt_n ?_ | refine wt_u ?_ | refine wt_ixn ?_ ?_ | refine wt_lon ?_ ?_ | refine wt_shl ?_ ?_ | refine wt_shr ?_ ?_ | refine wt_z ?_ | refine wt_gs (fun h1 => ?_) (fun h1 => ?_)) | (refine wl_id ?_; first | with_reducible refine wl_put ?_ | refine wl_lenn ?_ | refine wl_s ?_ | refine wl_s2 ?_ | refine wl_nil ?_ | refine wl_pt ?_ | refine wl_pf ?_ | refine wl_kn ?_ | refine wl_ky ?_ | refine wl_gu ?_ | refine wl_gs (fun h1 => ?_) (fun h1 => ?_) | refine wl_ixn ?_ ?_ | refine wl_lon ?_ ?_ | refine wl_shl ?_ ?_ | refine wl_shr ?_ ?_) | (refine w_id ?_; first | with_reducible refine w_put ?_ | refine w_sregion ?_ | refine w_sdr ?_ | refine w_region ?_ | refine w_dr ?_ | refine w_kt ?_ | refine w_kf ?_ | refine w_cond rfl (fun h => ?_) (fun h => ?_) | refine w_seq ?_ | refine w_block ?_ | refine w_skip ?_ | refine w_exit ?_))
      have hw : IntKind.i64.wrap ((n : Int) + 1) = ((n + 1 : Nat) : Int) := by rw [IntWalk.i64_in _ (by omega)]; rfl
      have hd := of_decide_eq_true h
      have h10 : n < 10 := by
        rcases Nat.lt_or_ge n 10 with h | h
        · exact h
        · obtain rfl : n = 10 := by omega
          have h13 : min (Int.toNat (IntKind.i64.wrap (7 * ((10 : Nat) : Int)))) IntKind.u64.bits = 64 := by rw [h7]; rfl
          rw [h13] at hd
          rw [Int.fdiv_eq_ediv_of_nonneg _ (by decide)] at hd
          have : (2 : Int) ^ 64 = 18446744073709551616 := by rfl
          rw [this] at hd
          omega
      rw [hw]
      exact ⟨n + 1, by omega, ⟨rfl, rfl, rfl, rfl, rfl, rfl, rfl, rfl, trivial⟩, rfl, Mem.le.refl _, by omega, by omega⟩
    · repeat' (first | (refine wt_id ?_; first | with_reducible refine wt_put ?_ | refine wt_lenn ?_ | refine wt_t ?_ | refine wt_t2 ?_ | refine wt_pt ?_ | refine wt_pf ?_ | refine wt_n ?_ | refine wt_u ?_ | refine wt_ixn ?_ ?_ | refine wt_lon ?_ ?_ | refine wt_shl ?_ ?_ | refine wt_shr ?_ ?_ | refine wt_z ?_ | refine wt_gs (fun h1 => ?_) (fun h1 => ?_)) | (refine wl_id ?_; first | with_reducible refine wl_put ?_ | refine wl_lenn ?_ | refine wl_s ?_ | refine wl_s2 ?_ | refine wl_nil ?_ | refine wl_pt ?_ | refine wl_pf ?_ | refine wl_kn ?_ | refine wl_ky ?_ | refine wl_gu ?_ | refine wl_gs (fun h1 => ?_) (fun h1 => ?_) | refine wl_ixn ?_ ?_ | refine wl_lon ?_ ?_ | refine wl_shl ?_ ?_ | refine wl_shr ?_ ?_) | (refine w_id ?_; first | with_reducible refine w_put ?_ | refine w_sregion ?_ | refine w_sdr ?_ | refine w_region ?_ | refine w_dr ?_ | refine w_kt ?_ | refine w_kf ?_ | refine w_cond rfl (fun h => ?_) (fun h => ?_) | refine w_seq ?_ | refine w_block ?_ | refine w_skip ?_ | refine w_exit ?_))
      have hw : IntKind.i64.wrap ((n : Int) - 1) = ((n : Int) - 1) := by rw [IntWalk.i64_in _ (by omega)]
      rw [hw]
      refine w_loopE (σ := Nat × List Int × Value) (fun s => [(8, .v (.int .i64 ((s.1 : Int) - 1))), (4, .rw s.2.2 1 (ns .u8 s.2.1)), (6, .v (.int .u64 x)), (44, .v (.int .i64 i)), (43, .v (.int .i64 (xs.drop 1).length)), (42, .sl 1 (ns .u64 (xs.drop 1))), (0, .sl 1 (ns .u64 xs)), (3, .v .nilIface)]) (fun s => [.tail s.2.2 5 1 s.2.1.length]) (fun s _ => s.1 ≤ 10 ∧ s.2.1.length + s.1 ≤ 10 * i + 10) (fun s => s.1) (n, out, v) ⟨rfl, rfl, rfl, rfl, rfl, rfl, rfl, rfl, trivial⟩ rfl ⟨hn10, by dsimp only; omega⟩ ?_
      rintro ⟨m, out2, v2⟩ M6 hle6 ⟨hm, ho2⟩
      dsimp only at hm ho2 ⊢
      repeat' (first | (refine wt_id ?_; first | with_reducible refine wt_put ?_ | refine wt_lenn ?_ | refine wt_t ?_ | refine wt_t2 ?_ | refine wt_pt ?_ | refine wt_pf ?_ | refine wt_n ?_ | refine wt_u ?_ | refine wt_ixn ?_ ?_ | refine wt_lon ?_ ?_ | refine wt_shl ?_ ?_ | refine wt_shr ?_ ?_ | refine wt_z ?_ | refine wt_gs (fun h1 => ?_) (fun h1 => ?_)) | (refine wl_id ?_; first | with_reducible refine wl_put ?_ | refine wl_lenn ?_ | refine wl_s ?_ | refine wl_s2 ?_ | refine wl_nil ?_ | refine wl_pt ?_ | refine wl_pf ?_ | refine wl_kn ?_ | refine wl_ky ?_ | refine wl_gu ?_ | refine wl_gs (fun h1 => ?_) (fun h1 => ?_) | refine wl_ixn ?_ ?_ | refine wl_lon ?_ ?_ | refine wl_shl ?_ ?_ | refine wl_shr ?_ ?_) | (refine w_id ?_; first | with_reducible refine w_put ?_ | refine w_sregion ?_ | refine w_sdr ?_ | refine w_region ?_ | refine w_dr ?_ | refine w_seq ?_ | refine w_block ?_ | refine w_skip ?_ | refine w_exit ?_))
      refine w_cond rfl (fun h => ?_) (fun h => ?_)
      · have hm0 := of_decide_eq_true h
        have h7 : IntKind.i64.wrap (7 * ((m : Int) - 1)) = 7 * ((m : Int) - 1) := by rw [IntWalk.i64_in _ (by omega)]
        repeat' (first | (refine wt_id ?_; first | with_reducible refine wt_put ?_ | refine wt_lenn ?_ | refine wt_t ?_ | refine wt_t2 ?_ | refine wt_pt ?_ | refine wt_pf ?_ | refine wt_n ?_ | refine wt_u ?_ | refine wt_ixn ?_ ?_ | refine wt_lon ?_ ?_ | refine wt_shl ?_ ?_ | refine wt_shr ?_ ?_ | refine wt_z ?_ | refine wt_gs (fun h1 => ?_) (fun h1 => ?_)) | (refine wl_id ?_; first | with_reducible refine wl_put ?_ | refine wl_lenn ?_ | refine wl_s ?_ | refine wl_s2 ?_ | refine wl_nil ?_ | refine wl_pt ?_ | refine wl_pf ?_ | refine wl_kn ?_ | refine wl_ky ?_ | refine wl_gu ?_ | refine wl_gs (fun h1 => ?_) (fun h1 => ?_) | refine wl_ixn ?_ ?_ | refine wl_lon ?_ ?_ | refine wl_shl ?_ ?_ | refine wl_shr ?_ ?_) | (refine w_id ?_; first | with_reducible refine w_put ?_ | refine w_sregion ?_ | refine w_sdr ?_ | refine w_region ?_ | refine w_dr ?_ | refine w_seq ?_ | refine w_block ?_ | refine w_skip ?_ | refine w_exit ?_))
        refine w_joinT (σ := Int) (fun b => [(9, .v (.int .u8 b)), (8, .v (.int .i64 ((m : Int) - 1))), (4, .rw v2 1 (ns .u8 out2)), (6, .v (.int .u64 x)), (44, .v (.int .i64 i)), (43, .v (.int .i64 (xs.drop 1).length)), (42, .sl 1 (ns .u64 (xs.drop 1))), (0, .sl 1 (ns .u64 xs)), (3, .v .nilIface)]) (fun _ => [.tail v2 5 1 out2.length]) (fun _ _ => True) ?_ ?_
        · refine w_cond rfl (fun h => ?_) (fun h => ?_)
          · repeat' (first | (refine wt_id ?_; first | with_reducible refine wt_put ?_ | refine wt_lenn ?_ | refine wt_t ?_ | refine wt_t2 ?_ | refine wt_pt ?_ | refine wt_pf ?_ | refine wt_n ?_ | refine wt_u ?_ | refine wt_ixn ?_ ?_ | refine wt_lon ?_ ?_ | refine wt_shl ?_ ?_ | refine wt_shr ?_ ?_ | refine wt_z ?_ | refine wt_gs (fun h1 => ?_) (fun h1 => ?_)) | (refine wl_id ?_; first | with_reducible refine wl_put ?_ | refine wl_lenn ?_ | refine wl_s ?_ | refine wl_s2 ?_ | refine wl_nil ?_ | refine wl_pt ?_ | refine wl_pf ?_ | refine wl_kn ?_ | refine wl_ky ?_ | refine wl_gu ?_ | refine wl_gs (fun h1 => ?_) (fun h1 => ?_) | refine wl_ixn ?_ ?_ | refine wl_lon ?_ ?_ | refine wl_shl ?_ ?_ | refine wl_shr ?_ ?_) | (refine w_id ?_; first | with_reducible refine w_put ?_ | refine w_sregion ?_ | refine w_sdr ?_ | refine w_region ?_ | refine w_dr ?_ | refine w_kt ?_ | refine w_kf ?_ | refine w_cond rfl (fun h => ?_) (fun h => ?_) | refine w_seq ?_ | refine w_block ?_ | refine w_skip ?_ | refine w_exit ?_))
            exact ⟨_, ⟨rfl, rfl, rfl, rfl, rfl, rfl, rfl, rfl, rfl, trivial⟩, rfl, Mem.le.refl _, trivial⟩
          · repeat' (first | (refine wt_id ?_; first | with_reducible refine wt_put ?_ | refine wt_lenn ?_ | refine wt_t ?_ | refine wt_t2 ?_ | refine wt_pt ?_ | refine wt_pf ?_ | refine wt_n ?_ | refine wt_u ?_ | refine wt_ixn ?_ ?_ | refine wt_lon ?_ ?_ | refine wt_shl ?_ ?_ | refine wt_shr ?_ ?_ | refine wt_z ?_ | refine wt_gs (fun h1 => ?_) (fun h1 => ?_)) | (refine wl_id ?_; first | with_reducible refine wl_put ?_ | refine wl_lenn ?_ | refine wl_s ?_ | refine wl_s2 ?_ | refine wl_nil ?_ | refine wl_pt ?_ | refine wl_pf ?_ | refine wl_kn ?_ | refine wl_ky ?_ | refine wl_gu ?_ | refine wl_gs (fun h1 => ?_) (fun h1 => ?_) | refine wl_ixn ?_ ?_ | refine wl_lon ?_ ?_ | refine wl_shl ?_ ?_ | refine wl_shr ?_ ?_) | (refine w_id ?_; first | with_reducible refine w_put ?_ | refine w_sregion ?_ | refine w_sdr ?_ | refine w_region ?_ | refine w_dr ?_ | refine w_kt ?_ | refine w_kf ?_ | refine w_cond rfl (fun h => ?_) (fun h => ?_) | refine w_seq ?_ | refine w_block ?_ | refine w_skip ?_ | refine w_exit ?_))
            exact ⟨_, ⟨rfl, rfl, rfl, rfl, rfl, rfl, rfl, rfl, rfl, trivial⟩, rfl, Mem.le.refl _, trivial⟩
        intro b M7 hle7 _
        repeat' (first | (refine wt_id ?_; first | with_reducible refine wt_put ?_ | refine wt_lenn ?_ | refine wt_t ?_ | refine wt_t2 ?_ | refine wt_pt ?_ | refine wt_pf ?_ | refine wt_n ?_ | refine wt_u ?_ | refine wt_ixn ?_ ?_ | refine wt_lon ?_ ?_ | refine wt_shl ?_ ?_ | refine wt_shr ?_ ?_ | refine wt_z ?_ | refine wt_gs (fun h1 => ?_) (fun h1 => ?_)) | (refine wl_id ?_; first | with_reducible refine wl_put ?_ | refine wl_lenn ?_ | refine wl_s ?_ | refine wl_s2 ?_ | refine wl_nil ?_ | refine wl_pt ?_ | refine wl_pf ?_ | refine wl_kn ?_ | refine wl_ky ?_ | refine wl_gu ?_ | refine wl_gs (fun h1 => ?_) (fun h1 => ?_) | refine wl_ixn ?_ ?_ | refine wl_lon ?_ ?_ | refine wl_shl ?_ ?_ | refine wl_shr ?_ ?_) | (refine w_id ?_; first | with_reducible refine w_put ?_ | refine w_sregion ?_ | refine w_sdr ?_ | refine w_region ?_ | refine w_dr ?_ | refine w_kt ?_ | refine w_kf ?_ | refine w_cond rfl (fun h => ?_) (fun h => ?_) | refine w_seq ?_ | refine w_block ?_ | refine w_skip ?_ | refine w_exit ?_))
        refine wl_bn [b] .u8 fun M8 hle8 => ?_
        have hi16 : i ≤ 16 := by rw [List.length_drop] at hi; omega
        refine wl_apn 0 ?_ ?_ fun v3 M9 hle9 => ?_
        · simp only [List.length_cons, List.length_nil]; omega
        · simp only [List.length_cons, List.length_nil]; omega
        repeat' (first | (refine wt_id ?_; first | with_reducible refine wt_put ?_ | refine wt_lenn ?_ | refine wt_t ?_ | refine wt_t2 ?_ | refine wt_pt ?_ | refine wt_pf ?_ | refine wt_n ?_ | refine wt_u ?_ | refine wt_ixn ?_ ?_ | refine wt_lon ?_ ?_ | refine wt_shl ?_ ?_ | refine wt_shr ?_ ?_ | refine wt_z ?_ | refine wt_gs (fun h1 => ?_) (fun h1 => ?_)) | (refine wl_id ?_; first | with_reducible refine wl_put ?_ | refine wl_lenn ?_ | refine wl_s ?_ | refine wl_s2 ?_ | refine wl_nil ?_ | refine wl_pt ?_ | refine wl_pf ?_ | refine wl_kn ?_ | refine wl_ky ?_ | refine wl_gu ?_ | refine wl_gs (fun h1 => ?_) (fun h1 => ?_) | refine wl_ixn ?_ ?_ | refine wl_lon ?_ ?_ | refine wl_shl ?_ ?_ | refine wl_shr ?_ ?_) | (refine w_id ?_; first | with_reducible refine w_put ?_ | refine w_sregion ?_ | refine w_sdr ?_ | refine w_region ?_ | refine w_dr ?_ | refine w_kt ?_ | refine w_kf ?_ | refine w_cond rfl (fun h => ?_) (fun h => ?_) | refine w_seq ?_ | refine w_block ?_ | refine w_skip ?_ | refine w_exit ?_))
        have hw : IntKind.i64.wrap ((m : Int) - 1 - 1) = (((m - 1 : Nat) : Int) - 1) := by rw [IntWalk.i64_in _ (by omega)]; omega
        rw [hw]
        exact ⟨(m - 1, out2 ++ [b], v3), by dsimp only; omega, ⟨rfl, rfl, rfl, rfl, rfl, rfl, rfl, rfl, trivial⟩, rfl, hle7.trans (hle8.trans hle9), by dsimp only; omega, by dsimp only; simp; omega⟩
      · repeat' (first | (refine wt_id ?_; first | with_reducible refine wt_put ?_ | refine wt_lenn ?_ | refine wt_t ?_ | refine wt_t2 ?_ | refine wt_pt ?_ | refine wt_pf ?_ | refine wt_n ?_ | refine wt_u ?_ | refine wt_ixn ?_ ?_ | refine wt_lon ?_ ?_ | refine wt_shl ?_ ?_ | refine wt_shr ?_ ?_ | refine wt_z ?_ | refine wt_gs (fun h1 => ?_) (fun h1 => ?_)) | (refine wl_id ?_; first | with_reducible refine wl_put ?_ | refine wl_lenn ?_ | refine wl_s ?_ | refine wl_s2 ?_ | refine wl_nil ?_ | refine wl_pt ?_ | refine wl_pf ?_ | refine wl_kn ?_ | refine wl_ky ?_ | refine wl_gu ?_ | refine wl_gs (fun h1 => ?_) (fun h1 => ?_) | refine wl_ixn ?_ ?_ | refine wl_lon ?_ ?_ | refine wl_shl ?_ ?_ | refine wl_shr ?_ ?_) | (refine w_id ?_; first | with_reducible refine w_put ?_ | refine w_sregion ?_ | refine w_sdr ?_ | refine w_region ?_ | refine w_dr ?_ | refine w_kt ?_ | refine w_kf ?_ | refine w_cond rfl (fun h => ?_) (fun h => ?_) | refine w_seq ?_ | refine w_block ?_ | refine w_skip ?_ | refine w_exit ?_))
        have hw : IntKind.i64.wrap ((i : Int) + 1) = ((i + 1 : Nat) : Int) := by rw [IntWalk.i64_in _ (by rw [List.length_drop] at hi; omega)]; rfl
        rw [hw]
        have hi1 : (i : Int) < ((xs.drop 1).length : Int) := of_decide_eq_true (by assumption)
        refine ⟨(i + 1, out2, v2), by dsimp only; omega, ⟨rfl, rfl, rfl, rfl, rfl, rfl, trivial⟩, rfl, ?_, by dsimp only; omega, by dsimp only; omega⟩
        exact hle4.trans (hle5.trans hle6)
  · repeat' (first | (refine wt_id ?_; first | with_reducible refine wt_put ?_ | refine wt_lenn ?_ | refine wt_t ?_ | refine wt_t2 ?_ | refine wt_pt ?_ | refine wt_pf ?_ | refine wt_n ?_ | refine wt_u ?_ | refine wt_ixn ?_ ?_ | refine wt_lon ?_ ?_ | refine wt_shl ?_ ?_ | refine wt_shr ?_ ?_ | refine wt_z ?_ | refine wt_gs (fun h1 => ?_) (fun h1 => ?_)) | (refine wl_id ?_; first | with_reducible refine wl_put ?_ | refine wl_lenn ?_ | refine wl_s ?_ | refine wl_s2 ?_ | refine wl_nil ?_ | refine wl_pt ?_ | refine wl_pf ?_ | refine wl_kn ?_ | refine wl_ky ?_ | refine wl_gu ?_ | refine wl_gs (fun h1 => ?_) (fun h1 => ?_) | refine wl_ixn ?_ ?_ | refine wl_lon ?_ ?_ | refine wl_shl ?_ ?_ | refine wl_shr ?_ ?_) | (refine w_id ?_; first | with_reducible refine w_put ?_ | refine w_sregion ?_ | refine w_sdr ?_ | refine w_region ?_ | refine w_dr ?_ | refine w_kt ?_ | refine w_kf ?_ | refine w_cond rfl (fun h => ?_) (fun h => ?_) | refine w_seq ?_ | refine w_block ?_ | refine w_skip ?_ | refine w_exit ?_))
    exact w_ret ⟨.inl rfl, _, [_], resVs2, List.Sublist.refl _, .inr ⟨_, _, rfl, rfl⟩⟩
end Go.Eng

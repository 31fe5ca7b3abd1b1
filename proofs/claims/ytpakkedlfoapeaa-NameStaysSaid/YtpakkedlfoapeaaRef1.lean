/- Walks: escutcheonref12.fine, Depth. -/
import Derived.Test.YtpakkedlfoapeaaName6
import Derived.Test.YtpakkedlfoapeaaEngU
namespace Go.Eng
open Go Go.Proofs
set_option maxRecDepth 100000

mutual
def fineT : TL → Bool
  | .mk c g m b ks => !(decide (c < 0) || decide (3 < c) || decide (g < 0) || decide (30 < g)) && !((m && decide (0 < b.length)) || (!m && decide (0 < ks.length))) && fineTs ks
def fineTs : List TL → Bool
  | [] => true
  | t :: ts => fineT t && fineTs ts
end
theorem fineTs_all : ∀ ts : List TL, fineTs ts = ts.all fineT
  | [] => rfl
  | t :: ts => by simp [fineTs, fineTs_all ts]
set_option maxHeartbeats 1000000 in
theorem fineE : ∀ (n : Nat) (t : TL) (M : Mem), SizeOf.sizeOf t ≤ n → n < 9223372036854775807 → Spec Try.prog 28 [.agg (svT t)] [] M (fun s L' _ => s = .v (.bool (fineT t)) ∧ L' = []) := by
  intro n
  induction n with
  | zero => intro t M h; cases t; simp at h
  | succ n ih =>
  intro t M hsz hn
  obtain ⟨c, g, m, b, ks⟩ := t
  have hks := Nat.lt_of_lt_of_le (len_lt (c := c) (g := g) (m := m) (b := b) (ks := ks)) hsz
  refine spec_of [.tmp 2] Try.func28 rfl rfl rfl fun w0 => ?_
  have qnt : (!true) = false := rfl
  have qnf : (!false) = true := rfl
  simp only [svT]
  refine w_sregion ?_
  refine wl_bx fun n1 => ?_
  repeat' (first | with_reducible refine wl_put ?_ | refine wl_nt ?_ | refine wl_nf ?_ | refine wl_ldT ?_ | refine wl_lenn ?_ | refine wl_s ?_ | refine wl_s2 ?_ | refine wl_eq ?_ | refine wl_st ?_ | refine wl_nil ?_ | refine wl_pt ?_ | refine wl_pf ?_ | refine wl_kn ?_ | refine wl_ky ?_ | refine wl_gu ?_ | refine wl_gs (fun h1 => ?_) (fun h1 => ?_) | refine wl_ixn ?_ ?_ | refine wl_lon ?_ ?_ | refine wl_shl ?_ ?_ | refine wl_shr ?_ ?_)
  refine w_cutS (σ := Unit) (fun _ => [(1, .lp 1 n1 0)]) (fun _ => [.box 1 n1 28 [.v (.int .i64 c), .v (.int .i64 g), .v (.bool m), .sl 1 (bs b), .sl 5 (svTs ks)]]) (fun _ _ => (decide (c < 0) || decide (3 < c) || decide (g < 0) || decide (30 < g)) = false) ?_ ?_
  · repeat' (first | (refine wt_id ?_; first | with_reducible refine wt_put ?_ | refine wt_ldT ?_ | refine wt_lenn ?_ | refine wt_t ?_ | refine wt_t2 ?_ | refine wt_eq ?_ | refine wt_pt ?_ | refine wt_pf ?_ | refine wt_n ?_ | refine wt_u ?_ | refine wt_ixn ?_ ?_ | refine wt_lon ?_ ?_ | refine wt_shl ?_ ?_ | refine wt_shr ?_ ?_ | refine wt_z ?_ | refine wt_gs (fun h1 => ?_) (fun h1 => ?_)) | (refine wl_id ?_; first | with_reducible refine wl_put ?_ | refine wl_nt ?_ | refine wl_nf ?_ | refine wl_ldT ?_ | refine wl_lenn ?_ | refine wl_s ?_ | refine wl_s2 ?_ | refine wl_eq ?_ | refine wl_st ?_ | refine wl_nil ?_ | refine wl_pt ?_ | refine wl_pf ?_ | refine wl_kn ?_ | refine wl_ky ?_ | refine wl_gu ?_ | refine wl_gs (fun h1 => ?_) (fun h1 => ?_) | refine wl_ixn ?_ ?_ | refine wl_lon ?_ ?_ | refine wl_shl ?_ ?_ | refine wl_shr ?_ ?_) | (refine w_id ?_; first | with_reducible refine w_put ?_ | refine w_sregion ?_ | refine w_sdr ?_ | refine w_region ?_ | refine w_dr ?_ | refine w_kt ?_ | refine w_kf ?_ | refine w_cond rfl (fun h => ?_) (fun h => ?_) | refine w_seq ?_ | refine w_block ?_ | refine w_skip ?_ | refine w_exit ?_))
    all_goals first
      | exact ⟨(), ⟨rfl, trivial⟩, List.Sublist.refl _, Mem.le.refl _, by simp_all⟩
      | exact w_ret ⟨.inl rfl, _, [], resVs1, List.nil_sublist _, (by unfold fineT; simp_all [packSV, ofVal]), rfl⟩
  intro _ M1 hle1 h1
  refine w_cutS (σ := Unit) (fun _ => [(1, .lp 1 n1 0)]) (fun _ => [.box 1 n1 28 [.v (.int .i64 c), .v (.int .i64 g), .v (.bool m), .sl 1 (bs b), .sl 5 (svTs ks)]]) (fun _ _ => ((m && decide (0 < b.length)) || (!m && decide (0 < ks.length))) = false) ?_ ?_
  · repeat' (first | (refine wt_id ?_; first | with_reducible refine wt_put ?_ | refine wt_ldT ?_ | refine wt_lenn ?_ | refine wt_t ?_ | refine wt_t2 ?_ | refine wt_eq ?_ | refine wt_pt ?_ | refine wt_pf ?_ | refine wt_n ?_ | refine wt_u ?_ | refine wt_ixn ?_ ?_ | refine wt_lon ?_ ?_ | refine wt_shl ?_ ?_ | refine wt_shr ?_ ?_ | refine wt_z ?_ | refine wt_gs (fun h1 => ?_) (fun h1 => ?_)) | (refine wl_id ?_; first | with_reducible refine wl_put ?_ | refine wl_nt ?_ | refine wl_nf ?_ | refine wl_ldT ?_ | refine wl_lenn ?_ | refine wl_s ?_ | refine wl_s2 ?_ | refine wl_eq ?_ | refine wl_st ?_ | refine wl_nil ?_ | refine wl_pt ?_ | refine wl_pf ?_ | refine wl_kn ?_ | refine wl_ky ?_ | refine wl_gu ?_ | refine wl_gs (fun h1 => ?_) (fun h1 => ?_) | refine wl_ixn ?_ ?_ | refine wl_lon ?_ ?_ | refine wl_shl ?_ ?_ | refine wl_shr ?_ ?_) | (refine w_id ?_; first | with_reducible refine w_put ?_ | refine w_sregion ?_ | refine w_sdr ?_ | refine w_region ?_ | refine w_dr ?_ | refine w_kt ?_ | refine w_kf ?_ | refine w_cond rfl (fun h => ?_) (fun h => ?_) | refine w_seq ?_ | refine w_block ?_ | refine w_skip ?_ | refine w_exit ?_))
    all_goals first
      | exact ⟨(), ⟨rfl, trivial⟩, List.Sublist.refl _, Mem.le.refl _, by simp_all [svTs_length]⟩
      | exact w_ret ⟨.inl rfl, _, [], resVs1, List.nil_sublist _, (by unfold fineT; simp_all [packSV, ofVal, svTs_length]), rfl⟩
  intro _ M2 hle2 h2
  repeat' (first | (refine wt_id ?_; first | with_reducible refine wt_put ?_ | refine wt_ldT ?_ | refine wt_lenn ?_ | refine wt_t ?_ | refine wt_t2 ?_ | refine wt_eq ?_ | refine wt_pt ?_ | refine wt_pf ?_ | refine wt_n ?_ | refine wt_u ?_ | refine wt_ixn ?_ ?_ | refine wt_lon ?_ ?_ | refine wt_shl ?_ ?_ | refine wt_shr ?_ ?_ | refine wt_z ?_ | refine wt_gs (fun h1 => ?_) (fun h1 => ?_)) | (refine wl_id ?_; first | with_reducible refine wl_put ?_ | refine wl_nt ?_ | refine wl_nf ?_ | refine wl_ldT ?_ | refine wl_lenn ?_ | refine wl_s ?_ | refine wl_s2 ?_ | refine wl_eq ?_ | refine wl_st ?_ | refine wl_nil ?_ | refine wl_pt ?_ | refine wl_pf ?_ | refine wl_kn ?_ | refine wl_ky ?_ | refine wl_gu ?_ | refine wl_gs (fun h1 => ?_) (fun h1 => ?_) | refine wl_ixn ?_ ?_ | refine wl_lon ?_ ?_ | refine wl_shl ?_ ?_ | refine wl_shr ?_ ?_) | (refine w_id ?_; first | with_reducible refine w_put ?_ | refine w_sregion ?_ | refine w_sdr ?_ | refine w_region ?_ | refine w_dr ?_ | refine w_kt ?_ | refine w_kf ?_ | refine w_cond rfl (fun h => ?_) (fun h => ?_) | refine w_seq ?_ | refine w_block ?_ | refine w_skip ?_ | refine w_exit ?_))
  refine w_loopS (σ := Nat) (fun i => [(3, .v (.int .i64 i)), (1, .lp 1 n1 0)]) (fun _ => [.box 1 n1 28 [.v (.int .i64 c), .v (.int .i64 g), .v (.bool m), .sl 1 (bs b), .sl 5 (svTs ks)]]) (fun i _ => i ≤ ks.length ∧ ∀ k ∈ ks.take i, fineT k = true) (fun i => ks.length - i) 0 ⟨rfl, rfl, trivial⟩ (List.Sublist.refl _) ⟨Nat.zero_le _, by simp⟩ ?_
  rintro i M3 hle3 ⟨hi, hf⟩
  repeat' (first | (refine wt_id ?_; first | with_reducible refine wt_put ?_ | refine wt_ldT ?_ | refine wt_lenn ?_ | refine wt_t ?_ | refine wt_t2 ?_ | refine wt_eq ?_ | refine wt_pt ?_ | refine wt_pf ?_ | refine wt_n ?_ | refine wt_u ?_ | refine wt_ixn ?_ ?_ | refine wt_lon ?_ ?_ | refine wt_shl ?_ ?_ | refine wt_shr ?_ ?_ | refine wt_z ?_ | refine wt_gs (fun h1 => ?_) (fun h1 => ?_)) | (refine wl_id ?_; first | with_reducible refine wl_put ?_ | refine wl_nt ?_ | refine wl_nf ?_ | refine wl_ldT ?_ | refine wl_lenn ?_ | refine wl_s ?_ | refine wl_s2 ?_ | refine wl_eq ?_ | refine wl_st ?_ | refine wl_nil ?_ | refine wl_pt ?_ | refine wl_pf ?_ | refine wl_kn ?_ | refine wl_ky ?_ | refine wl_gu ?_ | refine wl_gs (fun h1 => ?_) (fun h1 => ?_) | refine wl_ixn ?_ ?_ | refine wl_lon ?_ ?_ | refine wl_shl ?_ ?_ | refine wl_shr ?_ ?_) | (refine w_id ?_; first | with_reducible refine w_put ?_ | refine w_sregion ?_ | refine w_sdr ?_ | refine w_region ?_ | refine w_dr ?_ | refine w_seq ?_ | refine w_block ?_ | refine w_skip ?_ | refine w_exit ?_))
  refine w_cond rfl (fun h => ?_) (fun h => ?_)
  · have hlt : i < ks.length := by have := of_decide_eq_true h; rw [svTs_length] at this; omega
    have hkm := mem_lt (c := c) (g := g) (m := m) (b := b) (List.getElem_mem hlt)
    have hmem : ks[i] ∈ ks := List.getElem_mem hlt
    have htk : ks.take (i + 1) = ks.take i ++ [ks[i]] := by rw [List.take_succ_eq_append_getElem hlt]
    have hk2 : (svTs ks)[(i : Int).toNat]? = some (svT ks[i]) := by rw [Int.toNat_natCast]; exact svTs_get (List.getElem?_eq_getElem hlt)
    generalize ks[i] = k at hkm hmem htk hk2
    repeat' (first | (refine wt_id ?_; first | with_reducible refine wt_put ?_ | refine wt_ldT ?_ | refine wt_lenn ?_ | refine wt_t ?_ | refine wt_t2 ?_ | refine wt_eq ?_ | refine wt_pt ?_ | refine wt_pf ?_ | refine wt_n ?_ | refine wt_u ?_ | refine wt_ixn ?_ ?_ | refine wt_lon ?_ ?_ | refine wt_shl ?_ ?_ | refine wt_shr ?_ ?_ | refine wt_z ?_ | refine wt_gs (fun h1 => ?_) (fun h1 => ?_)) | (refine wl_id ?_; first | with_reducible refine wl_put ?_ | refine wl_nt ?_ | refine wl_nf ?_ | refine wl_ldT ?_ | refine wl_lenn ?_ | refine wl_s ?_ | refine wl_s2 ?_ | refine wl_eq ?_ | refine wl_st ?_ | refine wl_nil ?_ | refine wl_pt ?_ | refine wl_pf ?_ | refine wl_kn ?_ | refine wl_ky ?_ | refine wl_gu ?_ | refine wl_gs (fun h1 => ?_) (fun h1 => ?_) | refine wl_ixn ?_ ?_ | refine wl_lon ?_ ?_ | refine wl_shl ?_ ?_ | refine wl_shr ?_ ?_) | (refine w_id ?_; first | with_reducible refine w_put ?_ | refine w_sregion ?_ | refine w_sdr ?_ | refine w_region ?_ | refine w_dr ?_ | refine w_kt ?_ | refine w_kf ?_ | refine w_cond rfl (fun h => ?_) (fun h => ?_) | refine w_seq ?_ | refine w_block ?_ | refine w_skip ?_ | refine w_exit ?_))
    refine wl_ix (by omega) hk2 ?_
    repeat' (first | (refine wt_id ?_; first | with_reducible refine wt_put ?_ | refine wt_ldT ?_ | refine wt_lenn ?_ | refine wt_t ?_ | refine wt_t2 ?_ | refine wt_eq ?_ | refine wt_pt ?_ | refine wt_pf ?_ | refine wt_n ?_ | refine wt_u ?_ | refine wt_ixn ?_ ?_ | refine wt_lon ?_ ?_ | refine wt_shl ?_ ?_ | refine wt_shr ?_ ?_ | refine wt_z ?_ | refine wt_gs (fun h1 => ?_) (fun h1 => ?_)) | (refine wl_id ?_; first | with_reducible refine wl_put ?_ | refine wl_nt ?_ | refine wl_nf ?_ | refine wl_ldT ?_ | refine wl_lenn ?_ | refine wl_s ?_ | refine wl_s2 ?_ | refine wl_eq ?_ | refine wl_st ?_ | refine wl_nil ?_ | refine wl_pt ?_ | refine wl_pf ?_ | refine wl_kn ?_ | refine wl_ky ?_ | refine wl_gu ?_ | refine wl_gs (fun h1 => ?_) (fun h1 => ?_) | refine wl_ixn ?_ ?_ | refine wl_lon ?_ ?_ | refine wl_shl ?_ ?_ | refine wl_shr ?_ ?_) | (refine w_id ?_; first | with_reducible refine w_put ?_ | refine w_sregion ?_ | refine w_sdr ?_ | refine w_region ?_ | refine w_dr ?_ | refine w_kt ?_ | refine w_kf ?_ | refine w_cond rfl (fun h => ?_) (fun h => ?_) | refine w_seq ?_ | refine w_block ?_ | refine w_skip ?_ | refine w_exit ?_))
    refine wl_c (ih k _ (by omega) (by omega)) ?_
    rintro _ _ M4 hle4 ⟨rfl, rfl⟩
    cases hfk : fineT k with
    | false =>
      repeat' (first | (refine wt_id ?_; first | with_reducible refine wt_put ?_ | refine wt_ldT ?_ | refine wt_lenn ?_ | refine wt_t ?_ | refine wt_t2 ?_ | refine wt_eq ?_ | refine wt_pt ?_ | refine wt_pf ?_ | refine wt_n ?_ | refine wt_u ?_ | refine wt_ixn ?_ ?_ | refine wt_lon ?_ ?_ | refine wt_shl ?_ ?_ | refine wt_shr ?_ ?_ | refine wt_z ?_ | refine wt_gs (fun h1 => ?_) (fun h1 => ?_)) | (refine wl_id ?_; first | with_reducible refine wl_put ?_ | refine wl_nt ?_ | refine wl_nf ?_ | refine wl_ldT ?_ | refine wl_lenn ?_ | refine wl_s ?_ | refine wl_s2 ?_ | refine wl_eq ?_ | refine wl_st ?_ | refine wl_nil ?_ | refine wl_pt ?_ | refine wl_pf ?_ | refine wl_kn ?_ | refine wl_ky ?_ | refine wl_gu ?_ | refine wl_gs (fun h1 => ?_) (fun h1 => ?_) | refine wl_ixn ?_ ?_ | refine wl_lon ?_ ?_ | refine wl_shl ?_ ?_ | refine wl_shr ?_ ?_) | (refine w_id ?_; first | with_reducible refine w_put ?_ | refine w_sregion ?_ | refine w_sdr ?_ | refine w_region ?_ | refine w_dr ?_ | refine w_kt ?_ | refine w_kf ?_ | refine w_cond rfl (fun h => ?_) (fun h => ?_) | refine w_seq ?_ | refine w_block ?_ | refine w_skip ?_ | refine w_exit ?_))
      refine w_ret ⟨.inl rfl, _, [], resVs1, List.nil_sublist _, ?_, rfl⟩
      have : fineTs ks = false := by rw [fineTs_all, List.all_eq_false]; exact ⟨k, hmem, by rw [hfk]; simp⟩
      unfold fineT
      rw [this, Bool.and_false]
      rfl
    | true =>
      repeat' (first | (refine wt_id ?_; first | with_reducible refine wt_put ?_ | refine wt_ldT ?_ | refine wt_lenn ?_ | refine wt_t ?_ | refine wt_t2 ?_ | refine wt_eq ?_ | refine wt_pt ?_ | refine wt_pf ?_ | refine wt_n ?_ | refine wt_u ?_ | refine wt_ixn ?_ ?_ | refine wt_lon ?_ ?_ | refine wt_shl ?_ ?_ | refine wt_shr ?_ ?_ | refine wt_z ?_ | refine wt_gs (fun h1 => ?_) (fun h1 => ?_)) | (refine wl_id ?_; first | with_reducible refine wl_put ?_ | refine wl_nt ?_ | refine wl_nf ?_ | refine wl_ldT ?_ | refine wl_lenn ?_ | refine wl_s ?_ | refine wl_s2 ?_ | refine wl_eq ?_ | refine wl_st ?_ | refine wl_nil ?_ | refine wl_pt ?_ | refine wl_pf ?_ | refine wl_kn ?_ | refine wl_ky ?_ | refine wl_gu ?_ | refine wl_gs (fun h1 => ?_) (fun h1 => ?_) | refine wl_ixn ?_ ?_ | refine wl_lon ?_ ?_ | refine wl_shl ?_ ?_ | refine wl_shr ?_ ?_) | (refine w_id ?_; first | with_reducible refine w_put ?_ | refine w_sregion ?_ | refine w_sdr ?_ | refine w_region ?_ | refine w_dr ?_ | refine w_kt ?_ | refine w_kf ?_ | refine w_cond rfl (fun h => ?_) (fun h => ?_) | refine w_seq ?_ | refine w_block ?_ | refine w_skip ?_ | refine w_exit ?_))
      have hw : IntKind.i64.wrap ((i : Int) + 1) = ((i + 1 : Nat) : Int) := by rw [IntWalk.i64_in _ (by omega)]; rfl
      rw [hw]
      refine ⟨i + 1, by omega, ⟨rfl, rfl, trivial⟩, List.Sublist.refl _, hle4, by omega, ?_⟩
      rw [htk]
      intro q hq
      rcases List.mem_append.1 hq with hq | hq
      · exact hf q hq
      · rw [List.mem_singleton] at hq; subst hq; exact hfk
  · repeat' (first | (refine wt_id ?_; first | with_reducible refine wt_put ?_ | refine wt_ldT ?_ | refine wt_lenn ?_ | refine wt_t ?_ | refine wt_t2 ?_ | refine wt_eq ?_ | refine wt_pt ?_ | refine wt_pf ?_ | refine wt_n ?_ | refine wt_u ?_ | refine wt_ixn ?_ ?_ | refine wt_lon ?_ ?_ | refine wt_shl ?_ ?_ | refine wt_shr ?_ ?_ | refine wt_z ?_ | refine wt_gs (fun h1 => ?_) (fun h1 => ?_)) | (refine wl_id ?_; first | with_reducible refine wl_put ?_ | refine wl_nt ?_ | refine wl_nf ?_ | refine wl_ldT ?_ | refine wl_lenn ?_ | refine wl_s ?_ | refine wl_s2 ?_ | refine wl_eq ?_ | refine wl_st ?_ | refine wl_nil ?_ | refine wl_pt ?_ | refine wl_pf ?_ | refine wl_kn ?_ | refine wl_ky ?_ | refine wl_gu ?_ | refine wl_gs (fun h1 => ?_) (fun h1 => ?_) | refine wl_ixn ?_ ?_ | refine wl_lon ?_ ?_ | refine wl_shl ?_ ?_ | refine wl_shr ?_ ?_) | (refine w_id ?_; first | with_reducible refine w_put ?_ | refine w_sregion ?_ | refine w_sdr ?_ | refine w_region ?_ | refine w_dr ?_ | refine w_kt ?_ | refine w_kf ?_ | refine w_cond rfl (fun h => ?_) (fun h => ?_) | refine w_seq ?_ | refine w_block ?_ | refine w_skip ?_ | refine w_exit ?_))
    refine w_ret ⟨.inl rfl, _, [], resVs1, List.nil_sublist _, ?_, rfl⟩
    have hin : i = ks.length := by have := of_decide_eq_false h; rw [svTs_length] at this; omega
    have : fineTs ks = true := by rw [fineTs_all, List.all_eq_true]; intro k hk; exact hf k (by rw [hin, List.take_length]; exact hk)
    unfold fineT
    rw [h1, h2, this]
    rfl
theorem fineS (t : TL) (M : Mem) (h : SizeOf.sizeOf t < 9223372036854775807) : Spec Try.prog 28 [.agg (svT t)] [] M (fun s L' _ => s = .v (.bool (fineT t)) ∧ L' = []) := fineE _ t M (Nat.le_refl _) h
mutual
def depT : TL → Int
  | .mk _ _ _ _ ks => depTs ks 0 + 1
def depTs : List TL → Int → Int
  | [], a => a
  | t :: ts, a => depTs ts (if a < depT t then depT t else a)
end
theorem depTs_step {ks : List TL} {i : Nat} {a : Int} (h : i < ks.length) : depTs (ks.drop i) a = depTs (ks.drop (i + 1)) (if a < depT ks[i] then depT ks[i] else a) := by
  rw [List.drop_eq_getElem_cons h, depTs]
theorem depT_bd : ∀ (n : Nat) (t : TL), SizeOf.sizeOf t ≤ n → 0 ≤ depT t ∧ depT t ≤ n := by
  intro n
  induction n with
  | zero => intro t h; cases t; simp at h
  | succ n ih =>
    intro t h
    obtain ⟨c, g, m, b, ks⟩ := t
    have key : ∀ (l : List TL) (a : Int), (∀ k ∈ l, SizeOf.sizeOf k ≤ n) → 0 ≤ a → a ≤ n → 0 ≤ depTs l a ∧ depTs l a ≤ n := by
      intro l
      induction l with
      | nil => intro a _ h1 h2; rw [depTs]; exact ⟨h1, h2⟩
      | cons k l ihl =>
        intro a hl h1 h2
        rw [depTs]
        have := ih k (hl k List.mem_cons_self)
        refine ihl _ (fun k' h' => hl k' (List.mem_cons_of_mem _ h')) ?_ ?_ <;> split <;> omega
    have := key ks 0 (fun k hk => by have := mem_lt (c := c) (g := g) (m := m) (b := b) hk; omega) (Int.le_refl _) (by omega)
    rw [depT]
    omega
set_option maxHeartbeats 1000000 in
theorem depE : ∀ (n : Nat) (t : TL) (M : Mem), SizeOf.sizeOf t ≤ n → n < 9223372036854775807 → Spec Try.prog 29 [.agg (svT t)] [] M (fun s L' _ => s = .v (.int .i64 (depT t)) ∧ L' = []) := by
  intro n
  induction n with
  | zero => intro t M h; cases t; simp at h
  | succ n ih =>
  intro t M hsz hn
  have hbd := depT_bd _ t hsz
  obtain ⟨c, g, m, b, ks⟩ := t
  have hks := Nat.lt_of_lt_of_le (len_lt (c := c) (g := g) (m := m) (b := b) (ks := ks)) hsz
  rw [depT] at hbd
  refine spec_of [.tmp 2] Try.func29 rfl rfl rfl fun w0 => ?_
  simp only [svT]
  refine w_sregion ?_
  refine wl_bx fun n1 => ?_
  repeat' (first | (refine wt_id ?_; first | with_reducible refine wt_put ?_ | refine wt_ldT ?_ | refine wt_lenn ?_ | refine wt_t ?_ | refine wt_t2 ?_ | refine wt_eq ?_ | refine wt_pt ?_ | refine wt_pf ?_ | refine wt_n ?_ | refine wt_u ?_ | refine wt_ixn ?_ ?_ | refine wt_lon ?_ ?_ | refine wt_shl ?_ ?_ | refine wt_shr ?_ ?_ | refine wt_z ?_ | refine wt_gs (fun h1 => ?_) (fun h1 => ?_)) | (refine wl_id ?_; first | with_reducible refine wl_put ?_ | refine wl_nt ?_ | refine wl_nf ?_ | refine wl_ldT ?_ | refine wl_lenn ?_ | refine wl_s ?_ | refine wl_s2 ?_ | refine wl_eq ?_ | refine wl_st ?_ | refine wl_nil ?_ | refine wl_pt ?_ | refine wl_pf ?_ | refine wl_kn ?_ | refine wl_ky ?_ | refine wl_gu ?_ | refine wl_gs (fun h1 => ?_) (fun h1 => ?_) | refine wl_ixn ?_ ?_ | refine wl_lon ?_ ?_ | refine wl_shl ?_ ?_ | refine wl_shr ?_ ?_) | (refine w_id ?_; first | with_reducible refine w_put ?_ | refine w_sregion ?_ | refine w_sdr ?_ | refine w_region ?_ | refine w_dr ?_ | refine w_kt ?_ | refine w_kf ?_ | refine w_cond rfl (fun h => ?_) (fun h => ?_) | refine w_seq ?_ | refine w_block ?_ | refine w_skip ?_ | refine w_exit ?_))
  refine w_loopS (σ := Nat × Int) (fun s => [(4, .v (.int .i64 s.1)), (3, .v (.int .i64 s.2)), (1, .lp 1 n1 0)]) (fun _ => [.box 1 n1 28 [.v (.int .i64 c), .v (.int .i64 g), .v (.bool m), .sl 1 (bs b), .sl 5 (svTs ks)]]) (fun s _ => s.1 ≤ ks.length ∧ depTs (ks.drop s.1) s.2 = depTs ks 0) (fun s => ks.length - s.1) (0, 0) ⟨rfl, rfl, rfl, trivial⟩ (List.Sublist.refl _) ⟨Nat.zero_le _, rfl⟩ ?_
  rintro ⟨i, a⟩ M3 hle3 ⟨hi, hf⟩
  dsimp only at hi hf ⊢
  repeat' (first | (refine wt_id ?_; first | with_reducible refine wt_put ?_ | refine wt_ldT ?_ | refine wt_lenn ?_ | refine wt_t ?_ | refine wt_t2 ?_ | refine wt_eq ?_ | refine wt_pt ?_ | refine wt_pf ?_ | refine wt_n ?_ | refine wt_u ?_ | refine wt_ixn ?_ ?_ | refine wt_lon ?_ ?_ | refine wt_shl ?_ ?_ | refine wt_shr ?_ ?_ | refine wt_z ?_ | refine wt_gs (fun h1 => ?_) (fun h1 => ?_)) | (refine wl_id ?_; first | with_reducible refine wl_put ?_ | refine wl_nt ?_ | refine wl_nf ?_ | refine wl_ldT ?_ | refine wl_lenn ?_ | refine wl_s ?_ | refine wl_s2 ?_ | refine wl_eq ?_ | refine wl_st ?_ | refine wl_nil ?_ | refine wl_pt ?_ | refine wl_pf ?_ | refine wl_kn ?_ | refine wl_ky ?_ | refine wl_gu ?_ | refine wl_gs (fun h1 => ?_) (fun h1 => ?_) | refine wl_ixn ?_ ?_ | refine wl_lon ?_ ?_ | refine wl_shl ?_ ?_ | refine wl_shr ?_ ?_) | (refine w_id ?_; first | with_reducible refine w_put ?_ | refine w_sregion ?_ | refine w_sdr ?_ | refine w_region ?_ | refine w_dr ?_ | refine w_seq ?_ | refine w_block ?_ | refine w_skip ?_ | refine w_exit ?_))
  refine w_cond rfl (fun h => ?_) (fun h => ?_)
  · have hlt : i < ks.length := by have := of_decide_eq_true h; rw [svTs_length] at this; omega
    have hkm := mem_lt (c := c) (g := g) (m := m) (b := b) (List.getElem_mem hlt)
    rw [depTs_step hlt] at hf
    have hk2 : (svTs ks)[(i : Int).toNat]? = some (svT ks[i]) := by rw [Int.toNat_natCast]; exact svTs_get (List.getElem?_eq_getElem hlt)
    generalize ks[i] = k at hkm hf hk2
    repeat' (first | (refine wt_id ?_; first | with_reducible refine wt_put ?_ | refine wt_ldT ?_ | refine wt_lenn ?_ | refine wt_t ?_ | refine wt_t2 ?_ | refine wt_eq ?_ | refine wt_pt ?_ | refine wt_pf ?_ | refine wt_n ?_ | refine wt_u ?_ | refine wt_ixn ?_ ?_ | refine wt_lon ?_ ?_ | refine wt_shl ?_ ?_ | refine wt_shr ?_ ?_ | refine wt_z ?_ | refine wt_gs (fun h1 => ?_) (fun h1 => ?_)) | (refine wl_id ?_; first | with_reducible refine wl_put ?_ | refine wl_nt ?_ | refine wl_nf ?_ | refine wl_ldT ?_ | refine wl_lenn ?_ | refine wl_s ?_ | refine wl_s2 ?_ | refine wl_eq ?_ | refine wl_st ?_ | refine wl_nil ?_ | refine wl_pt ?_ | refine wl_pf ?_ | refine wl_kn ?_ | refine wl_ky ?_ | refine wl_gu ?_ | refine wl_gs (fun h1 => ?_) (fun h1 => ?_) | refine wl_ixn ?_ ?_ | refine wl_lon ?_ ?_ | refine wl_shl ?_ ?_ | refine wl_shr ?_ ?_) | (refine w_id ?_; first | with_reducible refine w_put ?_ | refine w_sregion ?_ | refine w_sdr ?_ | refine w_region ?_ | refine w_dr ?_ | refine w_kt ?_ | refine w_kf ?_ | refine w_cond rfl (fun h => ?_) (fun h => ?_) | refine w_seq ?_ | refine w_block ?_ | refine w_skip ?_ | refine w_exit ?_))
    refine wl_ix (by omega) hk2 ?_
    repeat' (first | (refine wt_id ?_; first | with_reducible refine wt_put ?_ | refine wt_ldT ?_ | refine wt_lenn ?_ | refine wt_t ?_ | refine wt_t2 ?_ | refine wt_eq ?_ | refine wt_pt ?_ | refine wt_pf ?_ | refine wt_n ?_ | refine wt_u ?_ | refine wt_ixn ?_ ?_ | refine wt_lon ?_ ?_ | refine wt_shl ?_ ?_ | refine wt_shr ?_ ?_ | refine wt_z ?_ | refine wt_gs (fun h1 => ?_) (fun h1 => ?_)) | (refine wl_id ?_; first | with_reducible refine wl_put ?_ | refine wl_nt ?_ | refine wl_nf ?_ | refine wl_ldT ?_ | refine wl_lenn ?_ | refine wl_s ?_ | refine wl_s2 ?_ | refine wl_eq ?_ | refine wl_st ?_ | refine wl_nil ?_ | refine wl_pt ?_ | refine wl_pf ?_ | refine wl_kn ?_ | refine wl_ky ?_ | refine wl_gu ?_ | refine wl_gs (fun h1 => ?_) (fun h1 => ?_) | refine wl_ixn ?_ ?_ | refine wl_lon ?_ ?_ | refine wl_shl ?_ ?_ | refine wl_shr ?_ ?_) | (refine w_id ?_; first | with_reducible refine w_put ?_ | refine w_sregion ?_ | refine w_sdr ?_ | refine w_region ?_ | refine w_dr ?_ | refine w_kt ?_ | refine w_kf ?_ | refine w_cond rfl (fun h => ?_) (fun h => ?_) | refine w_seq ?_ | refine w_block ?_ | refine w_skip ?_ | refine w_exit ?_))
    refine wl_c (ih k _ (by omega) (by omega)) ?_
    rintro _ _ M4 hle4 ⟨rfl, rfl⟩
    have hw : IntKind.i64.wrap ((i : Int) + 1) = ((i + 1 : Nat) : Int) := by rw [IntWalk.i64_in _ (by omega)]; rfl
    repeat' (first | (refine wt_id ?_; first | with_reducible refine wt_put ?_ | refine wt_ldT ?_ | refine wt_lenn ?_ | refine wt_t ?_ | refine wt_t2 ?_ | refine wt_eq ?_ | refine wt_pt ?_ | refine wt_pf ?_ | refine wt_n ?_ | refine wt_u ?_ | refine wt_ixn ?_ ?_ | refine wt_lon ?_ ?_ | refine wt_shl ?_ ?_ | refine wt_shr ?_ ?_ | refine wt_z ?_ | refine wt_gs (fun h1 => ?_) (fun h1 => ?_)) | (refine wl_id ?_; first | with_reducible refine wl_put ?_ | refine wl_nt ?_ | refine wl_nf ?_ | refine wl_ldT ?_ | refine wl_lenn ?_ | refine wl_s ?_ | refine wl_s2 ?_ | refine wl_eq ?_ | refine wl_st ?_ | refine wl_nil ?_ | refine wl_pt ?_ | refine wl_pf ?_ | refine wl_kn ?_ | refine wl_ky ?_ | refine wl_gu ?_ | refine wl_gs (fun h1 => ?_) (fun h1 => ?_) | refine wl_ixn ?_ ?_ | refine wl_lon ?_ ?_ | refine wl_shl ?_ ?_ | refine wl_shr ?_ ?_) | (refine w_id ?_; first | with_reducible refine w_put ?_ | refine w_sregion ?_ | refine w_sdr ?_ | refine w_region ?_ | refine w_dr ?_ | refine w_kt ?_ | refine w_kf ?_ | refine w_cond rfl (fun h => ?_) (fun h => ?_) | refine w_seq ?_ | refine w_block ?_ | refine w_skip ?_ | refine w_exit ?_))
    · rw [hw]
      refine ⟨(i + 1, depT k), by dsimp only; omega, ⟨rfl, rfl, rfl, trivial⟩, List.Sublist.refl _, hle4, by dsimp only; omega, ?_⟩
      rw [if_pos (of_decide_eq_true (by assumption))] at hf
      exact hf
    · rw [hw]
      refine ⟨(i + 1, a), by dsimp only; omega, ⟨rfl, rfl, rfl, trivial⟩, List.Sublist.refl _, hle4, by dsimp only; omega, ?_⟩
      rw [if_neg (of_decide_eq_false (by assumption))] at hf
      exact hf
  · repeat' (first | (refine wt_id ?_; first | with_reducible refine wt_put ?_ | refine wt_ldT ?_ | refine wt_lenn ?_ | refine wt_t ?_ | refine wt_t2 ?_ | refine wt_eq ?_ | refine wt_pt ?_ | refine wt_pf ?_ | refine wt_n ?_ | refine wt_u ?_ | refine wt_ixn ?_ ?_ | refine wt_lon ?_ ?_ | refine wt_shl ?_ ?_ | refine wt_shr ?_ ?_ | refine wt_z ?_ | refine wt_gs (fun h1 => ?_) (fun h1 => ?_)) | (refine wl_id ?_; first | with_reducible refine wl_put ?_ | refine wl_nt ?_ | refine wl_nf ?_ | refine wl_ldT ?_ | refine wl_lenn ?_ | refine wl_s ?_ | refine wl_s2 ?_ | refine wl_eq ?_ | refine wl_st ?_ | refine wl_nil ?_ | refine wl_pt ?_ | refine wl_pf ?_ | refine wl_kn ?_ | refine wl_ky ?_ | refine wl_gu ?_ | refine wl_gs (fun h1 => ?_) (fun h1 => ?_) | refine wl_ixn ?_ ?_ | refine wl_lon ?_ ?_ | refine wl_shl ?_ ?_ | refine wl_shr ?_ ?_) | (refine w_id ?_; first | with_reducible refine w_put ?_ | refine w_sregion ?_ | refine w_sdr ?_ | refine w_region ?_ | refine w_dr ?_ | refine w_kt ?_ | refine w_kf ?_ | refine w_cond rfl (fun h => ?_) (fun h => ?_) | refine w_seq ?_ | refine w_block ?_ | refine w_skip ?_ | refine w_exit ?_))
    have hin : i = ks.length := by have := of_decide_eq_false h; rw [svTs_length] at this; omega
    rw [hin, List.drop_length, depTs] at hf
    refine w_ret ⟨.inl rfl, _, [], resVs1, List.nil_sublist _, ?_, rfl⟩
    rw [depT, ← hf, show IntKind.i64.wrap (a + 1) = a + 1 by rw [IntWalk.i64_in _ (by omega)]]
    rfl
theorem depS (t : TL) (M : Mem) (h : SizeOf.sizeOf t < 9223372036854775807) : Spec Try.prog 29 [.agg (svT t)] [] M (fun s L' _ => s = .v (.int .i64 (depT t)) ∧ L' = []) := depE _ t M (Nat.le_refl _) h
end Go.Eng

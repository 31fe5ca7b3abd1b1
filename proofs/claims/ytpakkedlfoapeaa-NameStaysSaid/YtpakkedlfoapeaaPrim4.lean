/- Walks: prim.arcs. -/
import Derived.Test.YtpakkedlfoapeaaPrim3
namespace Go.Eng
open Go Go.Proofs
set_option maxRecDepth 100000

def arcV (v x : Int) : Int :=
  if (1099511627776 : Int) < IntKind.u64.wrap (BitVec.ofInt IntKind.u64.bits (IntKind.u64.wrap (v * 2 ^ min (Int.toNat 7) IntKind.u64.bits)) ||| BitVec.ofInt IntKind.u64.bits (IntKind.u64.wrap (IntKind.u8.wrap (BitVec.ofInt IntKind.u8.bits x &&& BitVec.ofInt IntKind.u8.bits 127).toNat))).toNat then 1099511627776
  else IntKind.u64.wrap (BitVec.ofInt IntKind.u64.bits (IntKind.u64.wrap (v * 2 ^ min (Int.toNat 7) IntKind.u64.bits)) ||| BitVec.ofInt IntKind.u64.bits (IntKind.u64.wrap (IntKind.u8.wrap (BitVec.ofInt IntKind.u8.bits x &&& BitVec.ofInt IntKind.u8.bits 127).toNat))).toNat
def arcsG : List Int → List Int → Int → Bool → Option (List Int × Bool)
  | [], out, _, b => some (out, b)
  | x :: r, out, v, b => if b = true ∧ x = 128 then none else if x < 128 then arcsG r (out ++ [arcV v x]) 0 true else arcsG r out (arcV v x) false
theorem arcsG_step {xs : List Int} {i : Nat} {out : List Int} {v : Int} {b : Bool} (h : i < xs.length) : arcsG (xs.drop i) out v b =
    if b = true ∧ xs.getD i 0 = 128 then none else if xs.getD i 0 < 128 then arcsG (xs.drop (i + 1)) (out ++ [arcV v (xs.getD i 0)]) 0 true else arcsG (xs.drop (i + 1)) out (arcV v (xs.getD i 0)) false := by
  rw [List.drop_eq_getElem_cons h, arcsG]
  simp [h]
/-- A slice of the call's own, told with its data. -/
def OwnN (T : Nat) (k : IntKind) (s : SV) (L : List Res) (xs : List Int) : Prop := ∃ v, s = .rw v 1 (ns k xs) ∧ L = [.tail v T 1 xs.length]
def arcsQ (xs : List Int) (s : SV) (L : List Res) : Prop := match arcsG xs [] 0 true with
  | none => s = .tup [.v (.slice none 0 0), .v (.bool false)] ∧ L = []
  | some (out, b) => ∃ t, s = .tup [t, .v (.bool (b && decide (0 < out.length)))] ∧ OwnN 63 .u64 t L out
theorem arcsS (xs : List Int) (M : Mem) (hn : xs.length ≤ 17592186044415) : Spec Try.prog 23 [.sl 1 (bs xs)] [] M (fun s L' _ => arcsQ xs s L') := by
  refine spec_of [.tmp 2, .tmp 3] Try.func23 rfl rfl rfl fun w0 => ?_
  repeat' (first | refine wl_lenn ?_ | refine wl_s ?_ | refine wl_nil ?_ | refine w_sregion ?_ | refine w_seq ?_ | refine w_block ?_)
  refine w_nilrw (i := 4) 63 1 rfl ?_
  refine w_loopE (σ := Nat × List Int × Int × Bool × Value) (fun s => [(11, .v (.int .i64 s.1)), (10, .v (.int .i64 xs.length)), (9, .sl 1 (bs xs)), (4, .rw s.2.2.2.2 1 (ns .u64 s.2.1)), (5, .v (.int .u64 s.2.2.1)), (6, .v (.bool s.2.2.2.1))]) (fun s => [.tail s.2.2.2.2 63 1 s.2.1.length])
    (fun s _ => s.1 ≤ xs.length ∧ s.2.1.length ≤ s.1 ∧ arcsG (xs.drop s.1) s.2.1 s.2.2.1 s.2.2.2.1 = arcsG xs [] 0 true) (fun s => xs.length - s.1) (0, [], 0, true, .slice none 0 0) ⟨rfl, rfl, rfl, rfl, rfl, rfl, trivial⟩ rfl ⟨Nat.zero_le _, Nat.zero_le _, rfl⟩ ?_
  rintro ⟨i, out, v, b, x⟩ M1 hle1 ⟨hi, ho, hg⟩
  dsimp only at hi ho hg ⊢
  repeat' (first | refine wl_lenn ?_ | refine wl_s ?_ | refine wl_nil ?_ | refine wl_pt ?_ | refine wl_pf ?_ | refine wl_kn ?_ | refine wl_ky ?_ | refine wl_gu ?_ | refine wl_gs (fun h1 => ?_) (fun h1 => ?_) | refine wl_ixn ?_ ?_ | refine w_sregion ?_ | refine w_region ?_ | refine w_kt ?_ | refine w_kf ?_ | refine w_cond rfl (fun h => ?_) (fun h => ?_) | refine w_seq ?_ | refine w_block ?_ | refine w_skip ?_ | refine w_exit ?_)
  all_goals simp only [decide_eq_true_eq, decide_eq_false_iff_not, Int.toNat_natCast] at *
  all_goals first
    | (refine ⟨by omega, ?_⟩; omega)
    | skip
  all_goals by_cases hlt : i < xs.length
  all_goals first
    | (exfalso; omega)
    | skip
  all_goals have hw : i < xs.length → IntKind.i64.wrap ((i : Int) + 1) = ((i + 1 : Nat) : Int) := fun hlt => by rw [IntWalk.i64_in _ (by omega)]; rfl
  all_goals first
    | (have hie : i = xs.length := by omega
       subst hie
       rw [List.drop_length, arcsG] at hg
       repeat' (first | refine wl_s ?_ | refine wl_nil ?_ | refine w_sregion ?_)
       refine w_ret ⟨.inl rfl, _, _, resVs2, List.Sublist.refl _, ?_⟩
       show arcsQ _ _ _
       rw [arcsQ, ← hg]
       subst h1
       refine ⟨_, ?_, x, rfl, rfl⟩
       first | rfl | simp [packSV, ns_length, ofVal])
    | (rw [arcsG_step hlt, if_pos (by constructor <;> assumption)] at hg
       refine w_ret ⟨.inl rfl, _, [], resVs2, List.nil_sublist _, ?_⟩
       show arcsQ _ _ _
       rw [arcsQ, ← hg]; exact ⟨rfl, rfl⟩)
    | skip
  all_goals rw [arcsG_step hlt, if_neg (by rintro ⟨_, _⟩; simp_all)] at hg
  all_goals first
    | (rw [if_neg (by assumption)] at hg
       repeat' (first | refine wl_s ?_ | refine wl_nil ?_ | refine w_sregion ?_ | refine w_region ?_)
       rw [hw hlt]
       exact ⟨(i + 1, out, arcV v (xs.getD i 0), decide (xs.getD i 0 < 128), x), by dsimp only; omega, ⟨rfl, rfl, rfl, rfl, rfl, rfl, trivial⟩, rfl, Mem.le.refl _, by dsimp only; omega, by dsimp only; omega, by dsimp only; rw [decide_eq_false h]; exact hg⟩)
    | skip
  all_goals rw [if_pos (by assumption)] at hg
  all_goals refine wl_bl fun M2 hle2 => ?_
  all_goals refine wl_ap 0 ?_ ?_ ?_ fun v3 M3 hle3 => ?_
  all_goals first
    | (show (out.length + 1) * 8 ≤ _; omega)
    | (show out.length + 1 ≤ _; omega)
    | (exact ns_length _ _)
    | skip
  all_goals repeat' (first | refine wl_s ?_ | refine wl_nil ?_ | refine w_sregion ?_ | refine w_region ?_)
  all_goals rw [hw hlt]
  all_goals refine ⟨(i + 1, out ++ [arcV v (xs.getD i 0)], 0, decide (xs.getD i 0 < 128), v3), by dsimp only; omega, ⟨rfl, rfl, rfl, ?_, rfl, rfl, trivial⟩, ?_, hle2.trans hle3, by dsimp only; omega, by dsimp only; simp only [List.length_append, List.length_cons, List.length_nil]; omega, by dsimp only; rw [decide_eq_true h]; exact hg⟩
  all_goals first
    | (rw [← ns_append]; rfl)
    | (show [Res.tail v3 63 1 (out.length + 1)] = [Res.tail v3 63 1 (out ++ [arcV v (xs.getD i 0)]).length]; rw [List.length_append]; rfl)
end Go.Eng

/- What stays of a device whatever is done. -/
import Derived.Test.YtpakkedlfoapeaaDoorDev7
namespace Go.Eng
open Go Go.Proofs
set_option maxRecDepth 100000
/-- What the law asks of a device of n bytes: when it is off, its memory is all 0; its fuses are a word. -/
structure Inv (n : Nat) (d : Dv) : Prop where
  len : d.ram.length = n
  dark : d.off = true → d.ram = zeros n
  fu : ∃ b : BitVec 64, d.fu = (b.toNat : Nat)
/-- No fuse goes back. -/
def Up (f g : Int) : Prop := ∃ a b : BitVec 64, f = (a.toNat : Nat) ∧ g = (b.toNat : Nat) ∧ b &&& a = a
theorem up_refl {n : Nat} {d : Dv} (h : Inv n d) : Up d.fu d.fu := by
  obtain ⟨b, hb⟩ := h.fu
  exact ⟨b, b, hb, hb, BitVec.and_self⟩
theorem ofInt_toNat (b : BitVec 64) : BitVec.ofInt 64 ((b.toNat : Nat) : Int) = b := by rw [BitVec.ofInt_natCast, BitVec.ofNat_toNat, BitVec.setWidth_eq]
theorem wrap_toNat (b : BitVec 64) : IntKind.u64.wrap ((b.toNat : Nat) : Int) = (b.toNat : Nat) := by
  have := b.isLt
  exact IntWalk.u64_in _ (by omega)
theorem up_eq {f g : Int} (h : Up f g) : IntKind.u64.wrap ((BitVec.ofInt IntKind.u64.bits g &&& BitVec.ofInt IntKind.u64.bits f).toNat : Nat) = f := by
  obtain ⟨a, b, rfl, rfl, h⟩ := h
  show IntKind.u64.wrap ((BitVec.ofInt 64 _ &&& BitVec.ofInt 64 _).toNat : Nat) = _
  rw [ofInt_toNat, ofInt_toNat, h, wrap_toNat]
theorem step_fu (d : Dv) : (stepD d).1.fu = d.fu := by unfold stepD; split; rfl; split <;> rfl
theorem inv_step {n : Nat} {d : Dv} (h : Inv n d) : Inv n (stepD d).1 := by
  refine ⟨(step_ram d).trans h.len, ?_, by rw [step_fu]; exact h.fu⟩
  unfold stepD
  split
  · exact h.dark
  · split
    · intro _; show zeros d.ram.length = _; rw [h.len]
    · exact h.dark
theorem step_on {d : Dv} (h : (stepD d).2 = true) : (stepD d).1.off = d.off := by
  unfold stepD at h ⊢
  split
  · rfl
  · split
    · rename_i h1 h2; rw [if_neg h1, if_pos h2] at h; cases h
    · rfl
theorem inv_wr {n : Nat} : ∀ (k : Nat) (d : Dv) (q : Nat) (b : List Int), Inv n d → d.off = false → q + b.length ≤ n → Inv n (wrD k d q b).1 ∧ (wrD k d q b).1.fu = d.fu
  | 0, d, q, b, h, _, _ => ⟨h, rfl⟩
  | k + 1, d, q, b, h, ho, hq => by
    rw [wrD]
    split
    · exact ⟨h, rfl⟩
    split
    · rename_i _ hs
      have h1 := inv_step h
      have hc := chunk_le b
      have hx : (b.take (chunk b)).length = chunk b := by rw [List.length_take]; omega
      have hcr := copy_ram (d := (stepD d).1) (p := q) (xs := b.take (chunk b)) (by rw [hx, h1.len]; omega)
      have hoff : (copyD (stepD d).1 q (b.take (chunk b))).off = false := (step_on hs).trans ho
      have hi : Inv n (copyD (stepD d).1 q (b.take (chunk b))) := ⟨hcr.trans h1.len, fun h => (by rw [hoff] at h; cases h), h1.fu⟩
      obtain ⟨g1, g2⟩ := inv_wr k _ (q + chunk b) (b.drop (chunk b)) hi hoff (by rw [List.length_drop]; omega)
      exact ⟨g1, g2.trans (step_fu d)⟩
    · exact ⟨inv_step h, step_fu d⟩
theorem inv_write {n : Nat} {d : Dv} (p : Int) (b : List Int) (h : Inv n d) : Inv n (writeD d p b).1 ∧ (writeD d p b).1.fu = d.fu := by
  unfold writeD
  split
  · exact ⟨h, rfl⟩
  rename_i ho
  split
  · exact ⟨h, rfl⟩
  rename_i hp
  refine inv_wr _ _ _ _ h (by simpa using ho) ?_
  have := h.len
  omega
theorem inv_burn {n : Nat} {d : Dv} (i : Int) (h : Inv n d) : Inv n (burnD d i).1 ∧ Up d.fu (burnD d i).1.fu := by
  unfold burnD
  split
  · exact ⟨h, up_refl h⟩
  split
  · exact ⟨h, up_refl h⟩
  split
  · have h1 := inv_step h
    obtain ⟨b, hb⟩ := h.fu
    have hb1 := (step_fu d).trans hb
    refine ⟨⟨h1.len, h1.dark, _, by dsimp only; rw [wrap_toNat]⟩, b, _, hb, by dsimp only; rw [wrap_toNat], ?_⟩
    rw [hb1, ofInt_toNat]
    ext i hi
    simp only [BitVec.getElem_and, BitVec.getElem_or]
    cases b[i] <;> simp
  · have h1 := inv_step h
    refine ⟨h1, ?_⟩
    dsimp only
    rw [step_fu]
    exact up_refl h
theorem inv_cut {n : Nat} {d : Dv} (i : Int) (h : Inv n d) : Inv n (cutD d i).1 ∧ (cutD d i).1.fu = d.fu := by
  unfold cutD
  split
  · exact ⟨h, rfl⟩
  split
  · exact ⟨h, rfl⟩
  · exact ⟨⟨h.len, h.dark, h.fu⟩, rfl⟩
theorem inv_power {n : Nat} {d : Dv} (h : Inv n d) : Inv n (powerD d) ∧ (powerD d).fu = d.fu := by
  unfold powerD
  split
  · exact ⟨⟨h.len, fun h => (by cases h), h.fu⟩, rfl⟩
  · exact ⟨h, rfl⟩
theorem inv_flash {n : Nat} {d : Dv} (i : Int) (b : List Int) (h : Inv n d) : Inv n (flashD d i b).1 ∧ (flashD d i b).1.fu = d.fu := by
  unfold flashD
  split
  · split
    · exact ⟨h, rfl⟩
    · split
      · exact ⟨⟨h.len, h.dark, h.fu⟩, rfl⟩
      · exact ⟨⟨h.len, h.dark, h.fu⟩, rfl⟩
  · exact ⟨h, rfl⟩
theorem inv_new (ram : Int) : Inv ram.toNat (newD ram [] []) := ⟨zeros_length _, fun h => (by cases h), 0, rfl⟩
theorem pick_range {c : Int} (h1 : -9223372036854775808 ≤ c) (h2 : c ≤ 9223372036854775807) : 0 ≤ pickN c 200 ∧ pickN c 200 < 200 := by
  unfold pickN
  have h : 0 ≤ (if c < 0 then IntKind.i64.wrap (0 - IntKind.i64.wrap (c + 1)) else c) := by
    split
    · rw [IntWalk.i64_in (c + 1) (by omega), IntWalk.i64_in _ (by omega)]; omega
    · omega
  exact ⟨Int.tmod_nonneg _ h, Int.tmod_lt_of_pos _ (by decide)⟩
def dd (s : List (Int × Int × List Int)) : List (List SV) := s.map fun x => [.v (.int .i64 x.1), .v (.int .i64 x.2.1), .sl 1 (bs x.2.2)]
theorem dd_length (s : List (Int × Int × List Int)) : (dd s).length = s.length := List.length_map _
end Go.Eng

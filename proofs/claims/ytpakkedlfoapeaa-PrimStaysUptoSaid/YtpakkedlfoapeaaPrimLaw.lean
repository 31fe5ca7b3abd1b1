/- The law escutcheonlaw13.PrimStays returns true and leaves its arguments as they read, where they hold together at most 1048576 values and letters. Conditions: the row's own (its second form's bound), no other. -/
import Derived.Test.YtpakkedlfoapeaaRows
import Derived.Test.YtpakkedlfoapeaaPrim9
import Derived.ProofKit
import Derived.OpenShut
import Derived.JoinedCond
namespace Go.Proofs.Ytpakkedlfoapeaa.lawPrimStays
open Go Go.ChangeShapes Go.WideShapes Go.ChangeAt Go.RowKit
set_option maxRecDepth 100000

theorem own : ownKnob Try.prog.godebug = none := by kernel_rfl
theorem one_le {H : Type} (d : DataW H) : 1 ≤ Rows.uptoBulk d := by
  cases d with
  | lit l => cases l <;> simp [Rows.uptoBulk]
  | _ => simp [Rows.uptoBulk]
theorem len_le {H : Type} : ∀ l : List (DataW H), l.length ≤ Rows.uptoBulkAll l
  | [] => by simp [Rows.uptoBulkAll]
  | x :: r => by have := one_le x; have := len_le r; simp only [Rows.uptoBulkAll, List.length_cons]; omega
theorem part_le {H : Type} : ∀ {l : List (DataW H)} {d : DataW H}, d ∈ l → Rows.uptoBulk d ≤ Rows.uptoBulkAll l
  | x :: r, d, h => by
    simp only [Rows.uptoBulkAll]
    rcases List.mem_cons.1 h with rfl | h
    · omega
    · have := part_le h; omega
theorem bulk (H : Type) : Go.Eng.Bulk (H := H) Rows.uptoBulk where
  str l := by simp only [Rows.uptoBulk]; omega
  len es rest := by have := len_le es; simp only [Rows.uptoBulk]; omega
  el es rest d h := by have := part_le h; simp only [Rows.uptoBulk]; omega
  part ps d h := by have := part_le h; simp only [Rows.uptoBulk]; omega

theorem contract (H : Type) (enc : TypeId × Value → H) (W : World) (base : Nat) (args : Array Value) (ds gs : List (DataW H)) (before : List MemPlace)
    (hval : ∀ (j : Nat) t v, Try.f4.params[j]? = some t → args[j]? = some v → Value.okWide Try.prog W .any base t v)
    (hW : DataW.Whole enc Try.prog Try.f4.params.toList Rows.primStaysSpec.vars false W args.toList ds gs before) (hk : Rows.uptoSmall H (ds ++ gs) = true) :
    Calls Try.prog 4 args W fun e W' => ∃ v, e = .returned v ∧ Rows.primStaysSpec.post enc Try.prog Try.f4 false true false false W args v W' := by
  have hds : ∃ d1 d2, ds = [d1, d2] ∧ gs = [] := by
    obtain ⟨p, q, hA, hV, _⟩ := hW
    obtain ⟨rfl, _⟩ := trodVars_none hV
    have := Go.Eng.trodAll_len hA
    rw [Try.params4] at this
    match ds, this with
    | [d1, d2], _ => exact ⟨d1, d2, rfl, rfl⟩
  obtain ⟨d1, d2, rfl, rfl⟩ := hds
  have hb : Rows.uptoBulkAll [d1, d2] ≤ 1048576 := of_decide_eq_true hk
  refine Go.Eng.law_calls (bulk H) 3 1048576 (by kernel_rfl) (tb := 4) (by kernel_rfl) Try.underlying4 rfl (by kernel_rfl) rfl hval hW (fun d hd => by have := part_le hd; omega) ?_
  intro sss h
  rw [Try.params4] at h ⊢
  obtain ⟨s1, _, rfl, h1, s2, _, rfl, h2, rfl⟩ := h
  obtain ⟨xs, rfl, hx, _⟩ := Go.Eng.shp_ints Try.underlying25 Try.underlying5 (by kernel_rfl) h1
  obtain ⟨l, rfl, hl, _⟩ := Go.Eng.shp_ints Try.underlying40 Try.underlying63 (by kernel_rfl) h2
  have e : Go.Eng.argSVs Try.prog #[25, 40].toList [[.sl 1 (Go.Eng.ns .u8 xs)], [.sl 1 (Go.Eng.ns .u64 l)]] = [.sl 1 (Go.Eng.bs xs), .sl 1 (Go.Eng.ns .u64 l)] := by
    simp [Go.Eng.argSVs, Go.Eng.argSV, Try.underlying25, Try.underlying40]
  rw [e]
  exact Go.Eng.primStaysS xs l _ hx hl

theorem lifted (os : Os) (started : os.Started) (H : Type) (enc : TypeId × Value → H) (F : Stop.Interp) :
    ReturnsInHanded {} Try.checked os 4 .any ((Rows.OpenSpec.upto Rows.primStaysSpec).pre6 enc Try.prog Try.f4 Rows.primStaysUptoRow.domain false) (((Rows.OpenSpec.upto Rows.primStaysSpec).at F).post enc Try.prog Try.f4 false true false false) := by
  refine returnsInHanded_of_cond (C := Try.checked) (s := Rows.OpenSpec.upto Rows.primStaysSpec) (k := Rows.uptoSmall) rfl own started (by kernel_rfl) Try.func4
    (OpenSpec.witness (enc := enc) (C := Try.checked) (s := Rows.OpenSpec.upto Rows.primStaysSpec) (k := Rows.uptoSmall) rfl false ⟨#[], #[.slice none 0 0, .slice none 0 0], []⟩ 8 (by kernel_rfl) (by kernel_rfl) (by kernel_rfl)
      (x := ([.nil, .nil], [], [])) (by kernel_rfl) rfl (by kernel_rfl)) ?_
  intro W base args ds gs before hval hW _ hk _
  exact contract H enc W base args ds gs before hval hW hk
theorem over : Rows.primStaysUptoRow.holds Try.pinned (Rows.OpenSpec.upto Rows.primStaysSpec) :=
  OpenClaim.holds_of_cond 4 Try.f4 rfl rfl rfl rfl rfl rfl rfl ⟨rfl, rfl, rfl, rfl, rfl⟩ rfl rfl rfl rfl rfl (by kernel_rfl) Try.func4 (by kernel_rfl)
    (of_decide_eq_true (by kernel_rfl)) (by unfold Func.isWrapper; first | (rw [if_pos (by decide +kernel)]; kernel_rfl) | (rw [if_neg (by decide +kernel)]; exact ⟨rfl, rfl⟩))
    (fun os started H enc _ F => lifted os started H enc F)
theorem proved : Rows.PrimStaysUptoSaid :=
  over
end Go.Proofs.Ytpakkedlfoapeaa.lawPrimStays

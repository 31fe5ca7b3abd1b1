/- The law escutcheonlaw16.NameStays returns true and leaves its argument as it reads, whatever the input. -/
import Derived.Test.YtpakkedlfoapeaaRows
import Derived.Test.YtpakkedlfoapeaaName8
import Derived.ProofKit
import Derived.OpenShut
import Derived.JoinedCond
namespace Go.Proofs.Ytpakkedlfoapeaa.lawNameStays
open Go Go.ChangeShapes Go.WideShapes Go.ChangeAt Go.RowKit
set_option maxRecDepth 100000

theorem own : ownKnob Try.prog.godebug = none := by kernel_rfl
theorem one_le {H : Type} (d : DataW H) : 1 ≤ Rows.uptoBulk d := by
  cases d with
  | lit l => cases l <;> simp [Rows.uptoBulk]
  | _ => simp [Rows.uptoBulk]
theorem len_le {H : Type} : ∀ l : List (DataW H), l.length ≤ Rows.uptoBulkAll l
  | [] => by simp [Rows.uptoBulkAll]
  | x :: r => by have := one_le x; have := len_le r; simp only [Rows.uptoBulkAll, List.length_cons]; omega
theorem part_le {H : Type} : ∀ {l : List (DataW H)} {d : DataW H}, d ∈ l → Rows.uptoBulk d ≤ Rows.uptoBulkAll l
  | x :: r, d, h => by
    simp only [Rows.uptoBulkAll]
    rcases List.mem_cons.1 h with rfl | h
    · omega
    · have := part_le h; omega
theorem bulk (H : Type) : Go.Eng.Bulk (H := H) Rows.uptoBulk where
  str l := by simp only [Rows.uptoBulk]; omega
  len es rest := by have := len_le es; simp only [Rows.uptoBulk]; omega
  el es rest d h := by have := part_le h; simp only [Rows.uptoBulk]; omega
  part ps d h := by have := part_le h; simp only [Rows.uptoBulk]; omega

theorem parts {B : Nat} : ∀ {es : List (List Go.Eng.SV)}, (∀ c ∈ es, ∃ p : Int × ByteArray, c = [.v (.int .i64 p.1), .v (.string p.2)] ∧ p.2.size ≤ B) → ∃ n : List (Int × ByteArray), es = Go.Eng.nm n ∧ ∀ p ∈ n, p.2.size ≤ B
  | [], _ => ⟨[], rfl, by simp⟩
  | e :: es, h => by
    obtain ⟨p, rfl, hp⟩ := h e List.mem_cons_self
    obtain ⟨n, rfl, hn⟩ := parts (es := es) (fun c hc => h c (List.mem_cons_of_mem _ hc))
    refine ⟨p :: n, rfl, fun q hq => ?_⟩
    rcases List.mem_cons.1 hq with rfl | hq
    · exact hp
    · exact hn q hq
theorem contract (H : Type) (enc : TypeId × Value → H) (W : World) (base : Nat) (args : Array Value) (ds gs : List (DataW H)) (before : List MemPlace)
    (hval : ∀ (j : Nat) t v, Try.f3.params[j]? = some t → args[j]? = some v → Value.okWide Try.prog W .any base t v)
    (hW : DataW.Whole enc Try.prog Try.f3.params.toList Rows.nameStaysSpec.vars false W args.toList ds gs before) :
    Calls Try.prog 3 args W fun e W' => ∃ v, e = .returned v ∧ Rows.nameStaysSpec.post enc Try.prog Try.f3 false true false false W args v W' := by
  have hds : ∃ d1, ds = [d1] ∧ gs = [] := by
    obtain ⟨p, q, hA, hV, _⟩ := hW
    obtain ⟨rfl, _⟩ := trodVars_none hV
    have := Go.Eng.trodAll_len hA
    rw [Try.params3] at this
    match ds, this with
    | [d1], _ => exact ⟨d1, rfl, rfl⟩
  obtain ⟨d1, rfl, rfl⟩ := hds
  refine Go.Eng.law_calls (bulk H) 3 maxLen (by kernel_rfl) (tb := 4) (by kernel_rfl) Try.underlying4 rfl (by kernel_rfl) rfl hval hW (fun d hd => Nat.min_le_left _ _) ?_
  intro sss h
  rw [Try.params3] at h ⊢
  obtain ⟨s1, _, rfl, h1, rfl⟩ := h
  obtain ⟨es, rfl, hl, hes⟩ := Go.Eng.shp_slice Try.underlying23 h1
  obtain ⟨n, rfl, hn⟩ := parts (es := es) (B := maxLen) fun c hc => by
    obtain ⟨a1, _, rfl, ha, a2, _, rfl, hb, rfl⟩ := Go.Eng.shp_struct Try.underlying35 (hes c hc)
    obtain ⟨z, rfl, _⟩ := Go.Eng.shp_int Try.underlying3 ha
    obtain ⟨s, rfl, hs⟩ := Go.Eng.shp_str Try.underlying9 hb
    exact ⟨(z, s), rfl, hs⟩
  have e : Go.Eng.argSVs Try.prog #[23].toList [[.sl (Try.prog.cellsOf 35) (Go.Eng.nm n)]] = [.sl 2 (Go.Eng.nm n)] := by
    rw [show Try.prog.cellsOf 35 = 2 by kernel_rfl]
    simp [Go.Eng.argSVs, Go.Eng.argSV, Try.underlying23]
  rw [e]
  exact Go.Eng.nameStaysS n _ hn

theorem lifted (os : Os) (started : os.Started) (H : Type) (enc : TypeId × Value → H) :
    ReturnsInHanded {} Try.checked os 3 .any (Rows.nameStaysSpec.pre6 enc Try.prog Try.f3 Rows.nameStaysRow.domain false) (Rows.nameStaysSpec.post enc Try.prog Try.f3 false true false false) := by
  refine returnsInHanded_of_change (C := Try.checked) (s := Rows.nameStaysSpec) own started (by kernel_rfl) Try.func3
    (ChangeSpec.witness6 (enc := enc) (C := Try.checked) (s := Rows.nameStaysSpec) false ⟨#[], #[.slice none 0 0], []⟩ 8 (by kernel_rfl) (by kernel_rfl) (by kernel_rfl) (by kernel_rfl)) ?_
  intro W base args ds gs before hval hW _ _
  exact contract H enc W base args ds gs before hval hW
theorem proved : Rows.NameStaysSaid :=
  OpenClaim.holds_of_wide 3 Try.f3 rfl rfl rfl rfl rfl rfl rfl ⟨rfl, rfl, rfl, rfl, rfl⟩ rfl rfl rfl rfl rfl (by kernel_rfl) Try.func3 (by kernel_rfl)
    (of_decide_eq_true (by kernel_rfl)) (by unfold Func.isWrapper; first | (rw [if_pos (by decide +kernel)]; kernel_rfl) | (rw [if_neg (by decide +kernel)]; exact ⟨rfl, rfl⟩))
    (fun os started H enc _ => lifted os started H enc)
end Go.Proofs.Ytpakkedlfoapeaa.lawNameStays

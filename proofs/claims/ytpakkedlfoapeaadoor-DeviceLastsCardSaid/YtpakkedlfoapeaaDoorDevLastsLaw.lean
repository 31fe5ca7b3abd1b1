/- The law escutcheonlaw21.DeviceLasts returns true and leaves its arguments as they read, whatever the input; the card. -/
import Derived.Test.YtpakkedlfoapeaaDoorCards
import Derived.Test.YtpakkedlfoapeaaDoorTie
import Derived.Test.YtpakkedlfoapeaaDoorDev9
import Derived.ProofKit
import Derived.OpenShut
import Derived.Deep.DeepHandedRow
import Derived.Lib.LaidTab
namespace Go.Proofs.YtpakkedlfoapeaaDoor.lawDeviceLasts
open Go Go.ChangeShapes Go.WideShapes Go.ChangeAt Go.RowKit
set_option maxRecDepth 100000

theorem own : ownKnob Tryd.prog.godebug = none := by kernel_rfl
theorem gTab : Tryd.prog.globalNamed "math/bits.deBruijn64tab" = some 0 := by kernel_rfl
theorem gTabType : (Tryd.prog.globals[0]?).map (·.type) = some 50 := by kernel_rfl
theorem cellsT : Tryd.prog.cellsOf 50 = 64 := by kernel_rfl
theorem cells1 : Tryd.prog.cellsOf 5 = 1 := by kernel_rfl
theorem one_le {H : Type} (d : DataW H) : 1 ≤ Rows.uptoBulk d := by
  cases d with
  | lit l => cases l <;> simp [Rows.uptoBulk]
  | _ => simp [Rows.uptoBulk]
theorem len_le {H : Type} : ∀ l : List (DataW H), l.length ≤ Rows.uptoBulkAll l
  | [] => by simp [Rows.uptoBulkAll]
  | x :: r => by have := one_le x; have := len_le r; simp only [Rows.uptoBulkAll, List.length_cons]; omega
theorem part_le {H : Type} : ∀ {l : List (DataW H)} {d : DataW H}, d ∈ l → Rows.uptoBulk d ≤ Rows.uptoBulkAll l
  | x :: r, d, h => by
    simp only [Rows.uptoBulkAll]
    rcases List.mem_cons.1 h with rfl | h
    · omega
    · have := part_le h; omega
theorem bulk (H : Type) : Go.Eng.Bulk (H := H) Rows.uptoBulk where
  str l := by simp only [Rows.uptoBulk]; omega
  len es rest := by have := len_le es; simp only [Rows.uptoBulk]; omega
  el es rest d h := by have := part_le h; simp only [Rows.uptoBulk]; omega
  part ps d h := by have := part_le h; simp only [Rows.uptoBulk]; omega

/-- What the row's list gives: the table's cells hold its numbers. -/
theorem table {W : World} (h : laidMetH Tryd.prog Rows.deviceLastsRow.laid W) : Lib.TabIs Tryd.prog W "math/bits.deBruijn64tab" .u8 Go.Eng.tab64 :=
  Lib.tabIs_of_head (rest := []) gTab gTabType Tryd.underlying50 Tryd.underlying5 cells1 cellsT h
theorem cellsAt_of {M : Go.Eng.Mem} {b : Nat} : ∀ (zs : List Int) (o : Nat), (∀ i z, zs[i]? = some z → M b (o + i) = some (.int .u8 z)) → Go.Eng.SV.cellsAt M (zs.map fun z => .v (.int .u8 z)) b o
  | [], _, _ => by simp only [List.map_nil, Go.Eng.SV.cellsAt]
  | z :: zs, o, h => by
    simp only [List.map_cons, Go.Eng.SV.cellsAt]
    refine ⟨⟨_, h 0 z rfl, Go.Eng.rel_v.2 rfl⟩, cellsAt_of zs (o + 1) fun i y e => ?_⟩
    rw [show o + 1 + i = o + (i + 1) by omega]
    exact h (i + 1) y e
theorem cellsTab {W : World} (h : laidMetH Tryd.prog Rows.deviceLastsRow.laid W) : Go.Eng.SV.cellsAt (Go.Eng.memOf W) Go.Eng.tabSV 0 0 := by
  refine cellsAt_of Go.Eng.tab64 0 fun i z e => ?_
  have hc := (table h).cell gTab i (List.getElem?_eq_some_iff.1 e).1
  rw [List.getD_eq_getElem?_getD, e, Option.getD_some] at hc
  rw [Nat.zero_add]
  unfold Go.Eng.memOf
  rw [hc]
  rfl
theorem deeds : ∀ {es : List (List Go.Eng.SV)}, (∀ c ∈ es, ∃ x : Int × Int × List Int, c = [.v (.int .i64 x.1), .v (.int .i64 x.2.1), .sl 1 (Go.Eng.bs x.2.2)]) → ∃ n : List (Int × Int × List Int), es = Go.Eng.dd n
  | [], _ => ⟨[], rfl⟩
  | e :: es, h => by
    obtain ⟨p, rfl⟩ := h e List.mem_cons_self
    obtain ⟨n, rfl⟩ := deeds (es := es) (fun c hc => h c (List.mem_cons_of_mem _ hc))
    exact ⟨p :: n, rfl⟩
theorem range64 {x : Int} (h : (Lit.int .i64 x).wf = true) : -9223372036854775808 ≤ x ∧ x ≤ 9223372036854775807 := by
  simp only [Lit.wf, Bool.and_eq_true, decide_eq_true_eq] at h
  have h1 : IntKind.i64.min = -9223372036854775808 := by decide
  have h2 : IntKind.i64.max = 9223372036854775807 := by decide
  omega
theorem contract (H : Type) (enc : TypeId × Value → H) (W : World) (base : Nat) (args : Array Value) (ds gs : List (DataW H)) (before : List MemPlace)
    (hval : ∀ (j : Nat) t v, Tryd.f3.params[j]? = some t → args[j]? = some v → Value.okWide Tryd.prog W .any base t v)
    (hW : DataW.Whole enc Tryd.prog Tryd.f3.params.toList Rows.deviceLastsSpec.vars false W args.toList ds gs before) (hL : laidMetH Tryd.prog Rows.deviceLastsRow.laid W) :
    Calls Tryd.prog 3 args W fun e W' => ∃ v, e = .returned v ∧ Rows.deviceLastsSpec.post enc Tryd.prog Tryd.f3 false true false false W args v W' := by
  have hds : ∃ d1 d2, ds = [d1, d2] ∧ gs = [] := by
    obtain ⟨p, q, hA, hV, _⟩ := hW
    obtain ⟨rfl, _⟩ := trodVars_none hV
    have := Go.Eng.trodAll_len hA
    rw [Tryd.params3] at this
    match ds, this with
    | [d1, d2], _ => exact ⟨d1, d2, rfl, rfl⟩
  obtain ⟨d1, d2, rfl, rfl⟩ := hds
  refine Go.Eng.law_calls (bulk H) 5 maxLen (by kernel_rfl) (tb := 4) (by kernel_rfl) Tryd.underlying4 rfl (by kernel_rfl) rfl hval hW (fun d hd => Nat.min_le_left _ _) ?_
  intro sss h
  rw [Tryd.params3] at h ⊢
  obtain ⟨s1, _, rfl, h1, s2, _, rfl, h2, rfl⟩ := h
  obtain ⟨x, rfl, hx⟩ := Go.Eng.shp_int Tryd.underlying3 h1
  obtain ⟨es, rfl, _, hes⟩ := Go.Eng.shp_slice Tryd.underlying22 h2
  obtain ⟨n, rfl⟩ := deeds (es := es) fun c hc => by
    obtain ⟨a1, _, rfl, ha, a2, _, rfl, hb, a3, _, rfl, hc3, rfl⟩ := Go.Eng.shp_struct Tryd.underlying33 (hes c hc)
    obtain ⟨y, rfl, _⟩ := Go.Eng.shp_int Tryd.underlying3 ha
    obtain ⟨z, rfl, _⟩ := Go.Eng.shp_int Tryd.underlying3 hb
    obtain ⟨bs, rfl, _⟩ := Go.Eng.shp_ints Tryd.underlying31 Tryd.underlying5 (by kernel_rfl) hc3
    exact ⟨(y, z, bs), rfl⟩
  have e : Go.Eng.argSVs Tryd.prog #[3, 22].toList [[.v (.int .i64 x)], [.sl (Tryd.prog.cellsOf 33) (Go.Eng.dd n)]] = [.v (.int .i64 x), .sl 3 (Go.Eng.dd n)] := by
    rw [show Tryd.prog.cellsOf 33 = 3 by kernel_rfl]
    simp [Go.Eng.argSVs, Go.Eng.argSV, Tryd.underlying3, Tryd.underlying22]
  rw [e]
  have hr : -9223372036854775808 ≤ x ∧ x ≤ 9223372036854775807 := range64 hx
  exact Go.Eng.deviceLastsS x n _ (cellsTab hL) hr.1 hr.2

/-- A world for the witness: the settled one, the table (block 0) holding its numbers. -/
noncomputable def laidWorld (os : Os) : World :=
  { World.holding Tryd.prog os ⟨#[], #[], []⟩ with heap := (World.holding Tryd.prog os ⟨#[], #[], []⟩).heap.modify 0 fun
      | .cells _ t frozen => .cells #[.int .u8 0, .int .u8 1, .int .u8 56, .int .u8 2, .int .u8 57, .int .u8 49, .int .u8 28, .int .u8 3, .int .u8 61, .int .u8 58, .int .u8 42, .int .u8 50, .int .u8 38, .int .u8 29, .int .u8 17, .int .u8 4, .int .u8 62, .int .u8 47, .int .u8 59, .int .u8 36, .int .u8 45, .int .u8 43, .int .u8 51, .int .u8 22, .int .u8 53, .int .u8 39, .int .u8 33, .int .u8 30, .int .u8 24, .int .u8 18, .int .u8 12, .int .u8 5, .int .u8 63, .int .u8 55, .int .u8 48, .int .u8 27, .int .u8 60, .int .u8 41, .int .u8 37, .int .u8 16, .int .u8 46, .int .u8 35, .int .u8 44, .int .u8 21, .int .u8 52, .int .u8 32, .int .u8 23, .int .u8 11, .int .u8 54, .int .u8 26, .int .u8 40, .int .u8 15, .int .u8 34, .int .u8 20, .int .u8 31, .int .u8 10, .int .u8 25, .int .u8 14, .int .u8 19, .int .u8 9, .int .u8 13, .int .u8 8, .int .u8 7, .int .u8 6] t frozen
      | o => o }
theorem laid_met (os : Os) : laidMet Tryd.prog Rows.deviceLastsRow.laid ((laidWorld os).forCall (fun _ _ => 0) ⟨#[], #[.int .i64 0, .slice none 0 0], []⟩).memory :=
  laidMet_of_run' 8 (by kernel_rfl) (by kernel_rfl)
theorem reads (os : Os) {H : Type} (enc : TypeId × Value → H) : ∃ places, DataW.whole enc Tryd.prog ((laidWorld os).forCall (fun _ _ => 0) ⟨#[], #[.int .i64 0, .slice none 0 0], []⟩).memory Tryd.f3.params.toList Rows.deviceLastsSpec.vars false #[Value.int .i64 0, Value.slice none 0 0].toList 8 = some ([.lit (.int .i64 0), .nil], [], places) :=
  ⟨[], by kernel_rfl⟩
theorem lifted (os : Os) (started : os.Started) (H : Type) (enc : TypeId × Value → H) (F : Stop.Interp) :
    ReturnsInHanded {} Tryd.checked os 3 .any ((OpenSpec.ofChange Rows.deviceLastsSpec).preRow enc Tryd.prog Tryd.f3 Rows.deviceLastsRow.domain false Rows.deviceLastsRow.laid) (((OpenSpec.ofChange Rows.deviceLastsSpec).at F).post enc Tryd.prog Tryd.f3 false true false false) := by
  obtain ⟨places, hx⟩ := reads os enc
  refine returnsInHanded_of_row (C := Tryd.checked) (s := OpenSpec.ofChange Rows.deviceLastsSpec) own started (by kernel_rfl) Tryd.func3
    (witness_row_at (enc := enc) (C := Tryd.checked) false (laidWorld os) #[.int .i64 0, .slice none 0 0] rfl (by kernel_rfl) (by kernel_rfl) (by kernel_rfl)
      (OpenSpec.preRow_of_cond 8 hx (by kernel_rfl) (fun k hk => by cases hk) (by kernel_rfl) (laid_met os))) ?_
  intro W base args ds gs before hval hW _ _ _ hL _ _
  exact contract H enc W base args ds gs before hval hW hL
theorem said : Rows.DeviceLastsSaid :=
  OpenClaim.holds_of_cond 3 Tryd.f3 rfl rfl rfl rfl rfl rfl rfl ⟨rfl, rfl, rfl, rfl, rfl⟩ rfl rfl rfl rfl rfl (by kernel_rfl) Tryd.func3 (by kernel_rfl)
    (of_decide_eq_true (by kernel_rfl)) (by unfold Func.isWrapper; first | (rw [if_pos (by decide +kernel)]; kernel_rfl) | (rw [if_neg (by decide +kernel)]; exact ⟨rfl, rfl⟩))
    (fun os started H enc _ F => by rw [OpenClaim.pre_eq_preRow]; exact lifted os started H enc F)
/-- No parameter wants a stand-in; the program's own looks: what the card asks. -/
theorem plain (f : FuncId) (fn : Func) (hf : Tryd.pinned.checked.prog.funcNamed "escutcheon/escutcheonlaw21.DeviceLasts" = some f) (hfn : Tryd.pinned.checked.prog.funcs[f]? = some fn) :
    true = Tryd.pinned.checked.prog.looks [] ∧ ∀ (j : Nat) t, fn.params[j]? = some t → Tryd.pinned.checked.prog.wantsStandIn t = false := by
  obtain rfl : f = 3 := Option.some.inj ((show Tryd.prog.funcNamed "escutcheon/escutcheonlaw21.DeviceLasts" = some 3 by kernel_rfl).symm.trans hf) |>.symm
  obtain rfl : fn = Tryd.f3 := (Option.some.inj (Tryd.func3.symm.trans hfn)).symm
  refine ⟨by kernel_rfl, fun j t ht => ?_⟩
  rw [Tryd.params3] at ht
  have h2 : t = 3 ∨ t = 22 := by simpa using Array.mem_of_getElem? ht
  rcases h2 with rfl | rfl
  · exact (show Tryd.prog.wantsStandIn 3 = false by kernel_rfl)
  · exact (show Tryd.prog.wantsStandIn 22 = false by kernel_rfl)
theorem proved : Rows.DeviceLastsCardSaid :=
  Claim7.holds_tied_plain_at .later [] _ _ _ _ said (fun _ h => by cases h) (by kernel_rfl) (fun _ h => by cases h) deviceLasts_row_tie rfl ⟨rfl, rfl⟩ (by kernel_rfl) rfl plain (by kernel_rfl)
end Go.Proofs.YtpakkedlfoapeaaDoor.lawDeviceLasts

/- Regions that draw, their operations in the order of the text. -/
import Derived.Test.YtpakkedlfoapeaaDoorEngL
namespace Go.Eng
open Go

/-- The first k ones are done. -/
def upTo (n k : Nat) : List Bool := List.replicate k true ++ List.replicate (n - k) false
theorem upTo_set {n k : Nat} (h : k < n) : (upTo n k).set k true = upTo n (k + 1) := by
  have e : n - k = (n - (k + 1)) + 1 := by omega
  unfold upTo
  rw [e, List.replicate_succ, List.set_append_right _ _ (by simp)]
  simp [List.replicate_succ']
/-- Its guard lets it be done. -/
def GOn (ops : Array Oper) (E : Env) (o : Oper) : Prop := o.guard = none ∨ ∃ j want g, o.guard = some (j, want) ∧ (ops[j]?).bind (·.dst) = some g ∧ look E g = some (.v (.bool want))
/-- A region that draws, its first k operations done, these ones left. -/
def WT (G : Ctx) (ops : List Oper) (Lr : List Res) (k : Nat) (rest : List Oper) (E : Env) (L1 : List Res) (M : Mem) (K : KPost) : Prop :=
  ops.drop k = rest → WA G ops.toArray Lr rest.length (upTo ops.length k) E L1 M K

section
variable {G : Ctx} {E : Env} {L : List Res} {M : Mem} {o : Oper} {ops rest : List Oper} {K : KPost} {Q : Post} {Lr L1 : List Res} {k : Nat}
theorem gon_none (h : o.guard = none) : GOn ops.toArray E o := .inl h
theorem gon_yes {j g : Nat} {want b : Bool} (h : o.guard = some (j, want)) (hj : (ops[j]?).bind (·.dst) = some g) (e : look E g = some (.v (.bool b))) (hb : b = want) : GOn ops.toArray E o := by subst hb; exact .inr ⟨j, _, g, h, by simpa using hj, e⟩
theorem wt_at (h : ops.drop k = o :: rest) : k < ops.length ∧ ops.toArray[k]? = some o ∧ ops.drop (k + 1) = rest := by
  have hk : k < ops.length := by
    have := congrArg List.length h
    simp at this
    omega
  rw [List.drop_eq_getElem_cons hk] at h
  injection h with h1 h2
  exact ⟨hk, by simp [hk, h1], h2⟩
theorem wt_on {s : SV} (kk : WT G ops Lr (k + 1) rest (putE E o.dst s) L1 M K) (hg : GOn ops.toArray E o) (hd : dstOk G o = true) (h : Still G o E Lr M s) (hsel : Region.noSelect ops.toArray = true) (hr : (Region.ready .any ops.toArray (upTo ops.length k).toArray).contains k = true) (hf : Region.free .any ops.toArray (upTo ops.length k).toArray k = true) :
    WT G ops Lr k (o :: rest) E L1 M K := fun hdr => by
  obtain ⟨hk, hi, h2⟩ := wt_at hdr
  have h3 := kk h2
  rw [← upTo_set hk] at h3
  rcases hg with hg | ⟨j, want, g, hg, hj, e⟩
  · exact wa_still k hi hsel hr hf hg hd h h3
  · exact wa_gyes k hi hsel hr hf hg hj e hd h h3
theorem wt_t {s : SV} (kk : WT G ops Lr (k + 1) rest (putE E o.dst s) L1 M K) (hg : GOn ops.toArray E o := by first | exact gon_none rfl | exact gon_yes rfl rfl rfl (by with_reducible rfl) | exact gon_yes rfl rfl rfl (by with_reducible assumption)) (hd : dstOk G o = true := by rfl)
    (h : Still G o E Lr M s := by first
      | exact still_move rfl rfl | exact still_assign rfl rfl | exact still_bin rfl rfl rfl rfl | exact still_load_lp rfl rfl rfl rfl | exact still_load_mp rfl rfl rfl
      | exact still_extract rfl rfl rfl | exact still_field_lp rfl rfl | exact still_field_mp rfl rfl | exact still_pick_y rfl rfl rfl (by with_reducible rfl) | exact still_pick_n rfl rfl rfl (by with_reducible rfl) | exact still_not rfl rfl
      | exact still_iface rfl rfl rfl | exact still_len_sl rfl rfl rfl rfl rfl | exact still_len_str rfl rfl rfl rfl rfl | exact still_conv rfl rfl | exact still_seql rfl rfl rfl | exact still_sneq rfl rfl rfl
      | exact still_ifc_nil rfl rfl rfl rfl | exact still_nil_nil rfl rfl rfl | exact still_min rfl rfl rfl rfl rfl | exact still_build_st rfl rfl rfl rfl | exact still_build_arr rfl rfl rfl rfl
      | exact still_bytes_string rfl rfl | exact still_neg rfl rfl | exact still_quo rfl rfl rfl (by decide) | exact still_rem rfl rfl rfl (by decide) | exact still_shl rfl rfl rfl (by omega) | exact still_shr rfl rfl rfl (by omega))
    (hsel : Region.noSelect ops.toArray = true := by kernel_rfl) (hr : (Region.ready .any ops.toArray (upTo ops.length k).toArray).contains k = true := by kernel_rfl) (hf : Region.free .any ops.toArray (upTo ops.length k).toArray k = true := by kernel_rfl) : WT G ops Lr k (o :: rest) E L1 M K := wt_on kk hg hd h hsel hr hf
theorem wt_lenn {c : Call} {T el sz : Nat} {kd : IntKind} [SlT G.P T el sz] {x : Operand} {xs : List Int} (kk : WT G ops Lr (k + 1) rest (putE E o.dst (.v (.int .i64 (xs.length : Int)))) L1 M K) (ho : o.op = .call c := by rfl) (hc : c.callee = .builtin .len := by rfl) (ha : c.args = #[x] := by rfl) (hT : c.argTypes = #[T] := by rfl) (e : evL E x = some (.sl 1 (ns kd xs)) := by rfl)
    (hg : GOn ops.toArray E o := by first | exact gon_none rfl | exact gon_yes rfl rfl rfl (by with_reducible rfl) | exact gon_yes rfl rfl rfl (by with_reducible assumption)) (hd : dstOk G o = true := by rfl)
    (hsel : Region.noSelect ops.toArray = true := by kernel_rfl) (hr : (Region.ready .any ops.toArray (upTo ops.length k).toArray).contains k = true := by kernel_rfl) (hf : Region.free .any ops.toArray (upTo ops.length k).toArray k = true := by kernel_rfl) : WT G ops Lr k (o :: rest) E L1 M K :=
  wt_on (s := .v (.int .i64 ((ns kd xs).length : Int))) (by rw [len_ns]; exact kk) hg hd (still_len_sl ho hc ha hT e) hsel hr hf
theorem wt_ixn {T el : Nat} {kd : IntKind} [SlT G.P T el 1] {x ix : Operand} {xs : List Int} {kn : IntKind} {j : Int} (hj : 0 ≤ j ∧ j < (xs.length : Int)) (kk : WT G ops Lr (k + 1) rest (putE E o.dst (.mp [.v (.int kd (xs.getD j.toNat 0))])) L1 M K) (ho : o.op = .indexAddr T x ix := by rfl) (e : evL E x = some (.sl 1 (ns kd xs)) := by rfl) (ei : evO E ix = some (.v (.int kn j)) := by rfl)
    (hg : GOn ops.toArray E o := by first | exact gon_none rfl | exact gon_yes rfl rfl rfl (by with_reducible rfl) | exact gon_yes rfl rfl rfl (by with_reducible assumption)) (hd : dstOk G o = true := by rfl)
    (hsel : Region.noSelect ops.toArray = true := by kernel_rfl) (hr : (Region.ready .any ops.toArray (upTo ops.length k).toArray).contains k = true := by kernel_rfl) (hf : Region.free .any ops.toArray (upTo ops.length k).toArray k = true := by kernel_rfl) : WT G ops Lr k (o :: rest) E L1 M K :=
  wt_on kk hg hd (still_index_sl ho e ei hj.1 (ns_get (by omega))) hsel hr hf
theorem wt_ix {T el sz : Nat} [SlT G.P T el sz] {x ix : Operand} {es : List (List SV)} {c : List SV} {kn : IntKind} {j : Int} (hj : 0 ≤ j) (hc : es[j.toNat]? = some c) (kk : WT G ops Lr (k + 1) rest (putE E o.dst (.mp c)) L1 M K) (ho : o.op = .indexAddr T x ix := by rfl) (e : evL E x = some (.sl sz es) := by rfl) (ei : evO E ix = some (.v (.int kn j)) := by rfl)
    (hg : GOn ops.toArray E o := by first | exact gon_none rfl | exact gon_yes rfl rfl rfl (by with_reducible rfl) | exact gon_yes rfl rfl rfl (by with_reducible assumption)) (hd : dstOk G o = true := by rfl)
    (hsel : Region.noSelect ops.toArray = true := by kernel_rfl) (hr : (Region.ready .any ops.toArray (upTo ops.length k).toArray).contains k = true := by kernel_rfl) (hf : Region.free .any ops.toArray (upTo ops.length k).toArray k = true := by kernel_rfl) : WT G ops Lr k (o :: rest) E L1 M K :=
  wt_on kk hg hd (still_index_sl ho e ei hj hc) hsel hr hf
theorem wt_ax {T len sz : Nat} [ArrT G.P T len sz] {x ix : Operand} {q n off : Nat} {kn : IntKind} {j : Int} (hj : 0 ≤ j ∧ j < len) (kk : WT G ops Lr (k + 1) rest (putE E o.dst (.lp q n (off + j.toNat * sz))) L1 M K) (ho : o.op = .indexAddr T x ix := by rfl) (e : evO E x = some (.lp q n off) := by rfl) (ei : evO E ix = some (.v (.int kn j)) := by rfl)
    (hg : GOn ops.toArray E o := by first | exact gon_none rfl | exact gon_yes rfl rfl rfl (by with_reducible rfl) | exact gon_yes rfl rfl rfl (by with_reducible assumption)) (hd : dstOk G o = true := by rfl)
    (hsel : Region.noSelect ops.toArray = true := by kernel_rfl) (hr : (Region.ready .any ops.toArray (upTo ops.length k).toArray).contains k = true := by kernel_rfl) (hf : Region.free .any ops.toArray (upTo ops.length k).toArray k = true := by kernel_rfl) : WT G ops Lr k (o :: rest) E L1 M K :=
  wt_on kk hg hd (still_index_lp ho e ei hj) hsel hr hf
theorem wt_lon {T el : Nat} {kd : IntKind} [SlT G.P T el 1] {x lo : Operand} {xs : List Int} {kn : IntKind} {j : Int} (hj : 0 ≤ j ∧ j ≤ (xs.length : Int)) (kk : WT G ops Lr (k + 1) rest (putE E o.dst (.sl 1 (ns kd (xs.drop j.toNat)))) L1 M K) (ho : o.op = .slice T x (some lo) none none := by rfl) (e : evL E x = some (.sl 1 (ns kd xs)) := by rfl) (ei : evO E lo = some (.v (.int kn j)) := by rfl)
    (hg : GOn ops.toArray E o := by first | exact gon_none rfl | exact gon_yes rfl rfl rfl (by with_reducible rfl) | exact gon_yes rfl rfl rfl (by with_reducible assumption)) (hd : dstOk G o = true := by rfl)
    (hsel : Region.noSelect ops.toArray = true := by kernel_rfl) (hr : (Region.ready .any ops.toArray (upTo ops.length k).toArray).contains k = true := by kernel_rfl) (hf : Region.free .any ops.toArray (upTo ops.length k).toArray k = true := by kernel_rfl) : WT G ops Lr k (o :: rest) E L1 M K :=
  wt_on (s := .sl 1 ((ns kd xs).drop j.toNat)) (by rw [ns_drop]; exact kk) hg hd (still_slice_lo ho e ei (by rw [ns_length]; exact hj)) hsel hr hf
theorem wt_shl {T yT : TypeId} {x y : Operand} {kd kn : IntKind} {a b : Int} (hb : 0 ≤ b) (kk : WT G ops Lr (k + 1) rest (putE E o.dst (.v (.int kd (kd.wrap (a * 2 ^ min b.toNat kd.bits))))) L1 M K) (ho : o.op = .binOp .shl T x y yT := by rfl) (ex : evO E x = some (.v (.int kd a)) := by rfl) (ey : evO E y = some (.v (.int kn b)) := by rfl)
    (hg : GOn ops.toArray E o := by first | exact gon_none rfl | exact gon_yes rfl rfl rfl (by with_reducible rfl) | exact gon_yes rfl rfl rfl (by with_reducible assumption)) (hd : dstOk G o = true := by rfl)
    (hsel : Region.noSelect ops.toArray = true := by kernel_rfl) (hr : (Region.ready .any ops.toArray (upTo ops.length k).toArray).contains k = true := by kernel_rfl) (hf : Region.free .any ops.toArray (upTo ops.length k).toArray k = true := by kernel_rfl) : WT G ops Lr k (o :: rest) E L1 M K :=
  wt_on kk hg hd (still_shl ho ex ey hb) hsel hr hf
theorem wt_shr {T yT : TypeId} {x y : Operand} {kd kn : IntKind} {a b : Int} (hb : 0 ≤ b) (kk : WT G ops Lr (k + 1) rest (putE E o.dst (.v (.int kd (a.fdiv (2 ^ min b.toNat kd.bits))))) L1 M K) (ho : o.op = .binOp .shr T x y yT := by rfl) (ex : evO E x = some (.v (.int kd a)) := by rfl) (ey : evO E y = some (.v (.int kn b)) := by rfl)
    (hg : GOn ops.toArray E o := by first | exact gon_none rfl | exact gon_yes rfl rfl rfl (by with_reducible rfl) | exact gon_yes rfl rfl rfl (by with_reducible assumption)) (hd : dstOk G o = true := by rfl)
    (hsel : Region.noSelect ops.toArray = true := by kernel_rfl) (hr : (Region.ready .any ops.toArray (upTo ops.length k).toArray).contains k = true := by kernel_rfl) (hf : Region.free .any ops.toArray (upTo ops.length k).toArray k = true := by kernel_rfl) : WT G ops Lr k (o :: rest) E L1 M K :=
  wt_on kk hg hd (still_shr ho ex ey hb) hsel hr hf
theorem wt_pt {c x y : Operand} {s : SV} {b : Bool} (kk : WT G ops Lr (k + 1) rest (putE E o.dst s) L1 M K) (ho : o.op = .pick c x y := by rfl) (ec : evO E c = some (.v (.bool b)) := by rfl) (e : evO E x = some s := by rfl) (h : b = true := by with_reducible assumption)
    (hg : GOn ops.toArray E o := by first | exact gon_none rfl | exact gon_yes rfl rfl rfl (by with_reducible rfl) | exact gon_yes rfl rfl rfl (by with_reducible assumption)) (hd : dstOk G o = true := by rfl)
    (hsel : Region.noSelect ops.toArray = true := by kernel_rfl) (hr : (Region.ready .any ops.toArray (upTo ops.length k).toArray).contains k = true := by kernel_rfl) (hf : Region.free .any ops.toArray (upTo ops.length k).toArray k = true := by kernel_rfl) : WT G ops Lr k (o :: rest) E L1 M K :=
  by subst h; exact wt_on kk hg hd (still_pick_t ho ec e) hsel hr hf
theorem wt_pf {c x y : Operand} {s : SV} {b : Bool} (kk : WT G ops Lr (k + 1) rest (putE E o.dst s) L1 M K) (ho : o.op = .pick c x y := by rfl) (ec : evO E c = some (.v (.bool b)) := by rfl) (e : evO E y = some s := by rfl) (h : b = false := by with_reducible assumption)
    (hg : GOn ops.toArray E o := by first | exact gon_none rfl | exact gon_yes rfl rfl rfl (by with_reducible rfl) | exact gon_yes rfl rfl rfl (by with_reducible assumption)) (hd : dstOk G o = true := by rfl)
    (hsel : Region.noSelect ops.toArray = true := by kernel_rfl) (hr : (Region.ready .any ops.toArray (upTo ops.length k).toArray).contains k = true := by kernel_rfl) (hf : Region.free .any ops.toArray (upTo ops.length k).toArray k = true := by kernel_rfl) : WT G ops Lr k (o :: rest) E L1 M K :=
  by subst h; exact wt_on kk hg hd (still_pick_f ho ec e) hsel hr hf
/-- Left out: by its guard, or as its guard was left out. -/
theorem wt_n {j g : Nat} {want b : Bool} (kk : WT G ops Lr (k + 1) rest (putE E o.dst (.v undef)) L1 M K) (hg : o.guard = some (j, want) := by rfl) (hj : (ops[j]?).bind (·.dst) = some g := by rfl) (e : look E g = some (.v (.bool b)) := by rfl) (hb : (!b) = want := by first | exact nb_f (by with_reducible rfl) | exact nb_t (by with_reducible rfl) | exact nb_f (by with_reducible assumption) | exact nb_t (by with_reducible assumption)) (hd : dstOk G o = true := by rfl)
    (hsel : Region.noSelect ops.toArray = true := by kernel_rfl) (hr : (Region.ready .any ops.toArray (upTo ops.length k).toArray).contains k = true := by kernel_rfl) (hf : Region.free .any ops.toArray (upTo ops.length k).toArray k = true := by kernel_rfl) : WT G ops Lr k (o :: rest) E L1 M K := fun hdr => by
  obtain ⟨hk, hi, h2⟩ := wt_at hdr
  have h3 := kk h2
  rw [← upTo_set hk] at h3
  subst hb
  exact wa_gno k hi hsel hr hf hg (by simpa using hj) e (by cases b <;> rfl) hd h3
theorem wt_u {j g : Nat} {want : Bool} (kk : WT G ops Lr (k + 1) rest (putE E o.dst (.v undef)) L1 M K) (hg : o.guard = some (j, want) := by rfl) (hj : (ops[j]?).bind (·.dst) = some g := by rfl) (e : look E g = some (.v undef) := by rfl) (hd : dstOk G o = true := by rfl)
    (hsel : Region.noSelect ops.toArray = true := by kernel_rfl) (hr : (Region.ready .any ops.toArray (upTo ops.length k).toArray).contains k = true := by kernel_rfl) (hf : Region.free .any ops.toArray (upTo ops.length k).toArray k = true := by kernel_rfl) : WT G ops Lr k (o :: rest) E L1 M K := fun hdr => by
  obtain ⟨hk, hi, h2⟩ := wt_at hdr
  have h3 := kk h2
  rw [← upTo_set hk] at h3
  exact wa_gu k h3 hi hg (by simpa using hj) e hd hsel hr hf
/-- A guard that isn't decided yet. -/
theorem wt_gs {j g : Nat} {want b : Bool} (ht : b = true → WT G ops Lr k (o :: rest) E L1 M K) (hf : b = false → WT G ops Lr k (o :: rest) E L1 M K) (_hg : o.guard = some (j, want) := by rfl) (_hj : (ops[j]?).bind (·.dst) = some g := by rfl) (_e : look E g = some (.v (.bool b)) := by rfl) : WT G ops Lr k (o :: rest) E L1 M K := by
  cases b
  · exact hf rfl
  · exact ht rfl
/-- The end of such a region. -/
theorem wt_z (kk : K E (L1 ++ Lr) M) (hr : Region.ready .any ops.toArray (upTo ops.length k).toArray = [] := by kernel_rfl) : WT G ops Lr k [] E L1 M K := fun _ => wa_end hr kk
/-- Out of the order of the text. -/
theorem wt_out (kk : WA G ops.toArray Lr rest.length (upTo ops.length k) E L1 M K) : WT G ops Lr k rest E L1 M K := fun _ => kk
/-- The only one that may come next. -/
theorem wt_step (kk : ∀ w, WL (G.cut L1 M w) ops.toArray [o] E L1 M (fun E' L' M' => M.le M' → WA G ops.toArray Lr rest.length (upTo ops.length (k + 1)) E' L' M' K)) (hr : Region.ready .any ops.toArray (upTo ops.length k).toArray = [k] := by kernel_rfl) : WT G ops Lr k (o :: rest) E L1 M K := fun hdr => by
  obtain ⟨hk, hi, _⟩ := wt_at hdr
  refine wa_step k hi hr ?_
  rw [upTo_set hk]
  exact kk
theorem wt_in (kk : WT G ops Lr k rest E L1 M K) (h : ops.drop k = rest := by rfl) : WA G ops.toArray Lr rest.length (upTo ops.length k) E L1 M K := kk h
/-- Such a region. -/
theorem w_drw (Lr L1 : List Res) {id : Nat} {l : List Oper} {Q : Post} (kk : WT G l Lr 0 l E L1 M (fun E L M => Q .normal E L M)) (hL : L = L1 ++ Lr := by rfl) (hm : G.P.follows .mixedOrders = true := by rfl) : W G (.region id l.toArray true) E L M Q :=
  w_draw Lr L1 hL hm l.length rfl (by have := kk rfl; simpa [upTo] using this)
theorem w_sdrw (Lr L1 : List Res) {id : Nat} {l : List Oper} {y : Code} {Q : Post} (kk : WT G l Lr 0 l E L1 M (fun E L M => W G y E L M Q)) (hL : L = L1 ++ Lr := by rfl) (hm : G.P.follows .mixedOrders = true := by rfl) : W G (.seq (.region id l.toArray true) y) E L M Q :=
  w_seq (w_drw Lr L1 kk hL hm)
/-- One of which nothing is set aside for writing. -/
theorem w_dr {id : Nat} {l : List Oper} {Q : Post} (kk : WT G l L 0 l E [] M (fun E L M => Q .normal E L M)) (hm : G.P.follows .mixedOrders = true := by rfl) : W G (.region id l.toArray true) E L M Q := w_drw L [] kk rfl hm
theorem w_sdr {id : Nat} {l : List Oper} {y : Code} {Q : Post} (kk : WT G l L 0 l E [] M (fun E L M => W G y E L M Q)) (hm : G.P.follows .mixedOrders = true := by rfl) : W G (.seq (.region id l.toArray true) y) E L M Q := w_sdrw L [] kk rfl hm
/-- Shifts by what isn't below 0. -/
theorem wl_shl {T yT : TypeId} {x y : Operand} {k k' : IntKind} {a b : Int} (hb : 0 ≤ b) (kk : WL G ops.toArray rest (putE E o.dst (.v (.int k (k.wrap (a * 2 ^ min b.toNat k.bits))))) L M K) (ho : o.op = .binOp .shl T x y yT := by rfl) (ex : evO E x = some (.v (.int k a)) := by rfl) (ey : evO E y = some (.v (.int k' b)) := by rfl) (hg : o.guard = none := by rfl) (hd : dstOk G o = true := by rfl) : WL G ops.toArray (o :: rest) E L M K :=
  wl_still hg hd (still_shl ho ex ey hb) kk
theorem wl_shr {T yT : TypeId} {x y : Operand} {k k' : IntKind} {a b : Int} (hb : 0 ≤ b) (kk : WL G ops.toArray rest (putE E o.dst (.v (.int k (a.fdiv (2 ^ min b.toNat k.bits))))) L M K) (ho : o.op = .binOp .shr T x y yT := by rfl) (ex : evO E x = some (.v (.int k a)) := by rfl) (ey : evO E y = some (.v (.int k' b)) := by rfl) (hg : o.guard = none := by rfl) (hd : dstOk G o = true := by rfl) : WL G ops.toArray (o :: rest) E L M K :=
  wl_still hg hd (still_shr ho ex ey hb) kk
theorem wt_id (h : WT G ops Lr k rest E L1 M K) : WT G ops Lr k rest E L1 M K := h
theorem wl_id {ops : Array Oper} (h : WL G ops rest E L M K) : WL G ops rest E L M K := h
theorem w_id {c : Code} (h : W G c E L M Q) : W G c E L M Q := h
/-- Two ways that meet again. -/
theorem w_join {c y : Code} {σ : Type} (env : σ → Env) (res : σ → List Res) (ok : σ → Mem → Prop) (h1 : W G c E L M (thenQ (fun E' L' M' => ∃ s, SubE E' (env s) ∧ L' = res s ∧ M.le M' ∧ ok s M') Q)) (h2 : ∀ s M', M.le M' → ok s M' → W G y (env s) (res s) M' Q) : W G (.seq c y) E L M Q := by
  refine w_seq fun a w st => wp_mono (h1 a w st) ?_
  rintro ex a' w' ⟨E2, L2, M2, st2, hq⟩
  cases ex with
  | normal =>
    obtain ⟨s, hs, rfl, hl2, hok⟩ := hq
    exact ⟨E2, res s, M2, st2, w_subE (env s) hs (h2 s M2 hl2 hok)⟩
  | exit id => exact ⟨E2, L2, M2, st2, hq⟩
  | goto l => exact ⟨E2, L2, M2, st2, hq⟩
  | ret => exact ⟨E2, L2, M2, st2, hq⟩
  | panic ch => exact ⟨E2, L2, M2, st2, hq⟩
  | outgrown => exact ⟨E2, L2, M2, st2, hq⟩
theorem w_joinT {c y : Code} {Q' : Post} {σ : Type} (env : σ → Env) (res : σ → List Res) (ok : σ → Mem → Prop) (h1 : W G c E L M (thenQ (fun E' L' M' => ∃ s, SubE E' (env s) ∧ L' = res s ∧ M.le M' ∧ ok s M') Q)) (h2 : ∀ s M', M.le M' → ok s M' → W G y (env s) (res s) M' Q') : W G c E L M (thenQ (fun E L M => W G y E L M Q') Q) := fun a w st => by
  refine wp_mono (h1 a w st) ?_
  rintro ex a' w' ⟨E2, L2, M2, st2, hq⟩
  cases ex with
  | normal =>
    obtain ⟨s, hs, rfl, hl2, hok⟩ := hq
    exact ⟨E2, res s, M2, st2, w_subE (env s) hs (h2 s M2 hl2 hok)⟩
  | exit id => exact ⟨E2, L2, M2, st2, hq⟩
  | goto l => exact ⟨E2, L2, M2, st2, hq⟩
  | ret => exact ⟨E2, L2, M2, st2, hq⟩
  | panic ch => exact ⟨E2, L2, M2, st2, hq⟩
  | outgrown => exact ⟨E2, L2, M2, st2, hq⟩
end
end Go.Eng

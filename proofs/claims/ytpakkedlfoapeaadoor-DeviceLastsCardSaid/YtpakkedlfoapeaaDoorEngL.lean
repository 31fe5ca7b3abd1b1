/- Steps whose rule is found by the tactic in the premise; what may be told anew. -/
import Derived.Test.YtpakkedlfoapeaaDoorEngK
namespace Go.Eng
open Go

section
variable {G : Ctx} {E : Env} {L : List Res} {M : Mem} {o : Oper} {ops : Array Oper} {rest : List Oper} {K : KPost} {Q : Post}

theorem nb_f {b : Bool} (h : b = false) : (!b) = true := by subst h; rfl
theorem nb_t {b : Bool} (h : b = true) : (!b) = false := by subst h; rfl
theorem still_pick_y {c x y : Operand} {s : SV} {b : Bool} (ho : o.op = .pick c x y) (ec : evO E c = some (.v (.bool b))) (ex : evO E x = some s) (h : b = true) : Still G o E L M s := by subst h; exact still_pick_t ho ec ex
theorem still_pick_n {c x y : Operand} {s : SV} {b : Bool} (ho : o.op = .pick c x y) (ec : evO E c = some (.v (.bool b))) (ey : evO E y = some s) (h : b = false) : Still G o E L M s := by subst h; exact still_pick_f ho ec ey
theorem wl_s {s : SV} (k : WL G ops rest (putE E o.dst s) L M K) (hg : o.guard = none := by rfl) (hd : dstOk G o = true := by rfl)
    (h : Still G o E L M s := by first
      | exact still_move rfl rfl | exact still_assign rfl rfl | exact still_bin rfl rfl rfl rfl | exact still_load_lp rfl rfl rfl rfl | exact still_load_mp rfl rfl rfl
      | exact still_extract rfl rfl rfl | exact still_field_lp rfl rfl | exact still_field_mp rfl rfl | exact still_pick_y rfl rfl rfl (by with_reducible rfl) | exact still_pick_n rfl rfl rfl (by with_reducible rfl) | exact still_not rfl rfl
      | exact still_iface rfl rfl rfl | exact still_len_sl rfl rfl rfl rfl rfl | exact still_len_str rfl rfl rfl rfl rfl | exact still_conv rfl rfl | exact still_seql rfl rfl rfl | exact still_sneq rfl rfl rfl
      | exact still_ifc_nil rfl rfl rfl rfl | exact still_nil_nil rfl rfl rfl | exact still_min rfl rfl rfl rfl rfl | exact still_build_st rfl rfl rfl rfl | exact still_build_arr rfl rfl rfl rfl
      | exact still_bytes_string rfl rfl | exact still_neg rfl rfl | exact still_quo rfl rfl rfl (by decide) | exact still_rem rfl rfl rfl (by decide) | exact still_shl rfl rfl rfl (by omega) | exact still_shr rfl rfl rfl (by omega)) :
    WL G ops (o :: rest) E L M K := wl_still hg hd h k
theorem wa_s {Lr L1 : List Res} {listed : List Bool} {fuel : Nat} (i : Nat) {s : SV} (k : WA G ops Lr fuel (listed.set i true) (putE E o.dst s) L1 M K) (hi : ops[i]? = some o := by rfl) (hg : o.guard = none := by rfl) (hd : dstOk G o = true := by rfl)
    (h : Still G o E Lr M s := by first
      | exact still_move rfl rfl | exact still_assign rfl rfl | exact still_bin rfl rfl rfl rfl | exact still_load_lp rfl rfl rfl rfl | exact still_load_mp rfl rfl rfl
      | exact still_extract rfl rfl rfl | exact still_field_lp rfl rfl | exact still_field_mp rfl rfl | exact still_pick_y rfl rfl rfl (by with_reducible rfl) | exact still_pick_n rfl rfl rfl (by with_reducible rfl) | exact still_not rfl rfl
      | exact still_iface rfl rfl rfl | exact still_len_sl rfl rfl rfl rfl rfl | exact still_len_str rfl rfl rfl rfl rfl | exact still_conv rfl rfl | exact still_seql rfl rfl rfl | exact still_sneq rfl rfl rfl
      | exact still_ifc_nil rfl rfl rfl rfl | exact still_nil_nil rfl rfl rfl | exact still_min rfl rfl rfl rfl rfl | exact still_build_st rfl rfl rfl rfl | exact still_build_arr rfl rfl rfl rfl
      | exact still_bytes_string rfl rfl | exact still_neg rfl rfl | exact still_quo rfl rfl rfl (by decide) | exact still_rem rfl rfl rfl (by decide) | exact still_shl rfl rfl rfl (by omega) | exact still_shr rfl rfl rfl (by omega))
    (hsel : Region.noSelect ops = true := by kernel_rfl) (hr : (Region.ready .any ops listed.toArray).contains i = true := by kernel_rfl) (hf : Region.free .any ops listed.toArray i = true := by kernel_rfl) :
    WA G ops Lr (fuel + 1) listed E L1 M K := wa_still i hi hsel hr hf hg hd h k
/-- The same, the rule given. -/
theorem wa_r {Lr L1 : List Res} {listed : List Bool} {fuel : Nat} (i : Nat) {s : SV} (h : ∀ o, ops[i]? = some o → Still G o E Lr M s) (k : ∀ o, ops[i]? = some o → WA G ops Lr fuel (listed.set i true) (putE E o.dst s) L1 M K) (hi : ops[i]? = some o := by rfl) (hg : o.guard = none := by rfl) (hd : dstOk G o = true := by rfl)
    (hsel : Region.noSelect ops = true := by kernel_rfl) (hr : (Region.ready .any ops listed.toArray).contains i = true := by kernel_rfl) (hf : Region.free .any ops listed.toArray i = true := by kernel_rfl) :
    WA G ops Lr (fuel + 1) listed E L1 M K := wa_still i hi hsel hr hf hg hd (h o hi) (k o hi)

/-! ### Told anew -/
theorem w_see {i : Nat} {v : Value} {sz : Nat} {es : List (List SV)} {c : Code} (e : look E i = some (.rw v sz es)) (k : W G c ((i, .sl sz es) :: E) L M Q) : W G c E L M Q := fun a w s => k a w { s with
  env := fun j t h => by
    simp only [look] at h
    cases hb : Nat.beq i j with
    | true =>
      rw [hb] at h
      have := Nat.eq_of_beq_eq_true hb
      subst this
      simp only [cond_true, Option.some.injEq] at h
      subst h
      obtain ⟨y, hy, hr⟩ := s.env i _ e
      exact ⟨y, hy, rel_rw_sl hr⟩
    | false => rw [hb] at h; exact s.env j t h }
theorem w_nilsl {i : Nat} {sz : Nat} {c : Code} (e : look E i = some (.v (.slice none 0 0))) (k : W G c ((i, .sl sz []) :: E) L M Q) : W G c E L M Q := fun a w s => k a w { s with
  env := fun j t h => by
    simp only [look] at h
    cases hb : Nat.beq i j with
    | true =>
      rw [hb] at h
      have := Nat.eq_of_beq_eq_true hb
      subst this
      simp only [cond_true, Option.some.injEq] at h
      subst h
      obtain ⟨y, hy, hr⟩ := s.env i _ e
      rw [rel_v] at hr
      exact ⟨y, hy, by simp [SV.rel, hr]⟩
    | false => rw [hb] at h; exact s.env j t h }
theorem w_nilrw {i : Nat} {c : Code} (T sz : Nat) (e : look E i = some (.v (.slice none 0 0))) (k : W G c ((i, .rw (.slice none 0 0) sz []) :: E) (.tail (.slice none 0 0) T sz 0 :: L) M Q) : W G c E L M Q := fun a w s => k a w { s with
  env := fun j t h => by
    simp only [look] at h
    cases hb : Nat.beq i j with
    | true =>
      rw [hb] at h
      have := Nat.eq_of_beq_eq_true hb
      subst this
      simp only [cond_true, Option.some.injEq] at h
      subst h
      obtain ⟨y, hy, hr⟩ := s.env i _ e
      rw [rel_v] at hr
      exact ⟨y, hy, by simp [SV.rel, hr]⟩
    | false => rw [hb] at h; exact s.env j t h
  res := by
    intro r hr
    cases hr with
    | head => exact .inl ⟨rfl, rfl⟩
    | tail _ hr => exact s.res r hr
  nodup := by simpa only [nums, List.filterMap_cons, Res.num, Value.ownBlock] using s.nodup
  own := by simpa only [nums, List.filterMap_cons, Res.num, Value.ownBlock] using s.own }

/-! ### The other rules, their premises by rfl -/
theorem wl_bs {T el sz by_ len dst : Nat} {k : TK} {z : Value} {parts : Array (Nat × Operand)} {ss : List (Nat × SV)} {cs : List SV}
    (kk : ∀ x M', M.le M' → WL G ops rest ((dst, .rw x sz (chunks sz len cs)) :: E) (.tail x el sz len :: L) M' K)
    (hg : o.guard = none := by rfl) (hds : o.dst = some dst := by rfl) (hd : dstOk G o = true := by rfl) (ho : o.op = .buildSlice T len parts := by rfl) (i1 : SlT G.P T el sz := by infer_instance) (i2 : Ty G.P el k sz by_ z := by infer_instance) (es : evParts E parts.toList = some ss := by rfl)
    (hz : z.cells.toList.all Value.oneCell' = true := by rfl) (hzs : z.cells.size = sz := by rfl) (hpos : Nat.ble 1 sz = true := by rfl) (hsmall : Nat.ble (len * sz) 16777216 = true := by rfl) (hf : fillSV (fun i : Nat => some (i * sz, sz)) (zeroRep len sz (zeroCs z)) ss = some cs := by rfl) : WL G ops (o :: rest) E L M K :=
  wl_buildSlice hg hds hd ho es hz hzs hpos hsmall hf kk
theorem wl_ap {c : Call} {T T2 el e2 sz s2 by_ dst n : Nat} {k : TK} {z v : Value} (idx : Nat) {x y : Operand} {es ds : List (List SV)} {T' : TypeId}
    (hbytes : (n + ds.length) * by_ ≤ 140737488355328) (hmax : n + ds.length ≤ 9223372036854775807) (hn : es.length = n)
    (kk : ∀ v' M', M.le M' → WL G ops rest ((dst, .rw v' sz (es ++ ds)) :: E) (.tail v' el sz (n + ds.length) :: L.eraseIdx idx) M' K)
    (hg : o.guard = none := by rfl) (hds : o.dst = some dst := by rfl) (hd : dstOk G o = true := by rfl)
    (ho : o.op = .call c := by rfl) (hc : c.callee = .builtin .append := by rfl) (ha : c.args = #[x, y] := by rfl) (hT : c.argTypes = #[T, T2] := by rfl) (i1 : SlT G.P T el sz := by infer_instance) (i2 : SlT G.P T2 e2 s2 := by infer_instance) (i3 : Ty G.P el k sz by_ z := by infer_instance) (ex : evO E x = some (.rw v sz es) := by rfl) (ey : evL E y = some (.sl sz ds) := by rfl) (hL : L[idx]? = some (.tail v T' sz n) := by rfl) (hT' : T' = el := by rfl)
    (hzs : z.cells.size = sz := by rfl) (hz1 : z.cells.toList.all Value.oneCell' = true := by rfl) : WL G ops (o :: rest) E L M K := wl_append hg hds hd ho hc ha hT ex ey hL hT' hzs hz1 hn hbytes hmax kk
theorem wl_c {c : Call} {f : Nat} [Fun G.P f] {ss : List SV} {Φ : SV → List Res → Mem → Prop} (h : Spec G.P f ss [] M Φ) (k : ∀ s L' M', M.le M' → Φ s L' M' → WL G ops rest (putE E o.dst s) (L' ++ L) M' K)
    (hg : o.guard = none := by rfl) (hd : dstOk G o = true := by rfl) (ho : o.op = .call c := by rfl) (hc : c.callee = .value (.func f) := by rfl) (es : evsL E c.args.toList = some ss := by rfl) : WL G ops (o :: rest) E L M K := wl_call hg hd ho hc es h k
theorem wl_ax {T len sz : Nat} [ArrT G.P T len sz] {x ix : Operand} {k n off : Nat} {kk : IntKind} {i : Int} (hi : 0 ≤ i ∧ i < len) (kx : WL G ops rest (putE E o.dst (.lp k n (off + i.toNat * sz))) L M K)
    (ho : o.op = .indexAddr T x ix := by rfl) (e : evO E x = some (.lp k n off) := by rfl) (ei : evO E ix = some (.v (.int kk i)) := by rfl) (hg : o.guard = none := by rfl) (hd : dstOk G o = true := by rfl) : WL G ops (o :: rest) E L M K :=
  wl_still hg hd (still_index_lp ho e ei hi) kx
/-- A slice's element. -/
theorem wl_ix {T el sz : Nat} [SlT G.P T el sz] {x ix : Operand} {es : List (List SV)} {c : List SV} {kk : IntKind} {i : Int} (hi : 0 ≤ i) (hc : es[i.toNat]? = some c) (k : WL G ops rest (putE E o.dst (.mp c)) L M K)
    (ho : o.op = .indexAddr T x ix := by rfl) (e : evL E x = some (.sl sz es) := by rfl) (ei : evO E ix = some (.v (.int kk i)) := by rfl) (hg : o.guard = none := by rfl) (hd : dstOk G o = true := by rfl) : WL G ops (o :: rest) E L M K :=
  wl_still hg hd (still_index_sl ho e ei hi hc) k
theorem wl_lo {T el sz : Nat} [SlT G.P T el sz] {x lo : Operand} {es : List (List SV)} {kk : IntKind} {i : Int} (hi : 0 ≤ i ∧ i ≤ (es.length : Int)) (k : WL G ops rest (putE E o.dst (.sl sz (es.drop i.toNat))) L M K)
    (ho : o.op = .slice T x (some lo) none none := by rfl) (e : evL E x = some (.sl sz es) := by rfl) (ei : evO E lo = some (.v (.int kk i)) := by rfl) (hg : o.guard = none := by rfl) (hd : dstOk G o = true := by rfl) : WL G ops (o :: rest) E L M K :=
  wl_still hg hd (still_slice_lo ho e ei hi) k
theorem wl_slnil {op : BinOp} {T yT el sz sz' : Nat} {c d : Bool} [SlT G.P T el sz] {x y : Operand} {es : List (List SV)} (k : ∀ b : Bool, (b = c → es = []) → WL G ops rest (putE E o.dst (.v (.bool b))) L M K)
    (ho : o.op = .binOp op T x y yT := by rfl) (e : evL E x = some (.sl sz' es) := by rfl) (ey : evO E y = some (.v (.slice none 0 0)) := by rfl) (hc : eqRes op true = some c := by rfl) (hd' : eqRes op false = some d := by rfl)
    (hg : o.guard = none := by rfl) (hd : dstOk G o = true := by rfl) (hcd : c ≠ d := by decide) : WL G ops (o :: rest) E L M K := still_sl_nil ho e ey hc hd' hg hd hcd k
theorem wl_tb {S D el : TypeId} {dst : Nat} {s1 b1 : Nat} {z1 : Value} {x : Operand} {str : ByteArray} [SlT G.P D el 1] [Ty G.P el (.int .u8) 1 1 (.int .u8 0)] [Ty G.P S .string s1 b1 z1] (kk : ∀ M', M.le M' → WL G ops rest ((dst, .sl 1 (bs (ints str))) :: E) L M' K)
    (hg : o.guard = none := by rfl) (hds : o.dst = some dst := by rfl) (hd : dstOk G o = true := by rfl) (ho : o.op = .convert S D x := by rfl) (e : evO E x = some (.v (.string str)) := by rfl) : WL G ops (o :: rest) E L M K := wl_str_bytes hg hds hd ho e kk
/-- The end of a body: two results, one. -/
theorem w_fin {rvs : List ResultVar} {ss : List SV} {Φ : SV → List Res → Mem → Prop} (h : ResVs G E L M rvs ss) (k : Φ (packSV ss) L M) : W G .ret E L M (retQ G rvs Φ) := w_ret ⟨.inl rfl, ss, L, h, List.Sublist.refl _, k⟩
theorem resVs1 {t : Nat} {s : SV} (h : look E t = some s := by rfl) : ResVs G E L M [.tmp t] [s] := .cons (resV_tmp h) .nil
theorem resVs2 {t u : Nat} {s r : SV} (h : look E t = some s := by rfl) (h2 : look E u = some r := by rfl) : ResVs G E L M [.tmp t, .tmp u] [s, r] := .cons (resV_tmp h) (.cons (resV_tmp h2) .nil)
theorem resVs3 {t u v : Nat} {s r q : SV} (h : look E t = some s := by rfl) (h2 : look E u = some r := by rfl) (h3 : look E v = some q := by rfl) : ResVs G E L M [.tmp t, .tmp u, .tmp v] [s, r, q] := .cons (resV_tmp h) (.cons (resV_tmp h2) (.cons (resV_tmp h3) .nil))
/-- The end, what is still owned let go. -/
theorem w_fin0 {rvs : List ResultVar} {ss : List SV} {Φ : SV → List Res → Mem → Prop} (h : ResVs G E L M rvs ss) (k : Φ (packSV ss) [] M) : W G .ret E L M (retQ G rvs Φ) := w_ret ⟨.inl rfl, ss, [], h, List.nil_sublist _, k⟩
theorem wl_lon {T el : Nat} {kd : IntKind} [SlT G.P T el 1] {x lo : Operand} {xs : List Int} {kk : IntKind} {i : Int} (hi : 0 ≤ i ∧ i ≤ (xs.length : Int)) (k : WL G ops rest (putE E o.dst (.sl 1 (ns kd (xs.drop i.toNat)))) L M K)
    (ho : o.op = .slice T x (some lo) none none := by rfl) (e : evL E x = some (.sl 1 (ns kd xs)) := by rfl) (ei : evO E lo = some (.v (.int kk i)) := by rfl) (hg : o.guard = none := by rfl) (hd : dstOk G o = true := by rfl) : WL G ops (o :: rest) E L M K :=
  wl_still hg hd (still_slice_lo ho e ei (by rw [ns_length]; exact hi)) (by rw [ns_drop]; exact k)
theorem wl_ixn {T el : Nat} {kd : IntKind} [SlT G.P T el 1] {x ix : Operand} {xs : List Int} {kk : IntKind} {i : Int} (hi : 0 ≤ i ∧ i < (xs.length : Int)) (k : WL G ops rest (putE E o.dst (.mp [.v (.int kd (xs.getD i.toNat 0))])) L M K)
    (ho : o.op = .indexAddr T x ix := by rfl) (e : evL E x = some (.sl 1 (ns kd xs)) := by rfl) (ei : evO E ix = some (.v (.int kk i)) := by rfl) (hg : o.guard = none := by rfl) (hd : dstOk G o = true := by rfl) : WL G ops (o :: rest) E L M K :=
  wl_still hg hd (still_index_sl ho e ei hi.1 (ns_get (by omega))) k
theorem len_ns (kd : IntKind) (xs : List Int) : (((ns kd xs).length : Nat) : Int) = (xs.length : Int) := by rw [ns_length]
theorem wl_lenn {c : Call} {T el sz : Nat} {kd : IntKind} [SlT G.P T el sz] {x : Operand} {xs : List Int} (k : WL G ops rest (putE E o.dst (.v (.int .i64 (xs.length : Int)))) L M K) (ho : o.op = .call c := by rfl) (hc : c.callee = .builtin .len := by rfl) (ha : c.args = #[x] := by rfl) (hT : c.argTypes = #[T] := by rfl) (e : evL E x = some (.sl 1 (ns kd xs)) := by rfl)
    (hg : o.guard = none := by rfl) (hd : dstOk G o = true := by rfl) : WL G ops (o :: rest) E L M K :=
  wl_still hg hd (still_len_sl ho hc ha hT e) (by rw [len_ns]; exact k)
/-- A guard that was itself left out. -/
theorem wl_gu {j : Nat} {want : Bool} {g : Nat} (k : WL G ops rest (putE E o.dst (.v undef)) L M K) (hg : o.guard = some (j, want) := by rfl) (hd : dstOk G o = true := by rfl) (hj : (ops[j]?).bind (·.dst) = some g := by rfl) (e : look E g = some (.v undef) := by rfl) :
    WL G ops (o :: rest) E L M K := fun a w st => by
  obtain ⟨y, hy, hr⟩ := st.env g _ e
  rw [rel_v] at hr
  subst hr
  unfold wpList
  rw [if_neg (by simp only [Region.wanted, hg, yielded, hj, Option.bind_some, hy, undef]; cases want <;> simp)]
  exact k _ _ (st.put (rel_v.2 rfl) hd)
theorem wa_gu {Lr L1 : List Res} {listed : List Bool} {fuel : Nat} (i : Nat) {j g : Nat} {want : Bool} (k : WA G ops Lr fuel (listed.set i true) (putE E o.dst (.v undef)) L1 M K) (hi : ops[i]? = some o := by rfl) (hg : o.guard = some (j, want) := by rfl) (hj : (ops[j]?).bind (·.dst) = some g := by rfl) (e : look E g = some (.v undef) := by rfl) (hd : dstOk G o = true := by rfl)
    (hsel : Region.noSelect ops = true := by kernel_rfl) (hr : (Region.ready .any ops listed.toArray).contains i = true := by kernel_rfl) (hf : Region.free .any ops listed.toArray i = true := by kernel_rfl) : WA G ops Lr (fuel + 1) listed E L1 M K := fun a w st => by
  have h1 := k _ _ (st.put (o := o) (rel_v.2 rfl) hd)
  obtain ⟨y, hy, hr2⟩ := st.env g _ e
  rw [rel_v] at hr2
  subst hr2
  refine wpX_first (x := undef) hi (Region.noSelect_spec hsel) fuel _ _ a w (Region.free_spec hi hf) (by simpa using hr) ⟨st.mem, fun _ _ _ _ => rfl⟩ (.inr ⟨by simp only [Region.wanted, hg, yielded, hj, Option.bind_some, hy, undef]; cases want <;> simp, rfl⟩) ?_
  have e : listed.toArray.setIfInBounds i true = (listed.set i true).toArray := by simp
  rw [e]
  exact h1
theorem wa_gn {Lr L1 : List Res} {listed : List Bool} {fuel : Nat} (i : Nat) {j g : Nat} {want b : Bool} (k : WA G ops Lr fuel (listed.set i true) (putE E o.dst (.v undef)) L1 M K) (hi : ops[i]? = some o := by rfl) (hg : o.guard = some (j, want) := by rfl) (hj : (ops[j]?).bind (·.dst) = some g := by rfl) (e : look E g = some (.v (.bool b)) := by rfl) (hb : (b == want) = false := by rfl) (hd : dstOk G o = true := by rfl)
    (hsel : Region.noSelect ops = true := by kernel_rfl) (hr : (Region.ready .any ops listed.toArray).contains i = true := by kernel_rfl) (hf : Region.free .any ops listed.toArray i = true := by kernel_rfl) : WA G ops Lr (fuel + 1) listed E L1 M K := wa_gno i hi hsel hr hf hg hj e hb hd k
theorem bare_still {s : SV} (h : Still G (Oper.bare o) E L M s) : Still G o E L M s := fun a w h1 h2 h3 => by
  obtain ⟨x, hx, hrun⟩ := h a w h1 h2 h3
  exact ⟨x, hx, fun w' h4 h5 => hrun w' h4 h5⟩
/-! ### Tests whose outcome stands among the hypotheses -/
theorem w_kt {c : Operand} {x y : Code} {b : Bool} (k : W G x E L M Q) (e : evO E c = some (.v (.bool b)) := by rfl) (h : b = true := by first | with_reducible rfl | with_reducible assumption) : W G (.cond c x y) E L M Q := by subst h; exact w_cond_t e k
theorem w_kf {c : Operand} {x y : Code} {b : Bool} (k : W G y E L M Q) (e : evO E c = some (.v (.bool b)) := by rfl) (h : b = false := by first | with_reducible rfl | with_reducible assumption) : W G (.cond c x y) E L M Q := by subst h; exact w_cond_f e k
theorem wl_ky {j : Nat} {want b : Bool} {g : Nat} (k : WL G ops (Oper.bare o :: rest) E L M K) (hg : o.guard = some (j, want) := by rfl) (hj : (ops[j]?).bind (·.dst) = some g := by rfl) (e : look E g = some (.v (.bool b)) := by rfl) (h : b = want := by first | with_reducible rfl | with_reducible assumption) : WL G ops (o :: rest) E L M K := by
  subst h; exact wl_gyes k hg hj e
theorem wl_kn {j : Nat} {want b : Bool} {g : Nat} (k : WL G ops rest (putE E o.dst (.v undef)) L M K) (hg : o.guard = some (j, want) := by rfl) (hj : (ops[j]?).bind (·.dst) = some g := by rfl) (e : look E g = some (.v (.bool b)) := by rfl) (h : (!b) = want := by first | exact nb_f (by with_reducible rfl) | exact nb_t (by with_reducible rfl) | exact nb_f (by with_reducible assumption) | exact nb_t (by with_reducible assumption)) (hd : dstOk G o = true := by rfl) : WL G ops (o :: rest) E L M K := by
  subst h; exact wl_guard_no hg hd hj e (by cases b <;> rfl) k
/-- A choice whose outcome stands among the hypotheses. -/
theorem wl_pt {c x y : Operand} {s : SV} {b : Bool} (k : WL G ops rest (putE E o.dst s) L M K) (ho : o.op = .pick c x y := by rfl) (hg : o.guard = none := by rfl) (ec : evO E c = some (.v (.bool b)) := by rfl) (e : evO E x = some s := by rfl) (h : b = true := by with_reducible assumption) (hd : dstOk G o = true := by rfl) : WL G ops (o :: rest) E L M K := by
  subst h; exact wl_still hg hd (still_pick_t ho ec e) k
theorem wl_pf {c x y : Operand} {s : SV} {b : Bool} (k : WL G ops rest (putE E o.dst s) L M K) (ho : o.op = .pick c x y := by rfl) (hg : o.guard = none := by rfl) (ec : evO E c = some (.v (.bool b)) := by rfl) (e : evO E y = some s := by rfl) (h : b = false := by with_reducible assumption) (hd : dstOk G o = true := by rfl) : WL G ops (o :: rest) E L M K := by
  subst h; exact wl_still hg hd (still_pick_f ho ec e) k
theorem wl_gs {j : Nat} {want b : Bool} {g : Nat} (ht : b = true → WL G ops (o :: rest) E L M K) (hf : b = false → WL G ops (o :: rest) E L M K) (_hg : o.guard = some (j, want) := by rfl) (_hj : (ops[j]?).bind (·.dst) = some g := by rfl) (_e : look E g = some (.v (.bool b)) := by rfl) : WL G ops (o :: rest) E L M K := by
  cases b
  · exact hf rfl
  · exact ht rfl
theorem wl_drop {l : List Oper} (L' : List Res) (h : L'.Sublist L) (k : WL G ops l E L' M K) : WL G ops l E L M K := fun a w s => k a w (s.dropRes h)
theorem w_drop {c : Code} (L' : List Res) (h : L'.Sublist L) (k : W G c E L' M Q) : W G c E L M Q := fun a w s => k a w (s.dropRes h)
/-- A literal that is only read. -/
theorem wl_bl {T el sz by_ len dst : Nat} {k : TK} {z : Value} {parts : Array (Nat × Operand)} {ss : List (Nat × SV)} {cs : List SV}
    (kk : ∀ M', M.le M' → WL G ops rest ((dst, .sl sz (chunks sz len cs)) :: E) L M' K)
    (hg : o.guard = none := by rfl) (hds : o.dst = some dst := by rfl) (hd : dstOk G o = true := by rfl) (ho : o.op = .buildSlice T len parts := by rfl) (i1 : SlT G.P T el sz := by infer_instance) (i2 : Ty G.P el k sz by_ z := by infer_instance) (es : evParts E parts.toList = some ss := by rfl)
    (hz : z.cells.toList.all Value.oneCell' = true := by rfl) (hzs : z.cells.size = sz := by rfl) (hpos : Nat.ble 1 sz = true := by rfl) (hsmall : Nat.ble (len * sz) 16777216 = true := by rfl) (hf : fillSV (fun i : Nat => some (i * sz, sz)) (zeroRep len sz (zeroCs z)) ss = some cs := by rfl) : WL G ops (o :: rest) E L M K :=
  wl_buildSlice hg hds hd ho es hz hzs hpos hsmall hf fun x M' hle => by
    refine wl_drop L (List.sublist_cons_self _ _) ?_
    intro a w s
    refine kk M' hle a w { s with env := fun i t e => ?_ }
    simp only [look] at e
    cases hb : Nat.beq dst i with
    | true =>
      rw [hb] at e
      simp only [cond_true, Option.some.injEq] at e
      subst e
      obtain ⟨y, hy, hr⟩ := s.env i (.rw x sz (chunks sz len cs)) (by simp only [look, hb, cond_true])
      exact ⟨y, hy, rel_rw_sl hr⟩
    | false =>
      rw [hb] at e
      exact s.env i t (by simp only [look, hb]; exact e)
end
end Go.Eng

/- Comparisons of structs and arrays of numbers, truths and strings. -/
import Derived.Test.YtpakkedlfoapeaaDoorEngR
import Derived.Laws.StructEq
import Derived.ChangeKeysEq
namespace Go.Eng
open Go

inductive FK where
  | b | i (k : IntKind) | s
def fitK : List FK → List Value → Bool
  | [], [] => true
  | .b :: ks, .bool _ :: vs => fitK ks vs
  | .i k :: ks, .int k' _ :: vs => decide (k = k') && fitK ks vs
  | .s :: ks, .string _ :: vs => fitK ks vs
  | _, _ => false
def eqVs : List Value → List Value → Bool
  | [], [] => true
  | .bool a :: xs, .bool b :: ys => decide (a = b) && eqVs xs ys
  | .int _ a :: xs, .int _ b :: ys => decide (a = b) && eqVs xs ys
  | .string a :: xs, .string b :: ys => (a.toList == b.toList) && eqVs xs ys
  | _, _ => false
theorem fitK_split : ∀ {ks ls : List FK} {vs : List Value}, fitK (ks ++ ls) vs = true → fitK ks (vs.take ks.length) = true ∧ fitK ls (vs.drop ks.length) = true ∧ ks.length ≤ vs.length
  | [], ls, vs, h => by simpa [fitK] using h
  | k :: ks, ls, [], h => by cases k <;> simp [fitK] at h
  | k :: ks, ls, v :: vs, h => by
    cases k <;> cases v <;> simp only [List.cons_append, fitK, Bool.and_eq_true, Bool.false_eq_true] at h ⊢
    · obtain ⟨h1, h2, h3⟩ := fitK_split h; simp [fitK, h1, h2, h3]
    · obtain ⟨h1, h2, h3⟩ := fitK_split h.2; simp [fitK, h.1, h1, h2, h3]
    · obtain ⟨h1, h2, h3⟩ := fitK_split h; simp [fitK, h1, h2, h3]
theorem eqVs_append : ∀ {ks ls : List FK} {xs ys : List Value}, fitK (ks ++ ls) xs = true → fitK (ks ++ ls) ys = true → eqVs xs ys = (eqVs (xs.take ks.length) (ys.take ks.length) && eqVs (xs.drop ks.length) (ys.drop ks.length))
  | [], ls, xs, ys, _, _ => by simp [eqVs]
  | k :: ks, ls, [], ys, h, _ => by cases k <;> simp [fitK] at h
  | k :: ks, ls, _ :: _, [], _, h => by cases k <;> simp [fitK] at h
  | k :: ks, ls, x :: xs, y :: ys, h, h' => by
    cases k <;> cases x <;> simp only [List.cons_append, fitK, Bool.and_eq_true, Bool.false_eq_true] at h <;> cases y <;> simp only [List.cons_append, fitK, Bool.and_eq_true, Bool.false_eq_true] at h' <;>
      simp only [eqVs, List.length_cons, List.take_succ_cons, List.drop_succ_cons, Bool.and_assoc]
    · rw [eqVs_append h h']
    · rw [eqVs_append h.2 h'.2]
    · rw [eqVs_append h h']
theorem fitK_len : ∀ {ks : List FK} {vs : List Value}, fitK ks vs = true → vs.length = ks.length
  | [], [], _ => rfl
  | [], _ :: _, h => by simp [fitK] at h
  | k :: _, [], h => by cases k <;> simp [fitK] at h
  | k :: ks, v :: vs, h => by
    cases k <;> cases v <;> simp only [fitK, Bool.and_eq_true, Bool.false_eq_true] at h
    · simp [fitK_len h]
    · simp [fitK_len h.2]
    · simp [fitK_len h]
theorem fitK_int {k : IntKind} : ∀ {xs : List Value}, fitK [.i k] xs = true → ∃ a, xs = [.int k a]
  | [], h => by simp [fitK] at h
  | v :: vs, h => by
    cases v <;> simp only [fitK, Bool.and_eq_true, Bool.false_eq_true, decide_eq_true_eq] at h
    obtain ⟨rfl, h⟩ := h
    have := fitK_len h
    rw [List.eq_nil_of_length_eq_zero this]
    exact ⟨_, rfl⟩
def flatFs (P : Program) (r : TypeId → Option (List FK)) : List Field → Nat → Option (List FK)
  | [], _ => some []
  | f :: fs, o => match r f.type with
    | none => none
    | some ks => if f.name ≠ "_" ∧ f.offset = o ∧ ks.length = P.cellsOf f.type then (flatFs P r fs (o + ks.length)).map (ks ++ ·) else none
def flatK (P : Program) : Nat → TypeId → Option (List FK)
  | 0, _ => none
  | n + 1, t => if (P.info? t).isSome then match P.underlying t with
    | some .bool => some [.b]
    | some (.int k) => some [.i k]
    | some .string => some [.s]
    | some (.struct fs) => if P.stoodInHeld t then none else flatFs P (flatK P n) fs.toList 0
    | some (.array m e) => match flatK P n e with
      | some ks => if ks.length = P.cellsOf e then some ((List.range m).flatMap fun _ => ks) else none
      | none => none
    | _ => none
  else none
def valOf (P : Program) (t : TypeId) (vs : List Value) : Value := match P.underlying t with
  | some (.struct _) => .agg vs.toArray
  | some (.array _ _) => .agg vs.toArray
  | _ => vs.headD undef

section
variable {P : Program}
theorem run_part {n : Nat} {t : TypeId} {ks : List FK} (h : flatK P n t = some ks) (hc : ks.length = P.cellsOf t) (xs : List Value) (o : Nat) (hx : fitK ks ((xs.drop o).take ks.length) = true) (w : World) : (part t xs.toArray o).run P w = .ok (valOf P t ((xs.drop o).take ks.length)) w := by
  cases n with
  | zero => cases h
  | succ n =>
  unfold flatK at h
  split at h
  · rename_i hi
    obtain ⟨i, hi⟩ := Option.isSome_iff_exists.1 hi
    have hsz : (sizeOf t).run P w = .ok (P.cellsOf t) w := by simp [sizeOf, typeInfo, hi, Program.cellsOf]
    have one : ∀ (s : String) (k : FK), ks = [k] → (match xs.toArray[o]? with | some v => pure v | none => stuck s : Sem Value).run P w = .ok (((xs.drop o).take ks.length).headD undef) w := by
      intro s k hk
      subst hk
      have hl := fitK_len hx
      simp only [List.length_take, List.length_drop, List.length_cons, List.length_nil] at hl
      have ho : o < xs.length := by omega
      simp [ho, List.head?_drop, List.head?_take]
    unfold valOf part
    cases hu : P.underlying t with
    | none => rw [hu] at h; cases h
    | some D =>
      rw [hu] at h
      have hag : ∀ b, (∀ w, (isAgg t).run P w = .ok b w) → True := fun _ _ => trivial
      cases D with
      | bool =>
        simp only [Option.some.injEq] at h
        simp only [isAgg, Sem.run_bind, run_underlying hu, Result.andThen_ok, Sem.run_pure, Bool.false_eq_true, if_false]
        exact one _ _ h.symm
      | int k =>
        simp only [Option.some.injEq] at h
        simp only [isAgg, Sem.run_bind, run_underlying hu, Result.andThen_ok, Sem.run_pure, Bool.false_eq_true, if_false]
        exact one _ _ h.symm
      | string =>
        simp only [Option.some.injEq] at h
        simp only [isAgg, Sem.run_bind, run_underlying hu, Result.andThen_ok, Sem.run_pure, Bool.false_eq_true, if_false]
        exact one _ _ h.symm
      | struct fs =>
        simp only [isAgg, Sem.run_bind, run_underlying hu, Result.andThen_ok, Sem.run_pure, if_true, hsz]
        congr 2
        apply Array.toList_inj.1
        simp [← hc, List.extract_eq_take_drop]
      | array m e =>
        simp only [isAgg, Sem.run_bind, run_underlying hu, Result.andThen_ok, Sem.run_pure, if_true, hsz]
        congr 2
        apply Array.toList_inj.1
        simp [← hc, List.extract_eq_take_drop]
      | _ => cases h
  · cases h
theorem run_equalFlat : ∀ (n : Nat) (t : TypeId) (ks : List FK) (xs ys : List Value), flatK P n t = some ks → fitK ks xs = true → fitK ks ys = true → ∀ (d : Nat) (w : World), (Op.equalIn (d + n) t (valOf P t xs) (valOf P t ys)).run P w = .ok (eqVs xs ys) w
  | 0, _, _, _, _, h, _, _, _, _ => by cases h
  | n + 1, t, ks, xs, ys, h, hx, hy, d, w => by
    have hf := h
    unfold flatK at h
    split at h
    · unfold valOf
      cases hu : P.underlying t with
      | none => rw [hu] at h; cases h
      | some D =>
        rw [hu] at h
        cases D with
        | bool =>
          simp only [Option.some.injEq] at h
          subst h
          match xs, ys, hx, hy with
          | [.bool a], [.bool b], _, _ => rw [show d + (n + 1) = (d + n) + 1 by omega]; simp [run_equalIn_bool' w (d + n) t a b hu, eqVs]; rfl
        | int k =>
          simp only [Option.some.injEq] at h
          subst h
          obtain ⟨a, rfl⟩ := fitK_int hx
          obtain ⟨b, rfl⟩ := fitK_int hy
          · rw [show d + (n + 1) = (d + n) + 1 by omega]
            simp [run_equalIn_int w (d + n) t k k a b hu, eqVs]
            rfl
        | string =>
          simp only [Option.some.injEq] at h
          subst h
          match xs, ys, hx, hy with
          | [.string a], [.string b], _, _ => rw [show d + (n + 1) = (d + n) + 1 by omega]; simp [run_equalIn_string w (d + n) t a b hu, eqVs]
        | struct fs =>
          dsimp only at h ⊢
          split at h
          · cases h
          · rename_i hst
            have hfo : P.fieldsOf t = fs := by unfold Program.fieldsOf; rw [hu]
            rw [show d + (n + 1) = (d + n) + 1 by omega, run_equalIn_struct w (d + n) t _ _ (by rw [hfo]; exact hu) (by simpa using hst), hfo]
            have key : ∀ (fs : List Field) (o : Nat) (ls : List FK) (w : World), flatFs P (flatK P n) fs o = some ls → fitK ls (xs.drop o) = true → fitK ls (ys.drop o) = true → (Op.eqFields (d + n) xs.toArray ys.toArray fs).run P w = .ok (eqVs (xs.drop o) (ys.drop o)) w := by
              intro fs
              induction fs with
              | nil =>
                intro o ls w h1 h2 h3
                simp only [flatFs, Option.some.injEq] at h1
                subst h1
                have e1 : xs.drop o = [] := by cases hh : xs.drop o with | nil => rfl | cons a b => rw [hh] at h2; simp [fitK] at h2
                have e2 : ys.drop o = [] := by cases hh : ys.drop o with | nil => rfl | cons a b => rw [hh] at h3; simp [fitK] at h3
                rw [e1, e2]
                rfl
              | cons f fs ih =>
                intro o ls w h1 h2 h3
                simp only [flatFs] at h1
                cases hk : flatK P n f.type with
                | none => rw [hk] at h1; cases h1
                | some qs =>
                  rw [hk] at h1
                  dsimp only at h1
                  split at h1
                  · rename_i hc
                    obtain ⟨c1, c2, c3⟩ := hc
                    simp only [Option.map_eq_some_iff] at h1
                    obtain ⟨rs, h1, rfl⟩ := h1
                    obtain ⟨x1, x2, _⟩ := fitK_split h2
                    obtain ⟨y1, y2, _⟩ := fitK_split h3
                    rw [List.drop_drop] at x2 y2
                    have p1 := run_part hk c3 xs o x1
                    have p2 := run_part hk c3 ys o y1
                    have p3 := run_equalFlat n f.type qs _ _ hk x1 y1 d
                    simp only [Op.eqFields, c1, ne_eq, not_false_eq_true, if_true, c2, Sem.run_bind, p1, p2, p3, Result.andThen_ok]
                    rw [eqVs_append h2 h3, List.drop_drop, List.drop_drop]
                    cases hq : eqVs ((xs.drop o).take qs.length) ((ys.drop o).take qs.length) with
                    | false => simp
                    | true => simpa using ih (o + qs.length) rs w h1 x2 y2
                  · cases h1
            have := key fs.toList 0 ks w h (by simpa using hx) (by simpa using hy)
            simpa using this
        | array m e =>
          dsimp only at h ⊢
          cases hk : flatK P n e with
          | none => rw [hk] at h; cases h
          | some qs =>
            rw [hk] at h
            dsimp only at h
            split at h
            · rename_i hc
              have hie : ∃ i, P.info? e = some i := by
                cases n with
                | zero => cases hk
                | succ n =>
                  unfold flatK at hk
                  split at hk
                  · rename_i hi; exact Option.isSome_iff_exists.1 hi
                  · cases hk
              obtain ⟨i, hi⟩ := hie
              rw [show d + (n + 1) = (d + n) + 1 by omega, run_equalIn_array w (d + n) _ _ hu hi]
              simp only [Option.some.injEq] at h
              subst h
              have key : ∀ (q o : Nat) (w : World), fitK ((List.range' o q).flatMap fun _ => qs) (xs.drop (o * qs.length)) = true → fitK ((List.range' o q).flatMap fun _ => qs) (ys.drop (o * qs.length)) = true → (Op.eqItems (d + n) e (P.cellsOf e) xs.toArray ys.toArray (List.range' o q)).run P w = .ok (eqVs (xs.drop (o * qs.length)) (ys.drop (o * qs.length))) w := by
                intro q
                induction q with
                | zero =>
                  intro o w h2 h3
                  simp only [List.range'_zero, List.flatMap_nil] at h2 h3
                  have e1 : xs.drop (o * qs.length) = [] := by cases hh : xs.drop (o * qs.length) with | nil => rfl | cons a b => rw [hh] at h2; simp [fitK] at h2
                  have e2 : ys.drop (o * qs.length) = [] := by cases hh : ys.drop (o * qs.length) with | nil => rfl | cons a b => rw [hh] at h3; simp [fitK] at h3
                  rw [e1, e2]
                  rfl
                | succ q ih =>
                  intro o w h2 h3
                  rw [List.range'_succ, List.flatMap_cons] at h2 h3
                  obtain ⟨x1, x2, _⟩ := fitK_split h2
                  obtain ⟨y1, y2, _⟩ := fitK_split h3
                  rw [List.drop_drop, ← Nat.succ_mul] at x2 y2
                  have p1 := run_part hk hc xs (o * qs.length) x1
                  have p2 := run_part hk hc ys (o * qs.length) y1
                  have p3 := run_equalFlat n e qs _ _ hk x1 y1 d
                  rw [List.range'_succ]
                  simp only [Op.eqItems, ← hc, Sem.run_bind, p1, p2, p3, Result.andThen_ok]
                  rw [eqVs_append h2 h3, List.drop_drop, List.drop_drop]
                  cases hq : eqVs ((xs.drop (o * qs.length)).take qs.length) ((ys.drop (o * qs.length)).take qs.length) with
                  | false => simp
                  | true =>
                    have := ih (o + 1) w x2 y2
                    rw [hc] at this ⊢
                    simpa [Nat.succ_mul] using this
              have := key m 0 w (by simpa [List.range_eq_range'] using hx) (by simpa [List.range_eq_range'] using hy)
              simpa [List.range_eq_range'] using this
            · cases h
        | _ => cases h
    · cases h
end
def flatB (P : Program) (t : TypeId) (n : Nat) : Option (List FK) := if P.eqGuardType P.depth t then none else flatK P n t
class FlatT (P : Program) (t : Nat) (ks : outParam (List FK)) : Prop where
  out : ∃ n, n ≤ 9999 ∧ flatB P t n = some ks

section
variable {G : Ctx} {E : Env} {L : List Res} {M : Mem} {o : Oper} {ops : Array Oper} {rest : List Oper} {K : KPost}
def vals : List SV → Option (List Value)
  | [] => some []
  | .v x :: ss => match vals ss with | some vs => some (x :: vs) | none => none
  | _ :: _ => none
theorem vals_rels {M : Mem} : ∀ {ss : List SV} {vs ys : List Value}, vals ss = some vs → SV.rels M ss ys → ys = vs
  | [], vs, ys, h, hr => by cases h; exact rels_nil.1 hr
  | .v x :: ss, vs, ys, h, hr => by
    simp only [vals] at h
    split at h
    · rename_i us hu
      cases h
      rw [rels_cons] at hr
      obtain ⟨y, zs, rfl, h1, h2⟩ := hr
      rw [rel_v.1 h1, vals_rels hu h2]
    · cases h
  | .lp .. :: _, _, _, h, _ => by cases h
  | .mp _ :: _, _, _, h, _ => by cases h
  | .sl .. :: _, _, _, h, _ => by cases h
  | .rw .. :: _, _, _, h, _ => by cases h
  | .agg _ :: _, _, _, h, _ => by cases h
  | .tup _ :: _, _, _, h, _ => by cases h
  | .ifc .. :: _, _, _, h, _ => by cases h
  | .fn .. :: _, _, _, h, _ => by cases h
theorem still_eqagg {T yT : TypeId} {ks : List FK} {x y : Operand} {op : BinOp} {as bs' : List SV} {xs ys : List Value} {c : Bool} [fl : FlatT G.P T ks] {sz by_ : Nat} {z : Value} {d : TK} [t : Ty G.P T d sz by_ z] (ho : o.op = .binOp op T x y yT) (ex : evO E x = some (.agg as)) (ey : evO E y = some (.agg bs')) (h1 : vals as = some xs) (h2 : vals bs' = some ys) (hd : aggK d = true) (f1 : fitK ks xs = true) (f2 : fitK ks ys = true) (hop : eqRes op (eqVs xs ys) = some c) : Still G o E L M (.v (.bool c)) := fun act w h _ _ =>
  ⟨_, rel_v.2 rfl, fun w' _ _ => by
    have hx := evO_rel h ex
    have hy := evO_rel h ey
    simp only [SV.rel] at hx hy
    obtain ⟨vx, hx, r1, _⟩ := hx
    obtain ⟨vy, hy, r2, _⟩ := hy
    have e1 : vx = xs.toArray := by rw [← vals_rels h1 r1]
    have e2 : vy = ys.toArray := by rw [← vals_rels h2 r2]
    obtain ⟨n, hn, hf⟩ := fl.out
    unfold flatB at hf
    split at hf
    · cases hf
    · rename_i hg
      have hv : ∀ vs : List Value, valOf G.P T vs = .agg vs.toArray := by
        intro vs
        obtain ⟨D, hD, e⟩ := t.desc
        unfold valOf
        rw [hD]
        subst e
        cases D <;> first | rfl | cases hd
      have key : ∀ k, n ≤ k → (Op.equalIn k T (.agg vx) (.agg vy)).run G.P w' = .ok (eqVs xs ys) w' := by
        intro k hk
        have := run_equalFlat n T ks xs ys hf f1 f2 (k - n) w'
        rw [show k - n + n = k by omega, hv, hv, ← e1, ← e2] at this
        exact this
      refine run_eqOp ho ?_ ?_
      · rw [hx, hy]
        exact run_eqGuard_agg w' op T x y vx vy (by simpa using hg)
      · rw [hx, hy]
        have h10 := key 10000 (by omega)
        cases op <;> simp only [eqRes, Option.some.injEq, reduceCtorEq] at hop <;> subst hop
        · rw [run_eql_struct, h10]; rfl
        · rw [run_neq_struct, h10]; rfl⟩
theorem eqVs_self : ∀ {ks : List FK} {xs : List Value}, fitK ks xs = true → eqVs xs xs = true
  | [], [], _ => rfl
  | [], _ :: _, h => by simp [fitK] at h
  | k :: _, [], h => by cases k <;> simp [fitK] at h
  | k :: ks, v :: vs, h => by
    cases k <;> cases v <;> simp only [fitK, Bool.and_eq_true, Bool.false_eq_true] at h <;> simp only [eqVs, Bool.and_eq_true]
    · exact ⟨by simp, eqVs_self h⟩
    · exact ⟨by simp, eqVs_self h.2⟩
    · exact ⟨by simp, eqVs_self h⟩
theorem wl_eq {T yT : TypeId} {ks : List FK} {x y : Operand} {op : BinOp} {as bs' : List SV} {xs ys : List Value} {c : Bool} {sz by_ : Nat} {z : Value} {d : TK} (k : WL G ops rest (putE E o.dst (.v (.bool c))) L M K) (ho : o.op = .binOp op T x y yT := by rfl) (ex : evO E x = some (.agg as) := by rfl) (ey : evO E y = some (.agg bs') := by rfl) (fl : FlatT G.P T ks := by infer_instance) (t : Ty G.P T d sz by_ z := by infer_instance) (h1 : vals as = some xs := by rfl) (h2 : vals bs' = some ys := by rfl) (hd : aggK d = true := by rfl) (f1 : fitK ks xs = true := by rfl) (f2 : fitK ks ys = true := by rfl) (hop : eqRes op (eqVs xs ys) = some c := by rfl) (hg : o.guard = none := by rfl) (hdd : dstOk G o = true := by rfl) : WL G ops (o :: rest) E L M K :=
  wl_still hg hdd (still_eqagg ho ex ey h1 h2 hd f1 f2 hop) k
end
section
variable {G : Ctx} {E : Env} {L : List Res} {M : Mem} {o : Oper} {ops rest : List Oper} {K : KPost} {Q : Post} {Lr L1 : List Res} {k : Nat}
theorem wt_eq {T yT : TypeId} {ks : List FK} {x y : Operand} {op : BinOp} {as bs' : List SV} {xs ys : List Value} {c : Bool} {sz by_ : Nat} {z : Value} {d : TK} (kk : WT G ops Lr (k + 1) rest (putE E o.dst (.v (.bool c))) L1 M K) (ho : o.op = .binOp op T x y yT := by rfl) (ex : evO E x = some (.agg as) := by rfl) (ey : evO E y = some (.agg bs') := by rfl) (fl : FlatT G.P T ks := by infer_instance) (t : Ty G.P T d sz by_ z := by infer_instance) (h1 : vals as = some xs := by rfl) (h2 : vals bs' = some ys := by rfl) (ha : aggK d = true := by rfl) (f1 : fitK ks xs = true := by rfl) (f2 : fitK ks ys = true := by rfl) (hop : eqRes op (eqVs xs ys) = some c := by rfl)
    (hg : GOn ops.toArray E o := by first | exact gon_none rfl | exact gon_yes rfl rfl rfl (by with_reducible rfl) | exact gon_yes rfl rfl rfl (by with_reducible assumption)) (hd : dstOk G o = true := by rfl)
    (hsel : Region.noSelect ops.toArray = true := by kernel_rfl) (hr : (Region.ready .any ops.toArray (upTo ops.length k).toArray).contains k = true := by kernel_rfl) (hf : Region.free .any ops.toArray (upTo ops.length k).toArray k = true := by kernel_rfl) : WT G ops Lr k (o :: rest) E L1 M K :=
  wt_on kk hg hd (still_eqagg ho ex ey h1 h2 ha f1 f2 hop) hsel hr hf
end
end Go.Eng

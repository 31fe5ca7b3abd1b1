/- What was written is only read from now on. -/
import Derived.Test.YtpakkedlfoapeaaDoorEngV
namespace Go.Eng
open Go

section
variable {G : Ctx} {E : Env} {L : List Res} {M : Mem} {o : Oper} {ops : Array Oper} {rest : List Oper} {K : KPost} {Q : Post}
theorem St.freeze {a : Act} {w : World} (i : Nat) {k n len cap sz : Nat} {T' : TypeId} {cs sp : List SV} {es : List (List SV)} {Lr : List Res} (st : St G E (.box k n T' cs :: Lr) M a w)
    (hcs : cs = es.flatten ++ sp) (hes : ∀ e ∈ es, e.length = sz) (hlen : es.length = len) (hcap : len ≤ cap) (hi : look E i = some (.v (.slice (some ⟨n, 0, none⟩) len cap))) : ∃ M', M.le M' ∧ St G ((i, .sl sz es) :: E) Lr M' a w := by
  obtain ⟨vs, v1, v2, v3, v4, v5, hle⟩ := st.lend (k := k) (n := n) (T' := T') (cs := cs) (by simp [getBox])
  have hr : SV.rel (M.add n vs) (.sl sz es) (.slice (some ⟨n, 0, none⟩) len cap) := rel_lent hcs hes hlen hcap (v1.mono hle) (fun j v e => by rw [Mem.add_same]; exact e)
  have hnd := st.nodup
  simp only [nums, List.filterMap_cons, Res.num, List.nodup_cons] at hnd
  have hne : ∀ r ∈ Lr, ∀ m, r.num = some m → m ≠ n := fun r hq m hm he => by subst he; exact hnd.1 (mem_nums hq hm)
  refine ⟨M.add n vs, hle, {
    defers := st.defers
    size := st.size
    env := lend_env (st.env.mono hle) hi hr
    keep := st.keep
    le := st.le.trans hle
    newc := fun b o v e => by
      by_cases hb : b = n
      · subst hb
        exact .inr (st.own b (by simp only [nums, List.filterMap_cons, Res.num]; exact List.mem_cons_self))
      · rw [Mem.add_other hb] at e; exact st.newc b o v e
    mem := v5
    res := ?_
    nodup := hnd.2
    own := fun m hm => st.own m (by simp only [nums, List.filterMap_cons, Res.num]; exact List.mem_cons_of_mem _ hm) }⟩
  intro r hr'
  have ho := st.res r (List.mem_cons_of_mem _ hr')
  cases r with
  | box k' n' T2 cs2 =>
    obtain ⟨⟨us, q1, q2, q3⟩, q4⟩ := ho
    exact ⟨⟨us, q1, q2.mono hle, q3⟩, fun o => by rw [Mem.add_other (hne _ hr' n' rfl)]; exact q4 o⟩
  | tail x T2 sz2 n2 =>
    rcases ho with ho | ⟨g, cap', cur, rfl, q1, q2, q3, q4, q5, q6⟩
    · exact .inl ho
    · exact .inr ⟨g, cap', cur, rfl, q1, q2, q3, q4, q5, fun o v e => by rw [Mem.add_other (hne _ hr' g rfl)] at e; exact q6 o v e⟩
theorem wl_freeze (i : Nat) {l : List Oper} {k n len cap sz : Nat} {T' : TypeId} {cs sp : List SV} (es : List (List SV)) {Lr : List Res} (hcs : cs = es.flatten ++ sp) (hes : ∀ e ∈ es, e.length = sz) (hlen : es.length = len) (hcap : len ≤ cap)
    (kk : ∀ M', M.le M' → WL G ops l ((i, .sl sz es) :: E) Lr M' K) (hL : L = .box k n T' cs :: Lr := by rfl) (hi : look E i = some (.v (.slice (some ⟨n, 0, none⟩) len cap)) := by rfl) : WL G ops l E L M K := fun a w st => by
  subst hL
  obtain ⟨M', hle, st'⟩ := st.freeze i hcs hes hlen hcap hi
  exact kk M' hle a w st'
theorem w_freeze (i : Nat) {c : Code} {k n len cap sz : Nat} {T' : TypeId} {cs sp : List SV} (es : List (List SV)) {Lr : List Res} (hcs : cs = es.flatten ++ sp) (hes : ∀ e ∈ es, e.length = sz) (hlen : es.length = len) (hcap : len ≤ cap)
    (kk : ∀ M', M.le M' → W G c ((i, .sl sz es) :: E) Lr M' Q) (hL : L = .box k n T' cs :: Lr := by rfl) (hi : look E i = some (.v (.slice (some ⟨n, 0, none⟩) len cap)) := by rfl) : W G c E L M Q := fun a w st => by
  subst hL
  obtain ⟨M', hle, st'⟩ := st.freeze i hcs hes hlen hcap hi
  exact kk M' hle a w st'
theorem still_nck {x : Operand} {k n off : Nat} (ho : o.op = .nilCheck x) (e : evO E x = some (.lp k n off)) : Still G o E L M (.lp k n off) := fun a w h _ _ =>
  ⟨_, rel_lp.2 rfl, fun w' _ _ => by have hx := rel_lp.1 (evO_rel h e); simp [execOp, ho, hx]⟩
theorem wl_nck {x : Operand} {k n off : Nat} (kk : WL G ops rest (putE E o.dst (.lp k n off)) L M K) (ho : o.op = .nilCheck x := by rfl) (e : evO E x = some (.lp k n off) := by rfl) (hg : o.guard = none := by rfl) (hd : dstOk G o = true := by rfl) : WL G ops (o :: rest) E L M K :=
  wl_still hg hd (still_nck ho e) kk
/-- A pointer bears another label. -/
theorem wl_lpk (i k' : Nat) {k n off : Nat} {l : List Oper} (kk : WL G ops l ((i, .lp k' n off) :: E) L M K) (e : look E i = some (.lp k n off) := by rfl) : WL G ops l E L M K := wl_tell i (fun _ _ h => rel_lp.2 (rel_lp.1 h)) kk e
end
section
variable {G : Ctx} {E : Env} {L : List Res} {M : Mem} {o : Oper} {ops rest : List Oper} {K : KPost} {Q : Post} {Lr L1 : List Res} {k : Nat}
theorem wt_nck {x : Operand} {q n off : Nat} (kk : WT G ops Lr (k + 1) rest (putE E o.dst (.lp q n off)) L1 M K) (ho : o.op = .nilCheck x := by rfl) (e : evO E x = some (.lp q n off) := by rfl)
    (hg : GOn ops.toArray E o := by first | exact gon_none rfl | exact gon_yes rfl rfl rfl (by with_reducible rfl) | exact gon_yes rfl rfl rfl (by with_reducible assumption)) (hd : dstOk G o = true := by rfl)
    (hsel : Region.noSelect ops.toArray = true := by kernel_rfl) (hr : (Region.ready .any ops.toArray (upTo ops.length k).toArray).contains k = true := by kernel_rfl) (hf : Region.free .any ops.toArray (upTo ops.length k).toArray k = true := by kernel_rfl) : WT G ops Lr k (o :: rest) E L1 M K :=
  wt_on kk hg hd (still_nck ho e) hsel hr hf
end
end Go.Eng

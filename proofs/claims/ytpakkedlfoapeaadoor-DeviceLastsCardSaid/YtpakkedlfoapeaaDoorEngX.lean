/- Package-level variables that are only read. -/
import Derived.Test.YtpakkedlfoapeaaDoorEngW
namespace Go.Eng
open Go

section
variable {G : Ctx} {E : Env} {L : List Res} {M : Mem} {o : Oper} {ops : Array Oper} {rest : List Oper} {K : KPost} {Q : Post}
theorem still_gix {T len sz g : Nat} [t : ArrT G.P T len sz] {ix : Operand} {cs : List SV} {kk : IntKind} {i : Int} (hc : SV.cellsAt M cs g 0) (ho : o.op = .indexAddr T (.global g) ix) (ei : evO E ix = some (.v (.int kk i))) (hi : 0 ≤ i ∧ i < len) :
    Still G o E L M (.mp (cs.drop (i.toNat * sz))) := fun a w h _ _ => by
  have hix := rel_v.1 (evO_rel h ei)
  have hx : a.eval (.global g) = .pointer (some ⟨g, 0, none⟩) := rfl
  obtain ⟨el, inf, h1, h2, h3⟩ := t.get
  refine ⟨.pointer (some ⟨g, 0 + i.toNat * sz, none⟩), ?_, fun w' _ _ => ?_⟩
  · simp only [SV.rel]
    exact ⟨g, _, rfl, cellsAt_drop _ hc⟩
  · simp [execOp, ho, hx, hix, Instr.indexAt, asIntOf, run_underlying h1, Instr.sureAddr, hi, sizeOf, typeInfo, h2, h3, add_addr]
theorem wl_gix {T len sz g : Nat} [t : ArrT G.P T len sz] {ix : Operand} {cs : List SV} {kk : IntKind} {i : Int} (hc : SV.cellsAt G.M0 cs g 0) (hi : 0 ≤ i ∧ i < len) (kx : WL G ops rest (putE E o.dst (.mp (cs.drop (i.toNat * sz)))) L M K)
    (ho : o.op = .indexAddr T (.global g) ix := by rfl) (ei : evO E ix = some (.v (.int kk i)) := by rfl) (hg : o.guard = none := by rfl) (hd : dstOk G o = true := by rfl) : WL G ops (o :: rest) E L M K := fun a w st =>
  wl_still hg hd (still_gix (SV.cellsAt.mono st.le _ _ _ hc) ho ei hi) kx a w st
theorem still_cpl {T : TypeId} {x : Operand} {a : Int} (ho : o.op = .unOp .xor T x) (ex : evO E x = some (.v (.int .u64 a))) : Still G o E L M (.v (.int .u64 (IntKind.u64.wrap (BitVec.ofInt IntKind.u64.bits IntKind.u64.max ^^^ BitVec.ofInt IntKind.u64.bits a).toNat))) := fun act w h _ _ =>
  ⟨_, rel_v.2 rfl, fun w' _ _ => by
    have h1 := rel_v.1 (evO_rel h ex)
    simp [execOp, ho, h1, Op.unary, Op.intBits, IntKind.signed]⟩
theorem wl_cpl {T : TypeId} {x : Operand} {a : Int} (kx : WL G ops rest (putE E o.dst (.v (.int .u64 (IntKind.u64.wrap (BitVec.ofInt IntKind.u64.bits IntKind.u64.max ^^^ BitVec.ofInt IntKind.u64.bits a).toNat)))) L M K) (ho : o.op = .unOp .xor T x := by rfl) (ex : evO E x = some (.v (.int .u64 a)) := by rfl) (hg : o.guard = none := by rfl) (hd : dstOk G o = true := by rfl) : WL G ops (o :: rest) E L M K :=
  wl_still hg hd (still_cpl ho ex) kx
/-- No pointer against none. -/
theorem still_pnil {T yT el : Nat} {s1 b1 : Nat} {z1 : Value} [t : Ty G.P T (.pointer el) s1 b1 z1] {x y : Operand} {op : BinOp} {c : Bool} (ho : o.op = .binOp op T x y yT) (e : evO E x = some (.v (.pointer none))) (ey : evO E y = some (.v (.pointer none))) (hop : eqRes op true = some c) : Still G o E L M (.v (.bool c)) := fun act w h _ _ =>
  ⟨_, rel_v.2 rfl, fun w' _ _ => by
    have hx := rel_v.1 (evO_rel h e)
    have hy := rel_v.1 (evO_rel h ey)
    refine run_eqOp ho ?_ ?_
    · rw [hx, hy]; unfold eqGuard; cases op <;> simp
    · rw [hx, hy]; exact run_eqOf hop rfl rfl fun d => by simp [Op.equalIn, run_underlying t.ptr]⟩
theorem wl_pnil {T yT el : Nat} {s1 b1 : Nat} {z1 : Value} {x y : Operand} {op : BinOp} {c : Bool} (kx : WL G ops rest (putE E o.dst (.v (.bool c))) L M K) (ho : o.op = .binOp op T x y yT := by rfl) (t : Ty G.P T (.pointer el) s1 b1 z1 := by infer_instance) (e : evO E x = some (.v (.pointer none)) := by rfl) (ey : evO E y = some (.v (.pointer none)) := by rfl) (hop : eqRes op true = some c := by rfl) (hg : o.guard = none := by rfl) (hd : dstOk G o = true := by rfl) : WL G ops (o :: rest) E L M K :=
  wl_still hg hd (still_pnil ho e ey hop) kx
end
end Go.Eng

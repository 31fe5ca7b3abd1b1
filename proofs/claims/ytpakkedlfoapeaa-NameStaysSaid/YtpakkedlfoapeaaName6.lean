/- Walks: name.Of of what name.Element makes. -/
import Derived.Test.YtpakkedlfoapeaaName5
namespace Go.Eng
open Go Go.Proofs
set_option maxRecDepth 100000

section
variable {G : Ctx} {E : Env} {L : List Res} {M : Mem} {o : Oper} {ops : Array Oper} {rest : List Oper} {K : KPost} {Q : Post}
theorem nm_append (a b : List (Int × ByteArray)) : nm a ++ nm b = nm (a ++ b) := by simp [nm]
theorem wl_blN (ts : List (Int × ByteArray)) {T el by_ len dst : Nat} {kd : TK} {z : Value} {parts : Array (Nat × Operand)} {ss : List (Nat × SV)} {cs : List SV}
    (kk : ∀ M', M.le M' → WL G ops rest ((dst, .sl 2 (nm ts)) :: E) L M' K) (hc : chunks 2 len cs = nm ts)
    (hg : o.guard = none := by rfl) (hds : o.dst = some dst := by rfl) (hd : dstOk G o = true := by rfl) (ho : o.op = .buildSlice T len parts := by rfl) (i1 : SlT G.P T el 2 := by infer_instance) (i2 : Ty G.P el kd 2 by_ z := by infer_instance) (es : evParts E parts.toList = some ss := by rfl)
    (hz : z.cells.toList.all Value.oneCell' = true := by rfl) (hzs : z.cells.size = 2 := by rfl) (hsmall : Nat.ble (len * 2) 16777216 = true := by rfl) (hf : fillSV (fun i : Nat => some (i * 2, 2)) (zeroRep len 2 (zeroCs z)) ss = some cs := by rfl) : WL G ops (o :: rest) E L M K :=
  wl_bl (fun M' hle => by rw [hc]; exact kk M' hle) hg hds hd ho i1 i2 es hz hzs rfl hsmall hf
theorem wl_apN {c : Call} {T T2 el e2 s2 by_ dst : Nat} {kd : TK} {z v : Value} (idx : Nat) {x y : Operand} {xs ys : List (Int × ByteArray)} {T' : TypeId}
    (hbytes : (xs.length + ys.length) * by_ ≤ 140737488355328) (hmax : xs.length + ys.length ≤ 9223372036854775807)
    (kk : ∀ v' M', M.le M' → WL G ops rest ((dst, .rw v' 2 (nm (xs ++ ys))) :: E) (.tail v' el 2 (xs ++ ys).length :: L.eraseIdx idx) M' K)
    (hg : o.guard = none := by rfl) (hds : o.dst = some dst := by rfl) (hd : dstOk G o = true := by rfl)
    (ho : o.op = .call c := by rfl) (hc : c.callee = .builtin .append := by rfl) (ha : c.args = #[x, y] := by rfl) (hT : c.argTypes = #[T, T2] := by rfl) (i1 : SlT G.P T el 2 := by infer_instance) (i2 : SlT G.P T2 e2 s2 := by infer_instance) (i3 : Ty G.P el kd 2 by_ z := by infer_instance) (ex : evO E x = some (.rw v 2 (nm xs)) := by rfl) (ey : evL E y = some (.sl 2 (nm ys)) := by rfl) (hL : L[idx]? = some (.tail v T' 2 xs.length) := by rfl) (hT' : T' = el := by rfl)
    (hzs : z.cells.size = 2 := by rfl) (hz1 : z.cells.toList.all Value.oneCell' = true := by rfl) : WL G ops (o :: rest) E L M K :=
  wl_append hg hds hd ho hc ha hT ex ey hL hT' hzs hz1 (nm_length _) (by rw [nm_length]; exact hbytes) (by rw [nm_length]; exact hmax) fun v' M' hle => by
    have := kk v' M' hle
    rw [nm_append, nm_length, ← List.length_append]
    exact this
end
theorem isT_list (ks : List TL) : isT (.mk 0 16 true [] ks) 16 (((svTs ks).length : Nat) : Int) = true := by
  rw [svTs_length]
  simp [isT]
set_option maxHeartbeats 2000000 in
theorem ofS (n : List (Int × ByteArray)) (M : Mem) (hn : ∀ p ∈ n, p.2.size ≤ 9223372036854775807) (hl : n.length ≤ 8) (hg : ∀ p ∈ n, badP p = false) : Spec Try.prog 9 [.agg (svT (.mk 0 16 true [] (n.map kidP)))] [] M (fun s L' _ => ∃ v, s = .tup [.rw v 2 (nm n), .v .nilIface] ∧ L' = [.tail v 35 2 n.length]) := by
  refine spec_of [.tmp 2, .tmp 3] Try.func9 rfl rfl rfl fun w0 => ?_
  have qnt : (!true) = false := rfl
  have qnf : (!false) = true := rfl
  refine w_sregion ?_
  refine wl_bx fun n1 => ?_
  repeat' (first | (refine wt_id ?_; first | with_reducible refine wt_put ?_ | refine wt_ldT ?_ | refine wt_lenn ?_ | refine wt_t ?_ | refine wt_t2 ?_ | refine wt_eq ?_ | refine wt_pt ?_ | refine wt_pf ?_ | refine wt_n ?_ | refine wt_u ?_ | refine wt_ixn ?_ ?_ | refine wt_lon ?_ ?_ | refine wt_shl ?_ ?_ | refine wt_shr ?_ ?_ | refine wt_z ?_ | refine wt_gs (fun h1 => ?_) (fun h1 => ?_)) | (refine wl_id ?_; first | with_reducible refine wl_put ?_ | refine wl_nt ?_ | refine wl_nf ?_ | refine wl_ldT ?_ | refine wl_lenn ?_ | refine wl_s ?_ | refine wl_s2 ?_ | refine wl_eq ?_ | refine wl_st ?_ | refine wl_nil ?_ | refine wl_pt ?_ | refine wl_pf ?_ | refine wl_kn ?_ | refine wl_ky ?_ | refine wl_gu ?_ | refine wl_gs (fun h1 => ?_) (fun h1 => ?_) | refine wl_ixn ?_ ?_ | refine wl_lon ?_ ?_ | refine wl_shl ?_ ?_ | refine wl_shr ?_ ?_) | (refine w_id ?_; first | with_reducible refine w_put ?_ | refine w_sregion ?_ | refine w_sdr ?_ | refine w_region ?_ | refine w_dr ?_ | refine w_kt ?_ | refine w_kf ?_ | refine w_cond rfl (fun h => ?_) (fun h => ?_) | refine w_seq ?_ | refine w_block ?_ | refine w_skip ?_ | refine w_exit ?_))
  refine wl_c (isS (.mk 0 16 true [] (n.map kidP)) 16 _ _) ?_
  rintro _ _ M1 hle1 ⟨rfl, rfl⟩
  rw [isT_list]
  repeat' (first | (refine wt_id ?_; first | with_reducible refine wt_put ?_ | refine wt_ldT ?_ | refine wt_lenn ?_ | refine wt_t ?_ | refine wt_t2 ?_ | refine wt_eq ?_ | refine wt_pt ?_ | refine wt_pf ?_ | refine wt_n ?_ | refine wt_u ?_ | refine wt_ixn ?_ ?_ | refine wt_lon ?_ ?_ | refine wt_shl ?_ ?_ | refine wt_shr ?_ ?_ | refine wt_z ?_ | refine wt_gs (fun h1 => ?_) (fun h1 => ?_)) | (refine wl_id ?_; first | with_reducible refine wl_put ?_ | refine wl_nt ?_ | refine wl_nf ?_ | refine wl_ldT ?_ | refine wl_lenn ?_ | refine wl_s ?_ | refine wl_s2 ?_ | refine wl_eq ?_ | refine wl_st ?_ | refine wl_nil ?_ | refine wl_pt ?_ | refine wl_pf ?_ | refine wl_kn ?_ | refine wl_ky ?_ | refine wl_gu ?_ | refine wl_gs (fun h1 => ?_) (fun h1 => ?_) | refine wl_ixn ?_ ?_ | refine wl_lon ?_ ?_ | refine wl_shl ?_ ?_ | refine wl_shr ?_ ?_) | (refine w_id ?_; first | with_reducible refine w_put ?_ | refine w_sregion ?_ | refine w_sdr ?_ | refine w_region ?_ | refine w_dr ?_ | refine w_kt ?_ | refine w_kf ?_ | refine w_cond rfl (fun h => ?_) (fun h => ?_) | refine w_seq ?_ | refine w_block ?_ | refine w_skip ?_ | refine w_exit ?_))
  refine w_nilrw (i := 4) 35 2 rfl ?_
  refine w_loopS (σ := Nat × Value) (fun s => [(19, .v (.int .i64 s.1)), (18, .v (.int .i64 (svTs (n.map kidP)).length)), (17, .sl 5 (svTs (n.map kidP))), (4, .rw s.2 2 (nm (n.take s.1)))]) (fun s => [.tail s.2 35 2 (n.take s.1).length]) (fun s _ => s.1 ≤ n.length) (fun s => n.length - s.1) (0, .slice none 0 0) ⟨rfl, rfl, rfl, rfl, trivial⟩ (List.Sublist.cons_cons _ (List.nil_sublist _)) (Nat.zero_le _) ?_
  rintro ⟨i, v⟩ M2 hle2 hi
  dsimp only at hi ⊢
  repeat' (first | (refine wt_id ?_; first | with_reducible refine wt_put ?_ | refine wt_ldT ?_ | refine wt_lenn ?_ | refine wt_t ?_ | refine wt_t2 ?_ | refine wt_eq ?_ | refine wt_pt ?_ | refine wt_pf ?_ | refine wt_n ?_ | refine wt_u ?_ | refine wt_ixn ?_ ?_ | refine wt_lon ?_ ?_ | refine wt_shl ?_ ?_ | refine wt_shr ?_ ?_ | refine wt_z ?_ | refine wt_gs (fun h1 => ?_) (fun h1 => ?_)) | (refine wl_id ?_; first | with_reducible refine wl_put ?_ | refine wl_nt ?_ | refine wl_nf ?_ | refine wl_ldT ?_ | refine wl_lenn ?_ | refine wl_s ?_ | refine wl_s2 ?_ | refine wl_eq ?_ | refine wl_st ?_ | refine wl_nil ?_ | refine wl_pt ?_ | refine wl_pf ?_ | refine wl_kn ?_ | refine wl_ky ?_ | refine wl_gu ?_ | refine wl_gs (fun h1 => ?_) (fun h1 => ?_) | refine wl_ixn ?_ ?_ | refine wl_lon ?_ ?_ | refine wl_shl ?_ ?_ | refine wl_shr ?_ ?_) | (refine w_id ?_; first | with_reducible refine w_put ?_ | refine w_sregion ?_ | refine w_sdr ?_ | refine w_region ?_ | refine w_dr ?_ | refine w_seq ?_ | refine w_block ?_ | refine w_skip ?_ | refine w_exit ?_))
  refine w_cond rfl (fun h => ?_) (fun h => ?_)
  · have hlt : i < n.length := by have := of_decide_eq_true h; rw [svTs_length, List.length_map] at this; omega
    have hp : n[i]? = some n[i] := List.getElem?_eq_getElem hlt
    have hmem : n[i] ∈ n := List.getElem_mem hlt
    have htk : n.take (i + 1) = n.take i ++ [n[i]] := by rw [List.take_succ_eq_append_getElem hlt]
    generalize n[i] = p at hp hmem htk
    have hk : (svTs (n.map kidP))[(i : Int).toNat]? = some (svT (kidP p)) := by rw [Int.toNat_natCast]; exact svTs_get (by simp [hp])
    repeat' (first | (refine wt_id ?_; first | with_reducible refine wt_put ?_ | refine wt_ldT ?_ | refine wt_lenn ?_ | refine wt_t ?_ | refine wt_t2 ?_ | refine wt_eq ?_ | refine wt_pt ?_ | refine wt_pf ?_ | refine wt_n ?_ | refine wt_u ?_ | refine wt_ixn ?_ ?_ | refine wt_lon ?_ ?_ | refine wt_shl ?_ ?_ | refine wt_shr ?_ ?_ | refine wt_z ?_ | refine wt_gs (fun h1 => ?_) (fun h1 => ?_)) | (refine wl_id ?_; first | with_reducible refine wl_put ?_ | refine wl_nt ?_ | refine wl_nf ?_ | refine wl_ldT ?_ | refine wl_lenn ?_ | refine wl_s ?_ | refine wl_s2 ?_ | refine wl_eq ?_ | refine wl_st ?_ | refine wl_nil ?_ | refine wl_pt ?_ | refine wl_pf ?_ | refine wl_kn ?_ | refine wl_ky ?_ | refine wl_gu ?_ | refine wl_gs (fun h1 => ?_) (fun h1 => ?_) | refine wl_ixn ?_ ?_ | refine wl_lon ?_ ?_ | refine wl_shl ?_ ?_ | refine wl_shr ?_ ?_) | (refine w_id ?_; first | with_reducible refine w_put ?_ | refine w_sregion ?_ | refine w_sdr ?_ | refine w_region ?_ | refine w_dr ?_ | refine w_kt ?_ | refine w_kf ?_ | refine w_cond rfl (fun h => ?_) (fun h => ?_) | refine w_seq ?_ | refine w_block ?_ | refine w_skip ?_ | refine w_exit ?_))
    refine wl_ix (by omega) hk ?_
    repeat' (first | (refine wt_id ?_; first | with_reducible refine wt_put ?_ | refine wt_ldT ?_ | refine wt_lenn ?_ | refine wt_t ?_ | refine wt_t2 ?_ | refine wt_eq ?_ | refine wt_pt ?_ | refine wt_pf ?_ | refine wt_n ?_ | refine wt_u ?_ | refine wt_ixn ?_ ?_ | refine wt_lon ?_ ?_ | refine wt_shl ?_ ?_ | refine wt_shr ?_ ?_ | refine wt_z ?_ | refine wt_gs (fun h1 => ?_) (fun h1 => ?_)) | (refine wl_id ?_; first | with_reducible refine wl_put ?_ | refine wl_nt ?_ | refine wl_nf ?_ | refine wl_ldT ?_ | refine wl_lenn ?_ | refine wl_s ?_ | refine wl_s2 ?_ | refine wl_eq ?_ | refine wl_st ?_ | refine wl_nil ?_ | refine wl_pt ?_ | refine wl_pf ?_ | refine wl_kn ?_ | refine wl_ky ?_ | refine wl_gu ?_ | refine wl_gs (fun h1 => ?_) (fun h1 => ?_) | refine wl_ixn ?_ ?_ | refine wl_lon ?_ ?_ | refine wl_shl ?_ ?_ | refine wl_shr ?_ ?_) | (refine w_id ?_; first | with_reducible refine w_put ?_ | refine w_sregion ?_ | refine w_sdr ?_ | refine w_region ?_ | refine w_dr ?_ | refine w_kt ?_ | refine w_kf ?_ | refine w_cond rfl (fun h => ?_) (fun h => ?_) | refine w_seq ?_ | refine w_block ?_ | refine w_skip ?_ | refine w_exit ?_))
    refine wl_al fun n6 => ?_
    repeat' (first | (refine wt_id ?_; first | with_reducible refine wt_put ?_ | refine wt_ldT ?_ | refine wt_lenn ?_ | refine wt_t ?_ | refine wt_t2 ?_ | refine wt_eq ?_ | refine wt_pt ?_ | refine wt_pf ?_ | refine wt_n ?_ | refine wt_u ?_ | refine wt_ixn ?_ ?_ | refine wt_lon ?_ ?_ | refine wt_shl ?_ ?_ | refine wt_shr ?_ ?_ | refine wt_z ?_ | refine wt_gs (fun h1 => ?_) (fun h1 => ?_)) | (refine wl_id ?_; first | with_reducible refine wl_put ?_ | refine wl_nt ?_ | refine wl_nf ?_ | refine wl_ldT ?_ | refine wl_lenn ?_ | refine wl_s ?_ | refine wl_s2 ?_ | refine wl_eq ?_ | refine wl_st ?_ | refine wl_nil ?_ | refine wl_pt ?_ | refine wl_pf ?_ | refine wl_kn ?_ | refine wl_ky ?_ | refine wl_gu ?_ | refine wl_gs (fun h1 => ?_) (fun h1 => ?_) | refine wl_ixn ?_ ?_ | refine wl_lon ?_ ?_ | refine wl_shl ?_ ?_ | refine wl_shr ?_ ?_) | (refine w_id ?_; first | with_reducible refine w_put ?_ | refine w_sregion ?_ | refine w_sdr ?_ | refine w_region ?_ | refine w_dr ?_ | refine w_kt ?_ | refine w_kf ?_ | refine w_cond rfl (fun h => ?_) (fun h => ?_) | refine w_seq ?_ | refine w_block ?_ | refine w_skip ?_ | refine w_exit ?_))
    refine wl_c (partS p _ (hn p hmem) (hg p hmem)) ?_
    rintro _ _ M3 hle3 ⟨rfl, rfl⟩
    repeat' (first | (refine wt_id ?_; first | with_reducible refine wt_put ?_ | refine wt_ldT ?_ | refine wt_lenn ?_ | refine wt_t ?_ | refine wt_t2 ?_ | refine wt_eq ?_ | refine wt_pt ?_ | refine wt_pf ?_ | refine wt_n ?_ | refine wt_u ?_ | refine wt_ixn ?_ ?_ | refine wt_lon ?_ ?_ | refine wt_shl ?_ ?_ | refine wt_shr ?_ ?_ | refine wt_z ?_ | refine wt_gs (fun h1 => ?_) (fun h1 => ?_)) | (refine wl_id ?_; first | with_reducible refine wl_put ?_ | refine wl_nt ?_ | refine wl_nf ?_ | refine wl_ldT ?_ | refine wl_lenn ?_ | refine wl_s ?_ | refine wl_s2 ?_ | refine wl_eq ?_ | refine wl_st ?_ | refine wl_nil ?_ | refine wl_pt ?_ | refine wl_pf ?_ | refine wl_kn ?_ | refine wl_ky ?_ | refine wl_gu ?_ | refine wl_gs (fun h1 => ?_) (fun h1 => ?_) | refine wl_ixn ?_ ?_ | refine wl_lon ?_ ?_ | refine wl_shl ?_ ?_ | refine wl_shr ?_ ?_) | (refine w_id ?_; first | with_reducible refine w_put ?_ | refine w_sregion ?_ | refine w_sdr ?_ | refine w_region ?_ | refine w_dr ?_ | refine w_kt ?_ | refine w_kf ?_ | refine w_cond rfl (fun h => ?_) (fun h => ?_) | refine w_seq ?_ | refine w_block ?_ | refine w_skip ?_ | refine w_exit ?_))
    refine wl_al fun n7 => ?_
    repeat' (first | (refine wt_id ?_; first | with_reducible refine wt_put ?_ | refine wt_ldT ?_ | refine wt_lenn ?_ | refine wt_t ?_ | refine wt_t2 ?_ | refine wt_eq ?_ | refine wt_pt ?_ | refine wt_pf ?_ | refine wt_n ?_ | refine wt_u ?_ | refine wt_ixn ?_ ?_ | refine wt_lon ?_ ?_ | refine wt_shl ?_ ?_ | refine wt_shr ?_ ?_ | refine wt_z ?_ | refine wt_gs (fun h1 => ?_) (fun h1 => ?_)) | (refine wl_id ?_; first | with_reducible refine wl_put ?_ | refine wl_nt ?_ | refine wl_nf ?_ | refine wl_ldT ?_ | refine wl_lenn ?_ | refine wl_s ?_ | refine wl_s2 ?_ | refine wl_eq ?_ | refine wl_st ?_ | refine wl_nil ?_ | refine wl_pt ?_ | refine wl_pf ?_ | refine wl_kn ?_ | refine wl_ky ?_ | refine wl_gu ?_ | refine wl_gs (fun h1 => ?_) (fun h1 => ?_) | refine wl_ixn ?_ ?_ | refine wl_lon ?_ ?_ | refine wl_shl ?_ ?_ | refine wl_shr ?_ ?_) | (refine w_id ?_; first | with_reducible refine w_put ?_ | refine w_sregion ?_ | refine w_sdr ?_ | refine w_region ?_ | refine w_dr ?_ | refine w_kt ?_ | refine w_kf ?_ | refine w_cond rfl (fun h => ?_) (fun h => ?_) | refine w_seq ?_ | refine w_block ?_ | refine w_skip ?_ | refine w_exit ?_))
    refine wl_blN [p] (fun M4 hle4 => ?_) ?hc1
    case hc1 => rfl
    refine wl_drop [.tail v 35 2 (n.take i).length] ?_ ?_
    · exact .cons _ (.cons _ (List.Sublist.refl _))
    have hlm : (n.take i).length ≤ 8 := by rw [List.length_take]; omega
    refine wl_apN 0 ?_ ?_ (fun v2 M5 hle5 => ?_)
    · simp only [List.length_cons, List.length_nil]; omega
    · simp only [List.length_cons, List.length_nil]; omega
    repeat' (first | (refine wt_id ?_; first | with_reducible refine wt_put ?_ | refine wt_ldT ?_ | refine wt_lenn ?_ | refine wt_t ?_ | refine wt_t2 ?_ | refine wt_eq ?_ | refine wt_pt ?_ | refine wt_pf ?_ | refine wt_n ?_ | refine wt_u ?_ | refine wt_ixn ?_ ?_ | refine wt_lon ?_ ?_ | refine wt_shl ?_ ?_ | refine wt_shr ?_ ?_ | refine wt_z ?_ | refine wt_gs (fun h1 => ?_) (fun h1 => ?_)) | (refine wl_id ?_; first | with_reducible refine wl_put ?_ | refine wl_nt ?_ | refine wl_nf ?_ | refine wl_ldT ?_ | refine wl_lenn ?_ | refine wl_s ?_ | refine wl_s2 ?_ | refine wl_eq ?_ | refine wl_st ?_ | refine wl_nil ?_ | refine wl_pt ?_ | refine wl_pf ?_ | refine wl_kn ?_ | refine wl_ky ?_ | refine wl_gu ?_ | refine wl_gs (fun h1 => ?_) (fun h1 => ?_) | refine wl_ixn ?_ ?_ | refine wl_lon ?_ ?_ | refine wl_shl ?_ ?_ | refine wl_shr ?_ ?_) | (refine w_id ?_; first | with_reducible refine w_put ?_ | refine w_sregion ?_ | refine w_sdr ?_ | refine w_region ?_ | refine w_dr ?_ | refine w_kt ?_ | refine w_kf ?_ | refine w_cond rfl (fun h => ?_) (fun h => ?_) | refine w_seq ?_ | refine w_block ?_ | refine w_skip ?_ | refine w_exit ?_))
    have hw : IntKind.i64.wrap ((i : Int) + 1) = ((i + 1 : Nat) : Int) := by rw [IntWalk.i64_in _ (by omega)]; rfl
    rw [hw]
    refine ⟨(i + 1, v2), by dsimp only; omega, ?_, ?_, hle3.trans (hle4.trans hle5), by dsimp only; omega⟩
    · dsimp only
      rw [htk]
      exact ⟨rfl, rfl, rfl, rfl, trivial⟩
    · dsimp only
      rw [htk]
      exact List.Sublist.refl _
  · have hin : i = n.length := by have := of_decide_eq_false h; rw [svTs_length, List.length_map] at this; omega
    have q1 : decide ((8 : Int) < ((nm (n.take i)).length : Nat)) = false := by
      rw [nm_length, hin, List.take_length, decide_eq_false_iff_not]
      omega
    repeat' (first | (refine wt_id ?_; first | with_reducible refine wt_put ?_ | refine wt_ldT ?_ | refine wt_lenn ?_ | refine wt_t ?_ | refine wt_t2 ?_ | refine wt_eq ?_ | refine wt_pt ?_ | refine wt_pf ?_ | refine wt_n ?_ | refine wt_u ?_ | refine wt_ixn ?_ ?_ | refine wt_lon ?_ ?_ | refine wt_shl ?_ ?_ | refine wt_shr ?_ ?_ | refine wt_z ?_ | refine wt_gs (fun h1 => ?_) (fun h1 => ?_)) | (refine wl_id ?_; first | with_reducible refine wl_put ?_ | refine wl_nt ?_ | refine wl_nf ?_ | refine wl_ldT ?_ | refine wl_lenn ?_ | refine wl_s ?_ | refine wl_s2 ?_ | refine wl_eq ?_ | refine wl_st ?_ | refine wl_nil ?_ | refine wl_pt ?_ | refine wl_pf ?_ | refine wl_kn ?_ | refine wl_ky ?_ | refine wl_gu ?_ | refine wl_gs (fun h1 => ?_) (fun h1 => ?_) | refine wl_ixn ?_ ?_ | refine wl_lon ?_ ?_ | refine wl_shl ?_ ?_ | refine wl_shr ?_ ?_) | (refine w_id ?_; first | with_reducible refine w_put ?_ | refine w_sregion ?_ | refine w_sdr ?_ | refine w_region ?_ | refine w_dr ?_ | refine w_kt ?_ | refine w_kf ?_ | refine w_cond rfl (fun h => ?_) (fun h => ?_) | refine w_seq ?_ | refine w_block ?_ | refine w_skip ?_ | refine w_exit ?_))
    refine w_ret ⟨.inl rfl, _, [_], resVs2, List.Sublist.refl _, v, ?_, ?_⟩
    · rw [hin, List.take_length]; rfl
    · rw [hin, List.take_length]
end Go.Eng

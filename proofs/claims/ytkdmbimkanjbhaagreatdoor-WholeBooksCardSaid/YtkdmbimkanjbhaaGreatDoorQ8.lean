/-
  Part 8 of the proof of WholeBooks: W33, W34, W35, W36, W37.
-/
import Derived.Test.YtkdmbimkanjbhaaGreatDoorQ7
namespace Go.Proofs.YtkdmbimkanjbhaaGreatDoor.Eng
open Go Go.Proofs
set_option maxRecDepth 100000
attribute [local irreducible] Tr
def comS (s : Sh) (c : Cmd) : Sh × Option (Option Nat) :=
 if (judge s.p c.prod c.seq).1 ≠ 1 then (s, some none)
 else if s.frozen ≠ 0 then (s, some (some 164))
 else if s.l.length < c.off then (s, some (some 141))
 else ({ s with c := putC s.c ⟨c.name, c.off⟩, p := putP s.p ⟨c.prod, c.seq, false, 0⟩ }, none)
theorem com_far {S : Stone} {v bv : Value} {s : Sh} {c : Cmd} (h : PartR S v s) (ho : ShOk s) (hb : Byt S bv c.val) (hc : CmdOk c) (hfar : s.l.length < c.off) :
 Con Tryz.prog 71 #[v, .agg (c.cells bv).toArray] [] S (RetR fun u S' => ∃ v' e, u = .tuple #[v', e] ∧ PartR S' v' (comS s c).1 ∧ ErrR S' e (comS s c).2) := by
 have h' := h
 obtain ⟨rv, pv, cv, rfl, hr, hp, hcv⟩ := h
 obtain ⟨A, cap, rfl, hca, hm, -⟩ := hr.shape
 obtain ⟨B, capB, rfl, hcB, hmB, -⟩ := hp.shape
 obtain ⟨D, capD, rfl, hcD, hmD, -⟩ := hcv.shape
 obtain ⟨pb, cb, rfl, -⟩ := id hb
 obtain ⟨o1, o2, o3, o4, o5, o6, o7, o8, o9, o10, o11, o12, o13⟩ := ho
 obtain ⟨q1, q2, ⟨q3, q4⟩, q5, q6, q7, q8⟩ := hc
 refine con_of 79 Tryz.func71 rfl rfl rfl (fun w0 => ?_)
 refine sr (bx rfl rfl (fun b2 => bx rfl rfl (fun b3 => al zc_30 (fun b4 => sa rfl (nes (sr (yy (y_far fo_30_4 rfl) (ll (lb ld_27) ?_))))))))
 refine yy (y_far fo_57_2 rfl) (ll (lb ld_25) ?_)
 refine yy (y_far fo_57_3 rfl) (ll (lb ld_25) ?_)
 refine lw (t_callr' rfl ((judge_ok ‹_› om om om).back) en_65 ?_)
 refine mv rfl (yy (y_ext rfl rfl) (yy (y_ext rfl rfl) (sa rfl (sa rfl (nesr (mv rfl (yy (y_ne rfl rfl) (nec rfl (fun g1 => ?_) (fun g1 => ?_)))))))))
 · have hj : (judge s.p c.prod c.seq).1 ≠ 1 := by simp at g1; omega
   have hq : comS s c = (s, some none) := by unfold comS; rw [if_pos hj]
   refine c_seq (dR ([.blk b2 (.cells (s.cells (.slice A s.l.length cap) (.slice B s.p.length capB) (.slice D s.c.length capD)).toArray 30 (0, 0)), .blk b3 (.cells (c.cells (.slice (some pb) 1 cb)).toArray 57 (0, 0))]) [0, 2] (.take 0 (.take 1 (.take 2 (.take 3 (.take 4 (.take 5 (.alt 6 (.take 7 (.alt 8 (.take 9 .done) .stop)) (.alt 8 (.alt 6 (.take 7 (.take 9 .done)) .stop) .stop)))))))) ?_)
   refine dl rfl (lbw ld_30) ?_
   refine ey rfl (y_far fo_57_0 rfl) (dl rfl (lb ld_55) ?_)
   refine ey rfl (y_build pl_143 zc_143 rfl rfl) (ey rfl (y_mi co_143 rfl) (ey rfl (y_build pl_186 zc_186 rfl rfl) (d_alt rfl rfl ?_ ?_)))
   · -- first 6
     refine t_box rfl rfl (lt_n rfl) (fun b29 => ?_)
     refine dA (Stone.le.refl _) (ey rfl (y_mi co_184 rfl) (da rfl (sw sz_30 ?_)))
     refine dA (Stone.le.refl _) (ea rfl rfl (d_done (e_then (c_ret (e_then_ret (t_stone (b := b29) pk (fun S1 le1 hS1 => ?_)))))))
     exact f_retR rfl (ResV.agg ld_30 rfl pk rfl (rt rfl)) (by rw [hq]; exact ⟨_, _, rfl, h'.mono le1, b29, rfl, by simp only [Stone.cell, hS1]; rfl⟩)
   refine d_alt rfl rfl ?_ d_stop
   refine sw sz_30 ?_
   refine dA (Stone.le.refl _) (da rfl (t_box rfl rfl (lt_n rfl) (fun b29 => ?_)))
   refine dA (Stone.le.refl _) (ey rfl (y_mi co_184 rfl) (ea rfl rfl (d_done (e_then (c_ret (e_then_ret (t_stone (b := b29) pk (fun S1 le1 hS1 => ?_))))))))
   exact f_retR rfl (ResV.agg ld_30 rfl pk rfl (rt rfl)) (by rw [hq]; exact ⟨_, _, rfl, h'.mono le1, b29, rfl, by simp only [Stone.cell, hS1]; rfl⟩)
 · have hj : ¬ (judge s.p c.prod c.seq).1 ≠ 1 := by simp at g1; omega
   have hj1 : (judge s.p c.prod c.seq).1 = 1 := by omega
   refine c_skip (e_then (c_seq (sr (yy (y_far fo_30_2 rfl) (ll (lb ld_25) ?_)))))
   refine yy (y_ne rfl rfl) (nec rfl (fun g2 => ?_) (fun g2 => ?_))
   · have hf : s.frozen ≠ 0 := by simp at g2; omega
     have hq : comS s c = (s, some (some 164)) := by unfold comS; rw [if_neg hj, if_pos hf]
     refine c_seq (dR ([.blk b2 (.cells (s.cells (.slice A s.l.length cap) (.slice B s.p.length capB) (.slice D s.c.length capD)).toArray 30 (0, 0)), .blk b3 (.cells (c.cells (.slice (some pb) 1 cb)).toArray 57 (0, 0))]) [0, 1] (.take 0 (.take 1 (.alt 2 (.alt 3 (.take 4 .done) .stop) .stop))) ?_)
     refine dl rfl (lbw ld_30) ?_
     refine dl rfl (lbw ld_57) ?_
     refine da rfl (t_callR rfl (refuse_ok (e := 164) om) en_73 ?_)
     rintro v36 S36 le36 h36
     refine dA le36 (da rfl (sw sz_30 ?_))
     exact dA le36 (ea rfl rfl (d_done (e_then (c_ret (e_then_ret (f_retR rfl (ResV.agg ld_30 rfl pk rfl (rt rfl)) (by rw [hq]; exact ⟨_, _, rfl, h'.mono le36, h36.err⟩)))))))
   · have hf : ¬ s.frozen ≠ 0 := by simp at g2; omega
     refine c_skip (e_then (sr (yy (y_far fo_30_5 rfl) (ll (lb ld_28) ?_))))
     refine yy (y_far fo_57_8 rfl) (ll (lb ld_9) ?_)
     refine yy (y_far fo_57_6 rfl) (ll (lb ld_25) ?_)
     refine yy (y_build pl_65 zc_65 rfl rfl) (yy (y_far fo_30_3 rfl) (ll (lb ld_26) ?_))
     refine yy (y_ln sl_26 rfl) (yy (y_cvu cv_3_25 rfl om) (lw (t_callr' rfl (commit_far (x := ⟨c.name, c.off⟩) hcv o10 om q6 hfar) en_95 (mv rfl (yy (y_ext rfl rfl) (yy (y_ext rfl rfl) (sa rfl (sa rfl (nes (sr (mv rfl (yy (y_ne rfl rfl) (ne (c_true rfl (c_seq (dR ([.blk b2 (.cells (s.cells (.slice A s.l.length cap) (.slice B s.p.length capB) (.slice D s.c.length capD)).toArray 30 (0, 0)), .blk b3 (.cells (c.cells (.slice (some pb) 1 cb)).toArray 57 (0, 0))]) [0, 1] (.take 0 (.take 1 (.take 2 (.alt 3 (.alt 4 (.take 5 .done) .stop) .stop)))) ?_))))))))))))))))
     refine dl rfl (lbw ld_30) ?_
     refine dl rfl (lbw ld_57) ?_
     refine em rfl rfl (da rfl (t_callR rfl (refuse_ok (e := 141) om) en_73 ?_))
     rintro v57 S57 le57 h57
     refine dA le57 (da rfl (sw sz_30 ?_))
     refine dA le57 (ea rfl rfl (d_done (e_then (c_ret (e_then_ret ?_)))))
     have hq : comS s c = (s, some (some 141)) := by unfold comS; rw [if_neg hj, if_neg hf, if_pos hfar]
     exact f_retR rfl (ResV.agg ld_30 rfl pk rfl (rt rfl)) (by rw [hq]; exact ⟨_, _, rfl, h'.mono le57, h57.err⟩)
theorem com_near {S : Stone} {v bv : Value} {s : Sh} {c : Cmd} (h : PartR S v s) (ho : ShOk s) (hb : Byt S bv c.val) (hc : CmdOk c) (hfar : c.off ≤ s.l.length) :
 Con Tryz.prog 71 #[v, .agg (c.cells bv).toArray] [] S (RetR fun u S' => ∃ v' e, u = .tuple #[v', e] ∧ PartR S' v' (comS s c).1 ∧ ErrR S' e (comS s c).2) := by
 have h' := h
 obtain ⟨rv, pv, cv, rfl, hr, hp, hcv⟩ := h
 obtain ⟨A, cap, rfl, hca, hm, -⟩ := hr.shape
 obtain ⟨B, capB, rfl, hcB, hmB, -⟩ := hp.shape
 obtain ⟨D, capD, rfl, hcD, hmD, -⟩ := hcv.shape
 obtain ⟨pb, cb, rfl, -⟩ := id hb
 obtain ⟨o1, o2, o3, o4, o5, o6, o7, o8, o9, o10, o11, o12, o13⟩ := ho
 obtain ⟨q1, q2, ⟨q3, q4⟩, q5, q6, q7, q8⟩ := hc
 refine con_of 79 Tryz.func71 rfl rfl rfl (fun w0 => ?_)
 refine sr (bx rfl rfl (fun b2 => bx rfl rfl (fun b3 => al zc_30 (fun b4 => sa rfl (nes (sr (yy (y_far fo_30_4 rfl) (ll (lb ld_27) ?_))))))))
 refine yy (y_far fo_57_2 rfl) (ll (lb ld_25) ?_)
 refine yy (y_far fo_57_3 rfl) (ll (lb ld_25) ?_)
 refine lw (t_callr' rfl ((judge_ok ‹_› om om om).back) en_65 ?_)
 refine mv rfl (yy (y_ext rfl rfl) (yy (y_ext rfl rfl) (sa rfl (sa rfl (nesr (mv rfl (yy (y_ne rfl rfl) (nec rfl (fun g1 => ?_) (fun g1 => ?_)))))))))
 · have hj : (judge s.p c.prod c.seq).1 ≠ 1 := by simp at g1; omega
   have hq : comS s c = (s, some none) := by unfold comS; rw [if_pos hj]
   refine c_seq (dR ([.blk b2 (.cells (s.cells (.slice A s.l.length cap) (.slice B s.p.length capB) (.slice D s.c.length capD)).toArray 30 (0, 0)), .blk b3 (.cells (c.cells (.slice (some pb) 1 cb)).toArray 57 (0, 0))]) [0, 2] (.take 0 (.take 1 (.take 2 (.take 3 (.take 4 (.take 5 (.alt 6 (.take 7 (.alt 8 (.take 9 .done) .stop)) (.alt 8 (.alt 6 (.take 7 (.take 9 .done)) .stop) .stop)))))))) ?_)
   refine dl rfl (lbw ld_30) ?_
   refine ey rfl (y_far fo_57_0 rfl) (dl rfl (lb ld_55) ?_)
   refine ey rfl (y_build pl_143 zc_143 rfl rfl) (ey rfl (y_mi co_143 rfl) (ey rfl (y_build pl_186 zc_186 rfl rfl) (d_alt rfl rfl ?_ ?_)))
   · -- first 6
     refine t_box rfl rfl (lt_n rfl) (fun b29 => ?_)
     refine dA (Stone.le.refl _) (ey rfl (y_mi co_184 rfl) (da rfl (sw sz_30 ?_)))
     refine dA (Stone.le.refl _) (ea rfl rfl (d_done (e_then (c_ret (e_then_ret (t_stone (b := b29) pk (fun S1 le1 hS1 => ?_)))))))
     exact f_retR rfl (ResV.agg ld_30 rfl pk rfl (rt rfl)) (by rw [hq]; exact ⟨_, _, rfl, h'.mono le1, b29, rfl, by simp only [Stone.cell, hS1]; rfl⟩)
   refine d_alt rfl rfl ?_ d_stop
   refine sw sz_30 ?_
   refine dA (Stone.le.refl _) (da rfl (t_box rfl rfl (lt_n rfl) (fun b29 => ?_)))
   refine dA (Stone.le.refl _) (ey rfl (y_mi co_184 rfl) (ea rfl rfl (d_done (e_then (c_ret (e_then_ret (t_stone (b := b29) pk (fun S1 le1 hS1 => ?_))))))))
   exact f_retR rfl (ResV.agg ld_30 rfl pk rfl (rt rfl)) (by rw [hq]; exact ⟨_, _, rfl, h'.mono le1, b29, rfl, by simp only [Stone.cell, hS1]; rfl⟩)
 · have hj : ¬ (judge s.p c.prod c.seq).1 ≠ 1 := by simp at g1; omega
   have hj1 : (judge s.p c.prod c.seq).1 = 1 := by omega
   refine c_skip (e_then (c_seq (sr (yy (y_far fo_30_2 rfl) (ll (lb ld_25) ?_)))))
   refine yy (y_ne rfl rfl) (nec rfl (fun g2 => ?_) (fun g2 => ?_))
   · have hf : s.frozen ≠ 0 := by simp at g2; omega
     have hq : comS s c = (s, some (some 164)) := by unfold comS; rw [if_neg hj, if_pos hf]
     refine c_seq (dR ([.blk b2 (.cells (s.cells (.slice A s.l.length cap) (.slice B s.p.length capB) (.slice D s.c.length capD)).toArray 30 (0, 0)), .blk b3 (.cells (c.cells (.slice (some pb) 1 cb)).toArray 57 (0, 0))]) [0, 1] (.take 0 (.take 1 (.alt 2 (.alt 3 (.take 4 .done) .stop) .stop))) ?_)
     refine dl rfl (lbw ld_30) ?_
     refine dl rfl (lbw ld_57) ?_
     refine da rfl (t_callR rfl (refuse_ok (e := 164) om) en_73 ?_)
     rintro v36 S36 le36 h36
     refine dA le36 (da rfl (sw sz_30 ?_))
     exact dA le36 (ea rfl rfl (d_done (e_then (c_ret (e_then_ret (f_retR rfl (ResV.agg ld_30 rfl pk rfl (rt rfl)) (by rw [hq]; exact ⟨_, _, rfl, h'.mono le36, h36.err⟩)))))))
   · have hf : ¬ s.frozen ≠ 0 := by simp at g2; omega
     refine c_skip (e_then (sr (yy (y_far fo_30_5 rfl) (ll (lb ld_28) ?_))))
     refine yy (y_far fo_57_8 rfl) (ll (lb ld_9) ?_)
     refine yy (y_far fo_57_6 rfl) (ll (lb ld_25) ?_)
     refine yy (y_build pl_65 zc_65 rfl rfl) (yy (y_far fo_30_3 rfl) (ll (lb ld_26) ?_))
     refine yy (y_ln sl_26 rfl) (yy (y_cvu cv_3_25 rfl om) (lw (t_callR rfl (commit_ok (x := ⟨c.name, c.off⟩) hcv o10 om q6 hfar) en_95 ?_)))
     rintro v49 S49 le49 ⟨vv49, rfl, hv49⟩
     have hp49 := hp.mono le49
     obtain ⟨A49, c49, rfl, -⟩ := hv49.shape
     refine mv rfl (yy (y_ext rfl rfl) (yy (y_ext rfl rfl) (sa rfl (sa rfl (nes (sr (mv rfl (yy (y_ne rfl rfl) (ne (c_false rfl (c_skip (e_then (sr (yy (y_far fo_30_4 rfl) (ll (lb ld_27) ?_)))))))))))))))
     refine yy (y_far fo_57_2 rfl) (ll (lb ld_25) ?_)
     refine yy (y_far fo_57_3 rfl) (ll (lb ld_25) ?_)
     refine lw (t_callR rfl (pass_ok hp49 o9 om q2 q3 q4 hj1) en_96 ?_)
     rintro v65 S65 le65 ⟨vv65, rfl, hv65⟩
     obtain ⟨A65, c65, rfl, -⟩ := hv65.shape
     refine mv rfl (yy (y_ext rfl rfl) (yy (y_ext rfl rfl) (sa rfl (sa rfl (nes (sr (mv rfl (yy (y_ne rfl rfl) (ne (c_false rfl (c_skip (e_then (sr (mv rfl (mv rfl (yy (y_far fo_30_5 rfl) (lw (s1 sz_28 (yy (y_far fo_30_4 rfl) ?_)))))))))))))))))))
     refine lw (s1 sz_27 (ne ?_))
     refine sr (ll (lbw ld_30) ?_)
     refine lw (sw sz_30 (sa rfl (netr ?_)))
     have hq : comS s c = ({ s with c := putC s.c ⟨c.name, c.off⟩, p := putP s.p ⟨c.prod, c.seq, false, 0⟩ }, none) := by unfold comS; rw [if_neg hj, if_neg hf, if_neg om]
     exact f_retR rfl (ResV.agg ld_30 rfl pk rfl (rt rfl)) (by rw [hq]; exact ⟨_, _, rfl, ⟨_, _, _, rfl, hr.mono (le49.trans le65), hv65, hv49.mono le65⟩, rfl⟩)
theorem comm_ok {S : Stone} {v bv : Value} {s : Sh} {c : Cmd} (h : PartR S v s) (ho : ShOk s) (hb : Byt S bv c.val) (hc : CmdOk c) :
 Con Tryz.prog 71 #[v, .agg (c.cells bv).toArray] [] S (RetR fun u S' => ∃ v' e, u = .tuple #[v', e] ∧ PartR S' v' (comS s c).1 ∧ ErrR S' e (comS s c).2) := by
 rcases Nat.lt_or_ge s.l.length c.off with hf | hf
 · exact com_far h ho hb hc hf
 · exact com_near h ho hb hc hf
end Go.Proofs.YtkdmbimkanjbhaaGreatDoor.Eng
namespace Go.Proofs.YtkdmbimkanjbhaaGreatDoor.Eng
open Go Go.Proofs
set_option maxRecDepth 100000
attribute [local irreducible] Tr
theorem Ret.rr {P : Program} {f : FuncId} {args : Array Value} {S : Stone} {v : Value} {R : Value → Stone → Prop} (h : Con P f args [] S (Ret v S)) (hR : R v S) : Con P f args [] S (RetR R) := h.mono fun _ _ _ ⟨e1, e2, e3⟩ => by subst e1; subst e2; subst e3; exact ⟨hR, rfl⟩
theorem RetR.mo {P : Program} {f : FuncId} {args : Array Value} {S : Stone} {R R' : Value → Stone → Prop} (h : Con P f args [] S (RetR R)) (hR : ∀ v S', R v S' → R' v S') : Con P f args [] S (RetR R') := h.mono fun _ _ _ ⟨e1, e2⟩ => ⟨hR _ _ e1, e2⟩
/-- The frame of a call that is handed no items. -/
theorem Con.frame {P : Program} {f : FuncId} {args : Array Value} {S : Stone} {I : List Item} {R : Value → Stone → Prop} (h : Con P f args [] S (RetR R)) : Con P f args I S (fun u I' S' => R u S' ∧ I' = I) := fun w hw =>
 (h w (Ok.drop (I := I) (H := []) (by simpa using hw))).mono fun e w' ⟨v, I', S', he, m, hr, hI⟩ => by
  subst hI
  exact ⟨v, I, S', he, Mv.frame (I := []) (H := I) (Mv.init hw) m, hr, rfl⟩
/-- A part, its slices told. -/
theorem PartR.ex {S : Stone} {v : Value} {s : Sh} (h : PartR S v s) : ∃ A a B b D d, v = .agg (s.cells (.slice A s.l.length a) (.slice B s.p.length b) (.slice D s.c.length d)).toArray ∧ Recs S (.slice A s.l.length a) s.l ∧ Prds S (.slice B s.p.length b) s.p ∧ Cnss S (.slice D s.c.length d) s.c := by
 obtain ⟨rv, pv, cv, rfl, hr, hp, hc⟩ := h
 obtain ⟨A, a, rfl, -⟩ := hr.shape
 obtain ⟨B, b, rfl, -⟩ := hp.shape
 obtain ⟨D, d, rfl, -⟩ := hc.shape
 exact ⟨A, a, B, b, D, d, rfl, hr, hp, hc⟩
theorem fetch_far {S : Stone} {v : Value} {l : List Rec} {n m : Nat} (h : Recs S v l) (hn : Num l) (hl : l.length ≤ 200) (hnl : l.length < n) :
 Con Tryz.prog 75 #[v, u64 n, i64 m] [] S (Ret (.tuple #[.slice none 0 0, .int .i64 141]) S) := by
 obtain ⟨A, cap, rfl, hc, hcm, -⟩ := h.shape
 refine con_of 30 Tryz.func75 rfl rfl rfl (fun w0 => ?_)
 refine sr (sa rfl (sa rfl (nes (c_block (sr (mv rfl (lw (t_callr' rfl (log_ok ‹_› ‹_› om) en_46 ?_))))))))
 refine yy (y_not rfl) (sa rfl (nec rfl (fun g1 => ?_) (fun g1 => ?_)))
 · cases g1
 · refine c_seq ?_
   refine c_region (mv rfl (mv rfl (yy (y_ln sl_26 rfl) (yy (y_cvu cv_3_25 rfl om) (yy (y_gt rfl rfl) (sa rfl (nec rfl (fun g2 => ?_) (fun g2 => ?_))))))))
   · refine c_seq ?_
     exact c_region (sa rfl (sa rfl (netr (e_in_ret (e_then_ret (f_ret0 rfl (ResV.tmp rfl (rt rfl)) rfl rfl))))))
   · simp at g2; omega
theorem fetch_any {S : Stone} {v : Value} {l : List Rec} {n m : Nat} (h : Recs S v l) (hn : Num l) (hl : l.length ≤ 200) (hm : m ≤ 64) :
 Con Tryz.prog 75 #[v, u64 n, i64 m] [] S (RetR fun u S' => ∃ v', u = .tuple #[v', i64 (if l.length < n then 141 else 0)] ∧ Recs S' v' (if l.length < n then [] else (l.drop n).take m)) := by
 by_cases hf : l.length < n
 · simp only [if_pos hf]
   exact Ret.rr (fetch_far h hn hl hf) ⟨_, rfl, Sl.nil⟩
 · simp only [if_neg hf]
   exact fetch_ok h hn hl om hm
theorem refuse_any {S : Stone} {c : Cmd} {bv : Value} {e : Nat} : Con Tryz.prog 73 #[.agg (c.cells bv).toArray, i64 e] [] S (RetR fun u S' => ErrR S' u (if e = 0 then none else some (some e))) := by
 by_cases he : e = 0
 · subst he
   exact Ret.rr refuse_none rfl
 · simp only [if_neg he]
   exact RetR.mo (refuse_ok om) fun _ _ h => h.err
def frzS (s : Sh) (c : Cmd) (y : Nat) : Sh × Bool × Option (Option Nat) := if s.frozen ≠ 0 ∧ s.frozen ≠ c.plan then (s, false, some (some 164)) else ({ s with frozen := y }, s.frozen == y, none)
theorem freeze_any {S : Stone} {s : Sh} {A1 A2 A3 A4 : Option Addr} {n4 c1 c2 c3 c4 : Nat} {c : Cmd} {y : Nat} (hr : Recs S (.slice A1 s.l.length c1) s.l) (hp : Prds S (.slice A2 s.p.length c2) s.p) (hc : Cnss S (.slice A3 s.c.length c3) s.c) :
 Con Tryz.prog 72 #[.agg (s.cells (.slice A1 s.l.length c1) (.slice A2 s.p.length c2) (.slice A3 s.c.length c3)).toArray, .agg (c.cells (.slice A4 n4 c4)).toArray, u64 y] [] S (RetR fun u S' => ∃ v' e, u = .tuple #[v', .bool (frzS s c y).2.1, e] ∧ PartR S' v' (frzS s c y).1 ∧ ErrR S' e (frzS s c y).2.2) := by
 by_cases hf : s.frozen ≠ 0 ∧ s.frozen ≠ c.plan
 · unfold frzS
   simp only [if_pos hf]
   intro w hw
   refine (freeze_no hf.1 hf.2 w hw).mono fun e w' ⟨v, I', S', he, m, ⟨e', h1, h2⟩, hI⟩ => ⟨v, I', S', he, m, ⟨_, e', h1, ⟨_, _, _, rfl, hr.mono m.le, hp.mono m.le, hc.mono m.le⟩, h2.err⟩, hI⟩
 · unfold frzS
   simp only [if_neg hf]
   exact Ret.rr (freeze_yes om) ⟨_, _, rfl, ⟨_, _, _, rfl, hr, hp, hc⟩, rfl⟩
theorem errIs_any {S : Stone} {v : Value} {o : Option (Option Nat)} (h : ErrR S v o) : Con Tryz.prog 44 #[v, again] [] S (Ret (.bool (o == some none)) S) := by
 match o, h with
 | none, h => have h : v = .nilIface := h; subst h; exact errIs_nil
 | some none, ⟨b, h1, h2⟩ => subst h1; exact errIs_again h2
 | some (some e), ⟨b, h1, h2⟩ => subst h1; exact errIs_errno h2
theorem errAs_any {S : Stone} {v : Value} {o : Option (Option Nat)} {tb : Nat} (hg : Gl S) (h : ErrR S v o) (ho : o ≠ some none) :
 Con Tryz.prog 40 #[v, .iface 108 (.pointer (some ⟨tb, 0, none⟩))] [.blk tb (.cells #[.int .i64 0] 31 (0, 0))] S (fun u I' _ => ∃ x : Nat, u = .bool o.isSome ∧ I' = [.blk tb (.cells [i64 x].toArray 31 (0, 0))] ∧ ∀ n, o = some (some n) → x = n) := by
 match o, h with
 | none, h =>
  have h : v = .nilIface := h
  subst h
  exact (Con.frame (Ret.rr (R := fun u _ => u = .bool false) errAs_nil rfl)).mono fun _ _ _ ⟨e1, e2⟩ => ⟨0, e1, e2, fun n e => by cases e⟩
 | some none, _ => exact absurd rfl ho
 | some (some e), ⟨b, h1, h2⟩ =>
  subst h1
  exact (errAs_hit hg h2).mono fun _ _ _ ⟨e1, e2⟩ => ⟨e, e1, e2, fun n e => by cases e; rfl⟩
/-- A result. -/
def ResR (S : Stone) (v : Value) (r : Res) : Prop := ∃ rv, v = .agg #[i64 r.err, u64 r.off, .bool r.old, rv] ∧ Recs S rv r.l
theorem ResR.mono {S S' : Stone} {v : Value} {r : Res} (h : ResR S v r) (hle : Stone.le S S') : ResR S' v r := let ⟨rv, e, h1⟩ := h; ⟨rv, e, h1.mono hle⟩
/-- A command whose epoch fits. -/
def doA (s : Sh) (c : Cmd) : Sh × Res :=
 if c.kind = 1 then
  if ¬ (s.lo ≤ c.key ∧ c.key < s.hi) then (s, .bad 163)
  else if (judge s.p c.prod c.seq).1 = 2 then (s, ⟨0, (judge s.p c.prod c.seq).2, true, []⟩)
  else if (judge s.p c.prod c.seq).1 = 3 then (s, .bad 152)
  else if s.frozen ≠ 0 then (s, .bad 164)
  else ({ s with l := s.l ++ [c.rcd s.l.length], p := putP s.p ⟨c.prod, c.seq, true, s.l.length⟩ }, ⟨0, s.l.length, false, []⟩)
 else if c.kind = 3 then
  if (judge s.p c.prod c.seq).1 ≠ 1 then (s, ⟨0, 0, true, []⟩)
  else if s.frozen ≠ 0 then (s, .bad 164)
  else if s.l.length < c.off then (s, .bad 141)
  else ({ s with c := putC s.c ⟨c.name, c.off⟩, p := putP s.p ⟨c.prod, c.seq, false, 0⟩ }, ⟨0, c.off, false, []⟩)
 else if c.kind = 5 then
  if s.frozen ≠ 0 ∧ s.frozen ≠ c.plan then (s, .bad 164) else ({ s with frozen := c.plan }, ⟨0, 0, s.frozen == c.plan, []⟩)
 else if c.kind = 6 then
  if s.frozen ≠ 0 ∧ s.frozen ≠ c.plan then (s, .bad 164) else ({ s with frozen := 0 }, ⟨0, 0, s.frozen == 0, []⟩)
 else if s.frozen ≠ 0 then (s, .bad 164)
 else if c.kind = 4 then (s, ⟨0, (readC s.c c.name).1, (readC s.c c.name).2, []⟩)
 else if s.l.length < c.off then (s, .bad 141)
 else (s, ⟨0, c.off + min c.most (s.l.length - c.off), false, (s.l.drop c.off).take c.most⟩)
theorem doS_eq (s : Sh) (c : Cmd) : doS s c = if c.epoch ≠ s.epoch then (s, .bad 162) else doA s c := rfl
/-- What comes back: why not, or state and result. -/
def ActC (S : Stone) (v r e : Value) (s : Sh) (d : Sh × Res) : Prop := (∃ n, ErrR S e (some (some n)) ∧ d = (s, .bad n)) ∨ (e = .nilIface ∧ PartR S v d.1 ∧ ResR S r d.2)
def ActR (S : Stone) (v r e : Value) (s : Sh) (d : Sh × Res) : Prop := (∃ s', PartR S v s') ∧ (∃ r', ResR S r r') ∧ ActC S v r e s d
theorem act_of_prod {S : Stone} {v e : Value} {s : Sh} {c : Cmd} (hk : c.kind = 1) (h : PartR S v (prodS s c).1) (he : ErrR S e (prodS s c).2.2) (hne : (prodS s c).2.2 ≠ some none) : ActC S v (.agg #[.int .i64 0, u64 (prodS s c).2.1, .bool false, .slice none 0 0]) e s (doA s c) := by
 have key : ∀ n, (prodS s c).2.2 = some (some n) → doA s c = (s, .bad n) := fun n hn => by
  unfold doA; unfold prodS at hn
  rw [if_pos hk]
  by_cases c1 : ¬ (s.lo ≤ c.key ∧ c.key < s.hi)
  · rw [if_pos c1] at hn ⊢; cases hn; rfl
  rw [if_neg c1] at hn ⊢
  by_cases c2 : (judge s.p c.prod c.seq).1 = 2
  · rw [if_pos c2] at hn; cases hn
  rw [if_neg c2] at hn ⊢
  by_cases c3 : (judge s.p c.prod c.seq).1 = 3
  · rw [if_pos c3] at hn ⊢; cases hn; rfl
  rw [if_neg c3] at hn ⊢
  by_cases c4 : s.frozen ≠ 0
  · rw [if_pos c4] at hn ⊢; cases hn; rfl
  rw [if_neg c4] at hn; cases hn
 cases ho : (prodS s c).2.2 with
 | none =>
  rw [ho] at he
  refine .inr ⟨he, ?_⟩
  have : doA s c = ((prodS s c).1, ⟨0, (prodS s c).2.1, false, []⟩) := by
   unfold doA; unfold prodS at ho ⊢
   rw [if_pos hk]
   by_cases c1 : ¬ (s.lo ≤ c.key ∧ c.key < s.hi)
   · rw [if_pos c1] at ho; cases ho
   rw [if_neg c1] at ho ⊢
   by_cases c2 : (judge s.p c.prod c.seq).1 = 2
   · rw [if_pos c2] at ho; cases ho
   rw [if_neg c2] at ho ⊢
   by_cases c3 : (judge s.p c.prod c.seq).1 = 3
   · rw [if_pos c3] at ho; cases ho
   rw [if_neg c3] at ho ⊢
   by_cases c4 : s.frozen ≠ 0
   · rw [if_pos c4] at ho; cases ho
   rw [if_neg c4]
   simp only [if_neg c1, if_neg c2, if_neg c3, if_neg c4]
  rw [this]
  exact ⟨h, _, rfl, Sl.nil⟩
 | some o =>
  cases o with
  | none => exact absurd ho hne
  | some n => rw [ho] at he; exact .inl ⟨n, he, key n ho⟩
theorem act_of_prod2 {S : Stone} {v : Value} {s : Sh} {c : Cmd} (hk : c.kind = 1) (h : PartR S v (prodS s c).1) (ho : (prodS s c).2.2 = some none) : ActC S v (.agg #[.int .i64 0, u64 (prodS s c).2.1, .bool true, .slice none 0 0]) .nilIface s (doA s c) := by
 refine .inr ⟨rfl, ?_⟩
 have : doA s c = ((prodS s c).1, ⟨0, (prodS s c).2.1, true, []⟩) := by
  unfold doA; unfold prodS at ho ⊢
  rw [if_pos hk]
  by_cases c1 : ¬ (s.lo ≤ c.key ∧ c.key < s.hi)
  · rw [if_pos c1] at ho; cases ho
  rw [if_neg c1] at ho ⊢
  by_cases c2 : (judge s.p c.prod c.seq).1 = 2
  · rw [if_pos c2]; simp only [if_neg c1, if_pos c2]
  rw [if_neg c2] at ho ⊢
  by_cases c3 : (judge s.p c.prod c.seq).1 = 3
  · rw [if_pos c3] at ho; cases ho
  rw [if_neg c3] at ho ⊢
  by_cases c4 : s.frozen ≠ 0
  · rw [if_pos c4] at ho; cases ho
  rw [if_neg c4] at ho; cases ho
 rw [this]
 exact ⟨h, _, rfl, Sl.nil⟩
theorem act_of_com {S : Stone} {v e : Value} {s : Sh} {c : Cmd} (hk : c.kind = 3) (h : PartR S v (comS s c).1) (he : ErrR S e (comS s c).2) (hne : (comS s c).2 ≠ some none) : ActC S v (.agg #[.int .i64 0, u64 c.off, .bool false, .slice none 0 0]) e s (doA s c) := by
 have h1 : ¬ c.kind = 1 := by omega
 unfold doA comS at *
 rw [if_neg h1, if_pos hk]
 by_cases c1 : (judge s.p c.prod c.seq).1 ≠ 1
 · rw [if_pos c1] at hne; exact absurd rfl hne
 rw [if_neg c1] at h he hne ⊢
 by_cases c2 : s.frozen ≠ 0
 · rw [if_pos c2] at h he ⊢; exact .inl ⟨_, he, rfl⟩
 rw [if_neg c2] at h he ⊢
 by_cases c3 : s.l.length < c.off
 · rw [if_pos c3] at h he ⊢; exact .inl ⟨_, he, rfl⟩
 rw [if_neg c3] at h he ⊢
 exact .inr ⟨he, h, _, rfl, Sl.nil⟩
theorem act_of_com2 {S : Stone} {v : Value} {s : Sh} {c : Cmd} (hk : c.kind = 3) (h : PartR S v (comS s c).1) (ho : (comS s c).2 = some none) : ActC S v (.agg #[.int .i64 0, .int .u64 0, .bool true, .slice none 0 0]) .nilIface s (doA s c) := by
 have h1 : ¬ c.kind = 1 := by omega
 unfold doA comS at *
 rw [if_neg h1, if_pos hk]
 by_cases c1 : (judge s.p c.prod c.seq).1 ≠ 1
 · rw [if_pos c1] at h ⊢; exact .inr ⟨rfl, h, _, rfl, Sl.nil⟩
 rw [if_neg c1] at ho
 by_cases c2 : s.frozen ≠ 0
 · rw [if_pos c2] at ho; cases ho
 rw [if_neg c2] at ho
 by_cases c3 : s.l.length < c.off
 · rw [if_pos c3] at ho; cases ho
 rw [if_neg c3] at ho; cases ho
theorem act_of_frz {S : Stone} {v e : Value} {s : Sh} {c : Cmd} {y : Nat} (hk : (c.kind = 5 ∧ y = c.plan) ∨ (c.kind = 6 ∧ y = 0)) (h : PartR S v (frzS s c y).1) (he : ErrR S e (frzS s c y).2.2) : ActC S v (.agg #[.int .i64 0, .int .u64 0, .bool (frzS s c y).2.1, .slice none 0 0]) e s (doA s c) := by
 have h1 : ¬ c.kind = 1 := by omega
 have h3 : ¬ c.kind = 3 := by omega
 unfold doA frzS at *
 rw [if_neg h1, if_neg h3]
 by_cases c2 : s.frozen ≠ 0 ∧ s.frozen ≠ c.plan
 · simp only [if_pos c2] at h he ⊢
   refine .inl ⟨164, he, ?_⟩
   rcases hk with ⟨k, _⟩ | ⟨k, _⟩
   · rw [if_pos k]
   · rw [if_neg om, if_pos k]
 · simp only [if_neg c2] at h he ⊢
   refine .inr ⟨he, ?_⟩
   rcases hk with ⟨k, rfl⟩ | ⟨k, rfl⟩
   · rw [if_pos k]; exact ⟨h, _, rfl, Sl.nil⟩
   · rw [if_neg om, if_pos k]; exact ⟨h, _, rfl, Sl.nil⟩
end Go.Proofs.YtkdmbimkanjbhaaGreatDoor.Eng
namespace Go.Proofs.YtkdmbimkanjbhaaGreatDoor.Eng
open Go Go.Proofs
set_option maxRecDepth 100000
attribute [local irreducible] Tr
theorem doA4 {s : Sh} {c : Cmd} (hk : c.kind = 4) : doA s c = if s.frozen ≠ 0 then (s, .bad 164) else (s, ⟨0, (readC s.c c.name).1, (readC s.c c.name).2, []⟩) := by
 unfold doA
 rw [if_neg om, if_neg om, if_neg om, if_neg om, if_pos hk]
theorem doA2 {s : Sh} {c : Cmd} (hk : c.kind = 2) : doA s c = if s.frozen ≠ 0 then (s, .bad 164) else if s.l.length < c.off then (s, .bad 141) else (s, ⟨0, c.off + min c.most (s.l.length - c.off), false, (s.l.drop c.off).take c.most⟩) := by
 unfold doA
 rw [if_neg om, if_neg om, if_neg om, if_neg om, if_neg (by omega : ¬ c.kind = 4)]
theorem act1 {S : Stone} {v bv : Value} {s : Sh} {c : Cmd} (h : PartR S v s) (ho : ShOk s) (hl : s.l.length < 200) (hb : Byt S bv c.val) (hc : CmdOk c) (hoff : c.off ≤ 1000) (hk : c.kind = 1) :
 Con Tryz.prog 39 #[v, .agg (c.cells bv).toArray] [] S (RetR fun u S' => ∃ v' r e, u = .tuple #[v', r, e] ∧ ActR S' v' r e s (doA s c)) := by
 have h' := h
 obtain ⟨A, a, B, b, D, d, rfl, hr, hp, hcv⟩ := h.ex
 obtain ⟨pb, cb, rfl, -⟩ := id hb
 refine con_of 124 Tryz.func39 rfl rfl rfl (fun w0 => ?_)
 refine sr (bx rfl rfl (fun b2 => bx rfl rfl (fun b3 => al zc_30 (fun b4 => al zc_77 (fun b5 => sa rfl (nesr (al zc_77 (fun b7 => nesr (sa rfl (nesr (sa rfl (ne ?_))))))))))))
 refine c_seq (sr (yy (y_far fo_57_0 rfl) (ll (lb ld_55) ?_)))
 refine ne (c_block (sr (yy (y_eq rfl rfl) (sa rfl (nec rfl (fun g1 => ?_) (fun g1 => ?_))))))
 · refine c_seq ?_
   refine c_region (ll (lbw ld_30) ?_)
   refine ll (lbw ld_57) ?_
   refine lw (t_callR rfl (produce_ok h' ho hl hb hc) en_70 ?_)
   rintro v17 S17 le17 ⟨w17, e17, rfl, hp17, he17⟩
   have hp17' := hp17
   obtain ⟨A1, a1, B1, b1, D1, d1, rfl, -⟩ := hp17.ex
   refine mv rfl (yy (y_ext rfl rfl) (yy (y_ext rfl rfl) (yy (y_ext rfl rfl) (lw (sw sz_30 ?_)))))
   refine yy (y_far fo_77_1 rfl) (lw (s1 sz_25 (sa rfl (ne ?_))))
   refine c_seq (sr (mv rfl (yy (y_build pl_143 zc_143 rfl rfl) (yy (y_mi co_143 rfl) (lw (t_callr' rfl (errIs_any he17) en_44 (nec rfl (fun g2 => ?_) (fun g2 => ?_))))))))
   · have hok : (prodS s c).2.2 = some none := by simpa using g2
     refine c_region (yy (y_far fo_77_2 rfl) (lw (s1 sz_4 (sa rfl (nes (dR ([.blk b2 (.cells (((prodS s c).1).cells (.slice A1 ((prodS s c).1).l.length a1) (.slice B1 ((prodS s c).1).p.length b1) (.slice D1 ((prodS s c).1).c.length d1)).toArray 30 (0, 0)), .blk b7 (.cells [.int .i64 0, u64 (prodS s c).2.1, .bool true, .slice none 0 0].toArray 77 (0, 0))]) [0, 1] (.take 0 (.take 1 (.take 2 (.alt 3 (.alt 4 (.take 5 .done) .stop) .stop)))) ?_))))))
     refine dl rfl (lbw ld_30) ?_
     refine dl rfl (lbw ld_77) ?_
     refine em rfl rfl (da rfl (sw sz_30 ?_))
     refine dA (Stone.le.refl _) (da rfl (sw sz_77 ?_))
     exact dA (Stone.le.refl _) (ea rfl rfl (d_done (e_then (c_ret (e_in_ret (e_then_ret (f_retR rfl (ResV.agg ld_30 rfl pk rfl (ResV.agg ld_77 rfl pk rfl (rt rfl))) ⟨_, _, _, rfl, ⟨_, hp17'⟩, ⟨⟨0, _, _, []⟩, _, rfl, Sl.nil⟩, act_of_prod2 hk hp17' hok⟩)))))))
   · have hok : (prodS s c).2.2 ≠ some none := by simpa using g2
     refine c_skip (e_then (c_seq (dR ([.blk b2 (.cells (((prodS s c).1).cells (.slice A1 ((prodS s c).1).l.length a1) (.slice B1 ((prodS s c).1).p.length b1) (.slice D1 ((prodS s c).1).c.length d1)).toArray 30 (0, 0)), .blk b7 (.cells [.int .i64 0, u64 (prodS s c).2.1, .bool false, .slice none 0 0].toArray 77 (0, 0))]) [0, 1] (.take 0 (.take 1 (.take 2 (.alt 3 (.alt 4 (.take 5 .done) .stop) .stop)))) ?_)))
     refine dl rfl (lbw ld_30) ?_
     refine dl rfl (lbw ld_77) ?_
     refine em rfl rfl (da rfl (sw sz_30 ?_))
     refine dA (Stone.le.refl _) (da rfl (sw sz_77 ?_))
     exact dA (Stone.le.refl _) (ea rfl rfl (d_done (e_then (c_ret (e_in_ret (e_then_ret (f_retR rfl (ResV.agg ld_30 rfl pk rfl (ResV.agg ld_77 rfl pk rfl (rt rfl))) ⟨_, _, _, rfl, ⟨_, hp17'⟩, ⟨⟨0, _, _, []⟩, _, rfl, Sl.nil⟩, act_of_prod hk hp17' he17 hok⟩)))))))
 · simp [hk] at g1
theorem act3 {S : Stone} {v bv : Value} {s : Sh} {c : Cmd} (h : PartR S v s) (ho : ShOk s) (hl : s.l.length < 200) (hb : Byt S bv c.val) (hc : CmdOk c) (hoff : c.off ≤ 1000) (hk : c.kind = 3) :
 Con Tryz.prog 39 #[v, .agg (c.cells bv).toArray] [] S (RetR fun u S' => ∃ v' r e, u = .tuple #[v', r, e] ∧ ActR S' v' r e s (doA s c)) := by
 have h' := h
 obtain ⟨A, a, B, b, D, d, rfl, hr, hp, hcv⟩ := h.ex
 obtain ⟨pb, cb, rfl, -⟩ := id hb
 refine con_of 124 Tryz.func39 rfl rfl rfl (fun w0 => ?_)
 refine sr (bx rfl rfl (fun b2 => bx rfl rfl (fun b3 => al zc_30 (fun b4 => al zc_77 (fun b5 => sa rfl (nesr (al zc_77 (fun b7 => nesr (sa rfl (nesr (sa rfl (ne ?_))))))))))))
 refine c_seq (sr (yy (y_far fo_57_0 rfl) (ll (lb ld_55) ?_)))
 refine ne (c_block (sr (yy (y_eq rfl rfl) (sa rfl (nec rfl (fun g1 => ?_) (fun g1 => ?_))))))
 · simp [hk] at g1
 · refine c_seq ?_
   refine c_region (yy (y_eq rfl rfl) (sa rfl (nec rfl (fun g2 => ?_) (fun g2 => ?_))))
   · refine c_seq ?_
     refine c_region (ll (lbw ld_30) ?_)
     refine ll (lbw ld_57) ?_
     refine lw (t_callR rfl (comm_ok h' ho hb hc) en_71 ?_)
     rintro v35 S35 le35 ⟨w35, e35, rfl, hp35, he35⟩
     have hp35' := hp35
     obtain ⟨A1, a1, B1, b1, D1, d1, rfl, -⟩ := hp35.ex
     refine mv rfl (yy (y_ext rfl rfl) (yy (y_ext rfl rfl) (lw (sw sz_30 (sa rfl (nes (sr (mv rfl (yy (y_build pl_143 zc_143 rfl rfl) (yy (y_mi co_143 rfl) (lw (t_callr' rfl (errIs_any he35) en_44 (nec rfl (fun g3 => ?_) (fun g3 => ?_))))))))))))))
     · have hok : (comS s c).2 = some none := by simpa using g3
       refine sr (ll (lbw ld_30) ?_)
       refine yy (y_build pl_77 zc_77 rfl rfl) (lw (sw sz_30 ?_))
       refine lw (sw sz_77 ?_)
       refine sa rfl (ne ?_)
       exact c_ret (e_then_ret (e_in_ret (e_then_ret (f_retR rfl (ResV.agg ld_30 rfl pk rfl (ResV.agg ld_77 rfl pk rfl (rt rfl))) ⟨_, _, _, rfl, ⟨_, hp35'⟩, ⟨⟨0, 0, _, []⟩, _, rfl, Sl.nil⟩, act_of_com2 hk hp35' hok⟩))))
     · have hok : (comS s c).2 ≠ some none := by simpa using g3
       refine c_skip (e_then (c_seq (dR ([.blk b2 (.cells (((comS s c).1).cells (.slice A1 ((comS s c).1).l.length a1) (.slice B1 ((comS s c).1).p.length b1) (.slice D1 ((comS s c).1).c.length d1)).toArray 30 (0, 0)), .blk b3 (.cells (c.cells (.slice (some pb) 1 cb)).toArray 57 (0, 0))]) [0, 2] (.take 0 (.take 1 (.take 2 (.take 3 (.take 4 (.alt 5 (.alt 6 (.take 7 .done) .stop) .stop)))))) ?_)))
       refine dl rfl (lbw ld_30) ?_
       refine ey rfl (y_far fo_57_6 rfl) (dl rfl (lb ld_25) ?_)
       refine ey rfl (y_build pl_77 zc_77 rfl rfl) (em rfl rfl (da rfl (sw sz_30 ?_)))
       refine dA (Stone.le.refl _) (da rfl (sw sz_77 ?_))
       exact dA (Stone.le.refl _) (ea rfl rfl (d_done (e_then (c_ret (e_in_ret (e_then_ret (f_retR rfl (ResV.agg ld_30 rfl pk rfl (ResV.agg ld_77 rfl pk rfl (rt rfl))) ⟨_, _, _, rfl, ⟨_, hp35'⟩, ⟨⟨0, _, _, []⟩, _, rfl, Sl.nil⟩, act_of_com hk hp35' he35 hok⟩)))))))
   · simp [hk] at g2
theorem act5 {S : Stone} {v bv : Value} {s : Sh} {c : Cmd} (h : PartR S v s) (ho : ShOk s) (hl : s.l.length < 200) (hb : Byt S bv c.val) (hc : CmdOk c) (hoff : c.off ≤ 1000) (hk : c.kind = 5) :
 Con Tryz.prog 39 #[v, .agg (c.cells bv).toArray] [] S (RetR fun u S' => ∃ v' r e, u = .tuple #[v', r, e] ∧ ActR S' v' r e s (doA s c)) := by
 have h' := h
 obtain ⟨A, a, B, b, D, d, rfl, hr, hp, hcv⟩ := h.ex
 obtain ⟨pb, cb, rfl, -⟩ := id hb
 refine con_of 124 Tryz.func39 rfl rfl rfl (fun w0 => ?_)
 refine sr (bx rfl rfl (fun b2 => bx rfl rfl (fun b3 => al zc_30 (fun b4 => al zc_77 (fun b5 => sa rfl (nesr (al zc_77 (fun b7 => nesr (sa rfl (nesr (sa rfl (ne ?_))))))))))))
 refine c_seq (sr (yy (y_far fo_57_0 rfl) (ll (lb ld_55) ?_)))
 refine ne (c_block (sr (yy (y_eq rfl rfl) (sa rfl (nec rfl (fun g1 => ?_) (fun g1 => ?_))))))
 · simp [hk] at g1
 · refine c_seq ?_
   refine c_region (yy (y_eq rfl rfl) (sa rfl (nec rfl (fun g2 => ?_) (fun g2 => ?_))))
   · simp [hk] at g2
   · refine c_seq ?_
     refine c_region (yy (y_eq rfl rfl) (sa rfl (nec rfl (fun g3 => ?_) (fun g3 => ?_))))
     · refine c_seq ?_
       refine c_region (ll (lbw ld_30) ?_)
       refine ll (lbw ld_57) ?_
       refine yy (y_far fo_57_9 rfl) (ll (lb ld_25) ?_)
       refine lw (t_callR rfl (freeze_any (y := c.plan) hr hp hcv) en_72 ?_)
       rintro v56 S56 le56 ⟨w56, e56, rfl, hp56, he56⟩
       have hp56' := hp56
       obtain ⟨A1, a1, B1, b1, D1, d1, rfl, -⟩ := hp56.ex
       refine mv rfl (yy (y_ext rfl rfl) (yy (y_ext rfl rfl) (yy (y_ext rfl rfl) (lw (sw sz_30 (yy (y_far fo_77_2 rfl) ?_))))))
       refine lw (s1 sz_4 (sa rfl (nes (dR ([.blk b2 (.cells (((frzS s c c.plan).1).cells (.slice A1 ((frzS s c c.plan).1).l.length a1) (.slice B1 ((frzS s c c.plan).1).p.length b1) (.slice D1 ((frzS s c c.plan).1).c.length d1)).toArray 30 (0, 0)), .blk b7 (.cells [.int .i64 0, .int .u64 0, .bool (frzS s c c.plan).2.1, .slice none 0 0].toArray 77 (0, 0))]) [0, 1] (.take 0 (.take 1 (.take 2 (.alt 3 (.alt 4 (.take 5 .done) .stop) .stop)))) ?_))))
       refine dl rfl (lbw ld_30) ?_
       refine dl rfl (lbw ld_77) ?_
       refine em rfl rfl (da rfl (sw sz_30 ?_))
       refine dA (Stone.le.refl _) (da rfl (sw sz_77 ?_))
       exact dA (Stone.le.refl _) (ea rfl rfl (d_done (e_then (c_ret (e_in_ret (e_then_ret (f_retR rfl (ResV.agg ld_30 rfl pk rfl (ResV.agg ld_77 rfl pk rfl (rt rfl))) ⟨_, _, _, rfl, ⟨_, hp56'⟩, ⟨⟨0, 0, _, []⟩, _, rfl, Sl.nil⟩, act_of_frz (.inl ⟨hk, rfl⟩) hp56' he56⟩)))))))
     · simp [hk] at g3
theorem act6 {S : Stone} {v bv : Value} {s : Sh} {c : Cmd} (h : PartR S v s) (ho : ShOk s) (hl : s.l.length < 200) (hb : Byt S bv c.val) (hc : CmdOk c) (hoff : c.off ≤ 1000) (hk : c.kind = 6) :
 Con Tryz.prog 39 #[v, .agg (c.cells bv).toArray] [] S (RetR fun u S' => ∃ v' r e, u = .tuple #[v', r, e] ∧ ActR S' v' r e s (doA s c)) := by
 have h' := h
 obtain ⟨A, a, B, b, D, d, rfl, hr, hp, hcv⟩ := h.ex
 obtain ⟨pb, cb, rfl, -⟩ := id hb
 refine con_of 124 Tryz.func39 rfl rfl rfl (fun w0 => ?_)
 refine sr (bx rfl rfl (fun b2 => bx rfl rfl (fun b3 => al zc_30 (fun b4 => al zc_77 (fun b5 => sa rfl (nesr (al zc_77 (fun b7 => nesr (sa rfl (nesr (sa rfl (ne ?_))))))))))))
 refine c_seq (sr (yy (y_far fo_57_0 rfl) (ll (lb ld_55) ?_)))
 refine ne (c_block (sr (yy (y_eq rfl rfl) (sa rfl (nec rfl (fun g1 => ?_) (fun g1 => ?_))))))
 · simp [hk] at g1
 · refine c_seq ?_
   refine c_region (yy (y_eq rfl rfl) (sa rfl (nec rfl (fun g2 => ?_) (fun g2 => ?_))))
   · simp [hk] at g2
   · refine c_seq ?_
     refine c_region (yy (y_eq rfl rfl) (sa rfl (nec rfl (fun g3 => ?_) (fun g3 => ?_))))
     · simp [hk] at g3
     · refine c_seq ?_
       refine c_region (yy (y_eq rfl rfl) (sa rfl (nec rfl (fun g4 => ?_) (fun g4 => ?_))))
       · refine c_seq ?_
         refine c_region (ll (lbw ld_30) ?_)
         refine ll (lbw ld_57) ?_
         refine lw (t_callR rfl (freeze_any (y := 0) hr hp hcv) en_72 ?_)
         rintro v69 S69 le69 ⟨w69, e69, rfl, hp69, he69⟩
         have hp69' := hp69
         obtain ⟨A1, a1, B1, b1, D1, d1, rfl, -⟩ := hp69.ex
         refine mv rfl (yy (y_ext rfl rfl) (yy (y_ext rfl rfl) (yy (y_ext rfl rfl) (lw (sw sz_30 (yy (y_far fo_77_2 rfl) ?_))))))
         refine lw (s1 sz_4 (sa rfl (nes (dR ([.blk b2 (.cells (((frzS s c 0).1).cells (.slice A1 ((frzS s c 0).1).l.length a1) (.slice B1 ((frzS s c 0).1).p.length b1) (.slice D1 ((frzS s c 0).1).c.length d1)).toArray 30 (0, 0)), .blk b7 (.cells [.int .i64 0, .int .u64 0, .bool (frzS s c 0).2.1, .slice none 0 0].toArray 77 (0, 0))]) [0, 1] (.take 0 (.take 1 (.take 2 (.alt 3 (.alt 4 (.take 5 .done) .stop) .stop)))) ?_))))
         refine dl rfl (lbw ld_30) ?_
         refine dl rfl (lbw ld_77) ?_
         refine em rfl rfl (da rfl (sw sz_30 ?_))
         refine dA (Stone.le.refl _) (da rfl (sw sz_77 ?_))
         exact dA (Stone.le.refl _) (ea rfl rfl (d_done (e_then (c_ret (e_in_ret (e_then_ret (f_retR rfl (ResV.agg ld_30 rfl pk rfl (ResV.agg ld_77 rfl pk rfl (rt rfl))) ⟨_, _, _, rfl, ⟨_, hp69'⟩, ⟨⟨0, 0, _, []⟩, _, rfl, Sl.nil⟩, act_of_frz (.inr ⟨hk, rfl⟩) hp69' he69⟩)))))))
       · simp [hk] at g4
theorem act4 {S : Stone} {v bv : Value} {s : Sh} {c : Cmd} (h : PartR S v s) (ho : ShOk s) (hl : s.l.length < 200) (hb : Byt S bv c.val) (hc : CmdOk c) (hoff : c.off ≤ 1000) (hk : c.kind = 4) :
 Con Tryz.prog 39 #[v, .agg (c.cells bv).toArray] [] S (RetR fun u S' => ∃ v' r e, u = .tuple #[v', r, e] ∧ ActR S' v' r e s (doA s c)) := by
 have h' := h
 obtain ⟨A, a, B, b, D, d, rfl, hr, hp, hcv⟩ := h.ex
 obtain ⟨pb, cb, rfl, -⟩ := id hb
 refine con_of 124 Tryz.func39 rfl rfl rfl (fun w0 => ?_)
 refine sr (bx rfl rfl (fun b2 => bx rfl rfl (fun b3 => al zc_30 (fun b4 => al zc_77 (fun b5 => sa rfl (nesr (al zc_77 (fun b7 => nesr (sa rfl (nesr (sa rfl (ne ?_))))))))))))
 refine c_seq (sr (yy (y_far fo_57_0 rfl) (ll (lb ld_55) ?_)))
 refine ne (c_block (sr (yy (y_eq rfl rfl) (sa rfl (nec rfl (fun g1 => ?_) (fun g1 => ?_))))))
 · simp [hk] at g1
 · refine c_seq ?_
   refine c_region (yy (y_eq rfl rfl) (sa rfl (nec rfl (fun g2 => ?_) (fun g2 => ?_))))
   · simp [hk] at g2
   · refine c_seq ?_
     refine c_region (yy (y_eq rfl rfl) (sa rfl (nec rfl (fun g3 => ?_) (fun g3 => ?_))))
     · simp [hk] at g3
     · refine c_seq ?_
       refine c_region (yy (y_eq rfl rfl) (sa rfl (nec rfl (fun g4 => ?_) (fun g4 => ?_))))
       · simp [hk] at g4
       · refine c_skip ?_
         refine e_in (e_then (c_seq (sr (yy (y_far fo_30_2 rfl) (ll (lb ld_25) ?_)))))
         refine yy (y_ne rfl rfl) (nec rfl (fun g5 => ?_) (fun g5 => ?_))
         · have hf : s.frozen ≠ 0 := by simp at g5; omega
           refine c_seq (dR ([.blk b2 (.cells (s.cells (.slice A s.l.length a) (.slice B s.p.length b) (.slice D s.c.length d)).toArray 30 (0, 0)), .blk b3 (.cells (c.cells (.slice (some pb) 1 cb)).toArray 57 (0, 0)), .blk b7 (.cells [.int .i64 0, .int .u64 0, .bool false, .slice none 0 0].toArray 77 (0, 0))]) [0, 1, 2] (.take 0 (.take 1 (.take 2 (.alt 3 (.alt 4 (.alt 5 (.take 6 .done) .stop) .stop) .stop)))) ?_)
           refine dl rfl (lbw ld_30) ?_
           refine dl rfl (lbw ld_77) ?_
           refine dl rfl (lbw ld_57) ?_
           refine da rfl (t_callR rfl (refuse_ok (e := 164) om) en_73 ?_)
           rintro v83 S83 le83 h83
           refine dA le83 (da rfl (sw sz_30 ?_))
           refine dA le83 (da rfl (sw sz_77 ?_))
           exact dA le83 (ea rfl rfl (d_done (e_then (c_ret (e_then_ret (f_retR rfl (ResV.agg ld_30 rfl pk rfl (ResV.agg ld_77 rfl pk rfl (rt rfl))) ⟨_, _, _, rfl, ⟨_, h'.mono le83⟩, ⟨⟨0, 0, false, []⟩, _, rfl, Sl.nil⟩, .inl ⟨164, h83.err, by rw [doA4 hk, if_pos hf]⟩⟩))))))
         · have hf : ¬ s.frozen ≠ 0 := by simp at g5; omega
           refine c_skip (e_then (c_seq (sr (yy (y_far fo_57_0 rfl) (ll (lb ld_55) ?_)))))
           refine ne (c_block (sr (yy (y_eq rfl rfl) (sa rfl (nec rfl (fun g6 => ?_) (fun g6 => ?_))))))
           · refine c_region ?_
             refine yy (y_far fo_30_5 rfl) (ll (lb ld_28) ?_)
             refine yy (y_far fo_57_8 rfl) (ll (lb ld_9) ?_)
             refine lw (t_callr' rfl ((read_ok hcv ho.cns.nm hc.name).back) en_74 (mv rfl (yy (y_ext rfl rfl) (yy (y_ext rfl rfl) (yy (y_far fo_77_1 rfl) (lw (s1 sz_25 (yy (y_far fo_77_2 rfl) ?_))))))))
             refine lw (s1 sz_4 (l_nil (e_in (e_then (c_seq (dR ([.blk b2 (.cells (s.cells (.slice A s.l.length a) (.slice B s.p.length b) (.slice D s.c.length d)).toArray 30 (0, 0)), .blk b3 (.cells (c.cells (.slice (some pb) 1 cb)).toArray 57 (0, 0)), .blk b7 (.cells [.int .i64 0, u64 (readC s.c c.name).1, .bool (readC s.c c.name).2, .slice none 0 0].toArray 77 (0, 0))]) [0, 1, 2] (.take 0 (.take 1 (.take 2 (.take 3 (.alt 4 (.alt 5 (.alt 6 (.take 7 .done) .stop) .stop) .stop))))) ?_))))))
             refine dl rfl (lbw ld_30) ?_
             refine dl rfl (lbw ld_77) ?_
             refine dl rfl (lbw ld_57) ?_
             refine em rfl rfl (da rfl (t_callr' rfl (refuse_none) en_73 ?_))
             refine dA (Stone.le.refl _) (da rfl (sw sz_30 ?_))
             refine dA (Stone.le.refl _) (da rfl (sw sz_77 ?_))
             exact dA (Stone.le.refl _) (ea rfl rfl (d_done (e_then (c_ret (f_retR rfl (ResV.agg ld_30 rfl pk rfl (ResV.agg ld_77 rfl pk rfl (rt rfl))) ⟨_, _, _, rfl, ⟨_, h'⟩, ⟨⟨0, _, _, []⟩, _, rfl, Sl.nil⟩, .inr ⟨rfl, by rw [doA4 hk, if_neg hf]; exact ⟨h', _, rfl, Sl.nil⟩⟩⟩)))))
           · simp [hk] at g6
theorem act2 {S : Stone} {v bv : Value} {s : Sh} {c : Cmd} (h : PartR S v s) (ho : ShOk s) (hl : s.l.length < 200) (hb : Byt S bv c.val) (hc : CmdOk c) (hoff : c.off ≤ 1000) (hk : c.kind = 2) :
 Con Tryz.prog 39 #[v, .agg (c.cells bv).toArray] [] S (RetR fun u S' => ∃ v' r e, u = .tuple #[v', r, e] ∧ ActR S' v' r e s (doA s c)) := by
 have h' := h
 obtain ⟨A, a, B, b, D, d, rfl, hr, hp, hcv⟩ := h.ex
 obtain ⟨pb, cb, rfl, -⟩ := id hb
 refine con_of 124 Tryz.func39 rfl rfl rfl (fun w0 => ?_)
 refine sr (bx rfl rfl (fun b2 => bx rfl rfl (fun b3 => al zc_30 (fun b4 => al zc_77 (fun b5 => sa rfl (nesr (al zc_77 (fun b7 => nesr (sa rfl (nesr (sa rfl (ne ?_))))))))))))
 refine c_seq (sr (yy (y_far fo_57_0 rfl) (ll (lb ld_55) ?_)))
 refine ne (c_block (sr (yy (y_eq rfl rfl) (sa rfl (nec rfl (fun g1 => ?_) (fun g1 => ?_))))))
 · simp [hk] at g1
 · refine c_seq ?_
   refine c_region (yy (y_eq rfl rfl) (sa rfl (nec rfl (fun g2 => ?_) (fun g2 => ?_))))
   · simp [hk] at g2
   · refine c_seq ?_
     refine c_region (yy (y_eq rfl rfl) (sa rfl (nec rfl (fun g3 => ?_) (fun g3 => ?_))))
     · simp [hk] at g3
     · refine c_seq ?_
       refine c_region (yy (y_eq rfl rfl) (sa rfl (nec rfl (fun g4 => ?_) (fun g4 => ?_))))
       · simp [hk] at g4
       · refine c_skip ?_
         refine e_in (e_then (c_seq (sr (yy (y_far fo_30_2 rfl) (ll (lb ld_25) ?_)))))
         refine yy (y_ne rfl rfl) (nec rfl (fun g5 => ?_) (fun g5 => ?_))
         · have hf : s.frozen ≠ 0 := by simp at g5; omega
           refine c_seq (dR ([.blk b2 (.cells (s.cells (.slice A s.l.length a) (.slice B s.p.length b) (.slice D s.c.length d)).toArray 30 (0, 0)), .blk b3 (.cells (c.cells (.slice (some pb) 1 cb)).toArray 57 (0, 0)), .blk b7 (.cells [.int .i64 0, .int .u64 0, .bool false, .slice none 0 0].toArray 77 (0, 0))]) [0, 1, 2] (.take 0 (.take 1 (.take 2 (.alt 3 (.alt 4 (.alt 5 (.take 6 .done) .stop) .stop) .stop)))) ?_)
           refine dl rfl (lbw ld_30) ?_
           refine dl rfl (lbw ld_77) ?_
           refine dl rfl (lbw ld_57) ?_
           refine da rfl (t_callR rfl (refuse_ok (e := 164) om) en_73 ?_)
           rintro v83 S83 le83 h83
           refine dA le83 (da rfl (sw sz_30 ?_))
           refine dA le83 (da rfl (sw sz_77 ?_))
           exact dA le83 (ea rfl rfl (d_done (e_then (c_ret (e_then_ret (f_retR rfl (ResV.agg ld_30 rfl pk rfl (ResV.agg ld_77 rfl pk rfl (rt rfl))) ⟨_, _, _, rfl, ⟨_, h'.mono le83⟩, ⟨⟨0, 0, false, []⟩, _, rfl, Sl.nil⟩, .inl ⟨164, h83.err, by rw [doA2 hk, if_pos hf]⟩⟩))))))
         · have hf : ¬ s.frozen ≠ 0 := by simp at g5; omega
           refine c_skip (e_then (c_seq (sr (yy (y_far fo_57_0 rfl) (ll (lb ld_55) ?_)))))
           refine ne (c_block (sr (yy (y_eq rfl rfl) (sa rfl (nec rfl (fun g6 => ?_) (fun g6 => ?_))))))
           · simp [hk] at g6
           · refine c_seq ?_
             refine c_region (yy (y_eq rfl rfl) (sa rfl (nec rfl (fun g7 => ?_) (fun g7 => ?_))))
             · refine c_seq ?_
               refine c_region (yy (y_far fo_30_3 rfl) (ll (lb ld_26) ?_))
               refine yy (y_far fo_57_6 rfl) (ll (lb ld_25) ?_)
               refine yy (y_far fo_57_7 rfl) (ll (lb ld_3) ?_)
               refine lw (t_callR rfl (fetch_any hr ho.num om hc.most.2) en_75 ?_)
               rintro v107 S107 le107 ⟨w107, rfl, hf107⟩
               obtain ⟨A1, a1, rfl, ha1, -⟩ := hf107.shape
               have hlen : (if s.l.length < c.off then ([] : List Rec) else (s.l.drop c.off).take c.most).length ≤ 200 := by { split <;> simp <;> omega }
               refine mv rfl (yy (y_ext rfl rfl) (yy (y_ext rfl rfl) (yy (y_far fo_77_3 rfl) (lw (s1 sz_26 (sa rfl ?_))))))
               refine ner (yy (y_far fo_57_6 rfl) (ll (lb ld_25) ?_))
               refine yy (y_far fo_77_3 rfl) (ll (lb ld_26) ?_)
               refine yy (y_ln sl_26 rfl) (yy (y_cvu cv_3_25 rfl om) (yy (y_addU rfl rfl om) (yy (y_far fo_77_1 rfl) (lw (s1 sz_25 (l_nil (e_in (e_then (c_seq (dR ([.blk b2 (.cells (s.cells (.slice A s.l.length a) (.slice B s.p.length b) (.slice D s.c.length d)).toArray 30 (0, 0)), .blk b3 (.cells (c.cells (.slice (some pb) 1 cb)).toArray 57 (0, 0)), .blk b7 (.cells [.int .i64 0, u64 (c.off + (if s.l.length < c.off then ([] : List Rec) else (s.l.drop c.off).take c.most).length), .bool false, .slice A1 (if s.l.length < c.off then ([] : List Rec) else (s.l.drop c.off).take c.most).length a1].toArray 77 (0, 0))]) [0, 1, 2] (.take 0 (.take 1 (.take 2 (.take 3 (.alt 4 (.alt 5 (.alt 6 (.take 7 .done) .stop) .stop) .stop))))) ?_))))))))))
               refine dl rfl (lbw ld_30) ?_
               refine dl rfl (lbw ld_77) ?_
               refine dl rfl (lbw ld_57) ?_
               refine em rfl rfl (da rfl (t_callR rfl (refuse_any) en_73 ?_))
               rintro v123 S123 le123 h123
               refine dA le123 (da rfl (sw sz_30 ?_))
               refine dA le123 (da rfl (sw sz_77 ?_))
               refine dA le123 (ea rfl rfl (d_done (e_then (c_ret ?_))))
               exact f_retR rfl (ResV.agg ld_30 rfl pk rfl (ResV.agg ld_77 rfl pk rfl (rt rfl))) ⟨_, _, _, rfl, ⟨_, h'.mono (le107.trans le123)⟩, ⟨⟨0, _, false, _⟩, _, rfl, hf107.mono le123⟩, by
                rw [doA2 hk, if_neg hf]
                by_cases hfar : s.l.length < c.off
                · simp only [if_pos hfar] at h123 ⊢
                  exact .inl ⟨141, h123, rfl⟩
                · simp only [if_neg hfar] at h123 hf107 ⊢
                  refine .inr ⟨h123, h'.mono (le107.trans le123), _, ?_, hf107.mono le123⟩
                  simp only [List.length_take, List.length_drop]⟩
             · simp [hk] at g7
theorem act_ok {S : Stone} {v bv : Value} {s : Sh} {c : Cmd} (h : PartR S v s) (ho : ShOk s) (hl : s.l.length < 200) (hb : Byt S bv c.val) (hc : CmdOk c) (hoff : c.off ≤ 1000) :
 Con Tryz.prog 39 #[v, .agg (c.cells bv).toArray] [] S (RetR fun u S' => ∃ v' r e, u = .tuple #[v', r, e] ∧ ActR S' v' r e s (doA s c)) := by
 have hk := hc.kind
 have : c.kind = 1 ∨ c.kind = 2 ∨ c.kind = 3 ∨ c.kind = 4 ∨ c.kind = 5 ∨ c.kind = 6 := by omega
 rcases this with k | k | k | k | k | k
 · exact act1 h ho hl hb hc hoff k
 · exact act2 h ho hl hb hc hoff k
 · exact act3 h ho hl hb hc hoff k
 · exact act4 h ho hl hb hc hoff k
 · exact act5 h ho hl hb hc hoff k
 · exact act6 h ho hl hb hc hoff k
end Go.Proofs.YtkdmbimkanjbhaaGreatDoor.Eng
namespace Go.Proofs.YtkdmbimkanjbhaaGreatDoor.Eng
open Go Go.Proofs
set_option maxRecDepth 100000
attribute [local irreducible] Tr
theorem PartR.vals {S : Stone} {v : Value} (h : ∃ s', PartR S v s') : ∃ cs : List Value, v = .agg cs.toArray ∧ cs.length = 7 ∧ cs.all Value.oneCell' = true := by
 obtain ⟨s', h⟩ := h
 obtain ⟨A, a, B, b, D, d, rfl, -⟩ := h.ex
 exact ⟨_, rfl, rfl, rfl⟩
theorem ResR.vals {S : Stone} {v : Value} (h : ∃ r', ResR S v r') : ∃ cs : List Value, v = .agg cs.toArray ∧ cs.length = 4 ∧ cs.all Value.oneCell' = true := by
 obtain ⟨r', rv, rfl, h⟩ := h
 obtain ⟨A, a, rfl, -⟩ := h.shape
 exact ⟨_, rfl, rfl, rfl⟩
theorem do_ok {S : Stone} {v bv : Value} {s : Sh} {c : Cmd} (hg : Gl S) (h : PartR S v s) (ho : ShOk s) (hl : s.l.length < 200) (hb : Byt S bv c.val) (hc : CmdOk c) (hoff : c.off ≤ 1000) :
 Con Tryz.prog 23 #[v, .agg (c.cells bv).toArray] [] S (RetR fun u S' => ∃ v' r, u = .tuple #[v', r] ∧ PartR S' v' (doS s c).1 ∧ ResR S' r (doS s c).2) := by
 have h' := h
 obtain ⟨A, a, B, b, D, d, rfl, hr, hp, hcv⟩ := h.ex
 have hb' := hb
 obtain ⟨pb, cb, rfl, -⟩ := id hb
 have hll := ho.ll
 have hpl := ho.pl
 have hcl := ho.cl
 refine con_of 49 Tryz.func23 rfl rfl rfl (fun w0 => ?_)
 refine sr (bx rfl rfl (fun b2 => bx rfl rfl (fun b3 => al zc_30 (fun b4 => al zc_77 (fun b5 => nes (c_block (sr (ll (lbw ld_30) ?_))))))))
 refine lw (t_callr' rfl ((check_ok h' ho).back) en_36 (yy (y_ne rfl rfl) (sa rfl (ne (c_false rfl (sr (ll (lbw ld_57) ?_)))))))
 refine lw (t_callr' rfl (well_ok hc) en_37 (yy (y_not rfl) (sa rfl (ne (c_false rfl (sr (yy (y_far fo_57_1 rfl) (ll (lb ld_25) ?_))))))))
 refine yy (y_far fo_30_1 rfl) (ll (lb ld_25) ?_)
 refine yy (y_ne rfl rfl) (sa rfl (nec rfl (fun g3 => ?_) (fun g3 => ?_)))
 · have he : c.epoch ≠ s.epoch := by simp at g3; omega
   have hq : doS s c = (s, .bad 162) := by rw [doS_eq, if_pos he]
   refine sr (ll (lbw ld_30) ?_)
   refine lw (t_callR rfl (ownPart_ok h' om om om) en_38 ?_)
   rintro v30 S30 le30 h30
   obtain ⟨A1, a1, B1, b1, D1, d1, rfl, hr1, hp1, hc1⟩ := h30.ex
   refine yy (y_build pl_77 zc_77 rfl rfl) (lw (sw sz_30 ?_))
   refine lw (sw sz_77 ?_)
   refine ne ?_
   exact c_ret (e_in_ret (e_then_ret (f_retR rfl (ResV.agg ld_30 rfl pk rfl (ResV.agg ld_77 rfl pk rfl rn)) (by rw [hq]; exact ⟨_, _, rfl, h30, _, rfl, Sl.nil⟩))))
 · have he : ¬ c.epoch ≠ s.epoch := by simp at g3; omega
   have hq : doS s c = doA s c := by rw [doS_eq, if_neg he]
   refine c_skip (e_in (e_then (c_seq (c_cutx (τ := List Value × List Value × Value × Stone × Nat × Nat) (fun z => [(2, .pointer (some ⟨b2, 0, none⟩)), (4, .pointer (some ⟨b4, 0, none⟩)), (5, .pointer (some ⟨b5, 0, none⟩)), (6, .pointer (some ⟨z.2.2.2.2.1, 0, none⟩)), (7, .pointer (some ⟨z.2.2.2.2.2, 0, none⟩)), (8, z.2.2.1)]) (fun z => [.blk z.2.2.2.2.1 (.cells z.1.toArray 30 (0, 0)), .blk z.2.2.2.2.2 (.cells z.2.1.toArray 77 (0, 0)), .blk b2 (.cells (s.cells (.slice A s.l.length a) (.slice B s.p.length b) (.slice D s.c.length d)).toArray 30 (0, 0)), .blk b4 (.cells [.string ⟨#[]⟩, .string ⟨#[]⟩, .int .u64 0, .int .u64 0, .slice none 0 0, .slice none 0 0, .slice none 0 0].toArray 30 (0, 0)), .blk b5 (.cells [.int .i64 0, .int .u64 0, .bool false, .slice none 0 0].toArray 77 (0, 0))]) (fun z => z.2.2.2.1) (fun z => Stone.le S z.2.2.2.1 ∧ ActR z.2.2.2.1 (.agg z.1.toArray) (.agg z.2.1.toArray) z.2.2.1 s (doA s c) ∧ z.1.length = 7 ∧ z.1.all Value.oneCell' = true ∧ z.2.1.length = 4 ∧ z.2.1.all Value.oneCell' = true) (fun K hK => ?_) (fun z hz => ?_)))))
   refine dR ([.blk b2 (.cells (s.cells (.slice A s.l.length a) (.slice B s.p.length b) (.slice D s.c.length d)).toArray 30 (0, 0)), .blk b3 (.cells (c.cells (.slice (some pb) 1 cb)).toArray 57 (0, 0))]) [0, 2] (.take 0 (.take 2 (.alt 1 (.alt 3 (.take 4 (.take 5 (.take 6 (.take 7 (.alt 8 (.alt 9 (.alt 10 (.alt 11 (.take 12 .done) .stop) .stop) .stop) (.alt 9 (.alt 8 (.alt 10 (.alt 11 (.take 12 .done) .stop) .stop) .stop) .stop)))))) (.alt 8 (.alt 3 (.take 4 (.take 5 (.take 6 (.take 7 (.alt 9 (.alt 10 (.alt 11 (.take 12 .done) .stop) .stop) .stop))))) (.alt 9 (.alt 3 (.take 4 (.take 5 (.take 6 (.take 7 (.alt 10 (.alt 11 (.take 12 .done) .stop) .stop))))) .stop) .stop)) (.alt 9 (.alt 3 (.take 4 (.take 5 (.take 6 (.take 7 (.alt 8 (.alt 10 (.alt 11 (.take 12 .done) .stop) .stop) .stop))))) (.alt 8 (.alt 3 (.take 4 (.take 5 (.take 6 (.take 7 (.alt 10 (.alt 11 (.take 12 .done) .stop) .stop))))) .stop) .stop)) .stop))) (.alt 8 (.alt 1 (.alt 3 (.take 4 (.take 5 (.take 6 (.take 7 (.alt 9 (.alt 10 (.alt 11 (.take 12 .done) .stop) .stop) .stop))))) (.alt 9 (.alt 3 (.take 4 (.take 5 (.take 6 (.take 7 (.alt 10 (.alt 11 (.take 12 .done) .stop) .stop))))) .stop) .stop)) (.alt 9 (.alt 1 (.alt 3 (.take 4 (.take 5 (.take 6 (.take 7 (.alt 10 (.alt 11 (.take 12 .done) .stop) .stop))))) .stop) .stop) .stop)) (.alt 9 (.alt 1 (.alt 3 (.take 4 (.take 5 (.take 6 (.take 7 (.alt 8 (.alt 10 (.alt 11 (.take 12 .done) .stop) .stop) .stop))))) (.alt 8 (.alt 3 (.take 4 (.take 5 (.take 6 (.take 7 (.alt 10 (.alt 11 (.take 12 .done) .stop) .stop))))) .stop) .stop)) (.alt 8 (.alt 1 (.alt 3 (.take 4 (.take 5 (.take 6 (.take 7 (.alt 10 (.alt 11 (.take 12 .done) .stop) .stop))))) .stop) .stop) .stop)) .stop))))) ?_
   refine dl rfl (lbw ld_30) ?_
   refine dl rfl (lbw ld_57) ?_
   refine d_alt rfl rfl ?_ ?_
   · -- first 1
     refine t_callR rfl (ownPart_ok h' om om om) en_38 ?_
     rintro v34 S34 le34 h34
     have hb34 := hb.mono le34
     refine dA le34 (d_alt rfl rfl ?_ ?_)
     · -- first 3
       refine t_callR rfl (act_ok h34 ho hl hb34 hc hoff) en_39 ?_
       rintro v36 S36 le36 ⟨w36, r36, e36, rfl, hA36⟩
       obtain ⟨cs1, rfl, hn1, ha1⟩ := PartR.vals hA36.1
       obtain ⟨cs2, rfl, hn2, ha2⟩ := ResR.vals hA36.2.1
       refine dA (le34.trans le36) (em rfl rfl (ey rfl (y_ext rfl rfl) (ey rfl (y_ext rfl rfl) (ey rfl (y_ext rfl rfl) (d_alt rfl rfl ?_ ?_)))))
       · -- first 8
         refine tal zc_30 (fun b6 => dA (le34.trans le36) (da rfl (tal zc_77 (fun b7 => dA (le34.trans le36) (da rfl (t_stw (vs := cs1) sz_30 rfl rfl rfl hn1 ha1 pk rfl ?_))))))
         refine dA (le34.trans le36) (da rfl (t_stw (vs := cs2) sz_77 rfl rfl rfl hn2 ha2 pk rfl ?_))
         exact dA (le34.trans le36) (ea rfl rfl (d_done (e_then (t_to (hK (cs1, cs2, e36, S36, b6, b7) ⟨le34.trans le36, hA36, hn1, ha1, hn2, ha2⟩)))))
       refine d_alt rfl rfl ?_ d_stop
       refine tal zc_77 (fun b7 => dA (le34.trans le36) (da rfl (tal zc_30 (fun b6 => dA (le34.trans le36) (da rfl (t_stw (vs := cs1) sz_30 rfl rfl rfl hn1 ha1 pk rfl ?_))))))
       refine dA (le34.trans le36) (da rfl (t_stw (vs := cs2) sz_77 rfl rfl rfl hn2 ha2 pk rfl ?_))
       exact dA (le34.trans le36) (ea rfl rfl (d_done (e_then (t_to (hK (cs1, cs2, e36, S36, b6, b7) ⟨le34.trans le36, hA36, hn1, ha1, hn2, ha2⟩)))))
     refine d_alt rfl rfl ?_ ?_
     · -- first 8
       refine tal zc_30 (fun b6 => dA le34 (d_alt rfl rfl ?_ ?_))
       · -- first 3
         refine t_callR rfl (act_ok h34 ho hl hb34 hc hoff) en_39 ?_
         rintro v36 S36 le36 ⟨w36, r36, e36, rfl, hA36⟩
         obtain ⟨cs1, rfl, hn1, ha1⟩ := PartR.vals hA36.1
         obtain ⟨cs2, rfl, hn2, ha2⟩ := ResR.vals hA36.2.1
         refine dA (le34.trans le36) (em rfl rfl (ey rfl (y_ext rfl rfl) (ey rfl (y_ext rfl rfl) (ey rfl (y_ext rfl rfl) (da rfl (tal zc_77 (fun b7 => dA (le34.trans le36) (da rfl (t_stw (vs := cs1) sz_30 rfl rfl rfl hn1 ha1 pk rfl ?_)))))))))
         refine dA (le34.trans le36) (da rfl (t_stw (vs := cs2) sz_77 rfl rfl rfl hn2 ha2 pk rfl ?_))
         exact dA (le34.trans le36) (ea rfl rfl (d_done (e_then (t_to (hK (cs1, cs2, e36, S36, b6, b7) ⟨le34.trans le36, hA36, hn1, ha1, hn2, ha2⟩)))))
       refine d_alt rfl rfl ?_ d_stop
       refine tal zc_77 (fun b7 => dA le34 (da rfl (t_callR rfl (act_ok h34 ho hl hb34 hc hoff) en_39 ?_)))
       rintro v36 S36 le36 ⟨w36, r36, e36, rfl, hA36⟩
       obtain ⟨cs1, rfl, hn1, ha1⟩ := PartR.vals hA36.1
       obtain ⟨cs2, rfl, hn2, ha2⟩ := ResR.vals hA36.2.1
       refine dA (le34.trans le36) (em rfl rfl (ey rfl (y_ext rfl rfl) (ey rfl (y_ext rfl rfl) (ey rfl (y_ext rfl rfl) (da rfl (t_stw (vs := cs1) sz_30 rfl rfl rfl hn1 ha1 pk rfl ?_))))))
       refine dA (le34.trans le36) (da rfl (t_stw (vs := cs2) sz_77 rfl rfl rfl hn2 ha2 pk rfl ?_))
       exact dA (le34.trans le36) (ea rfl rfl (d_done (e_then (t_to (hK (cs1, cs2, e36, S36, b6, b7) ⟨le34.trans le36, hA36, hn1, ha1, hn2, ha2⟩)))))
     refine d_alt rfl rfl ?_ d_stop
     refine tal zc_77 (fun b7 => dA le34 (d_alt rfl rfl ?_ ?_))
     · -- first 3
       refine t_callR rfl (act_ok h34 ho hl hb34 hc hoff) en_39 ?_
       rintro v36 S36 le36 ⟨w36, r36, e36, rfl, hA36⟩
       obtain ⟨cs1, rfl, hn1, ha1⟩ := PartR.vals hA36.1
       obtain ⟨cs2, rfl, hn2, ha2⟩ := ResR.vals hA36.2.1
       refine dA (le34.trans le36) (em rfl rfl (ey rfl (y_ext rfl rfl) (ey rfl (y_ext rfl rfl) (ey rfl (y_ext rfl rfl) (da rfl (tal zc_30 (fun b6 => dA (le34.trans le36) (da rfl (t_stw (vs := cs1) sz_30 rfl rfl rfl hn1 ha1 pk rfl ?_)))))))))
       refine dA (le34.trans le36) (da rfl (t_stw (vs := cs2) sz_77 rfl rfl rfl hn2 ha2 pk rfl ?_))
       exact dA (le34.trans le36) (ea rfl rfl (d_done (e_then (t_to (hK (cs1, cs2, e36, S36, b6, b7) ⟨le34.trans le36, hA36, hn1, ha1, hn2, ha2⟩)))))
     refine d_alt rfl rfl ?_ d_stop
     refine tal zc_30 (fun b6 => dA le34 (da rfl (t_callR rfl (act_ok h34 ho hl hb34 hc hoff) en_39 ?_)))
     rintro v36 S36 le36 ⟨w36, r36, e36, rfl, hA36⟩
     obtain ⟨cs1, rfl, hn1, ha1⟩ := PartR.vals hA36.1
     obtain ⟨cs2, rfl, hn2, ha2⟩ := ResR.vals hA36.2.1
     refine dA (le34.trans le36) (em rfl rfl (ey rfl (y_ext rfl rfl) (ey rfl (y_ext rfl rfl) (ey rfl (y_ext rfl rfl) (da rfl (t_stw (vs := cs1) sz_30 rfl rfl rfl hn1 ha1 pk rfl ?_))))))
     refine dA (le34.trans le36) (da rfl (t_stw (vs := cs2) sz_77 rfl rfl rfl hn2 ha2 pk rfl ?_))
     exact dA (le34.trans le36) (ea rfl rfl (d_done (e_then (t_to (hK (cs1, cs2, e36, S36, b6, b7) ⟨le34.trans le36, hA36, hn1, ha1, hn2, ha2⟩)))))
   refine d_alt rfl rfl ?_ ?_
   · -- first 8
     refine tal zc_30 (fun b6 => dA (Stone.le.refl _) (d_alt rfl rfl ?_ ?_))
     · -- first 1
       refine t_callR rfl (ownPart_ok h' om om om) en_38 ?_
       rintro v34 S34 le34 h34
       have hb34 := hb.mono le34
       refine dA le34 (d_alt rfl rfl ?_ ?_)
       · -- first 3
         refine t_callR rfl (act_ok h34 ho hl hb34 hc hoff) en_39 ?_
         rintro v36 S36 le36 ⟨w36, r36, e36, rfl, hA36⟩
         obtain ⟨cs1, rfl, hn1, ha1⟩ := PartR.vals hA36.1
         obtain ⟨cs2, rfl, hn2, ha2⟩ := ResR.vals hA36.2.1
         refine dA (le34.trans le36) (em rfl rfl (ey rfl (y_ext rfl rfl) (ey rfl (y_ext rfl rfl) (ey rfl (y_ext rfl rfl) (da rfl (tal zc_77 (fun b7 => dA (le34.trans le36) (da rfl (t_stw (vs := cs1) sz_30 rfl rfl rfl hn1 ha1 pk rfl ?_)))))))))
         refine dA (le34.trans le36) (da rfl (t_stw (vs := cs2) sz_77 rfl rfl rfl hn2 ha2 pk rfl ?_))
         exact dA (le34.trans le36) (ea rfl rfl (d_done (e_then (t_to (hK (cs1, cs2, e36, S36, b6, b7) ⟨le34.trans le36, hA36, hn1, ha1, hn2, ha2⟩)))))
       refine d_alt rfl rfl ?_ d_stop
       refine tal zc_77 (fun b7 => dA le34 (da rfl (t_callR rfl (act_ok h34 ho hl hb34 hc hoff) en_39 ?_)))
       rintro v36 S36 le36 ⟨w36, r36, e36, rfl, hA36⟩
       obtain ⟨cs1, rfl, hn1, ha1⟩ := PartR.vals hA36.1
       obtain ⟨cs2, rfl, hn2, ha2⟩ := ResR.vals hA36.2.1
       refine dA (le34.trans le36) (em rfl rfl (ey rfl (y_ext rfl rfl) (ey rfl (y_ext rfl rfl) (ey rfl (y_ext rfl rfl) (da rfl (t_stw (vs := cs1) sz_30 rfl rfl rfl hn1 ha1 pk rfl ?_))))))
       refine dA (le34.trans le36) (da rfl (t_stw (vs := cs2) sz_77 rfl rfl rfl hn2 ha2 pk rfl ?_))
       exact dA (le34.trans le36) (ea rfl rfl (d_done (e_then (t_to (hK (cs1, cs2, e36, S36, b6, b7) ⟨le34.trans le36, hA36, hn1, ha1, hn2, ha2⟩)))))
     refine d_alt rfl rfl ?_ d_stop
     refine tal zc_77 (fun b7 => dA (Stone.le.refl _) (da rfl (t_callR rfl (ownPart_ok h' om om om) en_38 ?_)))
     rintro v34 S34 le34 h34
     have hb34 := hb.mono le34
     refine dA le34 (da rfl (t_callR rfl (act_ok h34 ho hl hb34 hc hoff) en_39 ?_))
     rintro v36 S36 le36 ⟨w36, r36, e36, rfl, hA36⟩
     obtain ⟨cs1, rfl, hn1, ha1⟩ := PartR.vals hA36.1
     obtain ⟨cs2, rfl, hn2, ha2⟩ := ResR.vals hA36.2.1
     refine dA (le34.trans le36) (em rfl rfl (ey rfl (y_ext rfl rfl) (ey rfl (y_ext rfl rfl) (ey rfl (y_ext rfl rfl) (da rfl (t_stw (vs := cs1) sz_30 rfl rfl rfl hn1 ha1 pk rfl ?_))))))
     refine dA (le34.trans le36) (da rfl (t_stw (vs := cs2) sz_77 rfl rfl rfl hn2 ha2 pk rfl ?_))
     exact dA (le34.trans le36) (ea rfl rfl (d_done (e_then (t_to (hK (cs1, cs2, e36, S36, b6, b7) ⟨le34.trans le36, hA36, hn1, ha1, hn2, ha2⟩)))))
   refine d_alt rfl rfl ?_ d_stop
   refine tal zc_77 (fun b7 => dA (Stone.le.refl _) (d_alt rfl rfl ?_ ?_))
   · -- first 1
     refine t_callR rfl (ownPart_ok h' om om om) en_38 ?_
     rintro v34 S34 le34 h34
     have hb34 := hb.mono le34
     refine dA le34 (d_alt rfl rfl ?_ ?_)
     · -- first 3
       refine t_callR rfl (act_ok h34 ho hl hb34 hc hoff) en_39 ?_
       rintro v36 S36 le36 ⟨w36, r36, e36, rfl, hA36⟩
       obtain ⟨cs1, rfl, hn1, ha1⟩ := PartR.vals hA36.1
       obtain ⟨cs2, rfl, hn2, ha2⟩ := ResR.vals hA36.2.1
       refine dA (le34.trans le36) (em rfl rfl (ey rfl (y_ext rfl rfl) (ey rfl (y_ext rfl rfl) (ey rfl (y_ext rfl rfl) (da rfl (tal zc_30 (fun b6 => dA (le34.trans le36) (da rfl (t_stw (vs := cs1) sz_30 rfl rfl rfl hn1 ha1 pk rfl ?_)))))))))
       refine dA (le34.trans le36) (da rfl (t_stw (vs := cs2) sz_77 rfl rfl rfl hn2 ha2 pk rfl ?_))
       exact dA (le34.trans le36) (ea rfl rfl (d_done (e_then (t_to (hK (cs1, cs2, e36, S36, b6, b7) ⟨le34.trans le36, hA36, hn1, ha1, hn2, ha2⟩)))))
     refine d_alt rfl rfl ?_ d_stop
     refine tal zc_30 (fun b6 => dA le34 (da rfl (t_callR rfl (act_ok h34 ho hl hb34 hc hoff) en_39 ?_)))
     rintro v36 S36 le36 ⟨w36, r36, e36, rfl, hA36⟩
     obtain ⟨cs1, rfl, hn1, ha1⟩ := PartR.vals hA36.1
     obtain ⟨cs2, rfl, hn2, ha2⟩ := ResR.vals hA36.2.1
     refine dA (le34.trans le36) (em rfl rfl (ey rfl (y_ext rfl rfl) (ey rfl (y_ext rfl rfl) (ey rfl (y_ext rfl rfl) (da rfl (t_stw (vs := cs1) sz_30 rfl rfl rfl hn1 ha1 pk rfl ?_))))))
     refine dA (le34.trans le36) (da rfl (t_stw (vs := cs2) sz_77 rfl rfl rfl hn2 ha2 pk rfl ?_))
     exact dA (le34.trans le36) (ea rfl rfl (d_done (e_then (t_to (hK (cs1, cs2, e36, S36, b6, b7) ⟨le34.trans le36, hA36, hn1, ha1, hn2, ha2⟩)))))
   refine d_alt rfl rfl ?_ d_stop
   refine tal zc_30 (fun b6 => dA (Stone.le.refl _) (da rfl (t_callR rfl (ownPart_ok h' om om om) en_38 ?_)))
   rintro v34 S34 le34 h34
   have hb34 := hb.mono le34
   refine dA le34 (da rfl (t_callR rfl (act_ok h34 ho hl hb34 hc hoff) en_39 ?_))
   rintro v36 S36 le36 ⟨w36, r36, e36, rfl, hA36⟩
   obtain ⟨cs1, rfl, hn1, ha1⟩ := PartR.vals hA36.1
   obtain ⟨cs2, rfl, hn2, ha2⟩ := ResR.vals hA36.2.1
   refine dA (le34.trans le36) (em rfl rfl (ey rfl (y_ext rfl rfl) (ey rfl (y_ext rfl rfl) (ey rfl (y_ext rfl rfl) (da rfl (t_stw (vs := cs1) sz_30 rfl rfl rfl hn1 ha1 pk rfl ?_))))))
   refine dA (le34.trans le36) (da rfl (t_stw (vs := cs2) sz_77 rfl rfl rfl hn2 ha2 pk rfl ?_))
   exact dA (le34.trans le36) (ea rfl rfl (d_done (e_then (t_to (hK (cs1, cs2, e36, S36, b6, b7) ⟨le34.trans le36, hA36, hn1, ha1, hn2, ha2⟩)))))
   -- behind the cut
   refine sr ?_
   obtain ⟨cs1, cs2, e36, S36, b6, b7⟩ := z
   obtain ⟨hle, ⟨-, -, hA⟩, hn1, ha1, hn2, ha2⟩ := hz
   dsimp only at hle hA hn1 ha1 hn2 ha2 ⊢
   have hE : ∃ o, ErrR S36 e36 o ∧ o ≠ some none ∧ (∀ n, o = some (some n) → doA s c = (s, .bad n)) ∧ (o = none → PartR S36 (.agg cs1.toArray) (doA s c).1 ∧ ResR S36 (.agg cs2.toArray) (doA s c).2) := by
    rcases hA with ⟨n, h1, h2⟩ | ⟨h1, h2, h3⟩
    · exact ⟨some (some n), h1, by simp, (fun m e => by cases e; exact h2), (fun e => by cases e)⟩
    · exact ⟨none, h1, by simp, (fun m e => by cases e), (fun _ => ⟨h2, h3⟩)⟩
   obtain ⟨o, hE1, hE2, hE3, hE4⟩ := hE
   have hg36 : Gl S36 := hle.cell hg
   refine al zc_31 (fun b9 => nes (sr (mv rfl (yy (y_mi co_108 rfl) (lw (t_call en_40 rfl (Pick.perm Pick.hd) (errAs_any hg36 hE1 hE2) (lt_n rfl) ?_))))))
   rintro v I1 S42 le42 ⟨x, rfl, rfl, hx⟩
   dsimp only [List.cons_append, List.nil_append]
   refine nec rfl (fun g4 => ?_) (fun g4 => ?_)
   · obtain ⟨n, rfl⟩ : ∃ n, o = some (some n) := by
      match o, hE2, g4 with
      | some (some n), _, _ => exact ⟨n, rfl⟩
     have hxn := hx n rfl
     subst hxn
     have hd := hE3 _ rfl
     refine c_seq (dR ([.blk b2 (.cells (s.cells (.slice A s.l.length a) (.slice B s.p.length b) (.slice D s.c.length d)).toArray 30 (0, 0)), .blk b9 (.cells [i64 x].toArray 31 (0, 0))]) [0, 2] (.take 0 (.take 2 (.take 3 (.alt 1 (.alt 4 (.alt 5 .done .stop) .stop) .stop)))) ?_)
     refine dl rfl (lbw ld_30) ?_
     refine dl rfl (lb ld_31) ?_
     refine ey rfl (y_build pl_77 zc_77 rfl rfl) (da rfl (t_callR rfl (ownPart_ok (h'.mono (hle.trans le42)) om om om) en_38 ?_))
     rintro v44 S44 le44 h44
     obtain ⟨A1, a1, B1, b1, D1, d1, rfl, hr1, hp1, hc1⟩ := h44.ex
     refine dA le44 (da rfl (sw sz_30 ?_))
     refine dA le44 (da rfl (sw sz_77 ?_))
     exact dA le44 (d_done (e_then (c_ret (e_then_ret (f_retR rfl (ResV.agg ld_30 rfl pk rfl (ResV.agg ld_77 rfl pk rfl rn)) (by rw [hq, hd]; exact ⟨_, _, rfl, h44, _, rfl, Sl.nil⟩))))))
   · have ho0 : o = none := by
      match o, g4 with
      | none, _ => rfl
     obtain ⟨hd1, hd2⟩ := hE4 ho0
     have hd1' := hd1
     have hd2' := hd2
     obtain ⟨A1, a1, B1, b1, D1, d1, e1, -⟩ := hd1'.ex
     obtain ⟨rv2, e2, hr2⟩ := hd2'
     obtain ⟨A2, a2, rfl, -⟩ := hr2.shape
     injection e1 with e1
     have e1 : cs1 = _ := congrArg Array.toList e1
     injection e2 with e2
     have e2 : cs2 = _ := congrArg Array.toList e2
     dsimp only at e1 e2
     subst e1
     subst e2
     refine c_skip (e_then (c_seq (dR ([.blk b6 (.cells ((doA s c).1.cells (.slice A1 (doA s c).1.l.length a1) (.slice B1 (doA s c).1.p.length b1) (.slice D1 (doA s c).1.c.length d1)).toArray 30 (0, 0)), .blk b7 (.cells [i64 (doA s c).2.err, u64 (doA s c).2.off, .bool (doA s c).2.old, .slice A2 (doA s c).2.l.length a2].toArray 77 (0, 0))]) [0, 1] (.take 0 (.take 1 (.alt 2 (.alt 3 .done .stop) .stop))) ?_)))
     refine dl rfl (lbw ld_30) ?_
     refine dl rfl (lbw ld_77) ?_
     refine da rfl (sw sz_30 ?_)
     refine dA (Stone.le.refl _) (da rfl (sw sz_77 ?_))
     exact dA (Stone.le.refl _) (d_done (e_then (c_ret (f_retR rfl (ResV.agg ld_30 rfl pk rfl (ResV.agg ld_77 rfl pk rfl rn)) (by rw [hq]; exact ⟨_, _, rfl, hd1.mono le42, hd2.mono le42⟩)))))
end Go.Proofs.YtkdmbimkanjbhaaGreatDoor.Eng
namespace Go.Proofs.YtkdmbimkanjbhaaGreatDoor.Eng
open Go Go.Proofs
set_option maxRecDepth 100000
attribute [local irreducible] Tr
theorem indexOf_ge {α : Type} {q : α → Bool} {l : List α} : 0 ≤ indexOf q l ↔ l.any q = true := by
 unfold indexOf; split <;> simp_all
theorem indexOf_any {α : Type} {q : α → Bool} {l : List α} (h : l.any q = true) : indexOf q l = ((l.findIdx q : Nat) : Int) := by unfold indexOf; rw [if_pos h]
theorem lt10 {p : Nat} (h : p < 10) : p = 0 ∨ p = 1 ∨ p = 2 ∨ p = 3 ∨ p = 4 ∨ p = 5 ∨ p = 6 ∨ p = 7 ∨ p = 8 ∨ p = 9 := by omega
theorem book_last {b : Bk} {rv : Value} {p : Nat} (h : p < 10) : (b.cells rv)[0 + 5 + p * 1]? = some (u64 (b.last p)) := by
 rcases lt10 h with rfl | rfl | rfl | rfl | rfl | rfl | rfl | rfl | rfl | rfl <;> rfl
theorem book_there {b : Bk} {rv : Value} {k : Nat} (h : k < 2) : (b.cells rv)[0 + 15 + k * 1]? = some (.bool (b.there k)) := by
 have : k = 0 ∨ k = 1 := by omega
 rcases this with rfl | rfl <;> rfl
theorem book_at {b : Bk} {rv : Value} {k : Nat} (h : k < 2) : (b.cells rv)[0 + 17 + k * 1]? = some (u64 (b.at_ k)) := by
 have : k = 0 ∨ k = 1 := by omega
 rcases this with rfl | rfl <;> rfl
theorem book_setLast {b : Bk} {rv : Value} {p n : Nat} (h : p < 10) : (b.cells rv).set (0 + 5 + p * 1) (u64 n) = ({ b with last := setF b.last p n } : Bk).cells rv := by
 rcases lt10 h with rfl | rfl | rfl | rfl | rfl | rfl | rfl | rfl | rfl | rfl <;> rfl
theorem book_setThere {b : Bk} {rv : Value} {k : Nat} {v : Bool} (h : k < 2) : (b.cells rv).set (0 + 15 + k * 1) (.bool v) = ({ b with there := setF b.there k v } : Bk).cells rv := by
 have : k = 0 ∨ k = 1 := by omega
 rcases this with rfl | rfl <;> rfl
theorem book_setAt {b : Bk} {rv : Value} {k n : Nat} (h : k < 2) : (b.cells rv).set (0 + 17 + k * 1) (u64 n) = ({ b with at_ := setF b.at_ k n } : Bk).cells rv := by
 have : k = 0 ∨ k = 1 := by omega
 rcases this with rfl | rfl <;> rfl
theorem blt_of {a b : Nat} (h : a < b) : Nat.blt a b = true := Nat.ble_eq_true_of_le h
theorem book_len {b : Bk} {rv : Value} : (b.cells rv).length = 19 := rfl
theorem y_rem10 {P : Program} {E : Env} {d : Option Tmp} {ty : TypeId} {pos : String} {aft : Array Edge} {g : Option (Nat × Bool)} {t u : TypeId} {x : Operand} {n : Nat} (hx : E.op x = some (u64 n)) (hn : n < 10) : Yld P E ⟨d, .binOp .rem t x (.const (.int .u64 10)) u, ty, pos, aft, g⟩ (u64 n) := by
 have h : (n : Int).tmod 10 = (n : Int) := by rw [Int.tmod_eq_emod_of_nonneg om]; omega
 have := y_rem (P := P) (d := d) (ty := ty) (pos := pos) (aft := aft) (g := g) (t := t) (u := u) (y := .const (.int .u64 10)) hx rfl (by decide : (10 : Int) ≠ 0)
 rwa [h] at this
theorem t_eqblk {c : Cx} {K : Act → World → Prop} {E : Env} {H H' : List Item} {S : Stone} {b : Nat} {cs cs' : List Value} {T : TypeId} {fz : Nat × Nat} (hp : Pick H (.blk b (.cells cs.toArray T fz)) H') (he : cs = cs') (h : Tr c K E (.blk b (.cells cs'.toArray T fz) :: H') S) : Tr c K E H S := by
 subst he; exact t_perm hp.perm h
def DoesR (S : Stone) (u : Value) (d : Bk × Res) : Prop := ∃ v' r, u = .tuple #[v', r] ∧ BookR S v' d.1 ∧ ResR S r d.2
theorem does5 {S : Stone} {v bv : Value} {b : Bk} {c : Cmd} (h : BookR S v b) (ho : BkOk b) (hl : b.l.length < 200) (hb : Byt S bv c.val) (hc : CmdOk c) (hp : c.prod < 10) (hoff : c.off ≤ 1000) (hk : c.kind = 5) :
 Con Tryz.prog 24 #[v, .agg (c.cells bv).toArray] [] S (RetR fun u S' => DoesR S' u (doesB b c)) := by
 have h' := h
 obtain ⟨rv, rfl, hr⟩ := h
 obtain ⟨A, a, rfl, ha1, ha2, -⟩ := hr.shape
 obtain ⟨pb, cb, rfl, -⟩ := id hb
 have hlo := ho.lo
 have hlh := ho.lh
 have hhi := ho.hi
 have hkey := hc.key
 have hnm := hc.name
 refine con_of 239 Tryz.func24 rfl rfl rfl (fun w0 => ?_)
 refine sr (bx rfl rfl (fun b2 => bx rfl rfl (fun b3 => al zc_40 (fun b4 => al zc_77 (fun b5 => nesr (yy (y_far fo_40_4 rfl) (ll (lb ld_26) ?_)))))))
 refine yy (y_ln sl_26 rfl) (yy (y_cvu cv_3_25 rfl om) (sa rfl (nesr (yy (y_far fo_57_0 rfl) (ll (lb ld_55) ?_)))))
 refine yy (y_eq rfl rfl) (mv rfl ?_)
 apply l_or 4 (gd := 19) (d := 23) rfl
 · intro hb19 K1 hK1
   refine qy hb19 (y_far fo_57_0 rfl) (gl hb19 (lb ld_55) ?_)
   exact qy hb19 (y_eq rfl rfl) (yy (y_pick_f' rfl hb19 rfl) (lk_end hK1))
 · intro hb19 K1 hK1
   exact qn hb19 (qn hb19 (qn hb19 (yy (y_pick_t' rfl hb19 rfl) (lk_end hK1))))
 refine sa rfl (nes (dR ([.blk b2 (.cells (b.cells (.slice A b.l.length a)).toArray 40 (0, 0)), .blk b3 (.cells (c.cells (.slice (some pb) 1 cb)).toArray 57 (0, 0))]) [3, 5, 9] (.take 0 (.take 1 (.take 2 (.take 3 (.take 4 (.take 5 (.take 6 (.take 7 (.take 8 (.take 9 (.take 10 (.take 11 (.take 12 .done))))))))))))) ?_))
 refine em rfl rfl (em rfl rfl (t_known (gd := 25) (v := false) rfl (by simp [hk]) (fun hb25 => ?_)))
 refine zn rfl hb25 (zn rfl hb25 (zn rfl hb25 (zn rfl hb25 (zn rfl hb25 (zn rfl hb25 (zn rfl hb25 (zn rfl hb25 (zn rfl hb25 (ey rfl (y_pick_f' rfl hb25 rfl) (ea rfl rfl (d_done (e_then (sr (yy (y_far fo_57_8 rfl) (ll (lb ld_9) ?_)))))))))))))))
 refine lw (t_callr' rfl (reader_ok hc.name |>.back) en_41 (sa rfl (nes (c_block (sr (yy (y_far fo_57_1 rfl) (ll (lb ld_25) ?_)))))))
 refine yy (y_far fo_40_2 rfl) (ll (lb ld_25) ?_)
 refine yy (y_ne rfl rfl) (sa rfl (nec rfl (fun g2 => ?_) (fun g2 => ?_)))
 · have he : c.epoch ≠ b.epoch := by simp at g2; omega
   have hq : doesB b c = (b, .bad 162) := by unfold doesB; rw [if_pos he]
   refine c_seq (dR ([.blk b2 (.cells (b.cells (.slice A b.l.length a)).toArray 40 (0, 0))]) [0] (.take 0 (.alt 1 (.alt 2 (.alt 3 .done .stop) .stop) .stop)) ?_)
   refine dl rfl (lbw ld_40) ?_
   refine da rfl (t_callr' rfl (refused_ok (e := 162)) en_42 ?_)
   refine dA (Stone.le.refl _) (da rfl (sw sz_40 ?_))
   refine dA (Stone.le.refl _) (da rfl (sw sz_77 ?_))
   exact dA (Stone.le.refl _) (d_done (e_then (c_ret (e_in_ret (e_then_ret (f_retR rfl (ResV.agg ld_40 rfl pk rfl (ResV.agg ld_77 rfl pk rfl rn)) (by rw [hq]; exact ⟨_, _, rfl, h', _, rfl, Sl.nil⟩)))))))
 · have he : ¬ c.epoch ≠ b.epoch := by simp at g2; omega
   refine sr (yy (y_far fo_57_0 rfl) (ll (lb ld_55) ?_))
   refine yy (y_eq rfl rfl) (mv rfl ?_)
   apply l_or 4 (gd := 51) (d := 55) rfl
   · intro hb51 K3 hK3
     refine qy hb51 (y_far fo_57_0 rfl) (gl hb51 (lb ld_55) ?_)
     exact qy hb51 (y_eq rfl rfl) (yy (y_pick_f' rfl hb51 rfl) (lk_end hK3))
   · intro hb51 K3 hK3
     skip
     exact qn hb51 (qn hb51 (qn hb51 (yy (y_pick_t' rfl hb51 rfl) (lk_end hK3))))
   refine sa rfl (nec rfl (fun g4 => ?_) (fun g4 => ?_))
   · refine c_seq ?_
     refine sr (yy (y_far fo_40_3 rfl) (ll (lb ld_25) ?_))
     refine yy (y_ne rfl rfl) (mv rfl ?_)
     apply l_and 6 (gd := 59) (d := 65) rfl
     · intro hb59 K5 hK5
       refine qy hb59 (y_far fo_40_3 rfl) (gl hb59 (lb ld_25) ?_)
       refine qy hb59 (y_far fo_57_9 rfl) (gl hb59 (lb ld_25) ?_)
       exact qy hb59 (y_ne rfl rfl) (yy (y_pick_t' rfl hb59 rfl) (lk_end hK5))
     · intro hb59 K5 hK5
       exact qn hb59 (qn hb59 (qn hb59 (qn hb59 (qn hb59 (yy (y_pick_f' rfl hb59 rfl) (lk_end hK5))))))
     refine nec rfl (fun g6 => ?_) (fun g6 => ?_)
     · have hf : b.frozen ≠ 0 ∧ b.frozen ≠ c.plan := by simp at g6; omega
       have hq : doesB b c = (b, .bad 164) := by unfold doesB; rw [if_neg he, if_pos om, if_pos hf]
       refine c_seq (dR ([.blk b2 (.cells (b.cells (.slice A b.l.length a)).toArray 40 (0, 0))]) [0] (.take 0 (.alt 1 (.alt 2 (.alt 3 .done .stop) .stop) .stop)) ?_)
       refine dl rfl (lbw ld_40) ?_
       refine da rfl (t_callr' rfl (refused_ok (e := 164)) en_42 ?_)
       refine dA (Stone.le.refl _) (da rfl (sw sz_40 ?_))
       refine dA (Stone.le.refl _) (da rfl (sw sz_77 ?_))
       exact dA (Stone.le.refl _) (d_done (e_then (c_ret (e_then_ret (e_in_ret (e_then_ret (f_retR rfl (ResV.agg ld_40 rfl pk rfl (ResV.agg ld_77 rfl pk rfl rn)) (by rw [hq]; exact ⟨_, _, rfl, h', _, rfl, Sl.nil⟩))))))))
     · have hf : ¬ (b.frozen ≠ 0 ∧ b.frozen ≠ c.plan) := by simp at g6; omega
       refine c_skip (e_then (sr (yy (y_far fo_40_3 rfl) (ll (lb ld_25) ?_))))
       refine yy (y_ne rfl rfl) (sa rfl (nesr (yy (y_far fo_40_3 rfl) (lw (s1 sz_25 ?_)))))
       refine nes (sr (yy (y_far fo_57_0 rfl) (ll (lb ld_55) ?_)))
       refine yy (y_eq rfl rfl) (nec rfl (fun g7 => ?_) (fun g7 => ?_))
       · refine c_seq ?_
         refine c_region (yy (y_far fo_57_9 rfl) (ll (lb ld_25) ?_))
         refine yy (y_far fo_40_3 rfl) (lw (s1 sz_25 (ne ?_)))
         refine sr (ll (lbw ld_40) ?_)
         refine mv rfl (yy (y_build pl_77 zc_77 rfl rfl) (lw (sw sz_40 ?_)))
         refine lw (sw sz_77 (l_nil ?_))
         refine e_then (c_ret (e_then_ret (e_in_ret (e_then_ret ?_))))
         have hq : doesB b c = ({ b with frozen := c.plan }, ⟨0, 0, !decide (b.frozen = 0), []⟩) := by unfold doesB; rw [if_neg he, if_pos om, if_neg hf, if_pos hk]
         exact f_retR rfl (ResV.agg ld_40 rfl pk rfl (ResV.agg ld_77 rfl pk rfl rn)) (by rw [hq]; refine ⟨_, _, rfl, ⟨_, rfl, hr⟩, _, ?_, Sl.nil⟩; exact congrArg (fun x => Value.agg #[.int .i64 0, .int .u64 0, .bool x, .slice none 0 0]) (by rw [Bool.eq_iff_iff]; simp; try omega))
       · simp [hk] at g7
   · simp [hk] at g4
theorem does6 {S : Stone} {v bv : Value} {b : Bk} {c : Cmd} (h : BookR S v b) (ho : BkOk b) (hl : b.l.length < 200) (hb : Byt S bv c.val) (hc : CmdOk c) (hp : c.prod < 10) (hoff : c.off ≤ 1000) (hk : c.kind = 6) :
 Con Tryz.prog 24 #[v, .agg (c.cells bv).toArray] [] S (RetR fun u S' => DoesR S' u (doesB b c)) := by
 have h' := h
 obtain ⟨rv, rfl, hr⟩ := h
 obtain ⟨A, a, rfl, ha1, ha2, -⟩ := hr.shape
 obtain ⟨pb, cb, rfl, -⟩ := id hb
 have hlo := ho.lo
 have hlh := ho.lh
 have hhi := ho.hi
 have hkey := hc.key
 have hnm := hc.name
 refine con_of 239 Tryz.func24 rfl rfl rfl (fun w0 => ?_)
 refine sr (bx rfl rfl (fun b2 => bx rfl rfl (fun b3 => al zc_40 (fun b4 => al zc_77 (fun b5 => nesr (yy (y_far fo_40_4 rfl) (ll (lb ld_26) ?_)))))))
 refine yy (y_ln sl_26 rfl) (yy (y_cvu cv_3_25 rfl om) (sa rfl (nesr (yy (y_far fo_57_0 rfl) (ll (lb ld_55) ?_)))))
 refine yy (y_eq rfl rfl) (mv rfl ?_)
 apply l_or 4 (gd := 19) (d := 23) rfl
 · intro hb19 K1 hK1
   refine qy hb19 (y_far fo_57_0 rfl) (gl hb19 (lb ld_55) ?_)
   exact qy hb19 (y_eq rfl rfl) (yy (y_pick_f' rfl hb19 rfl) (lk_end hK1))
 · intro hb19 K1 hK1
   exact qn hb19 (qn hb19 (qn hb19 (yy (y_pick_t' rfl hb19 rfl) (lk_end hK1))))
 refine sa rfl (nes (dR ([.blk b2 (.cells (b.cells (.slice A b.l.length a)).toArray 40 (0, 0)), .blk b3 (.cells (c.cells (.slice (some pb) 1 cb)).toArray 57 (0, 0))]) [3, 5, 9] (.take 0 (.take 1 (.take 2 (.take 3 (.take 4 (.take 5 (.take 6 (.take 7 (.take 8 (.take 9 (.take 10 (.take 11 (.take 12 .done))))))))))))) ?_))
 refine em rfl rfl (em rfl rfl (t_known (gd := 25) (v := false) rfl (by simp [hk]) (fun hb25 => ?_)))
 refine zn rfl hb25 (zn rfl hb25 (zn rfl hb25 (zn rfl hb25 (zn rfl hb25 (zn rfl hb25 (zn rfl hb25 (zn rfl hb25 (zn rfl hb25 (ey rfl (y_pick_f' rfl hb25 rfl) (ea rfl rfl (d_done (e_then (sr (yy (y_far fo_57_8 rfl) (ll (lb ld_9) ?_)))))))))))))))
 refine lw (t_callr' rfl (reader_ok hc.name |>.back) en_41 (sa rfl (nes (c_block (sr (yy (y_far fo_57_1 rfl) (ll (lb ld_25) ?_)))))))
 refine yy (y_far fo_40_2 rfl) (ll (lb ld_25) ?_)
 refine yy (y_ne rfl rfl) (sa rfl (nec rfl (fun g2 => ?_) (fun g2 => ?_)))
 · have he : c.epoch ≠ b.epoch := by simp at g2; omega
   have hq : doesB b c = (b, .bad 162) := by unfold doesB; rw [if_pos he]
   refine c_seq (dR ([.blk b2 (.cells (b.cells (.slice A b.l.length a)).toArray 40 (0, 0))]) [0] (.take 0 (.alt 1 (.alt 2 (.alt 3 .done .stop) .stop) .stop)) ?_)
   refine dl rfl (lbw ld_40) ?_
   refine da rfl (t_callr' rfl (refused_ok (e := 162)) en_42 ?_)
   refine dA (Stone.le.refl _) (da rfl (sw sz_40 ?_))
   refine dA (Stone.le.refl _) (da rfl (sw sz_77 ?_))
   exact dA (Stone.le.refl _) (d_done (e_then (c_ret (e_in_ret (e_then_ret (f_retR rfl (ResV.agg ld_40 rfl pk rfl (ResV.agg ld_77 rfl pk rfl rn)) (by rw [hq]; exact ⟨_, _, rfl, h', _, rfl, Sl.nil⟩)))))))
 · have he : ¬ c.epoch ≠ b.epoch := by simp at g2; omega
   refine sr (yy (y_far fo_57_0 rfl) (ll (lb ld_55) ?_))
   refine yy (y_eq rfl rfl) (mv rfl ?_)
   apply l_or 4 (gd := 51) (d := 55) rfl
   · intro hb51 K3 hK3
     refine qy hb51 (y_far fo_57_0 rfl) (gl hb51 (lb ld_55) ?_)
     exact qy hb51 (y_eq rfl rfl) (yy (y_pick_f' rfl hb51 rfl) (lk_end hK3))
   · intro hb51 K3 hK3
     skip
     exact qn hb51 (qn hb51 (qn hb51 (yy (y_pick_t' rfl hb51 rfl) (lk_end hK3))))
   refine sa rfl (nec rfl (fun g4 => ?_) (fun g4 => ?_))
   · refine c_seq ?_
     refine sr (yy (y_far fo_40_3 rfl) (ll (lb ld_25) ?_))
     refine yy (y_ne rfl rfl) (mv rfl ?_)
     apply l_and 6 (gd := 59) (d := 65) rfl
     · intro hb59 K5 hK5
       refine qy hb59 (y_far fo_40_3 rfl) (gl hb59 (lb ld_25) ?_)
       refine qy hb59 (y_far fo_57_9 rfl) (gl hb59 (lb ld_25) ?_)
       exact qy hb59 (y_ne rfl rfl) (yy (y_pick_t' rfl hb59 rfl) (lk_end hK5))
     · intro hb59 K5 hK5
       exact qn hb59 (qn hb59 (qn hb59 (qn hb59 (qn hb59 (yy (y_pick_f' rfl hb59 rfl) (lk_end hK5))))))
     refine nec rfl (fun g6 => ?_) (fun g6 => ?_)
     · have hf : b.frozen ≠ 0 ∧ b.frozen ≠ c.plan := by simp at g6; omega
       have hq : doesB b c = (b, .bad 164) := by unfold doesB; rw [if_neg he, if_pos om, if_pos hf]
       refine c_seq (dR ([.blk b2 (.cells (b.cells (.slice A b.l.length a)).toArray 40 (0, 0))]) [0] (.take 0 (.alt 1 (.alt 2 (.alt 3 .done .stop) .stop) .stop)) ?_)
       refine dl rfl (lbw ld_40) ?_
       refine da rfl (t_callr' rfl (refused_ok (e := 164)) en_42 ?_)
       refine dA (Stone.le.refl _) (da rfl (sw sz_40 ?_))
       refine dA (Stone.le.refl _) (da rfl (sw sz_77 ?_))
       exact dA (Stone.le.refl _) (d_done (e_then (c_ret (e_then_ret (e_in_ret (e_then_ret (f_retR rfl (ResV.agg ld_40 rfl pk rfl (ResV.agg ld_77 rfl pk rfl rn)) (by rw [hq]; exact ⟨_, _, rfl, h', _, rfl, Sl.nil⟩))))))))
     · have hf : ¬ (b.frozen ≠ 0 ∧ b.frozen ≠ c.plan) := by simp at g6; omega
       refine c_skip (e_then (sr (yy (y_far fo_40_3 rfl) (ll (lb ld_25) ?_))))
       refine yy (y_ne rfl rfl) (sa rfl (nesr (yy (y_far fo_40_3 rfl) (lw (s1 sz_25 ?_)))))
       refine nes (sr (yy (y_far fo_57_0 rfl) (ll (lb ld_55) ?_)))
       refine yy (y_eq rfl rfl) (nec rfl (fun g7 => ?_) (fun g7 => ?_))
       · simp [hk] at g7
       · refine c_skip ?_
         refine e_then (sr (ll (lbw ld_40) ?_))
         refine mv rfl (yy (y_not rfl) (yy (y_build pl_77 zc_77 rfl rfl) ?_))
         refine lw (sw sz_40 ?_)
         refine lw (sw sz_77 ?_)
         refine netr (e_in_ret (e_then_ret ?_))
         have hq : doesB b c = ({ b with frozen := 0 }, ⟨0, 0, decide (b.frozen = 0), []⟩) := by unfold doesB; rw [if_neg he, if_pos om, if_neg hf, if_neg om]
         exact f_retR rfl (ResV.agg ld_40 rfl pk rfl (ResV.agg ld_77 rfl pk rfl rn)) (by rw [hq]; refine ⟨_, _, rfl, ⟨_, rfl, hr⟩, _, ?_, Sl.nil⟩; exact congrArg (fun x => Value.agg #[.int .i64 0, .int .u64 0, .bool x, .slice none 0 0]) (by rw [Bool.eq_iff_iff]; simp; try omega))
   · simp [hk] at g4
theorem does4 {S : Stone} {v bv : Value} {b : Bk} {c : Cmd} (h : BookR S v b) (ho : BkOk b) (hl : b.l.length < 200) (hb : Byt S bv c.val) (hc : CmdOk c) (hp : c.prod < 10) (hoff : c.off ≤ 1000) (hk : c.kind = 4) :
 Con Tryz.prog 24 #[v, .agg (c.cells bv).toArray] [] S (RetR fun u S' => DoesR S' u (doesB b c)) := by
 have h' := h
 obtain ⟨rv, rfl, hr⟩ := h
 obtain ⟨A, a, rfl, ha1, ha2, -⟩ := hr.shape
 obtain ⟨pb, cb, rfl, -⟩ := id hb
 have hlo := ho.lo
 have hlh := ho.lh
 have hhi := ho.hi
 have hkey := hc.key
 have hnm := hc.name
 refine con_of 239 Tryz.func24 rfl rfl rfl (fun w0 => ?_)
 refine sr (bx rfl rfl (fun b2 => bx rfl rfl (fun b3 => al zc_40 (fun b4 => al zc_77 (fun b5 => nesr (yy (y_far fo_40_4 rfl) (ll (lb ld_26) ?_)))))))
 refine yy (y_ln sl_26 rfl) (yy (y_cvu cv_3_25 rfl om) (sa rfl (nesr (yy (y_far fo_57_0 rfl) (ll (lb ld_55) ?_)))))
 refine yy (y_eq rfl rfl) (mv rfl ?_)
 apply l_or 4 (gd := 19) (d := 23) rfl
 · intro hb19 K1 hK1
   refine qy hb19 (y_far fo_57_0 rfl) (gl hb19 (lb ld_55) ?_)
   exact qy hb19 (y_eq rfl rfl) (yy (y_pick_f' rfl hb19 rfl) (lk_end hK1))
 · intro hb19 K1 hK1
   exact qn hb19 (qn hb19 (qn hb19 (yy (y_pick_t' rfl hb19 rfl) (lk_end hK1))))
 refine sa rfl (nes (dR ([.blk b2 (.cells (b.cells (.slice A b.l.length a)).toArray 40 (0, 0)), .blk b3 (.cells (c.cells (.slice (some pb) 1 cb)).toArray 57 (0, 0))]) [3, 5, 9] (.take 0 (.take 1 (.take 2 (.take 3 (.take 4 (.take 5 (.take 6 (.take 7 (.take 8 (.take 9 (.take 10 (.take 11 (.take 12 .done))))))))))))) ?_))
 refine em rfl rfl (em rfl rfl (t_known (gd := 25) (v := false) rfl (by simp [hk]) (fun hb25 => ?_)))
 refine zn rfl hb25 (zn rfl hb25 (zn rfl hb25 (zn rfl hb25 (zn rfl hb25 (zn rfl hb25 (zn rfl hb25 (zn rfl hb25 (zn rfl hb25 (ey rfl (y_pick_f' rfl hb25 rfl) (ea rfl rfl (d_done (e_then (sr (yy (y_far fo_57_8 rfl) (ll (lb ld_9) ?_)))))))))))))))
 refine lw (t_callr' rfl (reader_ok hc.name |>.back) en_41 (sa rfl (nes (c_block (sr (yy (y_far fo_57_1 rfl) (ll (lb ld_25) ?_)))))))
 refine yy (y_far fo_40_2 rfl) (ll (lb ld_25) ?_)
 refine yy (y_ne rfl rfl) (sa rfl (nec rfl (fun g2 => ?_) (fun g2 => ?_)))
 · have he : c.epoch ≠ b.epoch := by simp at g2; omega
   have hq : doesB b c = (b, .bad 162) := by unfold doesB; rw [if_pos he]
   refine c_seq (dR ([.blk b2 (.cells (b.cells (.slice A b.l.length a)).toArray 40 (0, 0))]) [0] (.take 0 (.alt 1 (.alt 2 (.alt 3 .done .stop) .stop) .stop)) ?_)
   refine dl rfl (lbw ld_40) ?_
   refine da rfl (t_callr' rfl (refused_ok (e := 162)) en_42 ?_)
   refine dA (Stone.le.refl _) (da rfl (sw sz_40 ?_))
   refine dA (Stone.le.refl _) (da rfl (sw sz_77 ?_))
   exact dA (Stone.le.refl _) (d_done (e_then (c_ret (e_in_ret (e_then_ret (f_retR rfl (ResV.agg ld_40 rfl pk rfl (ResV.agg ld_77 rfl pk rfl rn)) (by rw [hq]; exact ⟨_, _, rfl, h', _, rfl, Sl.nil⟩)))))))
 · have he : ¬ c.epoch ≠ b.epoch := by simp at g2; omega
   refine sr (yy (y_far fo_57_0 rfl) (ll (lb ld_55) ?_))
   refine yy (y_eq rfl rfl) (mv rfl ?_)
   apply l_or 4 (gd := 51) (d := 55) rfl
   · intro hb51 K3 hK3
     refine qy hb51 (y_far fo_57_0 rfl) (gl hb51 (lb ld_55) ?_)
     exact qy hb51 (y_eq rfl rfl) (yy (y_pick_f' rfl hb51 rfl) (lk_end hK3))
   · intro hb51 K3 hK3
     exact qn hb51 (qn hb51 (qn hb51 (yy (y_pick_t' rfl hb51 rfl) (lk_end hK3))))
   refine sa rfl (nec rfl (fun g4 => ?_) (fun g4 => ?_))
   · simp [hk] at g4
   · refine c_seq ?_
     refine c_region (yy (y_far fo_57_0 rfl) (ll (lb ld_55) ?_))
     refine yy (y_eq rfl rfl) (sa rfl (nec rfl (fun g5 => ?_) (fun g5 => ?_)))
     · simp [hk] at g5
     · refine c_seq ?_
       refine c_region (yy (y_far fo_57_0 rfl) (ll (lb ld_55) ?_))
       refine yy (y_eq rfl rfl) (mv rfl ?_)
       apply l_and 2 (gd := 165) (d := 167) rfl
       · intro hb165 K6 hK6
         exact qy hb165 (y_move rfl) (yy (y_pick_t' rfl hb165 rfl) (lk_end hK6))
       · intro hb165 K6 hK6
         exact qn hb165 (yy (y_pick_f' rfl hb165 rfl) (lk_end hK6))
       refine sa rfl (nec rfl (fun g7 => ?_) (fun g7 => ?_))
       · simp [hk] at g7
       · refine c_seq ?_
         refine c_region (yy (y_far fo_40_3 rfl) (ll (lb ld_25) ?_))
         refine yy (y_ne rfl rfl) (sa rfl (nec rfl (fun g8 => ?_) (fun g8 => ?_)))
         · have hf : b.frozen ≠ 0 := by simp at g8; omega
           have hq : doesB b c = (b, .bad 164) := by unfold doesB; rw [if_neg he, if_neg om, if_neg om, if_neg om, if_pos hf]
           refine c_seq (dR ([.blk b2 (.cells (b.cells (.slice A b.l.length a)).toArray 40 (0, 0))]) [0] (.take 0 (.alt 1 (.alt 2 (.alt 3 .done .stop) .stop) .stop)) ?_)
           refine dl rfl (lbw ld_40) ?_
           refine da rfl (t_callr' rfl (refused_ok (e := 164)) en_42 ?_)
           refine dA (Stone.le.refl _) (da rfl (sw sz_40 ?_))
           refine dA (Stone.le.refl _) (da rfl (sw sz_77 ?_))
           exact dA (Stone.le.refl _) (d_done (e_then (c_ret (e_in_ret (e_then_ret (f_retR rfl (ResV.agg ld_40 rfl pk rfl (ResV.agg ld_77 rfl pk rfl rn)) (by rw [hq]; exact ⟨_, _, rfl, h', _, rfl, Sl.nil⟩)))))))
         · have hf : ¬ b.frozen ≠ 0 := by simp at g8; omega
           refine sr (yy (y_far fo_57_0 rfl) (ll (lb ld_55) ?_))
           refine yy (y_eq rfl rfl) (sa rfl (nec rfl (fun g9 => ?_) (fun g9 => ?_)))
           · refine c_seq ?_
             refine dR ([.blk b2 (.cells (b.cells (.slice A b.l.length a)).toArray 40 (0, 0))]) [0, 4, 8] (.take 0 (.take 1 (.take 2 (.take 3 (.take 4 (.take 5 (.take 6 (.take 7 (.take 8 (.take 9 (.alt 10 (.alt 11 .done .stop) .stop))))))))))) ?_
             refine dl rfl (lbw ld_40) ?_
             refine em rfl rfl (ey rfl (y_far fo_40_7 rfl) (ey rfl (y_iaaN ar_38 rfl rfl ao) (dl rfl (lb ld_25 (hc := book_at hnm)) ?_)))
             refine em rfl rfl (ey rfl (y_far fo_40_6 rfl) (ey rfl (y_iaaN ar_37 rfl rfl ao) (dl rfl (lb ld_4 (hc := book_there hnm)) ?_)))
             refine ey rfl (y_build pl_77 zc_77 rfl rfl) (da rfl (sw sz_40 ?_))
             refine dA (Stone.le.refl _) (da rfl (sw sz_77 ?_))
             refine dA (Stone.le.refl _) (d_done (e_then (c_ret (e_in_ret (e_then_ret ?_)))))
             have hq : doesB b c = (b, ⟨0, b.at_ c.name, b.there c.name, []⟩) := by unfold doesB; rw [if_neg he, if_neg om, if_neg om, if_neg om, if_neg hf, if_pos hk]
             exact f_retR rfl (ResV.agg ld_40 rfl pk rfl (ResV.agg ld_77 rfl pk rfl rn)) (by rw [hq]; exact ⟨_, _, rfl, h', _, rfl, Sl.nil⟩)
           · simp [hk] at g9
end Go.Proofs.YtkdmbimkanjbhaaGreatDoor.Eng

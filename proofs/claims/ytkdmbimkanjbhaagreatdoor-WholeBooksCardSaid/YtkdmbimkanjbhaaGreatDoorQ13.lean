/-
  Part 13 of the proof of WholeBooks: W53, Law2.
-/
import Derived.Test.YtkdmbimkanjbhaaGreatDoorQ12
namespace Go.Proofs.YtkdmbimkanjbhaaGreatDoor.Eng
open Go Go.Proofs
set_option maxRecDepth 100000
attribute [local irreducible] Tr
def fC (e p : Nat) : List Value := [.int .i64 5, u64 e, .int .u64 0, .int .u64 0, .string ⟨#[]⟩, .slice none 0 0, .int .u64 0, .int .i64 0, .string ⟨#[]⟩, u64 p]
def fCmd (e p : Nat) : Cmd := ⟨5, e, 0, 0, 0, 0, 0, 0, 0, p⟩
theorem frefuse_ok {S : Stone} {e p n : Nat} (he : 1 ≤ n) : Con Tryz.prog 73 #[.agg (fC e p).toArray, i64 n] [] S (RetR fun u S' => Refusal S' u n) := by
 refine con_of 14 Tryz.func73 rfl rfl rfl (fun w0 => ?_)
 refine sr (bx rfl rfl (fun b2 => sa rfl (nes (sr (mv rfl (yy (y_eq rfl rfl) (nec rfl (fun g1 => ?_) (fun g1 => ?_))))))))
 · simp at g1; omega
 · refine c_skip ?_
   refine e_then (sr (yy (y_far fo_57_0 rfl) (ll (lb ld_55) ?_)))
   refine mv rfl (yy (y_mi co_31 rfl) (yy (y_build pl_186 zc_186 rfl rfl) (bx rfl rfl (fun b12 => yy (y_mi co_184 rfl) (sa rfl (netr (t_stone Pick.hd (fun S1 le1 hS1 => ?_))))))))
   exact f_retR rfl (rt rfl) ⟨b12, _, rfl, by simp only [Stone.cell, hS1]; rfl, by simp only [Stone.cell, hS1]; rfl⟩
theorem fwell_ok {S : Stone} {e p : Nat} (hp : 1 ≤ p) : Con Tryz.prog 37 #[.agg (fC e p).toArray] [] S (Ret (.bool true) S) := by
 refine con_of 71 Tryz.func37 rfl rfl rfl (fun w0 => ?_)
 refine sr (bx rfl rfl (fun b1 => sa rfl (nes (sr (yy (y_far fo_57_0 rfl) (ll (lb ld_55) ?_))))))
 refine ne (c_block (sr (yy (y_eq rfl rfl) (sa rfl (ne (c_false rfl (sr (yy (y_eq rfl rfl) (sa rfl (ne (c_false rfl (sr (yy (y_eq rfl rfl) (sa rfl (ne (c_false rfl ?_))))))))))))))))
 refine sr (yy (y_eq rfl rfl) (sa rfl (ne (c_false rfl (c_seq (sr (yy (y_eq rfl rfl) (sa rfl (ne (c_true rfl (c_skip (e_then (c_true rfl (sr (yy (y_far fo_57_9 rfl) (ll (lb ld_25) ?_))))))))))))))))
 exact yy (y_ne rfl rfl) (sa rfl (netr (e_in_ret (e_then_ret (f_ret0 rfl (rt rfl) (by show Value.bool _ = Value.bool _; congr 1; simp; omega) rfl)))))
theorem freader_ok {S : Stone} : Con Tryz.prog 41 #[.string ⟨#[]⟩] [] S (RetR fun u _ => u = .int .i64 1) := by
 refine con_of 8 Tryz.func41 rfl rfl rfl (fun w0 => ?_)
 refine sr (sa rfl (nes (sr (mv rfl (lw (t_callR rfl (names_ok) en_10 ?_))))))
 rintro v4 S4 le4 h4
 obtain ⟨A, cap, rfl, -, -, h4'⟩ := h4
 obtain ⟨p, cs, rfl, rfl, -, hcell⟩ := h4' 0 0 rfl
 have hc0 := hcell 0 _ rfl
 rw [show (p.add (0 * 1)).add 0 = p.add (0 * 1) by simp [Addr.add]] at hc0
 refine yy (y_iaN (i := 0) sl_52 rfl rfl (by decide)) ?_
 refine ll (ld_st ld_9 rfl ‹_›) ?_
 refine yy (y_seq rfl rfl) (nec rfl (fun g1 => ?_) (fun g1 => ?_))
 · rw [empty_list, nm_list] at g1; cases g1
 · refine c_skip ?_
   exact e_then (sr (sa rfl (netr (f_retR rfl (rt rfl) rfl))))
theorem ffreeze_no {S : Stone} {s : Sh} {A1 A2 A3 : Option Addr} {n1 n2 n3 c1 c2 c3 : Nat} {e p by' : Nat} (h1 : s.frozen ≠ 0) (h2 : s.frozen ≠ p) :
 Con Tryz.prog 72 #[.agg (s.cells (.slice A1 n1 c1) (.slice A2 n2 c2) (.slice A3 n3 c3)).toArray, .agg (fC e p).toArray, u64 by'] [] S (RetR fun u S' => ∃ e, u = .tuple #[.agg (s.cells (.slice A1 n1 c1) (.slice A2 n2 c2) (.slice A3 n3 c3)).toArray, .bool false, e] ∧ Refusal S' e 164) := by
 refine con_of 31 Tryz.func72 rfl rfl rfl (fun w0 => ?_)
 refine sr (bx rfl rfl (fun b3 => bx rfl rfl (fun b4 => al zc_30 (fun b6 => sa rfl (sa rfl (nes (sr (yy (y_far fo_30_2 rfl) (ll (lb ld_25) ?_)))))))))
 refine yy (y_ne rfl rfl) (mv rfl (t_known (gd := 13) (v := true) rfl (by simp; omega) (fun hb13 => ?_)))
 refine qy hb13 (y_far fo_30_2 rfl) (gl hb13 (lb ld_25) ?_)
 refine qy hb13 (y_far fo_57_9 rfl) (gl hb13 (lb ld_25) ?_)
 refine qy hb13 (y_ne rfl rfl) (yy (y_pick_t' rfl hb13 rfl) (nec rfl (fun g1 => ?_) (fun g1 => ?_)))
 · refine c_seq ?_
   refine dR ([.blk b3 (.cells (s.cells (.slice A1 n1 c1) (.slice A2 n2 c2) (.slice A3 n3 c3)).toArray 30 (0, 0)), .blk b4 (.cells (fC e p).toArray 57 (0, 0))]) [0, 1] (.take 0 (.take 1 (.alt 2 (.alt 3 (.take 4 (.take 5 .done)) .stop) .stop))) ?_
   refine dl rfl (lbw ld_30) ?_
   refine dl rfl (lbw ld_57) ?_
   refine da rfl (t_callR rfl (frefuse_ok (n := 164) om) en_73 ?_)
   rintro v22 S22 le22 h22
   refine dA le22 (da rfl (sw sz_30 ?_))
   exact dA le22 (ea rfl rfl (ea rfl rfl (d_done (e_then (c_ret (e_then_ret (f_retR rfl (ResV.agg ld_30 rfl pk rfl (ResV.tmp rfl (rt rfl))) ⟨_, rfl, h22⟩)))))))
 · simp at g1; omega
theorem ffreeze_yes {S : Stone} {s : Sh} {A1 A2 A3 : Option Addr} {n1 n2 n3 c1 c2 c3 : Nat} {e p by' : Nat} (h1 : s.frozen = 0 ∨ s.frozen = p) :
 Con Tryz.prog 72 #[.agg (s.cells (.slice A1 n1 c1) (.slice A2 n2 c2) (.slice A3 n3 c3)).toArray, .agg (fC e p).toArray, u64 by'] [] S
  (Ret (.tuple #[.agg (({ s with frozen := by' } : Sh).cells (.slice A1 n1 c1) (.slice A2 n2 c2) (.slice A3 n3 c3)).toArray, .bool (s.frozen == by'), .nilIface]) S) := by
 refine con_of 31 Tryz.func72 rfl rfl rfl (fun w0 => ?_)
 refine sr (bx rfl rfl (fun b3 => bx rfl rfl (fun b4 => al zc_30 (fun b6 => sa rfl (sa rfl (nes (c_seq (c_cutv (d := 19) (v := .bool false) (fun K1v hK1v => ?_) ?_))))))))
 · -- the value
   refine c_region (yy (y_far fo_30_2 rfl) (ll (lb ld_25) ?_))
   refine yy (y_ne rfl rfl) (mv rfl ?_)
   apply l_and 6 (gd := 13) (d := 19) rfl
   · intro hb13 K2 hK2
     refine qy hb13 (y_far fo_30_2 rfl) (gl hb13 (lb ld_25) ?_)
     refine qy hb13 (y_far fo_57_9 rfl) (gl hb13 (lb ld_25) ?_)
     exact qy hb13 (y_ne rfl rfl) (yy (y_pick_t' rfl hb13 rfl) (lk_end hK2))
   · intro hb13 K2 hK2
     exact qn hb13 (qn hb13 (qn hb13 (qn hb13 (qn hb13 (yy (y_pick_f' rfl hb13 rfl) (lk_end hK2))))))
   exact l_nil (lk_val hK1v rfl (congrArg Value.bool (by rcases h1 with h | h <;> simp [h])))
 refine c_false rfl (c_skip (e_then (sr (yy (y_far fo_30_2 rfl) (ll (lb ld_25) ?_)))))
 refine mv rfl (yy (y_eq rfl rfl) (sa rfl (nesr (mv rfl ?_))))
 refine yy (y_far fo_30_2 rfl) (lw (s1 sz_25 (ne ?_)))
 refine sr (ll (lbw ld_30) ?_)
 refine mv rfl (lw (sw sz_30 (sa rfl (sa rfl (netr ?_)))))
 exact f_ret0 rfl (ResV.agg ld_30 rfl pk rfl (ResV.tmp rfl (rt rfl))) (by
  have e : ((s.frozen : Int) == (by' : Int)) = (s.frozen == by') := by rw [Bool.eq_iff_iff]; simp; omega
  show Value.tuple #[_, Value.bool _, _] = _
  rw [e]; rfl) rfl
theorem ffreeze_any {S : Stone} {s : Sh} {A1 A2 A3 : Option Addr} {c1 c2 c3 : Nat} {e p y : Nat} (hr : Recs S (.slice A1 s.l.length c1) s.l) (hp : Prds S (.slice A2 s.p.length c2) s.p) (hc : Cnss S (.slice A3 s.c.length c3) s.c) :
 Con Tryz.prog 72 #[.agg (s.cells (.slice A1 s.l.length c1) (.slice A2 s.p.length c2) (.slice A3 s.c.length c3)).toArray, .agg (fC e p).toArray, u64 y] [] S (RetR fun u S' => ∃ v' x, u = .tuple #[v', .bool (frzS s (fCmd e p) y).2.1, x] ∧ PartR S' v' (frzS s (fCmd e p) y).1 ∧ ErrR S' x (frzS s (fCmd e p) y).2.2) := by
 by_cases hf : s.frozen ≠ 0 ∧ s.frozen ≠ (fCmd e p).plan
 · unfold frzS
   simp only [if_pos hf]
   intro w hw
   refine (ffreeze_no (e := e) (p := p) (by' := y) hf.1 hf.2 w hw).mono fun e w' ⟨v, I', S', he, m, ⟨e', h1, h2⟩, hI⟩ => ⟨v, I', S', he, m, ⟨_, e', h1, ⟨_, _, _, rfl, hr.mono m.le, hp.mono m.le, hc.mono m.le⟩, h2.err⟩, hI⟩
 · unfold frzS
   simp only [if_neg hf]
   exact Ret.rr (ffreeze_yes (e := e) (p := p) (by have : ¬ (s.frozen ≠ 0 ∧ s.frozen ≠ p) := hf; omega)) ⟨_, _, rfl, ⟨_, _, _, rfl, hr, hp, hc⟩, rfl⟩
theorem fact_ok {S : Stone} {v : Value} {s : Sh} {e p : Nat} (h : PartR S v s) :
 Con Tryz.prog 39 #[v, .agg (fC e p).toArray] [] S (RetR fun u S' => ∃ v' r x, u = .tuple #[v', r, x] ∧ ActR S' v' r x s (doA s (fCmd e p))) := by
 have h' := h
 obtain ⟨A, a, B, b, D, d, rfl, hr, hp, hcv⟩ := h.ex
 refine con_of 124 Tryz.func39 rfl rfl rfl (fun w0 => ?_)
 refine sr (bx rfl rfl (fun b2 => bx rfl rfl (fun b3 => al zc_30 (fun b4 => al zc_77 (fun b5 => sa rfl (nesr (al zc_77 (fun b7 => nesr (sa rfl (nesr (sa rfl (ne ?_))))))))))))
 refine c_seq (sr (yy (y_far fo_57_0 rfl) (ll (lb ld_55) ?_)))
 refine ne (c_block (sr (yy (y_eq rfl rfl) (sa rfl (ne (c_false rfl (sr (yy (y_eq rfl rfl) (sa rfl (ne (c_false rfl (sr (yy (y_eq rfl rfl) (sa rfl (ne (c_true rfl ?_))))))))))))))))
 refine sr (ll (lbw ld_30) ?_)
 refine ll (lbw ld_57) ?_
 refine yy (y_far fo_57_9 rfl) (ll (lb ld_25) ?_)
 refine lw (t_callR rfl (ffreeze_any (y := p) hr hp hcv) en_72 ?_)
 rintro v56 S56 le56 ⟨w56, e56, rfl, hp56, he56⟩
 have hp56' := hp56
 obtain ⟨A1, a1, B1, b1, D1, d1, rfl, -⟩ := hp56.ex
 refine mv rfl (yy (y_ext rfl rfl) (yy (y_ext rfl rfl) (yy (y_ext rfl rfl) (lw (sw sz_30 (yy (y_far fo_77_2 rfl) ?_))))))
 refine lw (s1 sz_4 (sa rfl (nes (dR ([.blk b2 (.cells (((frzS s (fCmd e p) p).1).cells (.slice A1 ((frzS s (fCmd e p) p).1).l.length a1) (.slice B1 ((frzS s (fCmd e p) p).1).p.length b1) (.slice D1 ((frzS s (fCmd e p) p).1).c.length d1)).toArray 30 (0, 0)), .blk b7 (.cells [.int .i64 0, .int .u64 0, .bool (frzS s (fCmd e p) p).2.1, .slice none 0 0].toArray 77 (0, 0))]) [0, 1] (.take 0 (.take 1 (.take 2 (.alt 3 (.alt 4 (.take 5 .done) .stop) .stop)))) ?_))))
 refine dl rfl (lbw ld_30) ?_
 refine dl rfl (lbw ld_77) ?_
 refine em rfl rfl (da rfl (sw sz_30 ?_))
 refine dA (Stone.le.refl _) (da rfl (sw sz_77 ?_))
 exact dA (Stone.le.refl _) (ea rfl rfl (d_done (e_then (c_ret (e_in_ret (e_then_ret (f_retR rfl (ResV.agg ld_30 rfl pk rfl (ResV.agg ld_77 rfl pk rfl (rt rfl))) ⟨_, _, _, rfl, ⟨_, hp56'⟩, ⟨⟨0, 0, _, []⟩, _, rfl, Sl.nil⟩, act_of_frz (c := fCmd e p) (.inl ⟨rfl, rfl⟩) hp56' he56⟩)))))))
theorem fdo_ok {S : Stone} {v : Value} {s : Sh} {ce cp : Nat} (hg : Gl S) (h : PartR S v s) (ho : ShOk s) (hl : s.l.length < 200) (hcp : 1 ≤ cp) :
 Con Tryz.prog 23 #[v, .agg (fC ce cp).toArray] [] S (RetR fun u S' => ∃ v' r, u = .tuple #[v', r] ∧ PartR S' v' (doS s (fCmd ce cp)).1 ∧ ResR S' r (doS s (fCmd ce cp)).2) := by
 have h' := h
 obtain ⟨A, a, B, b, D, d, rfl, hr, hp, hcv⟩ := h.ex
 have hll := ho.ll
 have hpl := ho.pl
 have hcl := ho.cl
 refine con_of 49 Tryz.func23 rfl rfl rfl (fun w0 => ?_)
 refine sr (bx rfl rfl (fun b2 => bx rfl rfl (fun b3 => al zc_30 (fun b4 => al zc_77 (fun b5 => nes (c_block (sr (ll (lbw ld_30) ?_))))))))
 refine lw (t_callr' rfl ((check_ok h' ho).back) en_36 (yy (y_ne rfl rfl) (sa rfl (ne (c_false rfl (sr (ll (lbw ld_57) ?_)))))))
 refine lw (t_callr' rfl (fwell_ok hcp) en_37 (yy (y_not rfl) (sa rfl (ne (c_false rfl (sr (yy (y_far fo_57_1 rfl) (ll (lb ld_25) ?_))))))))
 refine yy (y_far fo_30_1 rfl) (ll (lb ld_25) ?_)
 refine yy (y_ne rfl rfl) (sa rfl (nec rfl (fun g3 => ?_) (fun g3 => ?_)))
 · have he : ce ≠ s.epoch := by simp at g3; omega
   have hq : doS s (fCmd ce cp) = (s, .bad 162) := by rw [doS_eq]; exact if_pos he
   refine sr (ll (lbw ld_30) ?_)
   refine lw (t_callR rfl (ownPart_ok h' om om om) en_38 ?_)
   rintro v30 S30 le30 h30
   obtain ⟨A1, a1, B1, b1, D1, d1, rfl, hr1, hp1, hc1⟩ := h30.ex
   refine yy (y_build pl_77 zc_77 rfl rfl) (lw (sw sz_30 ?_))
   refine lw (sw sz_77 ?_)
   refine ne ?_
   exact c_ret (e_in_ret (e_then_ret (f_retR rfl (ResV.agg ld_30 rfl pk rfl (ResV.agg ld_77 rfl pk rfl rn)) (by rw [hq]; exact ⟨_, _, rfl, h30, _, rfl, Sl.nil⟩))))
 · have he : ¬ ce ≠ s.epoch := by simp at g3; omega
   have hq : doS s (fCmd ce cp) = doA s (fCmd ce cp) := by rw [doS_eq]; exact if_neg he
   refine c_skip (e_in (e_then (c_seq (c_cutx (τ := List Value × List Value × Value × Stone × Nat × Nat) (fun z => [(2, .pointer (some ⟨b2, 0, none⟩)), (4, .pointer (some ⟨b4, 0, none⟩)), (5, .pointer (some ⟨b5, 0, none⟩)), (6, .pointer (some ⟨z.2.2.2.2.1, 0, none⟩)), (7, .pointer (some ⟨z.2.2.2.2.2, 0, none⟩)), (8, z.2.2.1)]) (fun z => [.blk z.2.2.2.2.1 (.cells z.1.toArray 30 (0, 0)), .blk z.2.2.2.2.2 (.cells z.2.1.toArray 77 (0, 0)), .blk b2 (.cells (s.cells (.slice A s.l.length a) (.slice B s.p.length b) (.slice D s.c.length d)).toArray 30 (0, 0)), .blk b4 (.cells [.string ⟨#[]⟩, .string ⟨#[]⟩, .int .u64 0, .int .u64 0, .slice none 0 0, .slice none 0 0, .slice none 0 0].toArray 30 (0, 0)), .blk b5 (.cells [.int .i64 0, .int .u64 0, .bool false, .slice none 0 0].toArray 77 (0, 0))]) (fun z => z.2.2.2.1) (fun z => Stone.le S z.2.2.2.1 ∧ ActR z.2.2.2.1 (.agg z.1.toArray) (.agg z.2.1.toArray) z.2.2.1 s (doA s (fCmd ce cp)) ∧ z.1.length = 7 ∧ z.1.all Value.oneCell' = true ∧ z.2.1.length = 4 ∧ z.2.1.all Value.oneCell' = true) (fun K hK => ?_) (fun z hz => ?_)))))
   refine dR ([.blk b2 (.cells (s.cells (.slice A s.l.length a) (.slice B s.p.length b) (.slice D s.c.length d)).toArray 30 (0, 0)), .blk b3 (.cells (fC ce cp).toArray 57 (0, 0))]) [0, 2] (.take 0 (.take 2 (.alt 1 (.alt 3 (.take 4 (.take 5 (.take 6 (.take 7 (.alt 8 (.alt 9 (.alt 10 (.alt 11 (.take 12 .done) .stop) .stop) .stop) (.alt 9 (.alt 8 (.alt 10 (.alt 11 (.take 12 .done) .stop) .stop) .stop) .stop)))))) (.alt 8 (.alt 3 (.take 4 (.take 5 (.take 6 (.take 7 (.alt 9 (.alt 10 (.alt 11 (.take 12 .done) .stop) .stop) .stop))))) (.alt 9 (.alt 3 (.take 4 (.take 5 (.take 6 (.take 7 (.alt 10 (.alt 11 (.take 12 .done) .stop) .stop))))) .stop) .stop)) (.alt 9 (.alt 3 (.take 4 (.take 5 (.take 6 (.take 7 (.alt 8 (.alt 10 (.alt 11 (.take 12 .done) .stop) .stop) .stop))))) (.alt 8 (.alt 3 (.take 4 (.take 5 (.take 6 (.take 7 (.alt 10 (.alt 11 (.take 12 .done) .stop) .stop))))) .stop) .stop)) .stop))) (.alt 8 (.alt 1 (.alt 3 (.take 4 (.take 5 (.take 6 (.take 7 (.alt 9 (.alt 10 (.alt 11 (.take 12 .done) .stop) .stop) .stop))))) (.alt 9 (.alt 3 (.take 4 (.take 5 (.take 6 (.take 7 (.alt 10 (.alt 11 (.take 12 .done) .stop) .stop))))) .stop) .stop)) (.alt 9 (.alt 1 (.alt 3 (.take 4 (.take 5 (.take 6 (.take 7 (.alt 10 (.alt 11 (.take 12 .done) .stop) .stop))))) .stop) .stop) .stop)) (.alt 9 (.alt 1 (.alt 3 (.take 4 (.take 5 (.take 6 (.take 7 (.alt 8 (.alt 10 (.alt 11 (.take 12 .done) .stop) .stop) .stop))))) (.alt 8 (.alt 3 (.take 4 (.take 5 (.take 6 (.take 7 (.alt 10 (.alt 11 (.take 12 .done) .stop) .stop))))) .stop) .stop)) (.alt 8 (.alt 1 (.alt 3 (.take 4 (.take 5 (.take 6 (.take 7 (.alt 10 (.alt 11 (.take 12 .done) .stop) .stop))))) .stop) .stop) .stop)) .stop))))) ?_
   refine dl rfl (lbw ld_30) ?_
   refine dl rfl (lbw ld_57) ?_
   refine d_alt rfl rfl ?_ ?_
   · -- first 1
     refine t_callR rfl (ownPart_ok h' om om om) en_38 ?_
     rintro v34 S34 le34 h34
     refine dA le34 (d_alt rfl rfl ?_ ?_)
     · -- first 3
       refine t_callR rfl (fact_ok h34) en_39 ?_
       rintro v36 S36 le36 ⟨w36, r36, e36, rfl, hA36⟩
       obtain ⟨cs1, rfl, hn1, ha1⟩ := PartR.vals hA36.1
       obtain ⟨cs2, rfl, hn2, ha2⟩ := ResR.vals hA36.2.1
       refine dA (le34.trans le36) (em rfl rfl (ey rfl (y_ext rfl rfl) (ey rfl (y_ext rfl rfl) (ey rfl (y_ext rfl rfl) (d_alt rfl rfl ?_ ?_)))))
       · -- first 8
         refine tal zc_30 (fun b6 => dA (le34.trans le36) (da rfl (tal zc_77 (fun b7 => dA (le34.trans le36) (da rfl (t_stw (vs := cs1) sz_30 rfl rfl rfl hn1 ha1 pk rfl ?_))))))
         refine dA (le34.trans le36) (da rfl (t_stw (vs := cs2) sz_77 rfl rfl rfl hn2 ha2 pk rfl ?_))
         exact dA (le34.trans le36) (ea rfl rfl (d_done (e_then (t_to (hK (cs1, cs2, e36, S36, b6, b7) ⟨le34.trans le36, hA36, hn1, ha1, hn2, ha2⟩)))))
       refine d_alt rfl rfl ?_ d_stop
       refine tal zc_77 (fun b7 => dA (le34.trans le36) (da rfl (tal zc_30 (fun b6 => dA (le34.trans le36) (da rfl (t_stw (vs := cs1) sz_30 rfl rfl rfl hn1 ha1 pk rfl ?_))))))
       refine dA (le34.trans le36) (da rfl (t_stw (vs := cs2) sz_77 rfl rfl rfl hn2 ha2 pk rfl ?_))
       exact dA (le34.trans le36) (ea rfl rfl (d_done (e_then (t_to (hK (cs1, cs2, e36, S36, b6, b7) ⟨le34.trans le36, hA36, hn1, ha1, hn2, ha2⟩)))))
     refine d_alt rfl rfl ?_ ?_
     · -- first 8
       refine tal zc_30 (fun b6 => dA le34 (d_alt rfl rfl ?_ ?_))
       · -- first 3
         refine t_callR rfl (fact_ok h34) en_39 ?_
         rintro v36 S36 le36 ⟨w36, r36, e36, rfl, hA36⟩
         obtain ⟨cs1, rfl, hn1, ha1⟩ := PartR.vals hA36.1
         obtain ⟨cs2, rfl, hn2, ha2⟩ := ResR.vals hA36.2.1
         refine dA (le34.trans le36) (em rfl rfl (ey rfl (y_ext rfl rfl) (ey rfl (y_ext rfl rfl) (ey rfl (y_ext rfl rfl) (da rfl (tal zc_77 (fun b7 => dA (le34.trans le36) (da rfl (t_stw (vs := cs1) sz_30 rfl rfl rfl hn1 ha1 pk rfl ?_)))))))))
         refine dA (le34.trans le36) (da rfl (t_stw (vs := cs2) sz_77 rfl rfl rfl hn2 ha2 pk rfl ?_))
         exact dA (le34.trans le36) (ea rfl rfl (d_done (e_then (t_to (hK (cs1, cs2, e36, S36, b6, b7) ⟨le34.trans le36, hA36, hn1, ha1, hn2, ha2⟩)))))
       refine d_alt rfl rfl ?_ d_stop
       refine tal zc_77 (fun b7 => dA le34 (da rfl (t_callR rfl (fact_ok h34) en_39 ?_)))
       rintro v36 S36 le36 ⟨w36, r36, e36, rfl, hA36⟩
       obtain ⟨cs1, rfl, hn1, ha1⟩ := PartR.vals hA36.1
       obtain ⟨cs2, rfl, hn2, ha2⟩ := ResR.vals hA36.2.1
       refine dA (le34.trans le36) (em rfl rfl (ey rfl (y_ext rfl rfl) (ey rfl (y_ext rfl rfl) (ey rfl (y_ext rfl rfl) (da rfl (t_stw (vs := cs1) sz_30 rfl rfl rfl hn1 ha1 pk rfl ?_))))))
       refine dA (le34.trans le36) (da rfl (t_stw (vs := cs2) sz_77 rfl rfl rfl hn2 ha2 pk rfl ?_))
       exact dA (le34.trans le36) (ea rfl rfl (d_done (e_then (t_to (hK (cs1, cs2, e36, S36, b6, b7) ⟨le34.trans le36, hA36, hn1, ha1, hn2, ha2⟩)))))
     refine d_alt rfl rfl ?_ d_stop
     refine tal zc_77 (fun b7 => dA le34 (d_alt rfl rfl ?_ ?_))
     · -- first 3
       refine t_callR rfl (fact_ok h34) en_39 ?_
       rintro v36 S36 le36 ⟨w36, r36, e36, rfl, hA36⟩
       obtain ⟨cs1, rfl, hn1, ha1⟩ := PartR.vals hA36.1
       obtain ⟨cs2, rfl, hn2, ha2⟩ := ResR.vals hA36.2.1
       refine dA (le34.trans le36) (em rfl rfl (ey rfl (y_ext rfl rfl) (ey rfl (y_ext rfl rfl) (ey rfl (y_ext rfl rfl) (da rfl (tal zc_30 (fun b6 => dA (le34.trans le36) (da rfl (t_stw (vs := cs1) sz_30 rfl rfl rfl hn1 ha1 pk rfl ?_)))))))))
       refine dA (le34.trans le36) (da rfl (t_stw (vs := cs2) sz_77 rfl rfl rfl hn2 ha2 pk rfl ?_))
       exact dA (le34.trans le36) (ea rfl rfl (d_done (e_then (t_to (hK (cs1, cs2, e36, S36, b6, b7) ⟨le34.trans le36, hA36, hn1, ha1, hn2, ha2⟩)))))
     refine d_alt rfl rfl ?_ d_stop
     refine tal zc_30 (fun b6 => dA le34 (da rfl (t_callR rfl (fact_ok h34) en_39 ?_)))
     rintro v36 S36 le36 ⟨w36, r36, e36, rfl, hA36⟩
     obtain ⟨cs1, rfl, hn1, ha1⟩ := PartR.vals hA36.1
     obtain ⟨cs2, rfl, hn2, ha2⟩ := ResR.vals hA36.2.1
     refine dA (le34.trans le36) (em rfl rfl (ey rfl (y_ext rfl rfl) (ey rfl (y_ext rfl rfl) (ey rfl (y_ext rfl rfl) (da rfl (t_stw (vs := cs1) sz_30 rfl rfl rfl hn1 ha1 pk rfl ?_))))))
     refine dA (le34.trans le36) (da rfl (t_stw (vs := cs2) sz_77 rfl rfl rfl hn2 ha2 pk rfl ?_))
     exact dA (le34.trans le36) (ea rfl rfl (d_done (e_then (t_to (hK (cs1, cs2, e36, S36, b6, b7) ⟨le34.trans le36, hA36, hn1, ha1, hn2, ha2⟩)))))
   refine d_alt rfl rfl ?_ ?_
   · -- first 8
     refine tal zc_30 (fun b6 => dA (Stone.le.refl _) (d_alt rfl rfl ?_ ?_))
     · -- first 1
       refine t_callR rfl (ownPart_ok h' om om om) en_38 ?_
       rintro v34 S34 le34 h34
       refine dA le34 (d_alt rfl rfl ?_ ?_)
       · -- first 3
         refine t_callR rfl (fact_ok h34) en_39 ?_
         rintro v36 S36 le36 ⟨w36, r36, e36, rfl, hA36⟩
         obtain ⟨cs1, rfl, hn1, ha1⟩ := PartR.vals hA36.1
         obtain ⟨cs2, rfl, hn2, ha2⟩ := ResR.vals hA36.2.1
         refine dA (le34.trans le36) (em rfl rfl (ey rfl (y_ext rfl rfl) (ey rfl (y_ext rfl rfl) (ey rfl (y_ext rfl rfl) (da rfl (tal zc_77 (fun b7 => dA (le34.trans le36) (da rfl (t_stw (vs := cs1) sz_30 rfl rfl rfl hn1 ha1 pk rfl ?_)))))))))
         refine dA (le34.trans le36) (da rfl (t_stw (vs := cs2) sz_77 rfl rfl rfl hn2 ha2 pk rfl ?_))
         exact dA (le34.trans le36) (ea rfl rfl (d_done (e_then (t_to (hK (cs1, cs2, e36, S36, b6, b7) ⟨le34.trans le36, hA36, hn1, ha1, hn2, ha2⟩)))))
       refine d_alt rfl rfl ?_ d_stop
       refine tal zc_77 (fun b7 => dA le34 (da rfl (t_callR rfl (fact_ok h34) en_39 ?_)))
       rintro v36 S36 le36 ⟨w36, r36, e36, rfl, hA36⟩
       obtain ⟨cs1, rfl, hn1, ha1⟩ := PartR.vals hA36.1
       obtain ⟨cs2, rfl, hn2, ha2⟩ := ResR.vals hA36.2.1
       refine dA (le34.trans le36) (em rfl rfl (ey rfl (y_ext rfl rfl) (ey rfl (y_ext rfl rfl) (ey rfl (y_ext rfl rfl) (da rfl (t_stw (vs := cs1) sz_30 rfl rfl rfl hn1 ha1 pk rfl ?_))))))
       refine dA (le34.trans le36) (da rfl (t_stw (vs := cs2) sz_77 rfl rfl rfl hn2 ha2 pk rfl ?_))
       exact dA (le34.trans le36) (ea rfl rfl (d_done (e_then (t_to (hK (cs1, cs2, e36, S36, b6, b7) ⟨le34.trans le36, hA36, hn1, ha1, hn2, ha2⟩)))))
     refine d_alt rfl rfl ?_ d_stop
     refine tal zc_77 (fun b7 => dA (Stone.le.refl _) (da rfl (t_callR rfl (ownPart_ok h' om om om) en_38 ?_)))
     rintro v34 S34 le34 h34
     refine dA le34 (da rfl (t_callR rfl (fact_ok h34) en_39 ?_))
     rintro v36 S36 le36 ⟨w36, r36, e36, rfl, hA36⟩
     obtain ⟨cs1, rfl, hn1, ha1⟩ := PartR.vals hA36.1
     obtain ⟨cs2, rfl, hn2, ha2⟩ := ResR.vals hA36.2.1
     refine dA (le34.trans le36) (em rfl rfl (ey rfl (y_ext rfl rfl) (ey rfl (y_ext rfl rfl) (ey rfl (y_ext rfl rfl) (da rfl (t_stw (vs := cs1) sz_30 rfl rfl rfl hn1 ha1 pk rfl ?_))))))
     refine dA (le34.trans le36) (da rfl (t_stw (vs := cs2) sz_77 rfl rfl rfl hn2 ha2 pk rfl ?_))
     exact dA (le34.trans le36) (ea rfl rfl (d_done (e_then (t_to (hK (cs1, cs2, e36, S36, b6, b7) ⟨le34.trans le36, hA36, hn1, ha1, hn2, ha2⟩)))))
   refine d_alt rfl rfl ?_ d_stop
   refine tal zc_77 (fun b7 => dA (Stone.le.refl _) (d_alt rfl rfl ?_ ?_))
   · -- first 1
     refine t_callR rfl (ownPart_ok h' om om om) en_38 ?_
     rintro v34 S34 le34 h34
     refine dA le34 (d_alt rfl rfl ?_ ?_)
     · -- first 3
       refine t_callR rfl (fact_ok h34) en_39 ?_
       rintro v36 S36 le36 ⟨w36, r36, e36, rfl, hA36⟩
       obtain ⟨cs1, rfl, hn1, ha1⟩ := PartR.vals hA36.1
       obtain ⟨cs2, rfl, hn2, ha2⟩ := ResR.vals hA36.2.1
       refine dA (le34.trans le36) (em rfl rfl (ey rfl (y_ext rfl rfl) (ey rfl (y_ext rfl rfl) (ey rfl (y_ext rfl rfl) (da rfl (tal zc_30 (fun b6 => dA (le34.trans le36) (da rfl (t_stw (vs := cs1) sz_30 rfl rfl rfl hn1 ha1 pk rfl ?_)))))))))
       refine dA (le34.trans le36) (da rfl (t_stw (vs := cs2) sz_77 rfl rfl rfl hn2 ha2 pk rfl ?_))
       exact dA (le34.trans le36) (ea rfl rfl (d_done (e_then (t_to (hK (cs1, cs2, e36, S36, b6, b7) ⟨le34.trans le36, hA36, hn1, ha1, hn2, ha2⟩)))))
     refine d_alt rfl rfl ?_ d_stop
     refine tal zc_30 (fun b6 => dA le34 (da rfl (t_callR rfl (fact_ok h34) en_39 ?_)))
     rintro v36 S36 le36 ⟨w36, r36, e36, rfl, hA36⟩
     obtain ⟨cs1, rfl, hn1, ha1⟩ := PartR.vals hA36.1
     obtain ⟨cs2, rfl, hn2, ha2⟩ := ResR.vals hA36.2.1
     refine dA (le34.trans le36) (em rfl rfl (ey rfl (y_ext rfl rfl) (ey rfl (y_ext rfl rfl) (ey rfl (y_ext rfl rfl) (da rfl (t_stw (vs := cs1) sz_30 rfl rfl rfl hn1 ha1 pk rfl ?_))))))
     refine dA (le34.trans le36) (da rfl (t_stw (vs := cs2) sz_77 rfl rfl rfl hn2 ha2 pk rfl ?_))
     exact dA (le34.trans le36) (ea rfl rfl (d_done (e_then (t_to (hK (cs1, cs2, e36, S36, b6, b7) ⟨le34.trans le36, hA36, hn1, ha1, hn2, ha2⟩)))))
   refine d_alt rfl rfl ?_ d_stop
   refine tal zc_30 (fun b6 => dA (Stone.le.refl _) (da rfl (t_callR rfl (ownPart_ok h' om om om) en_38 ?_)))
   rintro v34 S34 le34 h34
   refine dA le34 (da rfl (t_callR rfl (fact_ok h34) en_39 ?_))
   rintro v36 S36 le36 ⟨w36, r36, e36, rfl, hA36⟩
   obtain ⟨cs1, rfl, hn1, ha1⟩ := PartR.vals hA36.1
   obtain ⟨cs2, rfl, hn2, ha2⟩ := ResR.vals hA36.2.1
   refine dA (le34.trans le36) (em rfl rfl (ey rfl (y_ext rfl rfl) (ey rfl (y_ext rfl rfl) (ey rfl (y_ext rfl rfl) (da rfl (t_stw (vs := cs1) sz_30 rfl rfl rfl hn1 ha1 pk rfl ?_))))))
   refine dA (le34.trans le36) (da rfl (t_stw (vs := cs2) sz_77 rfl rfl rfl hn2 ha2 pk rfl ?_))
   exact dA (le34.trans le36) (ea rfl rfl (d_done (e_then (t_to (hK (cs1, cs2, e36, S36, b6, b7) ⟨le34.trans le36, hA36, hn1, ha1, hn2, ha2⟩)))))
   -- behind the cut
   refine sr ?_
   obtain ⟨cs1, cs2, e36, S36, b6, b7⟩ := z
   obtain ⟨hle, ⟨-, -, hA⟩, hn1, ha1, hn2, ha2⟩ := hz
   dsimp only at hle hA hn1 ha1 hn2 ha2 ⊢
   have hE : ∃ o, ErrR S36 e36 o ∧ o ≠ some none ∧ (∀ n, o = some (some n) → doA s (fCmd ce cp) = (s, .bad n)) ∧ (o = none → PartR S36 (.agg cs1.toArray) (doA s (fCmd ce cp)).1 ∧ ResR S36 (.agg cs2.toArray) (doA s (fCmd ce cp)).2) := by
    rcases hA with ⟨n, h1, h2⟩ | ⟨h1, h2, h3⟩
    · exact ⟨some (some n), h1, by simp, (fun m e => by cases e; exact h2), (fun e => by cases e)⟩
    · exact ⟨none, h1, by simp, (fun m e => by cases e), (fun _ => ⟨h2, h3⟩)⟩
   obtain ⟨o, hE1, hE2, hE3, hE4⟩ := hE
   have hg36 : Gl S36 := hle.cell hg
   refine al zc_31 (fun b9 => nes (sr (mv rfl (yy (y_mi co_108 rfl) (lw (t_call en_40 rfl (Pick.perm Pick.hd) (errAs_any hg36 hE1 hE2) (lt_n rfl) ?_))))))
   rintro v I1 S42 le42 ⟨x, rfl, rfl, hx⟩
   dsimp only [List.cons_append, List.nil_append]
   refine nec rfl (fun g4 => ?_) (fun g4 => ?_)
   · obtain ⟨n, rfl⟩ : ∃ n, o = some (some n) := by
      match o, hE2, g4 with
      | some (some n), _, _ => exact ⟨n, rfl⟩
     have hxn := hx n rfl
     subst hxn
     have hd := hE3 _ rfl
     refine c_seq (dR ([.blk b2 (.cells (s.cells (.slice A s.l.length a) (.slice B s.p.length b) (.slice D s.c.length d)).toArray 30 (0, 0)), .blk b9 (.cells [i64 x].toArray 31 (0, 0))]) [0, 2] (.take 0 (.take 2 (.take 3 (.alt 1 (.alt 4 (.alt 5 .done .stop) .stop) .stop)))) ?_)
     refine dl rfl (lbw ld_30) ?_
     refine dl rfl (lb ld_31) ?_
     refine ey rfl (y_build pl_77 zc_77 rfl rfl) (da rfl (t_callR rfl (ownPart_ok (h'.mono (hle.trans le42)) om om om) en_38 ?_))
     rintro v44 S44 le44 h44
     obtain ⟨A1, a1, B1, b1, D1, d1, rfl, hr1, hp1, hc1⟩ := h44.ex
     refine dA le44 (da rfl (sw sz_30 ?_))
     refine dA le44 (da rfl (sw sz_77 ?_))
     exact dA le44 (d_done (e_then (c_ret (e_then_ret (f_retR rfl (ResV.agg ld_30 rfl pk rfl (ResV.agg ld_77 rfl pk rfl rn)) (by rw [hq, hd]; exact ⟨_, _, rfl, h44, _, rfl, Sl.nil⟩))))))
   · have ho0 : o = none := by
      match o, g4 with
      | none, _ => rfl
     obtain ⟨hd1, hd2⟩ := hE4 ho0
     have hd1' := hd1
     have hd2' := hd2
     obtain ⟨A1, a1, B1, b1, D1, d1, e1, -⟩ := hd1'.ex
     obtain ⟨rv2, e2, hr2⟩ := hd2'
     obtain ⟨A2, a2, rfl, -⟩ := hr2.shape
     injection e1 with e1
     have e1 : cs1 = _ := congrArg Array.toList e1
     injection e2 with e2
     have e2 : cs2 = _ := congrArg Array.toList e2
     dsimp only at e1 e2
     subst e1
     subst e2
     refine c_skip (e_then (c_seq (dR ([.blk b6 (.cells ((doA s (fCmd ce cp)).1.cells (.slice A1 (doA s (fCmd ce cp)).1.l.length a1) (.slice B1 (doA s (fCmd ce cp)).1.p.length b1) (.slice D1 (doA s (fCmd ce cp)).1.c.length d1)).toArray 30 (0, 0)), .blk b7 (.cells [i64 (doA s (fCmd ce cp)).2.err, u64 (doA s (fCmd ce cp)).2.off, .bool (doA s (fCmd ce cp)).2.old, .slice A2 (doA s (fCmd ce cp)).2.l.length a2].toArray 77 (0, 0))]) [0, 1] (.take 0 (.take 1 (.alt 2 (.alt 3 .done .stop) .stop))) ?_)))
     refine dl rfl (lbw ld_30) ?_
     refine dl rfl (lbw ld_77) ?_
     refine da rfl (sw sz_30 ?_)
     refine dA (Stone.le.refl _) (da rfl (sw sz_77 ?_))
     exact dA (Stone.le.refl _) (d_done (e_then (c_ret (f_retR rfl (ResV.agg ld_30 rfl pk rfl (ResV.agg ld_77 rfl pk rfl rn)) (by rw [hq]; exact ⟨_, _, rfl, hd1.mono le42, hd2.mono le42⟩)))))
theorem fdoes_ok {S : Stone} {v : Value} {b : Bk} {ce cp : Nat} (h : BookR S v b) (hl : b.l.length < 200) (hcp : 1 ≤ cp) :
 Con Tryz.prog 24 #[v, .agg (fC ce cp).toArray] [] S (RetR fun u S' => DoesR S' u (doesB b (fCmd ce cp))) := by
 have h' := h
 obtain ⟨rv, rfl, hr⟩ := h
 obtain ⟨A, a, rfl, ha1, ha2, -⟩ := hr.shape
 have hk : (fCmd ce cp).kind = 5 := rfl
 refine con_of 239 Tryz.func24 rfl rfl rfl (fun w0 => ?_)
 refine sr (bx rfl rfl (fun b2 => bx rfl rfl (fun b3 => al zc_40 (fun b4 => al zc_77 (fun b5 => nesr (yy (y_far fo_40_4 rfl) (ll (lb ld_26) ?_)))))))
 refine yy (y_ln sl_26 rfl) (yy (y_cvu cv_3_25 rfl om) (sa rfl (nesr (yy (y_far fo_57_0 rfl) (ll (lb ld_55) ?_)))))
 refine yy (y_eq rfl rfl) (mv rfl ?_)
 apply l_or 4 (gd := 19) (d := 23) rfl
 · intro hb19 K1 hK1
   refine qy hb19 (y_far fo_57_0 rfl) (gl hb19 (lb ld_55) ?_)
   exact qy hb19 (y_eq rfl rfl) (yy (y_pick_f' rfl hb19 rfl) (lk_end hK1))
 · intro hb19 K1 hK1
   exact qn hb19 (qn hb19 (qn hb19 (yy (y_pick_t' rfl hb19 rfl) (lk_end hK1))))
 refine sa rfl (nes (dR ([.blk b2 (.cells (b.cells (.slice A b.l.length a)).toArray 40 (0, 0)), .blk b3 (.cells (fC ce cp).toArray 57 (0, 0))]) [3, 5, 9] (.take 0 (.take 1 (.take 2 (.take 3 (.take 4 (.take 5 (.take 6 (.take 7 (.take 8 (.take 9 (.take 10 (.take 11 (.take 12 .done))))))))))))) ?_))
 refine em rfl rfl (em rfl rfl (t_known (gd := 25) (v := false) rfl (by rfl) (fun hb25 => ?_)))
 refine zn rfl hb25 (zn rfl hb25 (zn rfl hb25 (zn rfl hb25 (zn rfl hb25 (zn rfl hb25 (zn rfl hb25 (zn rfl hb25 (zn rfl hb25 (ey rfl (y_pick_f' rfl hb25 rfl) (ea rfl rfl (d_done (e_then (sr (yy (y_far fo_57_8 rfl) (ll (lb ld_9) ?_)))))))))))))))
 refine lw (t_callr' rfl (freader_ok.back) en_41 (sa rfl (nes (c_block (sr (yy (y_far fo_57_1 rfl) (ll (lb ld_25) ?_)))))))
 refine yy (y_far fo_40_2 rfl) (ll (lb ld_25) ?_)
 refine yy (y_ne rfl rfl) (sa rfl (nec rfl (fun g2 => ?_) (fun g2 => ?_)))
 · have he : ce ≠ b.epoch := by simp at g2; omega
   have hq : doesB b (fCmd ce cp) = (b, .bad 162) := by unfold doesB; exact if_pos he
   refine c_seq (dR ([.blk b2 (.cells (b.cells (.slice A b.l.length a)).toArray 40 (0, 0))]) [0] (.take 0 (.alt 1 (.alt 2 (.alt 3 .done .stop) .stop) .stop)) ?_)
   refine dl rfl (lbw ld_40) ?_
   refine da rfl (t_callr' rfl (refused_ok (e := 162)) en_42 ?_)
   refine dA (Stone.le.refl _) (da rfl (sw sz_40 ?_))
   refine dA (Stone.le.refl _) (da rfl (sw sz_77 ?_))
   exact dA (Stone.le.refl _) (d_done (e_then (c_ret (e_in_ret (e_then_ret (f_retR rfl (ResV.agg ld_40 rfl pk rfl (ResV.agg ld_77 rfl pk rfl rn)) (by rw [hq]; exact ⟨_, _, rfl, h', _, rfl, Sl.nil⟩)))))))
 · have he : ¬ ce ≠ b.epoch := by simp at g2; omega
   refine sr (yy (y_far fo_57_0 rfl) (ll (lb ld_55) ?_))
   refine yy (y_eq rfl rfl) (mv rfl ?_)
   apply l_or 4 (gd := 51) (d := 55) rfl
   · intro hb51 K3 hK3
     refine qy hb51 (y_far fo_57_0 rfl) (gl hb51 (lb ld_55) ?_)
     exact qy hb51 (y_eq rfl rfl) (yy (y_pick_f' rfl hb51 rfl) (lk_end hK3))
   · intro hb51 K3 hK3
     skip
     exact qn hb51 (qn hb51 (qn hb51 (yy (y_pick_t' rfl hb51 rfl) (lk_end hK3))))
   refine sa rfl (nec rfl (fun g4 => ?_) (fun g4 => ?_))
   · refine c_seq ?_
     refine sr (yy (y_far fo_40_3 rfl) (ll (lb ld_25) ?_))
     refine yy (y_ne rfl rfl) (mv rfl ?_)
     apply l_and 6 (gd := 59) (d := 65) rfl
     · intro hb59 K5 hK5
       refine qy hb59 (y_far fo_40_3 rfl) (gl hb59 (lb ld_25) ?_)
       refine qy hb59 (y_far fo_57_9 rfl) (gl hb59 (lb ld_25) ?_)
       exact qy hb59 (y_ne rfl rfl) (yy (y_pick_t' rfl hb59 rfl) (lk_end hK5))
     · intro hb59 K5 hK5
       exact qn hb59 (qn hb59 (qn hb59 (qn hb59 (qn hb59 (yy (y_pick_f' rfl hb59 rfl) (lk_end hK5))))))
     refine nec rfl (fun g6 => ?_) (fun g6 => ?_)
     · have hf : b.frozen ≠ 0 ∧ b.frozen ≠ cp := by simp at g6; omega
       have hq : doesB b (fCmd ce cp) = (b, .bad 164) := by unfold doesB; rw [if_neg (show ¬ (fCmd ce cp).epoch ≠ b.epoch from he), if_pos (.inl hk)]; exact if_pos hf
       refine c_seq (dR ([.blk b2 (.cells (b.cells (.slice A b.l.length a)).toArray 40 (0, 0))]) [0] (.take 0 (.alt 1 (.alt 2 (.alt 3 .done .stop) .stop) .stop)) ?_)
       refine dl rfl (lbw ld_40) ?_
       refine da rfl (t_callr' rfl (refused_ok (e := 164)) en_42 ?_)
       refine dA (Stone.le.refl _) (da rfl (sw sz_40 ?_))
       refine dA (Stone.le.refl _) (da rfl (sw sz_77 ?_))
       exact dA (Stone.le.refl _) (d_done (e_then (c_ret (e_then_ret (e_in_ret (e_then_ret (f_retR rfl (ResV.agg ld_40 rfl pk rfl (ResV.agg ld_77 rfl pk rfl rn)) (by rw [hq]; exact ⟨_, _, rfl, h', _, rfl, Sl.nil⟩))))))))
     · have hf : ¬ (b.frozen ≠ 0 ∧ b.frozen ≠ cp) := by simp at g6; omega
       refine c_skip (e_then (sr (yy (y_far fo_40_3 rfl) (ll (lb ld_25) ?_))))
       refine yy (y_ne rfl rfl) (sa rfl (nesr (yy (y_far fo_40_3 rfl) (lw (s1 sz_25 ?_)))))
       refine nes (sr (yy (y_far fo_57_0 rfl) (ll (lb ld_55) ?_)))
       refine yy (y_eq rfl rfl) (nec rfl (fun g7 => ?_) (fun g7 => ?_))
       · refine c_seq ?_
         refine c_region (yy (y_far fo_57_9 rfl) (ll (lb ld_25) ?_))
         refine yy (y_far fo_40_3 rfl) (lw (s1 sz_25 (ne ?_)))
         refine sr (ll (lbw ld_40) ?_)
         refine mv rfl (yy (y_build pl_77 zc_77 rfl rfl) (lw (sw sz_40 ?_)))
         refine lw (sw sz_77 (l_nil ?_))
         refine e_then (c_ret (e_then_ret (e_in_ret (e_then_ret ?_))))
         have hq : doesB b (fCmd ce cp) = ({ b with frozen := cp }, ⟨0, 0, !decide (b.frozen = 0), []⟩) := by unfold doesB; rw [if_neg (show ¬ (fCmd ce cp).epoch ≠ b.epoch from he), if_pos (.inl hk), if_neg (show ¬ (b.frozen ≠ 0 ∧ b.frozen ≠ (fCmd ce cp).plan) from hf), if_pos hk]; rfl
         exact f_retR rfl (ResV.agg ld_40 rfl pk rfl (ResV.agg ld_77 rfl pk rfl rn)) (by rw [hq]; refine ⟨_, _, rfl, ⟨_, rfl, hr⟩, _, ?_, Sl.nil⟩; exact congrArg (fun x => Value.agg #[.int .i64 0, .int .u64 0, .bool x, .slice none 0 0]) (by rw [Bool.eq_iff_iff]; simp; try omega))
       · cases g7
   · cases g4
end Go.Proofs.YtkdmbimkanjbhaaGreatDoor.Eng
namespace Go.Proofs.YtkdmbimkanjbhaaGreatDoor.Eng
open Go Go.Proofs
/-! ### the plain law, two: halves -/
theorem renum_get {l : List Rec} {i : Nat} : (renum l)[i]? = (l[i]?).map fun r => { r with off := i } := by unfold renum; rw [List.getElem?_mapIdx]
theorem renum_len {l : List Rec} : (renum l).length = l.length := by unfold renum; rw [List.length_mapIdx]
theorem renum_num {l : List Rec} : Num (renum l) := fun i r h => by
  rw [renum_get] at h
  obtain ⟨x, _, rfl⟩ := Option.map_eq_some_iff.1 h
  rfl
theorem renum_mem {l : List Rec} {r : Rec} (h : r ∈ renum l) : ∃ x ∈ l, r.key = x.key ∧ r.val = x.val ∧ r.prod = x.prod ∧ r.seq = x.seq := by
  obtain ⟨i, hi⟩ := List.getElem?_of_mem h
  rw [renum_get] at hi
  obtain ⟨x, hx, rfl⟩ := Option.map_eq_some_iff.1 hi
  exact ⟨x, List.mem_of_getElem? hx, rfl, rfl, rfl, rfl⟩
theorem renum_any {l : List Rec} {p n : Nat} : (renum l).any (isRec p n) = l.any (isRec p n) := by
  rw [Bool.eq_iff_iff, List.any_eq_true, List.any_eq_true]
  constructor
  · rintro ⟨r, hr, hq⟩
    obtain ⟨x, hx, _, _, e1, e2⟩ := renum_mem hr
    exact ⟨x, hx, by rw [isRec_iff] at hq ⊢; omega⟩
  · rintro ⟨r, hr, hq⟩
    obtain ⟨i, hi⟩ := List.getElem?_of_mem hr
    exact ⟨{ r with off := i }, List.mem_of_getElem? (i := i) (by rw [renum_get, hi]; rfl), hq⟩
theorem findIdx_eq {α : Type} {l : List α} {q : α → Bool} {k : Nat} {x : α} (hk : l[k]? = some x) (hx : q x = true) (hlo : ∀ (j : Nat) y, l[j]? = some y → j < k → q y = false) : l.findIdx q = k := by
  obtain ⟨hlt, he⟩ := List.getElem?_eq_some_iff.1 hk
  rw [List.findIdx_eq hlt]
  exact ⟨by rw [he]; exact hx, fun j hj => hlo j _ (List.getElem?_eq_getElem (by omega)) hj⟩
theorem renum_find {l : List Rec} {p n : Nat} : (renum l).findIdx (isRec p n) = l.findIdx (isRec p n) := by
  by_cases ha : l.any (isRec p n) = true
  · obtain ⟨x, hx, hq⟩ := List.any_eq_true.1 ha
    have hlt := List.findIdx_lt_length_of_exists ⟨x, hx, hq⟩
    refine findIdx_eq (x := { l[l.findIdx (isRec p n)] with off := l.findIdx (isRec p n) }) (by rw [renum_get, List.getElem?_eq_getElem hlt]; rfl) ?_ fun j y hy hj => ?_
    · have := List.findIdx_getElem (p := isRec p n) (xs := l) (w := hlt)
      exact this
    · rw [renum_get] at hy
      obtain ⟨z, hz, rfl⟩ := Option.map_eq_some_iff.1 hy
      have := List.not_of_lt_findIdx hj
      have e := (List.getElem?_eq_some_iff.1 hz).2
      rw [e] at this
      show isRec p n z = false
      simpa using this
  · have ha' : l.any (isRec p n) = false := by simpa using ha
    rw [findIdx_none ha', findIdx_none (by rw [renum_any]; exact ha'), renum_len]
theorem keep_get {q : Rec → Bool} {l : List Rec} {i : Nat} (h : i ≤ l.length) : (keepTo q l).getD i 0 = ((l.take i).filter q).length := by
  unfold keepTo
  rw [List.getD_eq_getElem?_getD, List.getElem?_map, List.getElem?_range (by omega)]; rfl
theorem keep_len {q : Rec → Bool} {l : List Rec} : (keepTo q l).length = l.length + 1 := by unfold keepTo; simp
/-- Where a record of a log stands in what is kept of it. -/
theorem filter_at {q : Rec → Bool} {l : List Rec} {i : Nat} {x : Rec} (h : l[i]? = some x) (hx : q x = true) : (l.filter q)[((l.take i).filter q).length]? = some x ∧ ∀ (j : Nat) y, (l.filter q)[j]? = some y → j < ((l.take i).filter q).length → y ∈ l.take i := by
  have hlt := (List.getElem?_eq_some_iff.1 h).1
  have e : l.filter q = (l.take i).filter q ++ x :: (l.drop (i + 1)).filter q := by
    conv => lhs; rw [← List.take_append_drop i l, List.filter_append]
    rw [List.drop_eq_getElem_cons hlt, (List.getElem?_eq_some_iff.1 h).2, List.filter_cons, if_pos hx]
  constructor
  · rw [e, List.getElem?_append_right (Nat.le_refl _), Nat.sub_self]; rfl
  · intro j y hy hj
    rw [e, List.getElem?_append_left hj] at hy
    exact (List.mem_filter.1 (List.mem_of_getElem? hy)).1
theorem up_uniq {b : Bk} (h : BkOk b) {i j : Nat} {x y : Rec} (hi : b.l[i]? = some x) (hj : b.l[j]? = some y) (h1 : x.prod = y.prod) (h2 : x.seq = y.seq) : i = j := by
  rcases Nat.lt_trichotomy i j with c | c | c
  · have := h.up i j x y hi hj c h1; omega
  · exact c
  · have := h.up j i y x hj hi c h1.symm; omega
theorem any_at {l : List Rec} {p n : Nat} (h : l.any (isRec p n) = true) : ∃ (i : Nat) (x : Rec), l[i]? = some x ∧ l.findIdx (isRec p n) = i ∧ x.prod = p ∧ x.seq = n := by
  obtain ⟨x, hx, hq⟩ := List.any_eq_true.1 h
  have hlt := List.findIdx_lt_length_of_exists ⟨x, hx, hq⟩
  have := isRec_iff.1 (List.findIdx_getElem (p := isRec p n) (xs := l) (w := hlt))
  exact ⟨_, _, List.getElem?_eq_getElem hlt, rfl, this.1, this.2⟩
theorem half_prd {b : Bk} (h : BkOk b) (lo hi i : Nat) : prdOf (halfB b lo hi) i = moveP (keepTo (inR lo hi) b.l) (prdOf b i) := by
  have hl : (halfB b lo hi).l = renum (b.l.filter (inR lo hi)) := rfl
  have hla : (halfB b lo hi).last = b.last := rfl
  by_cases ha : b.l.any (isRec i (b.last i)) = true
  · obtain ⟨k, x, hk, hf, hp, hs⟩ := any_at ha
    have hkl := (List.getElem?_eq_some_iff.1 hk).1
    have e1 : prdOf b i = ⟨i, b.last i, true, k⟩ := by unfold prdOf; rw [if_pos ha, hf]
    rw [e1]
    have es : ((b.l.take (k + 1)).filter (inR lo hi)).length = ((b.l.take k).filter (inR lo hi)).length + if inR lo hi x = true then 1 else 0 := by
      rw [List.take_add_one, hk, Option.toList_some, List.filter_append, List.length_append, List.filter_cons]; split <;> rfl
    by_cases hq : inR lo hi x = true
    · have hm : moveP (keepTo (inR lo hi) b.l) ⟨i, b.last i, true, k⟩ = ⟨i, b.last i, true, ((b.l.take k).filter (inR lo hi)).length⟩ := by
        unfold moveP
        simp only [keep_get (show k ≤ b.l.length by omega), keep_get (show k + 1 ≤ b.l.length by omega), es, if_pos hq, Bool.true_and]
        rw [if_pos (by simp)]
      rw [hm]
      obtain ⟨f1, f2⟩ := filter_at hk hq
      have hany : (b.l.filter (inR lo hi)).any (isRec i (b.last i)) = true := List.any_eq_true.2 ⟨x, List.mem_of_getElem? f1, isRec_iff.2 ⟨hp, hs⟩⟩
      unfold prdOf
      rw [hl, hla, renum_any, renum_find, if_pos hany]
      congr 1
      refine findIdx_eq f1 (isRec_iff.2 ⟨hp, hs⟩) fun j y hy hj => ?_
      obtain ⟨m, hm1, hm2⟩ := List.mem_take_iff_getElem.1 (f2 j y hy hj)
      rw [Bool.eq_false_iff]
      intro hr
      obtain ⟨r1, r2⟩ := isRec_iff.1 hr
      have := up_uniq h (i := m) (x := y) (by rw [List.getElem?_eq_getElem (by omega), hm2]) hk (by omega) (by omega)
      omega
    · have hm : moveP (keepTo (inR lo hi) b.l) ⟨i, b.last i, true, k⟩ = ⟨i, b.last i, false, 0⟩ := by
        unfold moveP
        simp only [keep_get (show k ≤ b.l.length by omega), keep_get (show k + 1 ≤ b.l.length by omega), es, if_neg hq]
        rw [if_neg (by simp)]
      rw [hm]
      have hany : ¬ (b.l.filter (inR lo hi)).any (isRec i (b.last i)) = true := fun hc => by
        obtain ⟨y, hy, hr⟩ := List.any_eq_true.1 hc
        obtain ⟨r1, r2⟩ := isRec_iff.1 hr
        obtain ⟨y1, y2⟩ := List.mem_filter.1 hy
        obtain ⟨m, hy1⟩ := List.getElem?_of_mem y1
        have := up_uniq h hy1 hk (by omega) (by omega)
        subst this
        rw [hk] at hy1; cases hy1
        exact hq y2
      unfold prdOf
      rw [hl, hla, renum_any, if_neg hany]
  · have e1 : prdOf b i = ⟨i, b.last i, false, 0⟩ := by unfold prdOf; rw [if_neg ha]
    rw [e1]
    have hm : moveP (keepTo (inR lo hi) b.l) ⟨i, b.last i, false, 0⟩ = ⟨i, b.last i, false, 0⟩ := by unfold moveP; rfl
    rw [hm]
    have hany : ¬ (b.l.filter (inR lo hi)).any (isRec i (b.last i)) = true := fun hc => by
      obtain ⟨y, hy, hr⟩ := List.any_eq_true.1 hc
      exact ha (List.any_eq_true.2 ⟨y, (List.mem_filter.1 hy).1, hr⟩)
    unfold prdOf
    rw [hl, hla, renum_any, if_neg hany]
theorem ofN_keep {q : Rec → Bool} {l : List Rec} {n : Nat} (h : n ≤ l.length) : ofN (keepTo q l) n = ((l.take n).filter q).length := by
  unfold ofN
  rw [keep_len, Nat.min_eq_left (by omega), keep_get h]
theorem half_law {b : Bk} (h : BkOk b) (lo hi : Nat) : shOf (halfB b lo hi) = halfS (shOf b) lo hi := by
  have hp : prdsOf (halfB b lo hi) = (prdsOf b).map (moveP (keepTo (inR lo hi) b.l)) := by
    unfold prdsOf
    rw [List.map_map]
    exact List.map_congr_left fun i _ => half_prd h lo hi i
  have hc : cnssOf (halfB b lo hi) = mapC (cnssOf b) (keepTo (inR lo hi) b.l) := by
    unfold cnssOf mapC
    rw [List.map_map]
    refine List.map_congr_left fun k _ => ?_
    show (⟨k, _⟩ : Cns) = ⟨k, _⟩
    rw [ofN_keep (h.at_ k)]; rfl
  unfold shOf halfS
  rw [hp, hc]; rfl
theorem up_iff {l : List Rec} : (∀ (i j : Nat) a c, l[i]? = some a → l[j]? = some c → i < j → a.prod = c.prod → a.seq < c.seq) ↔ l.Pairwise fun a c => a.prod = c.prod → a.seq < c.seq := by
  rw [List.pairwise_iff_getElem]
  constructor
  · intro h i j hi hj hij
    exact h i j _ _ (List.getElem?_eq_getElem hi) (List.getElem?_eq_getElem hj) hij
  · intro h i j a c ha hc hij
    obtain ⟨h1, rfl⟩ := List.getElem?_eq_some_iff.1 ha
    obtain ⟨h2, rfl⟩ := List.getElem?_eq_some_iff.1 hc
    exact h i j h1 h2 hij
theorem up_renum {l : List Rec} (h : ∀ (i j : Nat) a c, l[i]? = some a → l[j]? = some c → i < j → a.prod = c.prod → a.seq < c.seq) : ∀ (i j : Nat) a c, (renum l)[i]? = some a → (renum l)[j]? = some c → i < j → a.prod = c.prod → a.seq < c.seq := by
  intro i j a c ha hc hij he
  rw [renum_get] at ha hc
  obtain ⟨x, hx, rfl⟩ := Option.map_eq_some_iff.1 ha
  obtain ⟨y, hy, rfl⟩ := Option.map_eq_some_iff.1 hc
  exact h i j x y hx hy hij he
theorem halfB_ok {b : Bk} {lo hi : Nat} (h : BkOk b) (h1 : lo < 6) (h2 : lo < hi) (h3 : hi ≤ 6) : BkOk (halfB b lo hi) where
  lo := h1
  lh := h2
  hi := h3
  epoch := by show 1 ≤ b.epoch + 1; omega
  num := renum_num
  key := fun r hr => by
    obtain ⟨x, hx, e1, _, _, _⟩ := renum_mem hr
    obtain ⟨x1, x2⟩ := List.mem_filter.1 hx
    refine ⟨by rw [e1]; exact (h.key x x1).1, ?_⟩
    unfold inR at x2 ⊢; rw [e1]; exact x2
  val := fun r hr => by
    obtain ⟨x, hx, _, e, _, _⟩ := renum_mem hr
    rw [e]; exact h.val x (List.mem_filter.1 hx).1
  prod := fun r hr => by
    obtain ⟨x, hx, _, _, e, _⟩ := renum_mem hr
    rw [e]; exact h.prod x (List.mem_filter.1 hx).1
  seq := fun r hr => by
    obtain ⟨x, hx, _, _, e, e'⟩ := renum_mem hr
    rw [e, e']; exact h.seq x (List.mem_filter.1 hx).1
  up := up_renum (up_iff.2 ((up_iff.1 h.up).filter _))
  at_ := fun k => by
    show ((b.l.take (b.at_ k)).filter (inR lo hi)).length ≤ (renum (b.l.filter (inR lo hi))).length
    rw [renum_len]
    exact ((List.take_sublist _ _).filter _).length_le
  gone := fun k hk => by
    show ((b.l.take (b.at_ k)).filter (inR lo hi)).length = 0
    rw [h.gone k hk]; rfl
  last := h.last
theorem halfB_len {b : Bk} {lo hi : Nat} : (halfB b lo hi).l.length ≤ b.l.length := by
  show (renum _).length ≤ _
  rw [renum_len]; exact List.length_filter_le _ _
/-! ### the plain law, three: two logs in one -/
inductive Mg : Nat → List Rec → List Rec → List Rec → List Nat → List Nat → Prop
  | nil {n : Nat} : Mg n [] [] [] [] []
  | left {n : Nat} {r : Rec} {p q o : List Rec} {u v : List Nat} (h : Mg (n + 1) p q o u v) : Mg n (r :: p) q (r :: o) (n :: u) v
  | right {n : Nat} {r : Rec} {p q o : List Rec} {u v : List Nat} (h : Mg (n + 1) p q o u v) : Mg n p (r :: q) (r :: o) u (n :: v)
theorem joinF_mg : ∀ (f : Nat) (p q out : List Rec) (ta tb : List Nat), f = p.length + q.length → ∀ {o' : List Rec} {ta' tb' : List Nat}, joinF f p q out ta tb = some (o', ta', tb') → ∃ o u v, o' = out ++ o ∧ ta' = ta ++ u ∧ tb' = tb ++ v ∧ Mg out.length p q o u v
  | 0, p, q, out, ta, tb, hf, o', ta', tb', h => by
    have h1 : p = [] := List.length_eq_zero_iff.1 (by omega)
    have h2 : q = [] := List.length_eq_zero_iff.1 (by omega)
    subst h1 h2
    simp only [joinF, Option.some.injEq, Prod.mk.injEq] at h
    obtain ⟨rfl, rfl, rfl⟩ := h
    exact ⟨[], [], [], by simp, by simp, by simp, .nil⟩
  | f + 1, p, q, out, ta, tb, hf, o', ta', tb', h => by
    rw [joinF] at h
    split at h
    · rename_i hb
      cases p with
      | nil => cases hb
      | cons r p =>
        obtain ⟨o, u, v, e1, e2, e3, hm⟩ := joinF_mg f p q (out ++ [r]) (ta ++ [out.length]) tb (by simp at hf; omega) h
        rw [List.length_append] at hm
        exact ⟨r :: o, out.length :: u, v, by rw [e1]; simp, by rw [e2]; simp, e3, .left hm⟩
    · split at h
      · rename_i hb
        cases q with
        | nil => cases hb
        | cons r q =>
          obtain ⟨o, u, v, e1, e2, e3, hm⟩ := joinF_mg f p q (out ++ [r]) ta (tb ++ [out.length]) (by simp at hf; omega) h
          rw [List.length_append] at hm
          exact ⟨r :: o, u, out.length :: v, by rw [e1]; simp, e2, by rw [e3]; simp, .right hm⟩
      · cases h
theorem joinL_mg {a b out : List Rec} {ta tb : List Nat} (h : joinL a b = some (out, ta, tb)) : Mg 0 a b out ta tb := by
  obtain ⟨o, u, v, e1, e2, e3, hm⟩ := joinF_mg _ _ _ _ _ _ rfl h
  simp only [List.nil_append, List.length_nil] at *
  subst e1 e2 e3; exact hm
theorem Mg.symm {n : Nat} {p q o : List Rec} {u v : List Nat} (h : Mg n p q o u v) : Mg n q p o v u := by
  induction h with
  | nil => exact .nil
  | left _ ih => exact .right ih
  | right _ ih => exact .left ih
theorem Mg.len {n : Nat} {p q o : List Rec} {u v : List Nat} (h : Mg n p q o u v) : u.length = p.length ∧ v.length = q.length ∧ o.length = p.length + q.length := by
  induction h with
  | nil => exact ⟨rfl, rfl, rfl⟩
  | left _ ih => simp only [List.length_cons]; omega
  | right _ ih => simp only [List.length_cons]; omega
theorem Mg.rng {n : Nat} {p q o : List Rec} {u v : List Nat} (h : Mg n p q o u v) : (∀ x ∈ u, n ≤ x ∧ x < n + o.length) ∧ u.Pairwise (· < ·) := by
  induction h with
  | nil => exact ⟨fun x h => (by cases h), List.Pairwise.nil⟩
  | @left n r p q o u v _ ih =>
    refine ⟨fun x hx => ?_, List.pairwise_cons.2 ⟨fun x hx => ?_, ih.2⟩⟩
    · rw [List.length_cons]
      rcases List.mem_cons.1 hx with rfl | hx
      · omega
      · have := ih.1 x hx; omega
    · have := ih.1 x hx; omega
  | @right n r p q o u v _ ih =>
    refine ⟨fun x hx => ?_, ih.2⟩
    rw [List.length_cons]
    have := ih.1 x hx; omega
theorem Mg.fwd {n : Nat} {p q o : List Rec} {u v : List Nat} (h : Mg n p q o u v) : ∀ (i : Nat) r, p[i]? = some r → ∃ k, u[i]? = some (n + k) ∧ o[k]? = some r := by
  induction h with
  | nil => intro i r h; simp at h
  | @left n r0 p q o u v _ ih =>
    intro i r hi
    cases i with
    | zero => simp at hi; subst hi; exact ⟨0, by simp, by simp⟩
    | succ i =>
      obtain ⟨k, k1, k2⟩ := ih i r (by simpa using hi)
      exact ⟨k + 1, by simp [k1]; omega, by simpa using k2⟩
  | @right n r0 p q o u v _ ih =>
    intro i r hi
    obtain ⟨k, k1, k2⟩ := ih i r hi
    exact ⟨k + 1, by rw [k1]; congr 1; omega, by simpa using k2⟩
theorem Mg.back {n : Nat} {p q o : List Rec} {u v : List Nat} (h : Mg n p q o u v) : ∀ r ∈ o, r ∈ p ∨ r ∈ q := by
  induction h with
  | nil => intro r h; cases h
  | left _ ih =>
    intro r hr
    rcases List.mem_cons.1 hr with rfl | hr
    · exact .inl (List.mem_cons_self)
    · exact (ih r hr).imp (List.mem_cons_of_mem _) id
  | right _ ih =>
    intro r hr
    rcases List.mem_cons.1 hr with rfl | hr
    · exact .inr (List.mem_cons_self)
    · exact (ih r hr).imp id (List.mem_cons_of_mem _)
/-- A record of each log: two places. -/
theorem Mg.two {n : Nat} {p q o : List Rec} {u v : List Nat} (h : Mg n p q o u v) : ∀ (i j k : Nat), u[i]? = some k → v[j]? = some k → False := by
  induction h with
  | nil => intro i j k h; simp at h
  | @left n r0 p q o u v hm ih =>
    intro i j k hi hj
    cases i with
    | zero =>
      simp at hi; subst hi
      have := hm.symm.rng.1 n (List.mem_of_getElem? hj); omega
    | succ i => exact ih i j k (by simpa using hi) hj
  | @right n r0 p q o u v hm ih =>
    intro i j k hi hj
    cases j with
    | zero =>
      simp at hj; subst hj
      have := hm.rng.1 n (List.mem_of_getElem? hi); omega
    | succ j => exact ih i j k hi (by simpa using hj)
theorem join_len {a b out : List Rec} {ta tb : List Nat} (hJ : joinL a b = some (out, ta, tb)) : ta.length = a.length ∧ tb.length = b.length ∧ out.length = a.length + b.length := (joinL_mg hJ).len
theorem Mg.app {p q o : List Rec} {u v : List Nat} (h : Mg 0 p q o u v) {i : Nat} (hi : i < p.length) : (u ++ [o.length]).getD i 0 = u.getD i 0 ∧ u.getD i 0 < (u ++ [o.length]).getD (i + 1) 0 := by
  have hl := h.len.1
  obtain ⟨h1, h2⟩ := h.rng
  obtain ⟨x, hx⟩ : ∃ x, u[i]? = some x := ⟨_, List.getElem?_eq_getElem (by omega)⟩
  have hxr := h1 x (List.mem_of_getElem? hx)
  simp only [List.getD_eq_getElem?_getD]
  rw [List.getElem?_append_left (by omega), hx]
  refine ⟨rfl, ?_⟩
  by_cases e : i + 1 < u.length
  · obtain ⟨y, hy⟩ : ∃ y, u[i + 1]? = some y := ⟨_, List.getElem?_eq_getElem e⟩
    rw [List.getElem?_append_left e, hy]
    exact pw_get h2 hx hy (by omega)
  · rw [List.getElem?_append_right (by omega), show i + 1 - u.length = 0 by omega]
    simp; omega
theorem Mg.le {p q o : List Rec} {u v : List Nat} (h : Mg 0 p q o u v) (i : Nat) : (u ++ [o.length]).getD i 0 ≤ o.length := by
  have h1 := h.rng.1
  rw [List.getD_eq_getElem?_getD]
  cases hx : (u ++ [o.length])[i]? with
  | none => simp
  | some x =>
    rcases List.mem_append.1 (List.mem_of_getElem? hx) with h | h
    · have := h1 x h; simp; omega
    · simp at h; subst h; simp
/-! ### tables of producers, one out of two -/
theorem mem_findP {l : List Prd} (h : l.Pairwise fun x y => x.id < y.id) {x : Prd} : x ∈ l ↔ findP l x.id = some x := by
  constructor
  · intro hx; exact find_rise (fun y : Prd => y.id) h hx
  · intro hx; exact List.mem_of_find?_eq_some hx
theorem ext_findP {l l' : List Prd} (h : l.Pairwise fun x y => x.id < y.id) (h' : l'.Pairwise fun x y => x.id < y.id) (he : ∀ i, findP l i = findP l' i) : l = l' :=
  rise_ext (fun x => x.id) h h' fun x => by rw [mem_findP h, mem_findP h', he]
theorem findP_putP {l : List Prd} (h : l.Pairwise fun x y => x.id < y.id) (x : Prd) (i : Nat) : findP (putP l x) i = if i = x.id then some x else findP l i := by
  have hu := up_putP (x := x) h
  split
  · rename_i e; subst e
    exact (mem_findP hu).1 (mem_putP.2 (.inl rfl))
  · rename_i e
    cases hy : findP l i with
    | some y =>
      have hi : y.id = i := by have := List.find?_some hy; simpa using this
      subst hi
      exact (mem_findP hu).1 (mem_putP.2 (.inr ⟨(mem_findP h).2 hy, e⟩))
    | none =>
      unfold findP at hy ⊢
      rw [List.find?_eq_none] at hy ⊢
      intro y hm
      rcases mem_putP.1 hm with rfl | ⟨hm, _⟩
      · simpa using fun hc => e hc.symm
      · exact hy y hm
theorem findP_id {l : List Prd} {i : Nat} {x : Prd} (h : findP l i = some x) : x.id = i := by have := List.find?_some h; simpa using this
def pk2 (x y : Option Prd) : Option Prd := match x, y with
  | none, y => y
  | x, none => x
  | some x, some y => if later y x then some y else some x
theorem bothStep_up2 {l : List Prd} {x : Prd} (h : l.Pairwise fun x y => x.id < y.id) : (bothStep l x).Pairwise fun x y => x.id < y.id := by
  unfold bothStep; split
  · exact up_putP h
  · exact h
theorem bothStep_find {l : List Prd} {x : Prd} (h : l.Pairwise fun x y => x.id < y.id) (i : Nat) : findP (bothStep l x) i = if i = x.id then pk2 (findP l i) (some x) else findP l i := by
  unfold bothStep
  by_cases e : i = x.id
  · subst e
    rw [if_pos rfl]
    cases hf : findP l x.id with
    | none => rw [if_pos (by simp), findP_putP h, if_pos rfl]; rfl
    | some y =>
      by_cases hl : later x y = true
      · rw [if_pos (by simpa using hl), findP_putP h, if_pos rfl]; simp [pk2, hl]
      · rw [if_neg (by simpa using hl), hf]; simp [pk2, hl]
  · rw [if_neg e]
    split
    · rw [findP_putP h, if_neg e]
    · rfl
theorem findP_cons {x : Prd} {l : List Prd} {i : Nat} : findP (x :: l) i = if x.id = i then some x else findP l i := by
  unfold findP; rw [List.find?_cons]
  by_cases e : x.id = i
  · simp [e]
  · have : (x.id == i) = false := by simpa using e
    rw [this, if_neg e]
theorem pk2_none (x : Option Prd) : pk2 x none = x := by cases x <;> rfl
theorem bothP_find : ∀ {b a : List Prd}, (a.Pairwise fun x y => x.id < y.id) → (b.Pairwise fun x y => x.id < y.id) → (bothP a b).Pairwise (fun x y => x.id < y.id) ∧ ∀ i, findP (bothP a b) i = pk2 (findP a i) (findP b i)
  | [], a, ha, _ => ⟨ha, fun i => by rw [show findP [] i = none from rfl, pk2_none]; rfl⟩
  | x :: b, a, ha, hb => by
    rw [List.pairwise_cons] at hb
    obtain ⟨h1, h2⟩ := bothP_find (a := bothStep a x) (b := b) (bothStep_up2 ha) hb.2
    refine ⟨h1, fun i => ?_⟩
    show findP (bothP (bothStep a x) b) i = _
    rw [h2, bothStep_find ha, findP_cons]
    by_cases e : i = x.id
    · subst e
      rw [if_pos rfl, if_pos rfl]
      have : findP b x.id = none := by
        unfold findP; rw [List.find?_eq_none]
        intro y hy; have := hb.1 y hy; simp; omega
      rw [this, pk2_none]
    · rw [if_neg e, if_neg (fun h => e h.symm)]
theorem moveP_id2 (to : List Nat) (x : Prd) : (moveP to x).id = x.id ∧ (moveP to x).seq = x.seq := by unfold moveP; split <;> exact ⟨rfl, rfl⟩
theorem up_move {l : List Prd} (to : List Nat) (h : l.Pairwise fun x y => x.id < y.id) : (l.map (moveP to)).Pairwise fun x y => x.id < y.id := by
  rw [List.pairwise_map]; simp only [moveP_id2]; exact h
theorem findP_map {l : List Prd} {f : Prd → Prd} (hf : ∀ x, (f x).id = x.id) (i : Nat) : findP (l.map f) i = (findP l i).map f := by
  induction l with
  | nil => rfl
  | cons x l ih => rw [List.map_cons, findP_cons, findP_cons, hf, ih]; split <;> rfl
theorem findP_prds {b : Bk} {i : Nat} : findP (prdsOf b) i = if 1 ≤ i ∧ i ≤ 9 ∧ 0 < b.last i then some (prdOf b i) else none := by
  by_cases h : 1 ≤ i ∧ i ≤ 9
  · rw [findP_of h.1 h.2]; simp [h]
  · rw [if_neg (fun hc => h ⟨hc.1, hc.2.1⟩)]
    unfold findP; rw [List.find?_eq_none]
    intro x hx
    obtain ⟨j, j1, j2, _, rfl⟩ := mem_prdsOf.1 hx
    rw [prdOf_id]; simp; intro e; subst e; exact h ⟨j1, j2⟩
/-! ### the plain law, four: two books in one -/
theorem Mg.find {p q o : List Rec} {u v : List Nat} (h : Mg 0 p q o u v) (hR : Rises o) {i n k : Nat} {x : Rec} (hk : p[k]? = some x) (hp : x.prod = i) (hn : x.seq = n) : o.any (isRec i n) = true ∧ o.findIdx (isRec i n) = u.getD k 0 := by
  obtain ⟨m, m1, m2⟩ := h.fwd k x hk
  rw [Nat.zero_add] at m1
  have hq : isRec i n x = true := isRec_iff.2 ⟨hp, hn⟩
  refine ⟨List.any_eq_true.2 ⟨x, List.mem_of_getElem? m2, hq⟩, ?_⟩
  rw [List.getD_eq_getElem?_getD, m1]
  refine findIdx_eq m2 hq fun j y hy hj => ?_
  rw [Bool.eq_false_iff]
  intro hr
  obtain ⟨r1, r2⟩ := isRec_iff.1 hr
  have := hR m j x y m2 hy hj (by omega)
  omega
theorem move_prd {a : Bk} {q o : List Rec} {u v : List Nat} (hM : Mg 0 a.l q o u v) (i : Nat) : moveP (u ++ [o.length]) (prdOf a i) = if a.l.any (isRec i (a.last i)) = true then ⟨i, a.last i, true, u.getD (a.l.findIdx (isRec i (a.last i))) 0⟩ else ⟨i, a.last i, false, 0⟩ := by
  unfold prdOf
  split
  · rename_i ha
    obtain ⟨k, x, hk, hf, -, -⟩ := any_at ha
    have hkl := (List.getElem?_eq_some_iff.1 hk).1
    obtain ⟨e1, e2⟩ := hM.app hkl
    rw [hf]
    unfold moveP
    simp only [e1, decide_eq_true e2, Bool.and_self, if_true]
  · unfold moveP; rfl
theorem not_above {a : Bk} (ha : BkOk a) {i n : Nat} (h : a.last i < n) : ¬ a.l.any (isRec i n) = true := by rw [not_any_above ha h]; simp
section
variable {a b : Bk} {out : List Rec} {ta tb : List Nat}
theorem tog_prdA (hM : Mg 0 a.l b.l out ta tb) (hR : Rises out) {i : Nat} (h : a.l.any (isRec i (max (a.last i) (b.last i))) = true) : prdOf (togB a b out ta tb) i = ⟨i, max (a.last i) (b.last i), true, ta.getD (a.l.findIdx (isRec i (max (a.last i) (b.last i)))) 0⟩ := by
  obtain ⟨k, x, hk, hf, h1, h2⟩ := any_at h
  obtain ⟨e1, e2⟩ := hM.find hR hk h1 h2
  unfold prdOf
  show (if (renum out).any (isRec i (max (a.last i) (b.last i))) = true then (⟨i, max (a.last i) (b.last i), true, (renum out).findIdx (isRec i (max (a.last i) (b.last i)))⟩ : Prd) else _) = _
  rw [renum_any, renum_find, if_pos e1, e2, hf]
theorem tog_prdB (hM : Mg 0 a.l b.l out ta tb) (hR : Rises out) {i : Nat} (h : b.l.any (isRec i (max (a.last i) (b.last i))) = true) : prdOf (togB a b out ta tb) i = ⟨i, max (a.last i) (b.last i), true, tb.getD (b.l.findIdx (isRec i (max (a.last i) (b.last i)))) 0⟩ := by
  obtain ⟨k, x, hk, hf, h1, h2⟩ := any_at h
  obtain ⟨e1, e2⟩ := hM.symm.find hR hk h1 h2
  unfold prdOf
  show (if (renum out).any (isRec i (max (a.last i) (b.last i))) = true then (⟨i, max (a.last i) (b.last i), true, (renum out).findIdx (isRec i (max (a.last i) (b.last i)))⟩ : Prd) else _) = _
  rw [renum_any, renum_find, if_pos e1, e2, hf]
theorem tog_prdN (hM : Mg 0 a.l b.l out ta tb) {i : Nat} (h : ¬ a.l.any (isRec i (max (a.last i) (b.last i))) = true) (h' : ¬ b.l.any (isRec i (max (a.last i) (b.last i))) = true) : prdOf (togB a b out ta tb) i = ⟨i, max (a.last i) (b.last i), false, 0⟩ := by
  have hno : ¬ out.any (isRec i (max (a.last i) (b.last i))) = true := fun hc => by
    obtain ⟨x, hx, hq⟩ := List.any_eq_true.1 hc
    rcases hM.back x hx with hx | hx
    · exact h (List.any_eq_true.2 ⟨x, hx, hq⟩)
    · exact h' (List.any_eq_true.2 ⟨x, hx, hq⟩)
  unfold prdOf
  show (if (renum out).any (isRec i (max (a.last i) (b.last i))) = true then (⟨i, max (a.last i) (b.last i), true, (renum out).findIdx (isRec i (max (a.last i) (b.last i)))⟩ : Prd) else ⟨i, max (a.last i) (b.last i), false, 0⟩) = _
  rw [renum_any, if_neg hno]
theorem tog_hi (ha : BkOk a) (hM : Mg 0 a.l b.l out ta tb) (hR : Rises out) {i : Nat} (hlt : a.last i < b.last i) : moveP (tb ++ [out.length]) (prdOf b i) = prdOf (togB a b out ta tb) i := by
  have hm : max (a.last i) (b.last i) = b.last i := by omega
  rw [move_prd hM.symm]
  split
  · rename_i hb
    rw [tog_prdB hM hR (by rw [hm]; exact hb), hm]
  · rename_i hb
    rw [tog_prdN hM (by rw [hm]; exact not_above ha hlt) (by rw [hm]; exact hb), hm]
theorem tog_lo (hb : BkOk b) (hM : Mg 0 a.l b.l out ta tb) (hR : Rises out) {i : Nat} (hlt : b.last i < a.last i) : moveP (ta ++ [out.length]) (prdOf a i) = prdOf (togB a b out ta tb) i := by
  have hm : max (a.last i) (b.last i) = a.last i := by omega
  rw [move_prd hM]
  split
  · rename_i ha
    rw [tog_prdA hM hR (by rw [hm]; exact ha), hm]
  · rename_i ha
    rw [tog_prdN hM (by rw [hm]; exact ha) (by rw [hm]; exact not_above hb hlt), hm]
theorem tog_eq (hM : Mg 0 a.l b.l out ta tb) (hR : Rises out) {i : Nat} (he : a.last i = b.last i) : pk2 (some (moveP (ta ++ [out.length]) (prdOf a i))) (some (moveP (tb ++ [out.length]) (prdOf b i))) = some (prdOf (togB a b out ta tb) i) := by
  have hm : max (a.last i) (b.last i) = a.last i := by omega
  have hm' : max (a.last i) (b.last i) = b.last i := by omega
  rw [move_prd hM, move_prd hM.symm]
  by_cases h1 : a.l.any (isRec i (a.last i)) = true
  · rw [if_pos h1, tog_prdA hM hR (by rw [hm]; exact h1), hm]
    by_cases h2 : b.l.any (isRec i (b.last i)) = true
    · rw [if_pos h2]; simp [pk2, later, he]
    · rw [if_neg h2]; simp [pk2, later, he]
  · rw [if_neg h1]
    by_cases h2 : b.l.any (isRec i (b.last i)) = true
    · rw [if_pos h2, tog_prdB hM hR (by rw [hm']; exact h2), hm']; simp [pk2, later, he]
    · rw [if_neg h2, tog_prdN hM (by rw [hm]; exact h1) (by rw [hm']; exact h2), hm]; simp [pk2, later, he]
theorem mP (to : List Nat) (b : Bk) : ((prdsOf b).map (moveP to)).Pairwise (fun x y => x.id < y.id) ∧ ∀ i, findP ((prdsOf b).map (moveP to)) i = if 1 ≤ i ∧ i ≤ 9 ∧ 0 < b.last i then some (moveP to (prdOf b i)) else none :=
  ⟨up_move to (up_prdsOf b), fun i => by rw [findP_map (fun x => (moveP_id2 to x).1), findP_prds]; split <;> rfl⟩
theorem tog_prds (ha : BkOk a) (hb : BkOk b) (hM : Mg 0 a.l b.l out ta tb) (hR : Rises out) : bothP ((prdsOf a).map (moveP (ta ++ [out.length]))) ((prdsOf b).map (moveP (tb ++ [out.length]))) = prdsOf (togB a b out ta tb) := by
  obtain ⟨a1, a2⟩ := mP (ta ++ [out.length]) a
  obtain ⟨b1, b2⟩ := mP (tb ++ [out.length]) b
  obtain ⟨h1, h2⟩ := bothP_find a1 b1
  refine ext_findP h1 (up_prdsOf _) fun i => ?_
  rw [h2, a2, b2, findP_prds]
  show _ = if 1 ≤ i ∧ i ≤ 9 ∧ 0 < max (a.last i) (b.last i) then _ else _
  by_cases hi : 1 ≤ i ∧ i ≤ 9
  case neg => rw [if_neg (fun h => hi ⟨h.1, h.2.1⟩), if_neg (fun h => hi ⟨h.1, h.2.1⟩), if_neg (fun h => hi ⟨h.1, h.2.1⟩)]; rfl
  rcases Nat.lt_trichotomy (a.last i) (b.last i) with c | c | c
  · rw [if_pos (show 1 ≤ i ∧ i ≤ 9 ∧ 0 < b.last i by omega), if_pos (show 1 ≤ i ∧ i ≤ 9 ∧ 0 < max (a.last i) (b.last i) by omega), tog_hi ha hM hR c]
    split
    · have : later (prdOf (togB a b out ta tb) i) (moveP (ta ++ [out.length]) (prdOf a i)) = true := by
        unfold later
        rw [(moveP_id2 _ _).2, prdOf_seq, prdOf_seq]
        show (decide (a.last i < max (a.last i) (b.last i)) || _) = true
        rw [decide_eq_true (by omega)]; rfl
      simp [pk2, this]
    · rfl
  · by_cases h0 : 0 < a.last i
    · rw [if_pos (show 1 ≤ i ∧ i ≤ 9 ∧ 0 < a.last i by omega), if_pos (show 1 ≤ i ∧ i ≤ 9 ∧ 0 < b.last i by omega), if_pos (show 1 ≤ i ∧ i ≤ 9 ∧ 0 < max (a.last i) (b.last i) by omega)]
      exact tog_eq hM hR c
    · rw [if_neg (by omega), if_neg (by omega), if_neg (by omega)]; rfl
  · rw [if_pos (show 1 ≤ i ∧ i ≤ 9 ∧ 0 < a.last i by omega), if_pos (show 1 ≤ i ∧ i ≤ 9 ∧ 0 < max (a.last i) (b.last i) by omega), tog_lo hb hM hR c]
    split
    · have : later (moveP (tb ++ [out.length]) (prdOf b i)) (prdOf (togB a b out ta tb) i) = false := by
        unfold later
        rw [(moveP_id2 _ _).2, prdOf_seq, prdOf_seq]
        show (decide (max (a.last i) (b.last i) < b.last i) || (decide (b.last i = max (a.last i) (b.last i)) && _ && _)) = false
        rw [decide_eq_false (by omega), decide_eq_false (by omega)]; rfl
      simp [pk2, this]
    · rfl
theorem fold_put (A B : Nat → Bool) (at1 at2 f : Nat → Nat) : (([0, 1].filter A).map (fun k => (⟨k, at1 k⟩ : Cns)) ++ ([0, 1].filter B).map (fun k => (⟨k, at2 k⟩ : Cns))).foldl (fun out x => putC out ⟨x.name, f x.name⟩) [] = ([0, 1].filter fun k => A k || B k).map fun k => ⟨k, f k⟩ := by
  cases a0 : A 0 <;> cases a1 : A 1 <;> cases b0 : B 0 <;> cases b1 : B 1 <;> simp [a0, a1, b0, b1, putC, bpos, bfound, cmpN, List.findIdx_cons]
theorem tog_cns (ha : BkOk a) (hb : BkOk b) (hM : Mg 0 a.l b.l out ta tb) : bothC (cnssOf a) (cnssOf b) (ta ++ [out.length]) (tb ++ [out.length]) = cnssOf (togB a b out ta tb) := by
  unfold bothC
  rw [show cnssOf a ++ cnssOf b = ([0, 1].filter a.there).map (fun k => (⟨k, a.at_ k⟩ : Cns)) ++ ([0, 1].filter b.there).map (fun k => (⟨k, b.at_ k⟩ : Cns)) from rfl]
  rw [fold_put a.there b.there a.at_ b.at_ (fun n => min (ofN (ta ++ [out.length]) (readC (cnssOf a) n).1) (ofN (tb ++ [out.length]) (readC (cnssOf b) n).1))]
  unfold cnssOf
  refine List.map_congr_left fun k hk => ?_
  obtain ⟨k1, k2⟩ := List.mem_filter.1 hk
  have hk2 : k < 2 := by simp at k1; omega
  show (⟨k, _⟩ : Cns) = ⟨k, if (a.there k || b.there k) = true then _ else 0⟩
  rw [if_pos k2]
  congr 1
  have e1 := readC_of ha.gone hk2
  have e2 := readC_of hb.gone hk2
  unfold cnssOf at e1 e2
  rw [e1, e2]
  have l := hM.len
  have a1 := ha.at_ k
  have a2 := hb.at_ k
  unfold ofN
  rw [List.length_append, List.length_append, List.length_singleton, Nat.add_sub_cancel, Nat.add_sub_cancel]
  dsimp only
  rw [Nat.min_eq_left (a := a.at_ k) (by omega), Nat.min_eq_left (a := b.at_ k) (by omega)]
end
theorem merge_law {a b : Bk} {out : List Rec} {ta tb : List Nat} (ha : BkOk a) (hb : BkOk b) (hJ : joinL a.l b.l = some (out, ta, tb)) (hR : Rises out) : mergeS (shOf a) (shOf b) out ta tb = shOf (togB a b out ta tb) := by
  have hM := joinL_mg hJ
  have h1 := tog_prds ha hb hM hR
  have h2 := tog_cns ha hb hM
  unfold mergeS shOf
  simp only
  rw [h1, h2]; rfl
theorem out_key {a b : Bk} {out : List Rec} {ta tb : List Nat} (ha : BkOk a) (hb : BkOk b) (hadj : a.hi = b.lo) (hM : Mg 0 a.l b.l out ta tb) {r : Rec} (hr : r ∈ renum out) : r.key < 6 ∧ inR a.lo b.hi r = true := by
  obtain ⟨x, hx, e, _, _, _⟩ := renum_mem hr
  have := ha.lh; have := hb.lh
  unfold inR
  rw [e]
  rcases hM.back x hx with hx | hx
  · have h := ha.key x hx
    refine ⟨h.1, ?_⟩
    have h2 := h.2; unfold inR at h2
    have := of_decide_eq_true h2
    exact decide_eq_true (by omega)
  · have h := hb.key x hx
    refine ⟨h.1, ?_⟩
    have h2 := h.2; unfold inR at h2
    have := of_decide_eq_true h2
    exact decide_eq_true (by omega)
theorem togB_ok {a b : Bk} {out : List Rec} {ta tb : List Nat} (ha : BkOk a) (hb : BkOk b) (hadj : a.hi = b.lo) (hJ : joinL a.l b.l = some (out, ta, tb)) (hR : Rises out) : BkOk (togB a b out ta tb) := by
  have hM := joinL_mg hJ
  refine ⟨ha.lo, ?_, hb.hi, ?_, renum_num, fun r hr => out_key ha hb hadj hM hr, fun r hr => ?_, fun r hr => ?_, fun r hr => ?_, ?_, fun k => ?_, fun k hk => ?_, fun i => ?_⟩
  · have := ha.lh; have := hb.lh; show a.lo < b.hi; omega
  · show 1 ≤ max a.epoch b.epoch + 1; omega
  · obtain ⟨x, hx, _, e, _, _⟩ := renum_mem hr
    rw [e]
    rcases hM.back x hx with hx | hx
    · exact ha.val x hx
    · exact hb.val x hx
  · obtain ⟨x, hx, _, _, e, _⟩ := renum_mem hr
    rw [e]
    rcases hM.back x hx with hx | hx
    · exact ha.prod x hx
    · exact hb.prod x hx
  · obtain ⟨x, hx, _, _, e, e'⟩ := renum_mem hr
    show 1 ≤ r.seq ∧ r.seq ≤ max (a.last r.prod) (b.last r.prod)
    rw [e, e']
    rcases hM.back x hx with hx | hx
    · have := ha.seq x hx; omega
    · have := hb.seq x hx; omega
  · exact up_renum fun i j x y hx hy hij he => hR j i y x hy hx hij he
  · show (if (a.there k || b.there k) = true then min ((ta ++ [out.length]).getD (a.at_ k) 0) ((tb ++ [out.length]).getD (b.at_ k) 0) else 0) ≤ (renum out).length
    rw [renum_len]
    split
    · have := hM.le (a.at_ k); omega
    · omega
  · have hk : (a.there k || b.there k) = false := hk
    show (if (a.there k || b.there k) = true then _ else 0) = 0
    rw [hk]; rfl
  · show max (a.last i) (b.last i) ≤ 1000
    have := ha.last i; have := hb.last i; omega
/-! ### records that do not rise -/
theorem rises_of {l : List Rec} (h : risesB l = true) : Rises l := by
  have hall : ∀ i, i < l.length → rOk l i = true := fun i hi => by
    unfold risesB at h; rw [List.all_eq_true] at h; exact h i (List.mem_range.2 hi)
  have look : ∀ (m k : Nat) r', m ≤ l.length → l[k]? = some r' → k < m → ∃ (j : Nat) (x : Rec), l[j]? = some x ∧ k ≤ j ∧ j < m ∧ x.prod = r'.prod ∧ (tabR (l.take m)).lookup r'.prod = some x.seq := by
    intro m
    induction m with
    | zero => intro k r' _ _ h; omega
    | succ m ih =>
      intro k r' hm hk hkm
      obtain ⟨y, hy⟩ : ∃ y, l[m]? = some y := ⟨_, List.getElem?_eq_getElem (by omega)⟩
      rw [List.take_add_one, hy, Option.toList_some, tabR_snoc, lookup_setN]
      by_cases e : r'.prod = y.prod
      · rw [if_pos e]; exact ⟨m, y, hy, by omega, by omega, e.symm, rfl⟩
      · rw [if_neg e]
        have hkm' : k ≠ m := fun hc => by subst hc; rw [hy] at hk; cases hk; exact e rfl
        obtain ⟨j, x, h1, h2, h3, h4, h5⟩ := ih k r' (by omega) hk (by omega)
        exact ⟨j, x, h1, h2, by omega, h4, h5⟩
  intro i
  induction i using Nat.strongRecOn with
  | ind i ih =>
    intro k r r' hi hk hki he
    have hil := (List.getElem?_eq_some_iff.1 hi).1
    obtain ⟨j, x, h1, h2, h3, h4, h5⟩ := look i k r' (by omega) hk hki
    have h6 := hall i hil
    unfold rOk at h6
    rw [hi] at h6
    simp only [← he, h5, Option.getD_some] at h6
    have h6 := of_decide_eq_true h6
    by_cases e : k = j
    · subst e; rw [hk] at h1; cases h1; exact h6
    · have := ih j h3 k x r' h1 hk (by omega) h4.symm
      omega
theorem pk2_or {x y : Option Prd} {z : Prd} (h : pk2 x y = some z) : x = some z ∨ y = some z := by
  cases x with
  | none => exact .inr h
  | some x =>
    cases y with
    | none => exact .inl h
    | some y => simp only [pk2] at h; split at h <;> simp_all
theorem pk2_ge {x y : Option Prd} {w : Prd} (h : x = some w ∨ y = some w) : ∃ z, pk2 x y = some z ∧ w.seq ≤ z.seq := by
  cases x with
  | none => rcases h with h | h; cases h; exact ⟨w, h, Nat.le_refl _⟩
  | some x =>
    cases y with
    | none => rcases h with h | h; exact ⟨w, h, Nat.le_refl _⟩; cases h
    | some y =>
      simp only [pk2]
      by_cases hl : later y x = true
      · rw [if_pos hl]
        refine ⟨y, rfl, ?_⟩
        unfold later at hl
        rcases h with h | h <;> cases h
        · simp at hl; omega
        · exact Nat.le_refl _
      · rw [if_neg hl]
        refine ⟨x, rfl, ?_⟩
        unfold later at hl
        rcases h with h | h <;> cases h
        · exact Nat.le_refl _
        · simp at hl; omega
theorem bothP_len : ∀ {b a : List Prd}, (bothP a b).length ≤ a.length + b.length
  | [], a => by show a.length ≤ _; omega
  | x :: b, a => by
    have h := bothP_len (b := b) (a := bothStep a x)
    have h2 : (bothStep a x).length ≤ a.length + 1 := by
      unfold bothStep; split
      · rw [putP_length]; have := List.length_filter_le (fun y : Prd => !(y.id == x.id)) a; omega
      · omega
    show (bothP (bothStep a x) b).length ≤ _
    rw [List.length_cons]; omega
theorem merge_no {a b : Bk} {out : List Rec} {ta tb : List Nat} (ha : BkOk a) (hb : BkOk b) (hadj : a.hi = b.lo) (hl : a.l.length + b.l.length ≤ 200) (hJ : joinL a.l b.l = some (out, ta, tb)) (hR : ¬ Rises out) : ∀ (S : Stone) v, PartR S v (mergeS (shOf a) (shOf b) out ta tb) → Con Tryz.prog 36 #[v] [] S (Ret (.int .i64 165) S) := by
  intro S v hv
  have hM := joinL_mg hJ
  obtain ⟨a1, a2⟩ := mP (ta ++ [out.length]) a
  obtain ⟨b1, b2⟩ := mP (tb ++ [out.length]) b
  obtain ⟨h1, h2⟩ := bothP_find a1 b1
  have hmem : ∀ x, x ∈ bothP ((prdsOf a).map (moveP (ta ++ [out.length]))) ((prdsOf b).map (moveP (tb ++ [out.length]))) → x ∈ (prdsOf a).map (moveP (ta ++ [out.length])) ∨ x ∈ (prdsOf b).map (moveP (tb ++ [out.length])) := fun x hx => by
    have := (mem_findP h1).1 hx
    rw [h2] at this
    exact (pk2_or this).imp (mem_findP a1).2 (mem_findP b1).2
  have hone : ∀ (bk : Bk) (to : List Nat) x, BkOk bk → x ∈ (prdsOf bk).map (moveP to) → 1 ≤ x.id ∧ (1 ≤ x.seq ∧ x.seq ≤ 9223372036854775807) ∧ (x.here = false → x.off = 0) := fun bk to x hbk hx => by
    obtain ⟨y, hy, rfl⟩ := List.mem_map.1 hx
    obtain ⟨i, i1, i2, i3, rfl⟩ := mem_prdsOf.1 hy
    have := hbk.last i
    rw [(moveP_id2 _ _).1, (moveP_id2 _ _).2, prdOf_id, prdOf_seq]
    refine ⟨i1, by omega, ?_⟩
    unfold moveP; split
    · intro h; cases h
    · intro _; rfl
  have hlh1 := ha.lh
  have hlh2 := hb.lh
  have hlen := hM.len
  refine Con.back (check_no hv ha.lo (show a.lo < b.hi by omega) hb.hi (show 1 ≤ max a.epoch b.epoch + 1 by omega) renum_num (show (renum out).length ≤ 200 by rw [renum_len]; omega) ?_ ?_ ?_ ?_ ?_ ?_)
  · show (bothP _ _).length ≤ 200
    have l1 := len_prdsOf a
    have l2 := len_prdsOf b
    refine Nat.le_trans bothP_len ?_
    rw [List.length_map, List.length_map]
    show (prdsOf a).length + (prdsOf b).length ≤ 200
    omega
  · show (bothC (cnssOf a) (cnssOf b) _ _).length ≤ 60
    rw [tog_cns ha hb hM]
    have := len_cnssOf (togB a b out ta tb); omega
  · refine ⟨fun x hx => ?_, fun x hx => ?_, fun x hx => ?_, h1⟩
    · rcases hmem x hx with h | h
      · exact (hone a _ x ha h).1
      · exact (hone b _ x hb h).1
    · rcases hmem x hx with h | h
      · exact (hone a _ x ha h).2.1
      · exact (hone b _ x hb h).2.1
    · rcases hmem x hx with h | h
      · exact (hone a _ x ha h).2.2
      · exact (hone b _ x hb h).2.2
  · show CnsOk (bothC (cnssOf a) (cnssOf b) _ _)
    rw [tog_cns ha hb hM]
    exact cnsOk_of _
  · refine ⟨fun r hr => out_key ha hb hadj hM hr, fun r hr => ?_, fun r hr => ?_⟩
    · obtain ⟨x, hx, _, _, e, e'⟩ := renum_mem hr
      have hp : 1 ≤ x.prod ∧ x.prod ≤ 9 := by rcases hM.back x hx with h | h; exact ha.prod x h; exact hb.prod x h
      have hw : ∃ w, (findP ((prdsOf a).map (moveP (ta ++ [out.length]))) x.prod = some w ∨ findP ((prdsOf b).map (moveP (tb ++ [out.length]))) x.prod = some w) ∧ x.seq ≤ w.seq := by
        rcases hM.back x hx with h | h
        · have hs := ha.seq x h
          refine ⟨_, .inl (by rw [a2, if_pos ⟨hp.1, hp.2, by omega⟩]), ?_⟩
          rw [(moveP_id2 _ _).2, prdOf_seq]; exact hs.2
        · have hs := hb.seq x h
          refine ⟨_, .inr (by rw [b2, if_pos ⟨hp.1, hp.2, by omega⟩]), ?_⟩
          rw [(moveP_id2 _ _).2, prdOf_seq]; exact hs.2
      obtain ⟨w, hw1, hw2⟩ := hw
      obtain ⟨z, hz1, hz2⟩ := pk2_ge hw1
      rw [← h2] at hz1
      have hid := findP_id hz1
      exact ⟨z, (mem_findP h1).2 (by rw [hid]; exact hz1), by omega, by omega⟩
    · obtain ⟨x, hx, _, _, e, e'⟩ := renum_mem hr
      rw [e']
      rcases hM.back x hx with h | h
      · exact (ha.seq x h).1
      · exact (hb.seq x h).1
  · cases hb' : risesB (renum out) with
    | false => exact hb'
    | true =>
      exfalso
      refine hR fun i k r r' hi hk hki he => ?_
      have := rises_of hb' i k { r with off := i } { r' with off := k } (by rw [renum_get, hi]; rfl) (by rw [renum_get, hk]; rfl) hki he
      exact this
end Go.Proofs.YtkdmbimkanjbhaaGreatDoor.Eng

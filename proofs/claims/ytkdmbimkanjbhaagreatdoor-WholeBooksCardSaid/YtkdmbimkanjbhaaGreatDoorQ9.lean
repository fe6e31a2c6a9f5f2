/-
  Part 9 of the proof of WholeBooks: W38, W39, W40, StEq, W41, W42.
-/
import Derived.Test.YtkdmbimkanjbhaaGreatDoorQ8
import Derived.Laws.StructEq
namespace Go.Proofs.YtkdmbimkanjbhaaGreatDoor.Eng
open Go Go.Proofs
set_option maxRecDepth 100000
attribute [local irreducible] Tr
theorem does1 {S : Stone} {v bv : Value} {b : Bk} {c : Cmd} (h : BookR S v b) (ho : BkOk b) (hl : b.l.length < 200) (hb : Byt S bv c.val) (hc : CmdOk c) (hp : c.prod < 10) (hoff : c.off ≤ 1000) (hk : c.kind = 1) :
 Con Tryz.prog 24 #[v, .agg (c.cells bv).toArray] [] S (RetR fun u S' => DoesR S' u (doesB b c)) := by
 have h' := h
 obtain ⟨rv, rfl, hr⟩ := h
 obtain ⟨A, a, rfl, ha1, ha2, -⟩ := hr.shape
 obtain ⟨pb, cb, rfl, -⟩ := id hb
 have hlo := ho.lo
 have hlh := ho.lh
 have hhi := ho.hi
 have hkey := hc.key
 have hnm := hc.name
 refine con_of 239 Tryz.func24 rfl rfl rfl (fun w0 => ?_)
 refine sr (bx rfl rfl (fun b2 => bx rfl rfl (fun b3 => al zc_40 (fun b4 => al zc_77 (fun b5 => nesr (yy (y_far fo_40_4 rfl) (ll (lb ld_26) ?_)))))))
 refine yy (y_ln sl_26 rfl) (yy (y_cvu cv_3_25 rfl om) (sa rfl (nesr (yy (y_far fo_57_0 rfl) (ll (lb ld_55) ?_)))))
 refine yy (y_eq rfl rfl) (mv rfl ?_)
 apply l_or 4 (gd := 19) (d := 23) rfl
 · intro hb19 K1 hK1
   refine qy hb19 (y_far fo_57_0 rfl) (gl hb19 (lb ld_55) ?_)
   exact qy hb19 (y_eq rfl rfl) (yy (y_pick_f' rfl hb19 rfl) (lk_end hK1))
 · intro hb19 K1 hK1
   exact qn hb19 (qn hb19 (qn hb19 (yy (y_pick_t' rfl hb19 rfl) (lk_end hK1))))
 refine sa rfl (nes (dR ([.blk b2 (.cells (b.cells (.slice A b.l.length a)).toArray 40 (0, 0)), .blk b3 (.cells (c.cells (.slice (some pb) 1 cb)).toArray 57 (0, 0))]) [3, 5, 9] (.take 0 (.take 1 (.take 2 (.take 3 (.take 4 (.take 5 (.take 6 (.take 7 (.take 8 (.take 9 (.take 10 (.take 11 (.take 12 .done))))))))))))) ?_))
 refine em rfl rfl (em rfl rfl (t_known (gd := 25) (v := true) rfl (by simp [hk]) (fun hb25 => ?_)))
 refine egy rfl hb25 (y_far fo_57_3 rfl) (dgl rfl hb25 (lb ld_25) ?_)
 refine egy rfl hb25 (y_far fo_57_2 rfl) (dgl rfl hb25 (lb ld_25) ?_)
 refine egy rfl hb25 (y_rem10 rfl hp) (egy rfl hb25 (y_far fo_40_5 rfl) (egy rfl hb25 (y_iaaN ar_36 rfl rfl ao) (dgl rfl hb25 (lb ld_25 (hc := book_last hp)) ?_)))
 refine egy rfl hb25 (y_le rfl rfl) (ey rfl (y_pick_t' rfl hb25 rfl) (ea rfl rfl (d_done (e_then (sr (yy (y_far fo_57_8 rfl) (ll (lb ld_9) ?_)))))))
 refine lw (t_callr' rfl (reader_ok hc.name |>.back) en_41 (sa rfl (nes (c_block (sr (yy (y_far fo_57_1 rfl) (ll (lb ld_25) ?_)))))))
 refine yy (y_far fo_40_2 rfl) (ll (lb ld_25) ?_)
 refine yy (y_ne rfl rfl) (sa rfl (nec rfl (fun g2 => ?_) (fun g2 => ?_)))
 · have he : c.epoch ≠ b.epoch := by simp at g2; omega
   have hq : doesB b c = (b, .bad 162) := by unfold doesB; rw [if_pos he]
   refine c_seq (dR ([.blk b2 (.cells (b.cells (.slice A b.l.length a)).toArray 40 (0, 0))]) [0] (.take 0 (.alt 1 (.alt 2 (.alt 3 .done .stop) .stop) .stop)) ?_)
   refine dl rfl (lbw ld_40) ?_
   refine da rfl (t_callr' rfl (refused_ok (e := 162)) en_42 ?_)
   refine dA (Stone.le.refl _) (da rfl (sw sz_40 ?_))
   refine dA (Stone.le.refl _) (da rfl (sw sz_77 ?_))
   exact dA (Stone.le.refl _) (d_done (e_then (c_ret (e_in_ret (e_then_ret (f_retR rfl (ResV.agg ld_40 rfl pk rfl (ResV.agg ld_77 rfl pk rfl rn)) (by rw [hq]; exact ⟨_, _, rfl, h', _, rfl, Sl.nil⟩)))))))
 · have he : ¬ c.epoch ≠ b.epoch := by simp at g2; omega
   refine sr (yy (y_far fo_57_0 rfl) (ll (lb ld_55) ?_))
   refine yy (y_eq rfl rfl) (mv rfl ?_)
   apply l_or 4 (gd := 51) (d := 55) rfl
   · intro hb51 K3 hK3
     refine qy hb51 (y_far fo_57_0 rfl) (gl hb51 (lb ld_55) ?_)
     exact qy hb51 (y_eq rfl rfl) (yy (y_pick_f' rfl hb51 rfl) (lk_end hK3))
   · intro hb51 K3 hK3
     exact qn hb51 (qn hb51 (qn hb51 (yy (y_pick_t' rfl hb51 rfl) (lk_end hK3))))
   refine sa rfl (nec rfl (fun g4 => ?_) (fun g4 => ?_))
   · simp [hk] at g4
   · refine c_seq ?_
     refine c_region (yy (y_far fo_57_0 rfl) (ll (lb ld_55) ?_))
     refine yy (y_eq rfl rfl) (sa rfl (nec rfl (fun g5 => ?_) (fun g5 => ?_)))
     · refine c_seq ?_
       refine c_region (ll (lbw ld_40) ?_)
       refine yy (y_far fo_57_2 rfl) (ll (lb ld_25) ?_)
       refine yy (y_far fo_57_3 rfl) (ll (lb ld_25) ?_)
       refine lw (t_callr' rfl (stands_ok hr om) en_17 (sa rfl (nes (c_block (sr (ll (lbw ld_40) ?_))))))
       refine yy (y_far fo_57_4 rfl) (ll (lb ld_9) ?_)
       refine lw (t_callr' rfl (within_ok hlo hlh hhi hkey) en_18 (yy (y_not rfl) (sa rfl (nec rfl (fun g6 => ?_) (fun g6 => ?_)))))
       · have hin : ¬ (b.lo ≤ c.key ∧ c.key < b.hi) := by simp at g6; omega
         have hq : doesB b c = (b, .bad 163) := by unfold doesB; rw [if_neg he, if_neg om, if_pos hk, if_pos hin]
         refine c_seq (dR ([.blk b2 (.cells (b.cells (.slice A b.l.length a)).toArray 40 (0, 0))]) [0] (.take 0 (.alt 1 (.alt 2 (.alt 3 .done .stop) .stop) .stop)) ?_)
         refine dl rfl (lbw ld_40) ?_
         refine da rfl (t_callr' rfl (refused_ok (e := 163)) en_42 ?_)
         refine dA (Stone.le.refl _) (da rfl (sw sz_40 ?_))
         refine dA (Stone.le.refl _) (da rfl (sw sz_77 ?_))
         exact dA (Stone.le.refl _) (d_done (e_then (c_ret (e_in_ret (e_then_ret (e_in_ret (e_then_ret (f_retR rfl (ResV.agg ld_40 rfl pk rfl (ResV.agg ld_77 rfl pk rfl rn)) (by rw [hq]; exact ⟨_, _, rfl, h', _, rfl, Sl.nil⟩)))))))))
       · have hin : b.lo ≤ c.key ∧ c.key < b.hi := by simp at g6; omega
         refine c_seq (c_cutv (d := 103) (v := .bool (decide (c.seq ≤ b.last c.prod ∧ b.l.any (isRec c.prod c.seq) = true ∧ c.seq = b.last c.prod))) (fun K7v hK7v => ?_) ?_)
         · -- the value
           refine dR ([.blk b2 (.cells (b.cells (.slice A b.l.length a)).toArray 40 (0, 0)), .blk b3 (.cells (c.cells (.slice (some pb) 1 cb)).toArray 57 (0, 0))]) [7, 9, 13] (.take 0 (.take 1 (.take 2 (.take 3 (.take 4 (.take 5 (.take 6 (.take 7 (.take 8 (.take 9 (.take 10 (.take 11 (.take 12 (.take 13 (.take 14 (.take 15 (.take 16 .done))))))))))))))))) ?_
           refine em rfl rfl (em rfl rfl (t_split (gd := 105) rfl (fun hb105 => ?_) (fun hb105 => ?_)))
           · -- hb105
             refine egy rfl hb105 (y_move rfl) (egy rfl hb105 (y_ge rfl rfl) (ey rfl (y_pick_t' rfl hb105 rfl) (em rfl rfl (t_split (gd := 109) rfl (fun hb109 => ?_) (fun hb109 => ?_)))))
             · -- hb109
               refine egy rfl hb109 (y_far fo_57_3 rfl) (dgl rfl hb109 (lb ld_25) ?_)
               refine egy rfl hb109 (y_far fo_57_2 rfl) (dgl rfl hb109 (lb ld_25) ?_)
               refine egy rfl hb109 (y_rem10 rfl hp) (egy rfl hb109 (y_far fo_40_5 rfl) (egy rfl hb109 (y_iaaN ar_36 rfl rfl ao) (dgl rfl hb109 (lb ld_25 (hc := book_last hp)) ?_)))
               exact egy rfl hb109 (y_eq rfl rfl) (ey rfl (y_pick_t' rfl hb109 rfl) (ea rfl rfl (d_done (lk_val hK7v rfl (congrArg Value.bool (by first | (exact absurd hb109 (by decide)) | (have h1 := hb105; simp at h1; symm; rw [decide_eq_false_iff_not]; exact fun e => by have := e.1; omega) | (have h1 := hb109; rw [decide_eq_false_iff_not, indexOf_ge] at h1; symm; rw [decide_eq_false_iff_not]; exact fun e => h1 e.2.1) | (have h1 := hb105; have h2 := hb109; rw [decide_eq_true_eq] at h1 h2; rw [indexOf_ge] at h2; rw [Bool.eq_iff_iff, beq_iff_eq, decide_eq_true_eq]; constructor <;> intro h3 <;> (try refine ⟨by omega, h2, ?_⟩) <;> omega)))))))
             · -- hb109
               exact zn rfl hb109 (zn rfl hb109 (zn rfl hb109 (zn rfl hb109 (zn rfl hb109 (zn rfl hb109 (zn rfl hb109 (zn rfl hb109 (zn rfl hb109 (ey rfl (y_pick_f' rfl hb109 rfl) (ea rfl rfl (d_done (lk_val hK7v rfl (congrArg Value.bool (by first | (exact absurd hb109 (by decide)) | (have h1 := hb105; simp at h1; symm; rw [decide_eq_false_iff_not]; exact fun e => by have := e.1; omega) | (have h1 := hb109; rw [decide_eq_false_iff_not, indexOf_ge] at h1; symm; rw [decide_eq_false_iff_not]; exact fun e => h1 e.2.1) | (have h1 := hb105; have h2 := hb109; rw [decide_eq_true_eq] at h1 h2; rw [indexOf_ge] at h2; rw [Bool.eq_iff_iff, beq_iff_eq, decide_eq_true_eq]; constructor <;> intro h3 <;> (try refine ⟨by omega, h2, ?_⟩) <;> omega)))))))))))))))
           · -- hb105
             refine zn rfl hb105 (zn rfl hb105 (ey rfl (y_pick_f' rfl hb105 rfl) (em rfl rfl (t_split (gd := 109) rfl (fun hb109 => ?_) (fun hb109 => ?_)))))
             · -- hb109
               refine egy rfl hb109 (y_far fo_57_3 rfl) (dgl rfl hb109 (lb ld_25) ?_)
               refine egy rfl hb109 (y_far fo_57_2 rfl) (dgl rfl hb109 (lb ld_25) ?_)
               refine egy rfl hb109 (y_rem10 rfl hp) (egy rfl hb109 (y_far fo_40_5 rfl) (egy rfl hb109 (y_iaaN ar_36 rfl rfl ao) (dgl rfl hb109 (lb ld_25 (hc := book_last hp)) ?_)))
               exact egy rfl hb109 (y_eq rfl rfl) (ey rfl (y_pick_t' rfl hb109 rfl) (ea rfl rfl (d_done (lk_val hK7v rfl (congrArg Value.bool (by first | (exact absurd hb109 (by decide)) | (have h1 := hb105; simp at h1; symm; rw [decide_eq_false_iff_not]; exact fun e => by have := e.1; omega) | (have h1 := hb109; rw [decide_eq_false_iff_not, indexOf_ge] at h1; symm; rw [decide_eq_false_iff_not]; exact fun e => h1 e.2.1) | (have h1 := hb105; have h2 := hb109; rw [decide_eq_true_eq] at h1 h2; rw [indexOf_ge] at h2; rw [Bool.eq_iff_iff, beq_iff_eq, decide_eq_true_eq]; constructor <;> intro h3 <;> (try refine ⟨by omega, h2, ?_⟩) <;> omega)))))))
             · -- hb109
               exact zn rfl hb109 (zn rfl hb109 (zn rfl hb109 (zn rfl hb109 (zn rfl hb109 (zn rfl hb109 (zn rfl hb109 (zn rfl hb109 (zn rfl hb109 (ey rfl (y_pick_f' rfl hb109 rfl) (ea rfl rfl (d_done (lk_val hK7v rfl (congrArg Value.bool (by first | (exact absurd hb109 (by decide)) | (have h1 := hb105; simp at h1; symm; rw [decide_eq_false_iff_not]; exact fun e => by have := e.1; omega) | (have h1 := hb109; rw [decide_eq_false_iff_not, indexOf_ge] at h1; symm; rw [decide_eq_false_iff_not]; exact fun e => h1 e.2.1) | (have h1 := hb105; have h2 := hb109; rw [decide_eq_true_eq] at h1 h2; rw [indexOf_ge] at h2; rw [Bool.eq_iff_iff, beq_iff_eq, decide_eq_true_eq]; constructor <;> intro h3 <;> (try refine ⟨by omega, h2, ?_⟩) <;> omega)))))))))))))))
         refine c_cond rfl (fun g8 => ?_) (fun g8 => ?_)
         · have ho3 : c.seq ≤ b.last c.prod ∧ b.l.any (isRec c.prod c.seq) = true ∧ c.seq = b.last c.prod := by simpa using g8
           have hq : doesB b c = (b, ⟨0, b.l.findIdx (isRec c.prod c.seq), true, []⟩) := by unfold doesB; rw [if_neg he, if_neg om, if_pos hk, if_neg (fun e => e hin), if_pos ho3]
           have hlt := List.findIdx_le_length (p := isRec c.prod c.seq) (xs := b.l)
           refine sr (ll (lbw ld_40) ?_)
           refine yy (y_move (v := i64 (b.l.findIdx (isRec c.prod c.seq))) (congrArg some (congrArg (Value.int .i64) (indexOf_any ho3.2.1)))) (yy (y_cvu cv_3_25 rfl om) (yy (y_build pl_77 zc_77 rfl rfl) (lw (sw sz_40 ?_))))
           refine lw (sw sz_77 (ne ?_))
           exact c_ret (e_in_ret (e_then_ret (e_in_ret (e_then_ret (f_retR rfl (ResV.agg ld_40 rfl pk rfl (ResV.agg ld_77 rfl pk rfl rn)) (by rw [hq]; exact ⟨_, _, rfl, h', _, rfl, Sl.nil⟩))))))
         · have ho3 : ¬ (c.seq ≤ b.last c.prod ∧ b.l.any (isRec c.prod c.seq) = true ∧ c.seq = b.last c.prod) := by simpa using g8
           refine sr (mv rfl (sa rfl (nec rfl (fun g9 => ?_) (fun g9 => ?_))))
           · have hs : c.seq ≤ b.last c.prod := by simp at g9; omega
             have hq : doesB b c = (b, .bad 152) := by unfold doesB; rw [if_neg he, if_neg om, if_pos hk, if_neg (fun e => e hin), if_neg ho3, if_pos hs]
             refine c_seq (dR ([.blk b2 (.cells (b.cells (.slice A b.l.length a)).toArray 40 (0, 0))]) [0] (.take 0 (.alt 1 (.alt 2 (.alt 3 .done .stop) .stop) .stop)) ?_)
             refine dl rfl (lbw ld_40) ?_
             refine da rfl (t_callr' rfl (refused_ok (e := 152)) en_42 ?_)
             refine dA (Stone.le.refl _) (da rfl (sw sz_40 ?_))
             refine dA (Stone.le.refl _) (da rfl (sw sz_77 ?_))
             exact dA (Stone.le.refl _) (d_done (e_then (c_ret (e_in_ret (e_then_ret (e_in_ret (e_then_ret (f_retR rfl (ResV.agg ld_40 rfl pk rfl (ResV.agg ld_77 rfl pk rfl rn)) (by rw [hq]; exact ⟨_, _, rfl, h', _, rfl, Sl.nil⟩)))))))))
           · have hs : ¬ c.seq ≤ b.last c.prod := by simp at g9; omega
             refine sr (yy (y_far fo_40_3 rfl) (ll (lb ld_25) ?_))
             refine yy (y_ne rfl rfl) (sa rfl (nec rfl (fun g10 => ?_) (fun g10 => ?_)))
             · have hf : b.frozen ≠ 0 := by simp at g10; omega
               have hq : doesB b c = (b, .bad 164) := by unfold doesB; rw [if_neg he, if_neg om, if_pos hk, if_neg (fun e => e hin), if_neg ho3, if_neg hs, if_pos hf]
               refine c_seq (dR ([.blk b2 (.cells (b.cells (.slice A b.l.length a)).toArray 40 (0, 0))]) [0] (.take 0 (.alt 1 (.alt 2 (.alt 3 .done .stop) .stop) .stop)) ?_)
               refine dl rfl (lbw ld_40) ?_
               refine da rfl (t_callr' rfl (refused_ok (e := 164)) en_42 ?_)
               refine dA (Stone.le.refl _) (da rfl (sw sz_40 ?_))
               refine dA (Stone.le.refl _) (da rfl (sw sz_77 ?_))
               exact dA (Stone.le.refl _) (d_done (e_then (c_ret (e_in_ret (e_then_ret (e_in_ret (e_then_ret (f_retR rfl (ResV.agg ld_40 rfl pk rfl (ResV.agg ld_77 rfl pk rfl rn)) (by rw [hq]; exact ⟨_, _, rfl, h', _, rfl, Sl.nil⟩)))))))))
             · have hf : ¬ b.frozen ≠ 0 := by simp at g10; omega
               have hq : doesB b c = ({ b with last := setF b.last c.prod c.seq, l := b.l ++ [c.rcd b.l.length] }, ⟨0, b.l.length, false, []⟩) := by unfold doesB; rw [if_neg he, if_neg om, if_pos hk, if_neg (fun e => e hin), if_neg ho3, if_neg hs, if_neg hf]
               refine c_skip (e_in (e_then (sr (yy (y_far fo_57_2 rfl) (ll (lb ld_25) ?_)))))
               refine yy (y_rem10 rfl hp) (yy (y_far fo_57_3 rfl) (ll (lb ld_25) ?_))
               refine yy (y_far fo_40_5 rfl) (yy (y_iaaN ar_36 rfl rfl ao) (lw (t_st1' sz_25 rfl rfl rfl pk (by rw [book_len]; exact blt_of om) ?_)))
               refine t_eqblk pk (book_setLast hp) ?_
               refine nes (dR ([.blk b2 (.cells (({ b with last := setF b.last c.prod c.seq } : Bk).cells (.slice A b.l.length a)).toArray 40 (0, 0)), .blk b3 (.cells (c.cells (.slice (some pb) 1 cb)).toArray 57 (0, 0))]) [2, 6, 8, 10, 12] (.take 1 (.take 2 (.take 4 (.take 5 (.take 6 (.take 7 (.take 8 (.take 9 (.take 10 (.take 11 (.take 12 (.take 13 (.alt 0 (.alt 3 (.alt 14 (.alt 15 (.take 16 (.alt 17 .done .stop)) .stop) .stop) (.alt 14 (.alt 3 (.alt 15 (.take 16 (.alt 17 .done .stop)) .stop) .stop) .stop)) (.alt 14 (.alt 0 (.alt 3 (.alt 15 (.take 16 (.alt 17 .done .stop)) .stop) .stop) .stop) .stop)))))))))))))) ?_)
               refine ey rfl (y_far fo_40_4 rfl) (dl rfl (lb ld_26) ?_)
               refine em rfl rfl (ey rfl (y_far fo_57_4 rfl) (dl rfl (lb ld_9) ?_))
               refine ey rfl (y_far fo_57_5 rfl) (dl rfl (lb ld_54) ?_)
               refine ey rfl (y_far fo_57_2 rfl) (dl rfl (lb ld_25) ?_)
               refine ey rfl (y_far fo_57_3 rfl) (dl rfl (lb ld_25) ?_)
               refine ey rfl (y_build pl_84 zc_84 rfl rfl) (d_alt rfl rfl ?_ ?_)
               · -- first 0
                 refine t_bs0 ap_26 zc_84 rfl (fun b141 => ?_)
                 refine dA (Stone.le.refl _) (d_alt rfl rfl ?_ ?_)
                 · -- first 3
                   refine t_appS (hr) plain_rec ap_26 rfl rfl pk mo om rfl (fun va144 nw144 hf144 hm144 ho144 => ?_)
                   refine dA (Stone.le.refl _) (da rfl (t_bs1 ap_26 zc_84 rfl rfl rfl rfl rfl (fun b155 => ?_)))
                   refine dA (Stone.le.refl _) (da rfl (aR ap_26 (fun va156 ho156 => ?_)))
                   refine t_pub (C := recC) (l := b.l ++ [c.rcd b.l.length]) pk (fun S' hle => ((Flat.nil.app hf144).snoc (a := c.rcd b.l.length) ⟨_, rfl, hb⟩ rfl).monoR hle) (by simp) (fun S156 le156 hs156 => ?_)
                   obtain ⟨A9, a9, rfl, -⟩ := hs156.shape
                   refine dA le156 (ey rfl (y_far fo_40_4 rfl) (da rfl (s1 sz_26 ?_)))
                   refine dA le156 (d_done (e_then (sr (ll (lbw ld_40) ?_))))
                   refine mv rfl (yy (y_build pl_77 zc_77 rfl rfl) (lw (sw sz_40 ?_)))
                   refine lw (sw sz_77 (l_nil ?_))
                   exact e_then (c_ret (e_in_ret (e_then_ret (f_retR rfl (ResV.agg ld_40 rfl pk rfl (ResV.agg ld_77 rfl pk rfl rn)) (by rw [hq]; exact ⟨_, _, rfl, ⟨_, rfl, hs156⟩, _, rfl, Sl.nil⟩)))))
                 refine d_alt rfl rfl ?_ d_stop
                 refine t_bs1 ap_26 zc_84 rfl rfl rfl rfl rfl (fun b155 => ?_)
                 refine dA (Stone.le.refl _) (da rfl (t_appS (hr) plain_rec ap_26 rfl rfl pk mo om rfl (fun va144 nw144 hf144 hm144 ho144 => ?_)))
                 refine dA (Stone.le.refl _) (da rfl (aR ap_26 (fun va156 ho156 => ?_)))
                 refine t_pub (C := recC) (l := b.l ++ [c.rcd b.l.length]) pk (fun S' hle => ((Flat.nil.app hf144).snoc (a := c.rcd b.l.length) ⟨_, rfl, hb⟩ rfl).monoR hle) (by simp) (fun S156 le156 hs156 => ?_)
                 obtain ⟨A9, a9, rfl, -⟩ := hs156.shape
                 refine dA le156 (ey rfl (y_far fo_40_4 rfl) (da rfl (s1 sz_26 ?_)))
                 refine dA le156 (d_done (e_then (sr (ll (lbw ld_40) ?_))))
                 refine mv rfl (yy (y_build pl_77 zc_77 rfl rfl) (lw (sw sz_40 ?_)))
                 refine lw (sw sz_77 (l_nil ?_))
                 exact e_then (c_ret (e_in_ret (e_then_ret (f_retR rfl (ResV.agg ld_40 rfl pk rfl (ResV.agg ld_77 rfl pk rfl rn)) (by rw [hq]; exact ⟨_, _, rfl, ⟨_, rfl, hs156⟩, _, rfl, Sl.nil⟩)))))
               refine d_alt rfl rfl ?_ d_stop
               refine t_bs1 ap_26 zc_84 rfl rfl rfl rfl rfl (fun b155 => ?_)
               refine dA (Stone.le.refl _) (da rfl (t_bs0 ap_26 zc_84 rfl (fun b141 => ?_)))
               refine dA (Stone.le.refl _) (da rfl (t_appS (hr) plain_rec ap_26 rfl rfl pk mo om rfl (fun va144 nw144 hf144 hm144 ho144 => ?_)))
               refine dA (Stone.le.refl _) (da rfl (aR ap_26 (fun va156 ho156 => ?_)))
               refine t_pub (C := recC) (l := b.l ++ [c.rcd b.l.length]) pk (fun S' hle => ((Flat.nil.app hf144).snoc (a := c.rcd b.l.length) ⟨_, rfl, hb⟩ rfl).monoR hle) (by simp) (fun S156 le156 hs156 => ?_)
               obtain ⟨A9, a9, rfl, -⟩ := hs156.shape
               refine dA le156 (ey rfl (y_far fo_40_4 rfl) (da rfl (s1 sz_26 ?_)))
               refine dA le156 (d_done (e_then (sr (ll (lbw ld_40) ?_))))
               refine mv rfl (yy (y_build pl_77 zc_77 rfl rfl) (lw (sw sz_40 ?_)))
               refine lw (sw sz_77 (l_nil ?_))
               exact e_then (c_ret (e_in_ret (e_then_ret (f_retR rfl (ResV.agg ld_40 rfl pk rfl (ResV.agg ld_77 rfl pk rfl rn)) (by rw [hq]; exact ⟨_, _, rfl, ⟨_, rfl, hs156⟩, _, rfl, Sl.nil⟩)))))
     · simp [hk] at g5
end Go.Proofs.YtkdmbimkanjbhaaGreatDoor.Eng
namespace Go.Proofs.YtkdmbimkanjbhaaGreatDoor.Eng
open Go Go.Proofs
set_option maxRecDepth 100000
attribute [local irreducible] Tr
theorem does3 {S : Stone} {v bv : Value} {b : Bk} {c : Cmd} (h : BookR S v b) (ho : BkOk b) (hl : b.l.length < 200) (hb : Byt S bv c.val) (hc : CmdOk c) (hp : c.prod < 10) (hoff : c.off ≤ 1000) (hk : c.kind = 3) :
 Con Tryz.prog 24 #[v, .agg (c.cells bv).toArray] [] S (RetR fun u S' => DoesR S' u (doesB b c)) := by
 have h' := h
 obtain ⟨rv, rfl, hr⟩ := h
 obtain ⟨A, a, rfl, ha1, ha2, -⟩ := hr.shape
 obtain ⟨pb, cb, rfl, -⟩ := id hb
 have hlo := ho.lo
 have hlh := ho.lh
 have hhi := ho.hi
 have hkey := hc.key
 have hnm := hc.name
 refine con_of 239 Tryz.func24 rfl rfl rfl (fun w0 => ?_)
 refine sr (bx rfl rfl (fun b2 => bx rfl rfl (fun b3 => al zc_40 (fun b4 => al zc_77 (fun b5 => nesr (yy (y_far fo_40_4 rfl) (ll (lb ld_26) ?_)))))))
 refine yy (y_ln sl_26 rfl) (yy (y_cvu cv_3_25 rfl om) (sa rfl (nesr (yy (y_far fo_57_0 rfl) (ll (lb ld_55) ?_)))))
 refine yy (y_eq rfl rfl) (mv rfl ?_)
 apply l_or 4 (gd := 19) (d := 23) rfl
 · intro hb19 K1 hK1
   refine qy hb19 (y_far fo_57_0 rfl) (gl hb19 (lb ld_55) ?_)
   exact qy hb19 (y_eq rfl rfl) (yy (y_pick_f' rfl hb19 rfl) (lk_end hK1))
 · intro hb19 K1 hK1
   exact qn hb19 (qn hb19 (qn hb19 (yy (y_pick_t' rfl hb19 rfl) (lk_end hK1))))
 refine sa rfl (nes (dR ([.blk b2 (.cells (b.cells (.slice A b.l.length a)).toArray 40 (0, 0)), .blk b3 (.cells (c.cells (.slice (some pb) 1 cb)).toArray 57 (0, 0))]) [3, 5, 9] (.take 0 (.take 1 (.take 2 (.take 3 (.take 4 (.take 5 (.take 6 (.take 7 (.take 8 (.take 9 (.take 10 (.take 11 (.take 12 .done))))))))))))) ?_))
 refine em rfl rfl (em rfl rfl (t_known (gd := 25) (v := true) rfl (by simp [hk]) (fun hb25 => ?_)))
 refine egy rfl hb25 (y_far fo_57_3 rfl) (dgl rfl hb25 (lb ld_25) ?_)
 refine egy rfl hb25 (y_far fo_57_2 rfl) (dgl rfl hb25 (lb ld_25) ?_)
 refine egy rfl hb25 (y_rem10 rfl hp) (egy rfl hb25 (y_far fo_40_5 rfl) (egy rfl hb25 (y_iaaN ar_36 rfl rfl ao) (dgl rfl hb25 (lb ld_25 (hc := book_last hp)) ?_)))
 refine egy rfl hb25 (y_le rfl rfl) (ey rfl (y_pick_t' rfl hb25 rfl) (ea rfl rfl (d_done (e_then (sr (yy (y_far fo_57_8 rfl) (ll (lb ld_9) ?_)))))))
 refine lw (t_callr' rfl (reader_ok hc.name |>.back) en_41 (sa rfl (nes (c_block (sr (yy (y_far fo_57_1 rfl) (ll (lb ld_25) ?_)))))))
 refine yy (y_far fo_40_2 rfl) (ll (lb ld_25) ?_)
 refine yy (y_ne rfl rfl) (sa rfl (nec rfl (fun g2 => ?_) (fun g2 => ?_)))
 · have he : c.epoch ≠ b.epoch := by simp at g2; omega
   have hq : doesB b c = (b, .bad 162) := by unfold doesB; rw [if_pos he]
   refine c_seq (dR ([.blk b2 (.cells (b.cells (.slice A b.l.length a)).toArray 40 (0, 0))]) [0] (.take 0 (.alt 1 (.alt 2 (.alt 3 .done .stop) .stop) .stop)) ?_)
   refine dl rfl (lbw ld_40) ?_
   refine da rfl (t_callr' rfl (refused_ok (e := 162)) en_42 ?_)
   refine dA (Stone.le.refl _) (da rfl (sw sz_40 ?_))
   refine dA (Stone.le.refl _) (da rfl (sw sz_77 ?_))
   exact dA (Stone.le.refl _) (d_done (e_then (c_ret (e_in_ret (e_then_ret (f_retR rfl (ResV.agg ld_40 rfl pk rfl (ResV.agg ld_77 rfl pk rfl rn)) (by rw [hq]; exact ⟨_, _, rfl, h', _, rfl, Sl.nil⟩)))))))
 · have he : ¬ c.epoch ≠ b.epoch := by simp at g2; omega
   refine sr (yy (y_far fo_57_0 rfl) (ll (lb ld_55) ?_))
   refine yy (y_eq rfl rfl) (mv rfl ?_)
   apply l_or 4 (gd := 51) (d := 55) rfl
   · intro hb51 K3 hK3
     refine qy hb51 (y_far fo_57_0 rfl) (gl hb51 (lb ld_55) ?_)
     exact qy hb51 (y_eq rfl rfl) (yy (y_pick_f' rfl hb51 rfl) (lk_end hK3))
   · intro hb51 K3 hK3
     exact qn hb51 (qn hb51 (qn hb51 (yy (y_pick_t' rfl hb51 rfl) (lk_end hK3))))
   refine sa rfl (nec rfl (fun g4 => ?_) (fun g4 => ?_))
   · simp [hk] at g4
   · refine c_seq ?_
     refine c_region (yy (y_far fo_57_0 rfl) (ll (lb ld_55) ?_))
     refine yy (y_eq rfl rfl) (sa rfl (nec rfl (fun g5 => ?_) (fun g5 => ?_)))
     · simp [hk] at g5
     · refine c_seq ?_
       refine c_region (yy (y_far fo_57_0 rfl) (ll (lb ld_55) ?_))
       refine yy (y_eq rfl rfl) (mv rfl (t_known (gd := 165) (v := true) rfl (by simp [hk]) (fun hb165 => ?_)))
       refine qy hb165 (y_move rfl) (yy (y_pick_t' rfl hb165 rfl) (sa rfl (nec rfl (fun g6 => ?_) (fun g6 => ?_))))
       · have hs : c.seq ≤ b.last c.prod := by simp at g6; omega
         have hq : doesB b c = (b, ⟨0, 0, true, []⟩) := by unfold doesB; rw [if_neg he, if_neg om, if_neg om, if_pos ⟨hk, hs⟩]
         refine sr (ll (lbw ld_40) ?_)
         refine yy (y_build pl_77 zc_77 rfl rfl) (lw (sw sz_40 ?_))
         refine lw (sw sz_77 ?_)
         refine ne ?_
         exact c_ret (e_in_ret (e_then_ret (f_retR rfl (ResV.agg ld_40 rfl pk rfl (ResV.agg ld_77 rfl pk rfl rn)) (by rw [hq]; exact ⟨_, _, rfl, h', _, rfl, Sl.nil⟩))))
       · have hs : ¬ (c.kind = 3 ∧ c.seq ≤ b.last c.prod) := by simp at g6; omega
         refine sr (yy (y_far fo_40_3 rfl) (ll (lb ld_25) ?_))
         refine yy (y_ne rfl rfl) (sa rfl (nec rfl (fun g7 => ?_) (fun g7 => ?_)))
         · have hf : b.frozen ≠ 0 := by simp at g7; omega
           have hq : doesB b c = (b, .bad 164) := by unfold doesB; rw [if_neg he, if_neg om, if_neg om, if_neg hs, if_pos hf]
           refine c_seq (dR ([.blk b2 (.cells (b.cells (.slice A b.l.length a)).toArray 40 (0, 0))]) [0] (.take 0 (.alt 1 (.alt 2 (.alt 3 .done .stop) .stop) .stop)) ?_)
           refine dl rfl (lbw ld_40) ?_
           refine da rfl (t_callr' rfl (refused_ok (e := 164)) en_42 ?_)
           refine dA (Stone.le.refl _) (da rfl (sw sz_40 ?_))
           refine dA (Stone.le.refl _) (da rfl (sw sz_77 ?_))
           exact dA (Stone.le.refl _) (d_done (e_then (c_ret (e_in_ret (e_then_ret (f_retR rfl (ResV.agg ld_40 rfl pk rfl (ResV.agg ld_77 rfl pk rfl rn)) (by rw [hq]; exact ⟨_, _, rfl, h', _, rfl, Sl.nil⟩)))))))
         · have hf : ¬ b.frozen ≠ 0 := by simp at g7; omega
           refine sr (yy (y_far fo_57_0 rfl) (ll (lb ld_55) ?_))
           refine yy (y_eq rfl rfl) (sa rfl (nec rfl (fun g8 => ?_) (fun g8 => ?_)))
           · simp [hk] at g8
           · refine c_seq ?_
             refine c_region (yy (y_far fo_57_6 rfl) (ll (lb ld_25) ?_))
             refine mv rfl (yy (y_gt rfl rfl) (sa rfl (nec rfl (fun g9 => ?_) (fun g9 => ?_))))
             · have hfar : b.l.length < c.off := by simp at g9; omega
               have hq : doesB b c = (b, .bad 141) := by unfold doesB; rw [if_neg he, if_neg om, if_neg om, if_neg hs, if_neg hf, if_neg om, if_pos hfar]
               refine c_seq (dR ([.blk b2 (.cells (b.cells (.slice A b.l.length a)).toArray 40 (0, 0))]) [0] (.take 0 (.alt 1 (.alt 2 (.alt 3 .done .stop) .stop) .stop)) ?_)
               refine dl rfl (lbw ld_40) ?_
               refine da rfl (t_callr' rfl (refused_ok (e := 141)) en_42 ?_)
               refine dA (Stone.le.refl _) (da rfl (sw sz_40 ?_))
               refine dA (Stone.le.refl _) (da rfl (sw sz_77 ?_))
               exact dA (Stone.le.refl _) (d_done (e_then (c_ret (e_in_ret (e_then_ret (f_retR rfl (ResV.agg ld_40 rfl pk rfl (ResV.agg ld_77 rfl pk rfl rn)) (by rw [hq]; exact ⟨_, _, rfl, h', _, rfl, Sl.nil⟩)))))))
             · have hfar : ¬ b.l.length < c.off := by simp at g9; omega
               have hq : doesB b c = ({ b with last := setF b.last c.prod c.seq, there := setF b.there c.name true, at_ := setF b.at_ c.name c.off }, ⟨0, c.off, false, []⟩) := by unfold doesB; rw [if_neg he, if_neg om, if_neg om, if_neg hs, if_neg hf, if_neg om, if_neg hfar, if_pos hk]
               refine sr (yy (y_far fo_57_0 rfl) (ll (lb ld_55) ?_))
               refine yy (y_eq rfl rfl) (sa rfl (nec rfl (fun g10 => ?_) (fun g10 => ?_)))
               · refine c_seq ?_
                 refine c_region (yy (y_far fo_57_2 rfl) (ll (lb ld_25) ?_))
                 refine yy (y_rem10 rfl hp) (yy (y_far fo_57_3 rfl) (ll (lb ld_25) ?_))
                 refine yy (y_far fo_40_5 rfl) (yy (y_iaaN ar_36 rfl rfl ao) (lw (t_st1' sz_25 rfl rfl rfl pk (by rw [book_len]; exact blt_of om) ?_)))
                 refine t_eqblk pk (book_setLast hp) ?_
                 refine nesr (mv rfl (yy (y_far fo_40_6 rfl) (yy (y_iaaN ar_37 rfl rfl ao) (lw (t_st1' sz_4 rfl rfl rfl pk (by rw [book_len]; exact blt_of om) ?_)))))
                 refine t_eqblk pk (book_setThere hnm) ?_
                 refine nesr (mv rfl (yy (y_far fo_57_6 rfl) (ll (lb ld_25) ?_)))
                 refine yy (y_far fo_40_7 rfl) (yy (y_iaaN ar_38 rfl rfl ao) (lw (t_st1' sz_25 rfl rfl rfl pk (by rw [book_len]; exact blt_of om) ?_)))
                 refine t_eqblk pk (book_setAt hnm) ?_
                 refine nes (dR ([.blk b2 (.cells (({ b with last := setF b.last c.prod c.seq, there := setF b.there c.name true, at_ := setF b.at_ c.name c.off } : Bk).cells (.slice A b.l.length a)).toArray 40 (0, 0)), .blk b3 (.cells (c.cells (.slice (some pb) 1 cb)).toArray 57 (0, 0))]) [0, 2] (.take 0 (.take 1 (.take 2 (.take 3 (.alt 4 (.alt 5 .done .stop) .stop))))) ?_)
                 refine dl rfl (lbw ld_40) ?_
                 refine ey rfl (y_far fo_57_6 rfl) (dl rfl (lb ld_25) ?_)
                 refine ey rfl (y_build pl_77 zc_77 rfl rfl) (da rfl (sw sz_40 ?_))
                 refine dA (Stone.le.refl _) (da rfl (sw sz_77 ?_))
                 exact dA (Stone.le.refl _) (d_done (e_then (c_ret (e_in_ret (e_then_ret (f_retR rfl (ResV.agg ld_40 rfl pk rfl (ResV.agg ld_77 rfl pk rfl rn)) (by rw [hq]; exact ⟨_, _, rfl, ⟨_, rfl, hr⟩, _, rfl, Sl.nil⟩)))))))
               · simp [hk] at g10
end Go.Proofs.YtkdmbimkanjbhaaGreatDoor.Eng
namespace Go.Proofs.YtkdmbimkanjbhaaGreatDoor.Eng
open Go Go.Proofs
set_option maxRecDepth 100000
attribute [local irreducible] Tr
theorem does2 {S : Stone} {v bv : Value} {b : Bk} {c : Cmd} (h : BookR S v b) (ho : BkOk b) (hl : b.l.length < 200) (hb : Byt S bv c.val) (hc : CmdOk c) (hp : c.prod < 10) (hoff : c.off ≤ 1000) (hk : c.kind = 2) :
 Con Tryz.prog 24 #[v, .agg (c.cells bv).toArray] [] S (RetR fun u S' => DoesR S' u (doesB b c)) := by
 have h' := h
 obtain ⟨rv, rfl, hr⟩ := h
 obtain ⟨A, a, rfl, ha1, ha2, -⟩ := hr.shape
 obtain ⟨pb, cb, rfl, -⟩ := id hb
 have hlo := ho.lo
 have hlh := ho.lh
 have hhi := ho.hi
 have hkey := hc.key
 have hnm := hc.name
 refine con_of 239 Tryz.func24 rfl rfl rfl (fun w0 => ?_)
 refine sr (bx rfl rfl (fun b2 => bx rfl rfl (fun b3 => al zc_40 (fun b4 => al zc_77 (fun b5 => nesr (yy (y_far fo_40_4 rfl) (ll (lb ld_26) ?_)))))))
 refine yy (y_ln sl_26 rfl) (yy (y_cvu cv_3_25 rfl om) (sa rfl (nesr (yy (y_far fo_57_0 rfl) (ll (lb ld_55) ?_)))))
 refine yy (y_eq rfl rfl) (mv rfl ?_)
 apply l_or 4 (gd := 19) (d := 23) rfl
 · intro hb19 K1 hK1
   refine qy hb19 (y_far fo_57_0 rfl) (gl hb19 (lb ld_55) ?_)
   exact qy hb19 (y_eq rfl rfl) (yy (y_pick_f' rfl hb19 rfl) (lk_end hK1))
 · intro hb19 K1 hK1
   exact qn hb19 (qn hb19 (qn hb19 (yy (y_pick_t' rfl hb19 rfl) (lk_end hK1))))
 refine sa rfl (nes (dR ([.blk b2 (.cells (b.cells (.slice A b.l.length a)).toArray 40 (0, 0)), .blk b3 (.cells (c.cells (.slice (some pb) 1 cb)).toArray 57 (0, 0))]) [3, 5, 9] (.take 0 (.take 1 (.take 2 (.take 3 (.take 4 (.take 5 (.take 6 (.take 7 (.take 8 (.take 9 (.take 10 (.take 11 (.take 12 .done))))))))))))) ?_))
 refine em rfl rfl (em rfl rfl (t_known (gd := 25) (v := false) rfl (by simp [hk]) (fun hb25 => ?_)))
 refine zn rfl hb25 (zn rfl hb25 (zn rfl hb25 (zn rfl hb25 (zn rfl hb25 (zn rfl hb25 (zn rfl hb25 (zn rfl hb25 (zn rfl hb25 (ey rfl (y_pick_f' rfl hb25 rfl) (ea rfl rfl (d_done (e_then (sr (yy (y_far fo_57_8 rfl) (ll (lb ld_9) ?_)))))))))))))))
 refine lw (t_callr' rfl (reader_ok hc.name |>.back) en_41 (sa rfl (nes (c_block (sr (yy (y_far fo_57_1 rfl) (ll (lb ld_25) ?_)))))))
 refine yy (y_far fo_40_2 rfl) (ll (lb ld_25) ?_)
 refine yy (y_ne rfl rfl) (sa rfl (nec rfl (fun g2 => ?_) (fun g2 => ?_)))
 · have he : c.epoch ≠ b.epoch := by simp at g2; omega
   have hq : doesB b c = (b, .bad 162) := by unfold doesB; rw [if_pos he]
   refine c_seq (dR ([.blk b2 (.cells (b.cells (.slice A b.l.length a)).toArray 40 (0, 0))]) [0] (.take 0 (.alt 1 (.alt 2 (.alt 3 .done .stop) .stop) .stop)) ?_)
   refine dl rfl (lbw ld_40) ?_
   refine da rfl (t_callr' rfl (refused_ok (e := 162)) en_42 ?_)
   refine dA (Stone.le.refl _) (da rfl (sw sz_40 ?_))
   refine dA (Stone.le.refl _) (da rfl (sw sz_77 ?_))
   exact dA (Stone.le.refl _) (d_done (e_then (c_ret (e_in_ret (e_then_ret (f_retR rfl (ResV.agg ld_40 rfl pk rfl (ResV.agg ld_77 rfl pk rfl rn)) (by rw [hq]; exact ⟨_, _, rfl, h', _, rfl, Sl.nil⟩)))))))
 · have he : ¬ c.epoch ≠ b.epoch := by simp at g2; omega
   refine sr (yy (y_far fo_57_0 rfl) (ll (lb ld_55) ?_))
   refine yy (y_eq rfl rfl) (mv rfl ?_)
   apply l_or 4 (gd := 51) (d := 55) rfl
   · intro hb51 K3 hK3
     refine qy hb51 (y_far fo_57_0 rfl) (gl hb51 (lb ld_55) ?_)
     exact qy hb51 (y_eq rfl rfl) (yy (y_pick_f' rfl hb51 rfl) (lk_end hK3))
   · intro hb51 K3 hK3
     exact qn hb51 (qn hb51 (qn hb51 (yy (y_pick_t' rfl hb51 rfl) (lk_end hK3))))
   refine sa rfl (nec rfl (fun g4 => ?_) (fun g4 => ?_))
   · simp [hk] at g4
   · refine c_seq ?_
     refine c_region (yy (y_far fo_57_0 rfl) (ll (lb ld_55) ?_))
     refine yy (y_eq rfl rfl) (sa rfl (nec rfl (fun g5 => ?_) (fun g5 => ?_)))
     · simp [hk] at g5
     · refine c_seq ?_
       refine c_region (yy (y_far fo_57_0 rfl) (ll (lb ld_55) ?_))
       refine yy (y_eq rfl rfl) (mv rfl (t_known (gd := 165) (v := false) rfl (by simp [hk]) (fun hb165 => ?_)))
       refine qn hb165 (yy (y_pick_f' rfl hb165 rfl) (sa rfl (ne (c_false rfl (sr (yy (y_far fo_40_3 rfl) (ll (lb ld_25) ?_)))))))
       refine yy (y_ne rfl rfl) (sa rfl (nec rfl (fun g7 => ?_) (fun g7 => ?_)))
       · have hf : b.frozen ≠ 0 := by simp at g7; omega
         have hq : doesB b c = (b, .bad 164) := by unfold doesB; rw [if_neg he, if_neg om, if_neg om, if_neg om, if_pos hf]
         refine c_seq (dR ([.blk b2 (.cells (b.cells (.slice A b.l.length a)).toArray 40 (0, 0))]) [0] (.take 0 (.alt 1 (.alt 2 (.alt 3 .done .stop) .stop) .stop)) ?_)
         refine dl rfl (lbw ld_40) ?_
         refine da rfl (t_callr' rfl (refused_ok (e := 164)) en_42 ?_)
         refine dA (Stone.le.refl _) (da rfl (sw sz_40 ?_))
         refine dA (Stone.le.refl _) (da rfl (sw sz_77 ?_))
         exact dA (Stone.le.refl _) (d_done (e_then (c_ret (e_in_ret (e_then_ret (f_retR rfl (ResV.agg ld_40 rfl pk rfl (ResV.agg ld_77 rfl pk rfl rn)) (by rw [hq]; exact ⟨_, _, rfl, h', _, rfl, Sl.nil⟩)))))))
       · have hf : ¬ b.frozen ≠ 0 := by simp at g7; omega
         refine sr (yy (y_far fo_57_0 rfl) (ll (lb ld_55) ?_))
         refine yy (y_eq rfl rfl) (sa rfl (nec rfl (fun g8 => ?_) (fun g8 => ?_)))
         · simp [hk] at g8
         · refine c_seq ?_
           refine c_region (yy (y_far fo_57_6 rfl) (ll (lb ld_25) ?_))
           refine mv rfl (yy (y_gt rfl rfl) (sa rfl (nec rfl (fun g9 => ?_) (fun g9 => ?_))))
           · have hfar : b.l.length < c.off := by simp at g9; omega
             have hq : doesB b c = (b, .bad 141) := by unfold doesB; rw [if_neg he, if_neg om, if_neg om, if_neg om, if_neg hf, if_neg om, if_pos hfar]
             refine c_seq (dR ([.blk b2 (.cells (b.cells (.slice A b.l.length a)).toArray 40 (0, 0))]) [0] (.take 0 (.alt 1 (.alt 2 (.alt 3 .done .stop) .stop) .stop)) ?_)
             refine dl rfl (lbw ld_40) ?_
             refine da rfl (t_callr' rfl (refused_ok (e := 141)) en_42 ?_)
             refine dA (Stone.le.refl _) (da rfl (sw sz_40 ?_))
             refine dA (Stone.le.refl _) (da rfl (sw sz_77 ?_))
             exact dA (Stone.le.refl _) (d_done (e_then (c_ret (e_in_ret (e_then_ret (f_retR rfl (ResV.agg ld_40 rfl pk rfl (ResV.agg ld_77 rfl pk rfl rn)) (by rw [hq]; exact ⟨_, _, rfl, h', _, rfl, Sl.nil⟩)))))))
           · have hfar : ¬ b.l.length < c.off := by simp at g9; omega
             have hq : doesB b c = (b, ⟨0, min b.l.length (c.off + c.most), false, (b.l.drop c.off).take c.most⟩) := by unfold doesB; rw [if_neg he, if_neg om, if_neg om, if_neg om, if_neg hf, if_neg om, if_neg hfar, if_neg om]
             have hmost := hc.most
             refine sr (yy (y_far fo_57_0 rfl) (ll (lb ld_55) ?_))
             refine yy (y_eq rfl rfl) (sa rfl (nec rfl (fun g10 => ?_) (fun g10 => ?_)))
             · simp [hk] at g10
             · refine c_skip ?_
               refine e_in (e_then (sr (mv rfl (yy (y_far fo_57_6 rfl) (ll (lb ld_25) ?_)))))
               refine yy (y_far fo_57_7 rfl) (ll (lb ld_3) ?_)
               refine yy (y_cvu cv_3_25 rfl om) (yy (y_addU rfl rfl om) (yy (y_minN rfl rfl) (sa rfl (nes (dR ([.blk b2 (.cells (b.cells (.slice A b.l.length a)).toArray 40 (0, 0)), .blk b3 (.cells (c.cells (.slice (some pb) 1 cb)).toArray 57 (0, 0))]) [0, 4, 6] (.take 0 (.take 1 (.take 3 (.take 4 (.take 5 (.take 6 (.take 7 (.take 8 (.alt 2 (.alt 9 (.take 10 (.alt 11 (.alt 12 .done .stop) .stop)) .stop) .stop))))))))) ?_)))))
               refine dl rfl (lbw ld_40) ?_
               refine em rfl rfl (ey rfl (y_far fo_40_4 rfl) (dl rfl (lb ld_26) ?_))
               refine ey rfl (y_far fo_57_6 rfl) (dl rfl (lb ld_25) ?_)
               refine em rfl rfl (ey rfl (y_sl sl_26 rfl (l := c.off) (h := min b.l.length (c.off + c.most)) ⟨_, rfl⟩ ⟨_, rfl⟩ om om) ?_)
               have hsl := Sl.sub hr (by omega : c.off ≤ min b.l.length (c.off + c.most)) (by omega : min b.l.length (c.off + c.most) ≤ b.l.length)
               have hel : (b.l.take (min b.l.length (c.off + c.most))).drop c.off = (b.l.drop c.off).take c.most := by
                rw [List.drop_take]
                rcases Nat.le_total b.l.length (c.off + c.most) with h1 | h1
                · rw [Nat.min_eq_left h1, List.take_of_length_le (by rw [List.length_drop]; omega), List.take_of_length_le (by rw [List.length_drop]; omega)]
                · rw [Nat.min_eq_right h1]; congr 1; omega
               rw [hel] at hsl
               have hll : ((b.l.drop c.off).take c.most).length ≤ 200 := by simp; omega
               obtain ⟨A2, a2, e2, -, -⟩ := hsl.shape
               rw [e2] at hsl ⊢
               refine da rfl (t_bs0 ap_26 zc_84 rfl (fun b230 => ?_))
               refine dA (Stone.le.refl _) (da rfl (t_appS (hsl) plain_rec ap_26 rfl rfl pk mo om rfl (fun va237 nw237 hf237 hm237 ho237 => ?_)))
               refine t_pub (C := recC) (l := (b.l.drop c.off).take c.most) pk (fun S' hle => (Flat.nil.app hf237).monoR hle) (by simp) (fun S237 le237 hs237 => ?_)
               obtain ⟨A9, a9, rfl, -⟩ := hs237.shape
               refine dA le237 (ey rfl (y_build pl_77 zc_77 rfl rfl) (da rfl (sw sz_40 ?_)))
               refine dA le237 (da rfl (sw sz_77 ?_))
               exact dA le237 (d_done (e_then (c_ret (f_retR rfl (ResV.agg ld_40 rfl pk rfl (ResV.agg ld_77 rfl pk rfl rn)) (by rw [hq]; exact ⟨_, _, rfl, h'.mono le237, _, rfl, hs237⟩)))))
theorem does_ok {S : Stone} {v bv : Value} {b : Bk} {c : Cmd} (h : BookR S v b) (ho : BkOk b) (hl : b.l.length < 200) (hb : Byt S bv c.val) (hc : CmdOk c) (hp : c.prod < 10) (hoff : c.off ≤ 1000) :
 Con Tryz.prog 24 #[v, .agg (c.cells bv).toArray] [] S (RetR fun u S' => DoesR S' u (doesB b c)) := by
 have hk := hc.kind
 have : c.kind = 1 ∨ c.kind = 2 ∨ c.kind = 3 ∨ c.kind = 4 ∨ c.kind = 5 ∨ c.kind = 6 := by omega
 rcases this with k | k | k | k | k | k
 · exact does1 h ho hl hb hc hp hoff k
 · exact does2 h ho hl hb hc hp hoff k
 · exact does3 h ho hl hb hc hp hoff k
 · exact does4 h ho hl hb hc hp hoff k
 · exact does5 h ho hl hb hc hp hoff k
 · exact does6 h ho hl hb hc hp hoff k
end Go.Proofs.YtkdmbimkanjbhaaGreatDoor.Eng
namespace Go.Proofs.YtkdmbimkanjbhaaGreatDoor.Eng
open Go Go.Proofs
set_option maxRecDepth 100000
theorem y_stne {P : Program} {E : Env} {od : Option Tmp} {ty : TypeId} {pos : String} {aft : Array Edge} {g : Option (Nat × Bool)} {t u : TypeId} {x y : Operand} {xs ys : Array Value} {b : Bool} (hx : E.op x = some (.agg xs)) (hy : E.op y = some (.agg ys)) (hg : P.eqGuardType P.depth t = false)
    (h : ∀ w, (binOp .neq t (.agg xs) (.agg ys)).run P w = .ok (.bool b) w) : Yld P E ⟨od, .binOp .neq t x y u, ty, pos, aft, g⟩ (.bool b) := fun _n _a w ha =>
  run_bin (ha.eval hx) (ha.eval hy) (run_eqGuard_agg w _ _ _ _ _ _ hg) (h w)
theorem isAgg9 (w : World) : (isAgg 9).run Tryz.prog w = .ok false w := by kernel_rfl
theorem isAgg25 (w : World) : (isAgg 25).run Tryz.prog w = .ok false w := by kernel_rfl
theorem isAgg4 (w : World) : (isAgg 4).run Tryz.prog w = .ok false w := by kernel_rfl
theorem part9 (xs : Array Value) (o : Nat) (v : Value) (w : World) (h : xs[o]? = some v) : (part 9 xs o).run Tryz.prog w = .ok v w := by simp [part, h]
theorem part25 (xs : Array Value) (o : Nat) (v : Value) (w : World) (h : xs[o]? = some v) : (part 25 xs o).run Tryz.prog w = .ok v w := by simp [part, h]
theorem part4 (xs : Array Value) (o : Nat) (v : Value) (w : World) (h : xs[o]? = some v) : (part 4 xs o).run Tryz.prog w = .ok v w := by simp [part, h]
theorem q9 (s t : ByteArray) (w : World) : (Op.equalIn 9999 9 (.string s) (.string t)).run Tryz.prog w = .ok (s.toList == t.toList) w := run_equalIn_string w 9998 9 s t Tryz.underlying9
theorem q25 (a b : Int) (w : World) : (Op.equalIn 9999 25 (.int .u64 a) (.int .u64 b)).run Tryz.prog w = .ok (a == b) w := run_equalIn_int w 9998 25 .u64 .u64 a b Tryz.underlying25
theorem q4 (a b : Bool) (w : World) : (Op.equalIn 9999 4 (.bool a) (.bool b)).run Tryz.prog w = .ok (a == b) w := run_equalIn_bool' w 9998 4 a b Tryz.underlying4
theorem eg_65 : Tryz.prog.eqGuardType Tryz.prog.depth 65 = false := by kernel_rfl
theorem eg_67 : Tryz.prog.eqGuardType Tryz.prog.depth 67 = false := by kernel_rfl
theorem eg_24 : Tryz.prog.eqGuardType Tryz.prog.depth 24 = false := by kernel_rfl
theorem ne_65 (s : ByteArray) (o : Int) (w : World) : (binOp .neq 65 (.agg #[.string s, .int .u64 o]) (.agg #[.string s, .int .u64 o])).run Tryz.prog w = .ok (.bool false) w := by
  rw [run_neq_struct, run_equalIn_agg w 9999 65 _ _ (by kernel_rfl) (by kernel_rfl)]
  have hf : (Tryz.prog.fieldsOf 65).toList = [⟨ "Name", 9, 0, false, "", "", 0⟩, ⟨ "Offset", 25, 1, false, "", "", 16⟩] := by simp [Program.fieldsOf, Tryz.underlying65]
  rw [hf]
  simp only [Op.eqFields, Sem.run_bind, Sem.run_ite]
  simp [part, q9, q25]
theorem ne_24 (s t : ByteArray) (w : World) : (binOp .neq 24 (.agg #[.string s, .string t]) (.agg #[.string s, .string t])).run Tryz.prog w = .ok (.bool false) w := by
  rw [run_neq_struct, run_equalIn_agg w 9999 24 _ _ (by kernel_rfl) (by kernel_rfl)]
  have hf : (Tryz.prog.fieldsOf 24).toList = [⟨ "Lo", 9, 0, false, "", "", 0⟩, ⟨ "Hi", 9, 1, false, "", "", 16⟩] := by simp [Program.fieldsOf, Tryz.underlying24]
  rw [hf]
  simp only [Op.eqFields, Sem.run_bind, Sem.run_ite]
  simp [part, q9]
theorem ne_67 (a b d : Int) (c : Bool) (w : World) : (binOp .neq 67 (.agg #[.int .u64 a, .int .u64 b, .bool c, .int .u64 d]) (.agg #[.int .u64 a, .int .u64 b, .bool c, .int .u64 d])).run Tryz.prog w = .ok (.bool false) w := by
  rw [run_neq_struct, run_equalIn_agg w 9999 67 _ _ (by kernel_rfl) (by kernel_rfl)]
  have hf : (Tryz.prog.fieldsOf 67).toList = [⟨ "ID", 25, 0, false, "", "", 0⟩, ⟨ "Seq", 25, 1, false, "", "", 8⟩, ⟨ "Here", 4, 2, false, "", "", 16⟩, ⟨ "Offset", 25, 3, false, "", "", 24⟩] := by simp [Program.fieldsOf, Tryz.underlying67]
  rw [hf]
  simp only [Op.eqFields, Sem.run_bind, Sem.run_ite]
  simp [part, q25, q4]
end Go.Proofs.YtkdmbimkanjbhaaGreatDoor.Eng
namespace Go.Proofs.YtkdmbimkanjbhaaGreatDoor.Eng
open Go Go.Proofs
set_option maxRecDepth 100000
attribute [local irreducible] Tr
theorem recorded_ok {S : Stone} {v w : Value} {l : List Rec} (h : Recs S v l) (h' : Recs S w l) (hl : RecOk l) : Con Tryz.prog 16 #[v, w] [] S (Ret (.bool true) S) := by
 obtain ⟨A, cap, rfl, hc, hm, -⟩ := h.shape
 obtain ⟨B, capB, rfl, hcB, hmB, -⟩ := h'.shape
 refine con_of 82 Tryz.func16 rfl rfl rfl (fun w0 => ?_)
 refine sr (sa rfl (nes (sr (mv rfl (yy (y_ln sl_26 rfl) (mv rfl (yy (y_ln sl_26 rfl) (yy (y_ne rfl rfl) (nec rfl (fun g1 => ?_) (fun g1 => ?_))))))))))
 · simp at g1
 · refine c_skip ?_
   refine e_then (c_seq (sr (sa rfl (ne (c_block (c_loopH (τ := Nat) [(10, _), (4, _), (0, _), (1, _)] (fun Ek z0 => (5, i64 z0) :: Ek) (fun z0 => z0 ≤ l.length) (fun z0 => l.length - z0) (0) (Nat.zero_le _) (fun z0 hz0 K0l hr0 => ?_)))))))
   refine c_seq (sr (mv rfl (mv rfl (yy (y_ln sl_26 rfl) (yy (y_lt rfl rfl) (nec rfl (fun g2 => ?_) (fun g2 => ?_)))))))
   · have hil : z0 < l.length := by simpa using g2
     obtain ⟨x, hx⟩ : ∃ r, l[z0]? = some r := ⟨_, List.getElem?_eq_getElem hil⟩
     obtain ⟨p, xv, rfl, hxv, f0, f1, f2, f3, f4, f5⟩ := h.at hx
     obtain ⟨q, yv, rfl, hyv, k0, k1, k2, k3, k4, k5⟩ := h'.at hx
     obtain ⟨hx6, hx256⟩ := hl x (List.mem_of_getElem? hx)
     refine c_skip (e_then (c_seq (c_block (c_seq (dRa [4, 9, 16, 21, 29, 34, 42, 47, 55, 56, 61, 62] (.take 0 (.take 1 (.take 2 (.take 3 (.take 4 (.take 5 (.take 6 (.take 7 (.take 8 (.take 9 (.take 10 (.take 11 (.take 12 (.take 13 (.take 14 (.take 15 (.take 16 (.take 17 (.take 18 (.take 19 (.take 20 (.take 21 (.take 22 (.take 23 (.take 24 (.take 25 (.take 26 (.take 27 (.take 28 (.take 29 (.take 30 (.take 31 (.take 32 (.take 33 (.take 34 (.take 35 (.take 36 (.take 37 (.take 38 (.take 39 (.take 40 (.take 41 (.take 42 (.take 43 (.take 44 (.take 45 (.take 46 (.take 47 (.take 48 (.take 49 (.take 50 (.take 51 (.take 52 (.take 53 (.take 54 (.take 55 (.take 56 (.take 57 (.take 58 (.take 59 (.take 60 (.take 61 (.take 62 (.take 63 (.take 64 .done))))))))))))))))))))))))))))))))))))))))))))))))))))))))))))))))) ?_)))))
     refine em rfl rfl (em rfl rfl (ey rfl (y_iaN sl_26 rfl rfl ao) (ey rfl (y_fa fo_84_0 rfl) (dl rfl (ld_st ld_25 rfl ‹_›) ?_))))
     refine em rfl rfl (em rfl rfl (ey rfl (y_iaN sl_26 rfl rfl ao) (ey rfl (y_fa fo_84_0 rfl) (dl rfl (ld_st ld_25 rfl ‹_›) ?_))))
     refine ey rfl (y_ne rfl rfl) (em rfl rfl (t_known (gd := 28) (v := false) rfl (by simp) (fun hb28 => ?_)))
     refine egy rfl hb28 (y_move rfl) (egy rfl hb28 (y_move rfl) (egy rfl hb28 (y_iaN sl_26 rfl rfl ao) (egy rfl hb28 (y_fa fo_84_1 rfl) (dgl rfl hb28 (ld_st ld_9 rfl ‹_›) ?_))))
     refine egy rfl hb28 (y_move rfl) (egy rfl hb28 (y_move rfl) (egy rfl hb28 (y_iaN sl_26 rfl rfl ao) (egy rfl hb28 (y_fa fo_84_1 rfl) (dgl rfl hb28 (ld_st ld_9 rfl ‹_›) ?_))))
     refine egy rfl hb28 (y_sne rfl rfl) (ey rfl (y_pick_f' rfl hb28 rfl) (em rfl rfl (t_known (gd := 41) (v := false) rfl (by simp) (fun hb41 => ?_))))
     refine egy rfl hb41 (y_move rfl) (egy rfl hb41 (y_move rfl) (egy rfl hb41 (y_iaN sl_26 rfl rfl ao) (egy rfl hb41 (y_fa fo_84_3 rfl) (dgl rfl hb41 (ld_st ld_25 rfl ‹_›) ?_))))
     refine egy rfl hb41 (y_move rfl) (egy rfl hb41 (y_move rfl) (egy rfl hb41 (y_iaN sl_26 rfl rfl ao) (egy rfl hb41 (y_fa fo_84_3 rfl) (dgl rfl hb41 (ld_st ld_25 rfl ‹_›) ?_))))
     refine egy rfl hb41 (y_ne rfl rfl) (ey rfl (y_pick_f' rfl hb41 rfl) (em rfl rfl (t_known (gd := 54) (v := false) rfl (by simp) (fun hb54 => ?_))))
     refine egy rfl hb54 (y_move rfl) (egy rfl hb54 (y_move rfl) (egy rfl hb54 (y_iaN sl_26 rfl rfl ao) (egy rfl hb54 (y_fa fo_84_4 rfl) (dgl rfl hb54 (ld_st ld_25 rfl ‹_›) ?_))))
     refine egy rfl hb54 (y_move rfl) (egy rfl hb54 (y_move rfl) (egy rfl hb54 (y_iaN sl_26 rfl rfl ao) (egy rfl hb54 (y_fa fo_84_4 rfl) (dgl rfl hb54 (ld_st ld_25 rfl ‹_›) ?_))))
     refine egy rfl hb54 (y_ne rfl rfl) (ey rfl (y_pick_f' rfl hb54 rfl) (em rfl rfl (t_known (gd := 67) (v := false) rfl (by simp) (fun hb67 => ?_))))
     refine egy rfl hb67 (y_move rfl) (egy rfl hb67 (y_move rfl) (egy rfl hb67 (y_iaN sl_26 rfl rfl ao) (egy rfl hb67 (y_fa fo_84_2 rfl) (dgl rfl hb67 (ld_st ld_54 rfl ‹_›) ?_))))
     refine dgl rfl hb67 (ld_bs bs_54_9 rfl ‹_› om) ?_
     refine egy rfl hb67 (y_move rfl) (egy rfl hb67 (y_move rfl) (egy rfl hb67 (y_iaN sl_26 rfl rfl ao) (egy rfl hb67 (y_fa fo_84_2 rfl) (dgl rfl hb67 (ld_st ld_54 rfl ‹_›) ?_))))
     refine dgl rfl hb67 (ld_bs bs_54_9 rfl ‹_› om) ?_
     refine egy rfl hb67 (y_sne rfl rfl) (ey rfl (y_pick_f' rfl hb67 rfl) (d_done (e_then (c_cond rfl (fun g3 => ?_) (fun g3 => ?_)))))
     · simp at g3
     · refine c_skip ?_
       exact e_in (e_then (c_region (mv rfl (yy (y_addN (m := 1) rfl rfl om) (sa rfl (ne (t_to (hr0 (z0 + 1) om om))))))))
   · refine c_exit ?_
     exact e_then_exit (e_then_exit (e_in_same (e_then (sr (sa rfl (netr (f_ret0 rfl (rt rfl) rfl rfl)))))))
def cnTake (b : Bk) (k : Nat) : List Cns := (([0, 1].take k).filter b.there).map fun k => ⟨k, b.at_ k⟩
def pdTake (b : Bk) (k : Nat) : List Prd := (([1, 2, 3, 4, 5, 6, 7, 8, 9].take k).filter fun i => decide (0 < b.last i)).map (prdOf b)
theorem cnTake_yes {b : Bk} {k : Nat} (hk : k < 2) (h : b.there k = true) : cnTake b (k + 1) = cnTake b k ++ [⟨k, b.at_ k⟩] := by
 have : k = 0 ∨ k = 1 := by omega
 rcases this with rfl | rfl <;> simp [cnTake, h, List.filter_append, List.filter_cons] <;> split <;> simp
theorem cnTake_no {b : Bk} {k : Nat} (hk : k < 2) (h : b.there k = false) : cnTake b (k + 1) = cnTake b k := by
 have : k = 0 ∨ k = 1 := by omega
 rcases this with rfl | rfl <;> simp [cnTake, h, List.filter_cons]
theorem nine_get {k : Nat} (hk : k < 9) : [1, 2, 3, 4, 5, 6, 7, 8, 9][k]? = some (k + 1) := by
 have : ∀ k, k < 9 → [1, 2, 3, 4, 5, 6, 7, 8, 9][k]? = some (k + 1) := by decide
 exact this k hk
theorem pdTake_yes {b : Bk} {k : Nat} (hk : k < 9) (h : 0 < b.last (k + 1)) : pdTake b (k + 1) = pdTake b k ++ [prdOf b (k + 1)] := by
 unfold pdTake
 rw [List.take_add_one, nine_get hk, Option.toList_some, List.filter_append, List.map_append]
 simp [h]
theorem pdTake_no {b : Bk} {k : Nat} (hk : k < 9) (h : ¬ 0 < b.last (k + 1)) : pdTake b (k + 1) = pdTake b k := by
 unfold pdTake
 rw [List.take_add_one, nine_get hk, Option.toList_some, List.filter_append, List.map_append]
 simp at h
 simp [h]
theorem cnTake_len (b : Bk) (k : Nat) : (cnTake b k).length ≤ 2 := by
 unfold cnTake; rw [List.length_map]
 exact Nat.le_trans (List.length_filter_le _ _) (by rw [List.length_take]; simp; omega)
theorem pdTake_len (b : Bk) (k : Nat) : (pdTake b k).length ≤ 9 := by
 unfold pdTake; rw [List.length_map]
 exact Nat.le_trans (List.length_filter_le _ _) (by rw [List.length_take]; simp; omega)
theorem names_get {k : Nat} (hk : k < 2) : [0, 1][k]? = some k := by
 have : k = 0 ∨ k = 1 := by omega
 rcases this with rfl | rfl <;> rfl
theorem tells_ok {S : Stone} {v w : Value} {b : Bk} (h : BookR S w b) (hp : PartR S v (shOf b)) (ho : BkOk b) (hl : b.l.length ≤ 200) : Con Tryz.prog 6 #[w, v] [] S (RetR fun u _ => u = .bool true) := by
 obtain ⟨rv, rfl, hr⟩ := h
 obtain ⟨A, a, rfl, ha1, ha2, -⟩ := hr.shape
 obtain ⟨A1, a1, B1, b1, D1, d1, rfl, hr1, hp1, hc1⟩ := hp.ex
 have hrok := ho.recOk
 refine con_of 147 Tryz.func6 rfl rfl rfl (fun w0 => ?_)
 refine sr (bx rfl rfl (fun b2 => bx rfl rfl (fun b3 => sa rfl (nes (sr (yy (y_far fo_30_0 rfl) (yy (y_far fo_24_0 rfl) (ll (lb ld_9) ?_))))))))
 refine yy (y_far fo_40_0 rfl) (ll (lb ld_9) ?_)
 refine yy (y_sne rfl rfl) (mv rfl (t_known (gd := 19) (v := false) rfl (by simp [shOf]) (fun hb19 => ?_)))
 refine qy hb19 (y_far fo_30_0 rfl) (qy hb19 (y_far fo_24_1 rfl) (gl hb19 (lb ld_9) ?_))
 refine qy hb19 (y_far fo_40_1 rfl) (gl hb19 (lb ld_9) ?_)
 refine qy hb19 (y_sne rfl rfl) (yy (y_pick_f' rfl hb19 rfl) (mv rfl (t_known (gd := 27) (v := false) rfl (by simp [shOf]) (fun hb27 => ?_))))
 refine qy hb27 (y_far fo_30_1 rfl) (gl hb27 (lb ld_25) ?_)
 refine qy hb27 (y_far fo_40_2 rfl) (gl hb27 (lb ld_25) ?_)
 refine qy hb27 (y_ne rfl rfl) (yy (y_pick_f' rfl hb27 rfl) (mv rfl (t_known (gd := 34) (v := false) rfl (by simp [shOf]) (fun hb34 => ?_))))
 refine qy hb34 (y_far fo_30_2 rfl) (gl hb34 (lb ld_25) ?_)
 refine qy hb34 (y_far fo_40_3 rfl) (gl hb34 (lb ld_25) ?_)
 refine qy hb34 (y_ne rfl rfl) (yy (y_pick_f' rfl hb34 rfl) (mv rfl (t_known (gd := 41) (v := false) rfl (by simp [shOf]) (fun hb41 => ?_))))
 refine qy hb41 (y_far fo_30_3 rfl) (gl hb41 (lb ld_26) ?_)
 refine qy hb41 (y_far fo_40_4 rfl) (gl hb41 (lb ld_26) ?_)
 refine gw hb41 (t_callr' rfl (recorded_ok hr1 hr hrok) en_16 (qy hb41 (y_not rfl) (yy (y_pick_f' rfl hb41 rfl) (nec rfl (fun g1 => ?_) (fun g1 => ?_)))))
 · simp at g1
 · refine c_skip ?_
   refine e_then (sr (sa rfl (nes (sr (t_nilrow 65 2 ?_)))))
   refine sa rfl (ne (c_block (c_loopE (τ := Nat × Value × List Value × Stone) [(48, _), (4, _), (3, _), (2, _)] (fun Ek z0 => (6, i64 z0.1) :: (5, z0.2.1) :: Ek) (fun z0 => [.row z0.2.1 65 2 (cnTake b z0.1).length z0.2.2.1, .blk b2 (.cells (b.cells (.slice A b.l.length a)).toArray 40 (0, 0)), .blk b3 (.cells ((shOf b).cells (.slice A1 (shOf b).l.length a1) (.slice B1 (shOf b).p.length b1) (.slice D1 (shOf b).c.length d1)).toArray 30 (0, 0))]) (fun z0 => z0.2.2.2) (fun z0 => z0.1 ≤ 2 ∧ Stone.le S z0.2.2.2 ∧ Flat z0.2.2.2 2 cnsC z0.2.2.1 (cnTake b z0.1) ∧ z0.2.1.oneCell' = true) (fun z0 => 2 - z0.1) ((0, .slice none 0 0, [], S)) (⟨Nat.zero_le _, Stone.le.refl _, Flat.nil, rfl⟩) (fun z0 hz0 K0l hr0 => ?_))))
   obtain ⟨k, rw, xs, S1⟩ := z0
   obtain ⟨hk, hle, hf, hone⟩ := hz0
   simp only at hk hle hf hone
   dsimp only
   have hcl := cnTake_len b k
   refine c_seq (sr (mv rfl (yy (y_lt rfl rfl) (nec rfl (fun g2 => ?_) (fun g2 => ?_)))))
   · have hk2 : k < 2 := by simp at g2; omega
     refine c_skip (e_then (c_seq (c_block (sr (mv rfl (yy (y_far fo_40_6 rfl) (yy (y_iaaN ar_37 rfl rfl ao) (ll (lb ld_4 (hc := book_there hk2)) ?_))))))))
     refine nec rfl (fun g3 => ?_) (fun g3 => ?_)
     · have hth : b.there k = true := g3
       refine dR ([.blk b2 (.cells (b.cells (.slice A b.l.length a)).toArray 40 (0, 0))]) [8] (.take 0 (.take 2 (.take 5 (.take 6 (.take 7 (.take 8 (.alt 1 (.take 3 (.alt 4 (.take 9 (.alt 10 (.alt 11 (.take 12 .done) .stop) .stop)) .stop)) .stop))))))) ?_
       refine em rfl rfl (em rfl rfl (em rfl rfl (ey rfl (y_far fo_40_7 rfl) (ey rfl (y_iaaN ar_38 rfl rfl ao) (dl rfl (lb ld_25 (hc := book_at hk2)) ?_)))))
       refine da rfl (t_callR rfl (names_ok) en_10 ?_)
       rintro v58 S58 le58 h58
       obtain ⟨A10, cap10, rfl, -, -, h4'⟩ := h58
       obtain ⟨p10, cs10, rfl, rfl, -, hcell⟩ := h4' k k (names_get hk2)
       have hc0 := hcell 0 _ rfl
       rw [show (p10.add (k * 1)).add 0 = p10.add (k * 1) by simp [Addr.add]] at hc0
       refine dA le58 (ey rfl (y_iaN sl_52 rfl rfl (by simp; omega)) ?_)
       refine da rfl (t_ld (ld_st ld_9 rfl hc0) rfl (lt_n rfl) ?_)
       refine dA le58 (ey rfl (y_build pl_65 zc_65 rfl rfl) (da rfl (t_bs1 ap_28 zc_65 rfl rfl rfl rfl rfl (fun b67 => ?_))))
       refine dA le58 (da rfl (aR ap_28 (fun va68 ho68 => ?_)))
       refine dA le58 (ea rfl rfl (d_done (e_in (e_then (c_region (mv rfl (yy (y_addN (m := 1) rfl rfl om) (sa rfl (ne (t_eqn (cnTake b (k + 1)).length pk (by rw [cnTake_yes hk2 hth, List.length_append]; rfl) ?_))))))))))
       exact t_to (hr0 (k + 1, va68, xs ++ Cns.cells ⟨k, b.at_ k⟩, S58) ⟨hk2, hle.trans le58, by simp only; rw [cnTake_yes hk2 hth]; exact (hf.mono fun _ _ h => h).snoc rfl rfl, ho68⟩ (by simp only; omega))
     · have hth : b.there k = false := g3
       refine c_skip (e_in (e_then (c_region (mv rfl (yy (y_addN (m := 1) rfl rfl om) (sa rfl (ne (t_eqn (cnTake b (k + 1)).length pk (by rw [cnTake_no hk2 hth]) ?_))))))))
       exact t_to (hr0 (k + 1, rw, xs, S1) ⟨hk2, hle, by simp only; rw [cnTake_no hk2 hth]; exact hf, hone⟩ (by simp only; omega))
   · have hke : k = 2 := by simp at g2; omega
     subst hke
     refine t_pub (C := cnsC) (l := cnssOf b) pk (fun S' hle => hf.mono fun _ _ h => h) rfl (fun S2 le2 hcs2 => ?_)
     obtain ⟨AC, ac, rfl, -⟩ := hcs2.shape
     have hr2 := hr.mono (hle.trans le2)
     refine c_exit ?_
     refine e_then_exit (e_then_exit (e_in_same (e_then (sr (sa rfl (nes (sr (t_nilrow 67 4 ?_))))))))
     refine sa rfl (ne (c_block (c_loopE (τ := Nat × Value × List Value) [(50, _), (5, _), (48, _), (4, _), (3, _), (2, _)] (fun Ek z1 => (8, u64 (z1.1 + 1)) :: (7, z1.2.1) :: Ek) (fun z1 => [.row z1.2.1 67 4 (pdTake b z1.1).length z1.2.2, .blk b2 (.cells (b.cells (.slice A b.l.length a)).toArray 40 (0, 0)), .blk b3 (.cells ((shOf b).cells (.slice A1 (shOf b).l.length a1) (.slice B1 (shOf b).p.length b1) (.slice D1 (shOf b).c.length d1)).toArray 30 (0, 0))]) (fun z1 => S2) (fun z1 => z1.1 ≤ 9 ∧ Flat S2 4 prdC z1.2.2 (pdTake b z1.1) ∧ z1.2.1.oneCell' = true) (fun z1 => 9 - z1.1) ((0, .slice none 0 0, [])) (⟨Nat.zero_le _, Flat.nil, rfl⟩) (fun z1 hz1 K1l hr1 => ?_))))
     obtain ⟨k, rw, xs⟩ := z1
     obtain ⟨hk, hf, hone⟩ := hz1
     simp only at hk hf hone
     dsimp only
     have hpl := pdTake_len b k
     refine c_seq (sr (mv rfl (yy (y_lt rfl rfl) (nec rfl (fun g4 => ?_) (fun g4 => ?_)))))
     · have hk9 : k < 9 := by simp at g4; omega
       have hk10 : k + 1 < 10 := by omega
       refine c_skip (e_then (c_seq (c_block (sr (mv rfl (yy (y_far fo_40_5 rfl) (yy (y_iaaN ar_36 rfl rfl ao) (ll (lb ld_25 (hc := book_last hk10)) ?_))))))))
       refine yy (y_gt rfl rfl) (nec rfl (fun g5 => ?_) (fun g5 => ?_))
       · have hpos : 0 < b.last (k + 1) := by simpa using g5
         refine sr (mv rfl (mv rfl (yy (y_far fo_40_5 rfl) (yy (y_iaaN ar_36 rfl rfl ao) (ll (lb ld_25 (hc := book_last hk10)) ?_)))))
         refine yy (y_build pl_67 zc_67 rfl rfl) (al zc_67 (fun b9 => lw (sw sz_67 (nes (dRa [0, 5] (.take 0 (.take 1 (.take 2 (.take 3 (.take 4 (.take 5 (.alt 6 (.take 7 .done) .stop))))))) ?_)))))
         refine dl rfl (lbw ld_40) ?_
         refine em rfl rfl (em rfl rfl (ey rfl (y_far fo_40_5 rfl) (ey rfl (y_iaaN ar_36 rfl rfl ao) (dl rfl (lb ld_25 (hc := book_last hk10)) ?_))))
         refine da rfl (t_callr' rfl (stands_ok hr2 om) en_17 ?_)
         refine dA (Stone.le.refl _) (ea rfl rfl (d_done (e_then (c_seq (sr (mv rfl (yy (y_ge rfl rfl) (nec rfl (fun g6 => ?_) (fun g6 => ?_)))))))))
         · have hany : b.l.any (isRec (k + 1) (b.last (k + 1))) = true := by rw [← indexOf_ge]; simpa using g6
           have hpd : prdOf b (k + 1) = ⟨k + 1, b.last (k + 1), true, b.l.findIdx (isRec (k + 1) (b.last (k + 1)))⟩ := by unfold prdOf; rw [if_pos hany]
           have hlt := List.findIdx_le_length (p := isRec (k + 1) (b.last (k + 1))) (xs := b.l)
           refine sr (yy (y_far fo_67_2 rfl) (lw (s1 sz_4 (ner (yy (y_move (v := i64 (b.l.findIdx (isRec (k + 1) (b.last (k + 1))))) (congrArg some (congrArg (Value.int .i64) (indexOf_any hany)))) ?_)))))
           refine yy (y_cvu cv_3_25 rfl om) (yy (y_far fo_67_3 rfl) (lw (s1 sz_25 (l_nil ?_))))
           refine e_then (c_region (mv rfl (ll (lbw ld_67) ?_)))
           refine lw (t_bs1 ap_27 zc_67 rfl rfl rfl rfl rfl (fun b99 => lw (aR ap_27 (fun va100 ho100 => sa rfl (l_nil (e_in (e_then (c_region ?_))))))))
           refine mv rfl (yy (y_addU (m := 1) rfl rfl om) (sa rfl (ne (t_eqn (pdTake b (k + 1)).length pk (by rw [pdTake_yes hk9 hpos, List.length_append]; rfl) ?_))))
           exact t_to (hr1 (k + 1, va100, xs ++ (prdOf b (k + 1)).cells, ) ⟨hk9, by simp only; rw [pdTake_yes hk9 hpos]; exact hf.snoc rfl rfl, ho100⟩ (by simp only; omega)) (hs := by rw [hpd]; exact Sel.cons pk (Sel.cons pk (Sel.cons pk Sel.nil)))
         · have hany : ¬ b.l.any (isRec (k + 1) (b.last (k + 1))) = true := by rw [← indexOf_ge]; simpa using g6
           have hpd : prdOf b (k + 1) = ⟨k + 1, b.last (k + 1), false, 0⟩ := by unfold prdOf; rw [if_neg hany]
           refine c_skip (e_then (c_region (mv rfl (ll (lbw ld_67) ?_))))
           refine lw (t_bs1 ap_27 zc_67 rfl rfl rfl rfl rfl (fun b99 => lw (aR ap_27 (fun va100 ho100 => sa rfl (l_nil (e_in (e_then (c_region ?_))))))))
           refine mv rfl (yy (y_addU (m := 1) rfl rfl om) (sa rfl (ne (t_eqn (pdTake b (k + 1)).length pk (by rw [pdTake_yes hk9 hpos, List.length_append]; rfl) ?_))))
           exact t_to (hr1 (k + 1, va100, xs ++ (prdOf b (k + 1)).cells, ) ⟨hk9, by simp only; rw [pdTake_yes hk9 hpos]; exact hf.snoc rfl rfl, ho100⟩ (by simp only; omega)) (hs := by rw [hpd]; exact Sel.cons pk (Sel.cons pk (Sel.cons pk Sel.nil)))
       · have hpos : ¬ 0 < b.last (k + 1) := by simpa using g5
         refine c_skip (e_in (e_then (c_region (mv rfl (yy (y_addU (m := 1) rfl rfl om) (sa rfl (ne (t_eqn (pdTake b (k + 1)).length pk (by rw [pdTake_no hk9 hpos]) ?_))))))))
         exact t_to (hr1 (k + 1, rw, xs) ⟨hk9, by simp only; rw [pdTake_no hk9 hpos]; exact hf, hone⟩ (by simp only; omega))
     · have hke : k = 9 := by simp at g4; omega
       subst hke
       refine t_pub (C := prdC) (l := prdsOf b) pk (fun S' hle => hf.mono fun _ _ h => h) rfl (fun S3 le3 hps3 => ?_)
       obtain ⟨AP, ap, rfl, -⟩ := hps3.shape
       have hcs3 := Cnss.mono hcs2 le3
       have hc3 := hc1.mono ((hle.trans le2).trans le3)
       have hp3 := hp1.mono ((hle.trans le2).trans le3)
       have hn1 : (shOf b).c.length = (cnssOf b).length := rfl
       have hn2 : (shOf b).p.length = (prdsOf b).length := rfl
       have hcl := len_cnssOf b
       have hpl := len_prdsOf b
       refine c_exit ?_
       refine e_then_exit (e_then_exit (e_in_same (e_then (c_seq (sr (mv rfl (yy (y_ln sl_28 rfl) (yy (y_far fo_30_5 rfl) (ll (lb ld_28) ?_)))))))))
       refine yy (y_ln sl_28 rfl) (yy (y_ne rfl rfl) (mv rfl (t_known (gd := 107) (v := false) rfl (by rw [hn1]; simp) (fun hb107 => ?_))))
       refine qy hb107 (y_move rfl) (qy hb107 (y_ln sl_27 rfl) (qy hb107 (y_far fo_30_4 rfl) (gl hb107 (lb ld_27) ?_)))
       refine qy hb107 (y_ln sl_27 rfl) (qy hb107 (y_ne rfl rfl) (yy (y_pick_f' rfl hb107 rfl) (nec rfl (fun g7 => ?_) (fun g7 => ?_))))
       · rw [hn2] at g7; simp at g7
       · refine c_skip ?_
         refine e_then (c_seq (sr (sa rfl (ne (c_block (c_loopH (τ := Nat) [(114, _), (70, _), (7, _), (50, _), (5, _), (48, _), (4, _), (3, _)] (fun Ek z2 => (11, i64 z2) :: Ek) (fun z2 => z2 ≤ (cnssOf b).length) (fun z2 => (cnssOf b).length - z2) (0) (Nat.zero_le _) (fun z2 hz2 K2l hr2 => ?_)))))))
         refine c_seq (sr (mv rfl (mv rfl (yy (y_ln sl_28 rfl) (yy (y_lt rfl rfl) (nec rfl (fun g8 => ?_) (fun g8 => ?_)))))))
         · have hil : z2 < (cnssOf b).length := by simpa using g8
           obtain ⟨x, hx⟩ : ∃ r, (cnssOf b)[z2]? = some r := ⟨_, List.getElem?_eq_getElem hil⟩
           obtain ⟨p, rfl, f0, f1, f5⟩ := Cnss.at hcs3 hx
           obtain ⟨q, rfl, k0, k1, k5⟩ := Cnss.at hc3 hx
           refine c_skip (e_then (c_seq (c_block (c_seq (dRa [3, 5, 8] (.take 0 (.take 1 (.take 2 (.take 3 (.take 4 (.take 5 (.take 6 (.take 7 (.take 8 (.take 9 .done)))))))))) ?_)))))
           refine em rfl rfl (em rfl rfl (ey rfl (y_iaN sl_28 rfl rfl ao) (dl rfl (ltm ld_65 rfl ‹_›) ?_)))
           refine ey rfl (y_far fo_30_5 rfl) (dl rfl (lb ld_28) ?_)
           refine em rfl rfl (ey rfl (y_iaN sl_28 rfl rfl ao) (dl rfl (ltm ld_65 rfl ‹_›) ?_))
           exact ey rfl (y_stne rfl rfl eg_65 (ne_65 _ _)) (d_done (e_then (c_false rfl (c_skip (e_in (e_then (c_region (mv rfl (yy (y_addN (m := 1) rfl rfl om) (sa rfl (ne (t_to (hr2 (z2 + 1) om om)))))))))))))
         · refine c_exit ?_
           refine e_then_exit (e_then_exit (e_in_same (e_then (c_seq (sr (sa rfl (ne (c_block (c_loopH (τ := Nat) [(118, _), (114, _), (70, _), (7, _), (50, _), (48, _), (4, _), (3, _)] (fun Ek z3 => (12, i64 z3) :: Ek) (fun z3 => z3 ≤ (prdsOf b).length) (fun z3 => (prdsOf b).length - z3) (0) (Nat.zero_le _) (fun z3 hz3 K3l hr3 => ?_))))))))))
           refine c_seq (sr (mv rfl (mv rfl (yy (y_ln sl_27 rfl) (yy (y_lt rfl rfl) (nec rfl (fun g10 => ?_) (fun g10 => ?_)))))))
           · have hil : z3 < (prdsOf b).length := by simpa using g10
             obtain ⟨x, hx⟩ : ∃ r, (prdsOf b)[z3]? = some r := ⟨_, List.getElem?_eq_getElem hil⟩
             obtain ⟨p, rfl, f0, f1, f2, f3, f5⟩ := Prds.at hps3 hx
             obtain ⟨q, rfl, k0, k1, k2, k3, k5⟩ := Prds.at hp3 hx
             refine c_skip (e_then (c_seq (c_block (c_seq (dRa [3, 5, 8] (.take 0 (.take 1 (.take 2 (.take 3 (.take 4 (.take 5 (.take 6 (.take 7 (.take 8 (.take 9 .done)))))))))) ?_)))))
             refine em rfl rfl (em rfl rfl (ey rfl (y_iaN sl_27 rfl rfl ao) (dl rfl (ltm ld_67 rfl ‹_›) ?_)))
             refine ey rfl (y_far fo_30_4 rfl) (dl rfl (lb ld_27) ?_)
             refine em rfl rfl (ey rfl (y_iaN sl_27 rfl rfl ao) (dl rfl (ltm ld_67 rfl ‹_›) ?_))
             exact ey rfl (y_stne rfl rfl eg_67 (ne_67 _ _ _ _)) (d_done (e_then (c_false rfl (c_skip (e_in (e_then (c_region (mv rfl (yy (y_addN (m := 1) rfl rfl om) (sa rfl (ne (t_to (hr3 (z3 + 1) om om)))))))))))))
           · refine c_exit ?_
             exact e_then_exit (e_then_exit (e_in_same (e_then (sr (sa rfl (netr (f_retR rfl (rt rfl) rfl)))))))
end Go.Proofs.YtkdmbimkanjbhaaGreatDoor.Eng
namespace Go.Proofs.YtkdmbimkanjbhaaGreatDoor.Eng
open Go Go.Proofs
set_option maxRecDepth 100000
attribute [local irreducible] Tr
/-- A book's part. -/
def halfB (b : Bk) (lo hi : Nat) : Bk := ⟨lo, hi, b.epoch + 1, 0, renum (b.l.filter (inR lo hi)), b.last, b.there, fun k => ((b.l.take (b.at_ k)).filter (inR lo hi)).length⟩
def cnt (b : Bk) (lo hi i k : Nat) : Nat := ((b.l.take (min i (b.at_ k))).filter (inR lo hi)).length
def xBk (b : Bk) (lo hi i : Nat) : Bk := ⟨lo, hi, b.epoch + 1, 0, [], b.last, b.there, fun k => cnt b lo hi i k⟩
def yBk (b : Bk) (lo hi i k : Nat) : Bk := ⟨lo, hi, b.epoch + 1, 0, [], b.last, b.there, fun j => if j < k then cnt b lo hi (i + 1) j else cnt b lo hi i j⟩
theorem cnt_no {b : Bk} {lo hi i k : Nat} {r : Rec} (hr : b.l[i]? = some r) (h : inR lo hi r = false) : cnt b lo hi (i + 1) k = cnt b lo hi i k := by
 unfold cnt
 rcases Nat.lt_or_ge i (b.at_ k) with h1 | h1
 · rw [Nat.min_eq_left om, Nat.min_eq_left om, List.take_add_one, hr, List.filter_append]
   simp [h]
 · rw [Nat.min_eq_right om, Nat.min_eq_right om]
theorem cnt_yes {b : Bk} {lo hi i k : Nat} {r : Rec} (hr : b.l[i]? = some r) (h : inR lo hi r = true) (h1 : i < b.at_ k) : cnt b lo hi (i + 1) k = cnt b lo hi i k + 1 := by
 unfold cnt
 rw [Nat.min_eq_left om, Nat.min_eq_left om, List.take_add_one, hr, List.filter_append]
 simp [h]
theorem cnt_far {b : Bk} {lo hi i k : Nat} (h1 : ¬ i < b.at_ k) : cnt b lo hi (i + 1) k = cnt b lo hi i k := by
 unfold cnt
 rw [Nat.min_eq_right om, Nat.min_eq_right om]
theorem cnt_le {b : Bk} {lo hi i k : Nat} : cnt b lo hi i k ≤ b.l.length := by
 unfold cnt
 exact Nat.le_trans (List.length_filter_le _ _) (by rw [List.length_take]; omega)
theorem xBk_no {b : Bk} {lo hi i : Nat} {r : Rec} (hr : b.l[i]? = some r) (h : inR lo hi r = false) : xBk b lo hi (i + 1) = xBk b lo hi i := by
 unfold xBk
 congr 1
 funext k
 exact cnt_no hr h
theorem yBk_set {b : Bk} {lo hi i k : Nat} {r : Rec} {rv : Value} (hr : b.l[i]? = some r) (h : inR lo hi r = true) (h1 : i < b.at_ k) (hk : k < 2) : ((yBk b lo hi i k).cells rv).set (0 + 17 + k * 1) (u64 (cnt b lo hi i k + 1)) = (yBk b lo hi i (k + 1)).cells rv := by
 rw [book_setAt hk]
 congr 1
 unfold yBk
 congr 1
 funext j
 simp only [setF]
 by_cases e : j = k
 · subst e; rw [if_pos rfl, if_pos om, cnt_yes hr h h1]
 · rw [if_neg e]
   by_cases e2 : j < k
   · rw [if_pos e2, if_pos om]
   · rw [if_neg e2, if_neg om]
theorem yBk_keep {b : Bk} {lo hi i k : Nat} (h1 : ¬ i < b.at_ k) : yBk b lo hi i (k + 1) = yBk b lo hi i k := by
 unfold yBk
 congr 1
 funext j
 by_cases e : j = k
 · subst e; rw [if_pos om, if_neg om, cnt_far h1]
 · by_cases e2 : j < k
   · rw [if_pos om, if_pos e2]
   · rw [if_neg om, if_neg e2]
theorem xBk_end {b : Bk} (ho : BkOk b) {lo hi : Nat} {rv : Value} : (xBk b lo hi b.l.length).cells rv = (halfB b lo hi).cells rv := by
 have key : ∀ k, cnt b lo hi b.l.length k = ((b.l.take (b.at_ k)).filter (inR lo hi)).length := fun k => by unfold cnt; rw [Nat.min_eq_right (ho.at_ k)]
 simp only [Bk.cells, xBk, halfB, key]
theorem half_ok {S : Stone} {v : Value} {b : Bk} {lo hi : Nat} (h : BookR S v b) (ho : BkOk b) (hl : b.l.length ≤ 200) (he : b.epoch ≤ 1000000) (h1 : lo < 6) (h2 : lo < hi) (h3 : hi ≤ 6) :
 Con Tryz.prog 20 #[v, .string (ky lo), .string (kh hi)] [] S (RetR fun u S' => BookR S' u (halfB b lo hi)) := by
 obtain ⟨rv, rfl, hr⟩ := h
 obtain ⟨A, a, rfl, ha1, ha2, -⟩ := hr.shape
 refine con_of 68 Tryz.func20 rfl rfl rfl (fun w0 => ?_)
 refine sr (bx rfl rfl (fun b3 => al zc_40 (fun b6 => nesr (mv rfl (mv rfl (yy (y_far fo_40_2 rfl) (ll (lb ld_25) ?_)))))))
 refine yy (y_addU (m := 1) rfl rfl om) (yy (y_far fo_40_5 rfl) (ll (lbs ld_36) ?_))
 refine yy (y_far fo_40_6 rfl) (ll (lbs ld_37) ?_)
 refine yy (y_build pl_40 zc_40 rfl rfl) (al zc_40 (fun b7 => lw (sw sz_40 (nes (sr (t_nilrow 84 5 ?_))))))
 refine sa rfl (ne (c_block (c_loopE (τ := Nat × Value × List Value) [(7, _), (6, _), (3, _)] (fun Ek z0 => (8, i64 z0.1) :: Ek) (fun z0 => [.row z0.2.1 84 5 ((b.l.take z0.1).filter (inR lo hi)).length z0.2.2, .blk b7 (.cells ((xBk b lo hi z0.1).cells z0.2.1).toArray 40 (0, 0)), .blk b3 (.cells (b.cells (.slice A b.l.length a)).toArray 40 (0, 0)), .blk b6 (.cells [.string ⟨#[]⟩, .string ⟨#[]⟩, .int .u64 0, .int .u64 0, .slice none 0 0, .int .u64 0, .int .u64 0, .int .u64 0, .int .u64 0, .int .u64 0, .int .u64 0, .int .u64 0, .int .u64 0, .int .u64 0, .int .u64 0, .bool false, .bool false, .int .u64 0, .int .u64 0].toArray 40 (0, 0))]) (fun z0 => S) (fun z0 => z0.1 ≤ b.l.length ∧ Flat S 5 recC z0.2.2 ((b.l.take z0.1).filter (inR lo hi)) ∧ z0.2.1.oneCell' = true) (fun z0 => b.l.length - z0.1) ((0, .slice none 0 0, [])) (⟨Nat.zero_le _, Flat.nil, rfl⟩) (fun z0 hz0 K0l hr0 => ?_))))
 obtain ⟨i, v, xs⟩ := z0
 obtain ⟨hi', hf, hone⟩ := hz0
 simp only at hi' hf hone
 dsimp only
 have hfl : ((b.l.take i).filter (inR lo hi)).length ≤ 200 := by have := List.length_filter_le (inR lo hi) (b.l.take i); rw [List.length_take] at this; omega
 refine c_seq (sr (mv rfl (yy (y_far fo_40_4 rfl) (ll (lb ld_26) ?_))))
 refine yy (y_ln sl_26 rfl) (yy (y_lt rfl rfl) (nec rfl (fun g1 => ?_) (fun g1 => ?_)))
 · have hil : i < b.l.length := by simpa using g1
   obtain ⟨r, hr'⟩ : ∃ r, b.l[i]? = some r := ⟨_, List.getElem?_eq_getElem hil⟩
   obtain ⟨p, bv, rfl, hb, f0, f1, f2, f3, f4, f5⟩ := hr.at hr'
   obtain ⟨pb, cb, rfl, -⟩ := id hb
   have hkr := (ho.key r (List.mem_of_getElem? hr')).1
   have hcn0 := cnt_le (b := b) (lo := lo) (hi := hi) (i := i) (k := 0)
   have hcn1 := cnt_le (b := b) (lo := lo) (hi := hi) (i := i) (k := 1)
   refine c_skip (e_then (c_seq (c_block (c_seq (dR ([.blk b7 (.cells ((xBk b lo hi i).cells v).toArray 40 (0, 0)), .blk b3 (.cells (b.cells (.slice (some p) b.l.length a)).toArray 40 (0, 0))]) [0, 2, 6] (.take 0 (.take 1 (.take 2 (.take 3 (.take 4 (.take 5 (.take 6 (.alt 7 .done .stop)))))))) ?_)))))
   refine dl rfl (lbw ld_40) ?_
   refine ey rfl (y_far fo_40_4 rfl) (dl rfl (lb ld_26) ?_)
   refine em rfl rfl (ey rfl (y_iaN sl_26 rfl rfl ao) (ey rfl (y_fa fo_84_1 rfl) (dl rfl (ld_st ld_9 rfl ‹_›) ?_)))
   refine da rfl (t_callr' rfl (within_ok (b := xBk b lo hi i) h1 h2 h3 hkr) en_18 ?_)
   refine dA (Stone.le.refl _) (d_done (e_then (c_cond rfl (fun g2 => ?_) (fun g2 => ?_))))
   · have hin : inR lo hi r = true := g2
     have hfn : (b.l.take (i + 1)).filter (inR lo hi) = (b.l.take i).filter (inR lo hi) ++ [r] := by rw [List.take_add_one, hr', List.filter_append]; simp [hin]
     refine c_seq (dR ([.blk b7 (.cells ((xBk b lo hi i).cells v).toArray 40 (0, 0)), .blk b3 (.cells (b.cells (.slice (some p) b.l.length a)).toArray 40 (0, 0))]) [1, 3, 6] (.take 0 (.take 1 (.take 2 (.take 3 (.take 4 (.take 5 (.take 6 (.alt 7 (.alt 8 (.take 9 (.alt 10 .done .stop)) .stop) .stop)))))))) ?_)
     refine ey rfl (y_far fo_40_4 rfl) (dl rfl (lb ld_26) ?_)
     refine ey rfl (y_far fo_40_4 rfl) (dl rfl (lb ld_26) ?_)
     refine em rfl rfl (ey rfl (y_iaN sl_26 rfl rfl ao) (dl rfl (ltm ld_84 rfl ‹_›) ?_))
     refine da rfl (t_bs1 ap_26 zc_84 rfl rfl rfl rfl rfl (fun b42 => ?_))
     refine dA (Stone.le.refl _) (da rfl (aR ap_26 (fun va43 ho43 => ?_)))
     refine dA (Stone.le.refl _) (ey rfl (y_far fo_40_4 rfl) (da rfl (t_st1' sz_26 rfl rfl ho43 pk rfl ?_)))
     refine t_eqblk (b := b7) (cs' := (yBk b lo hi i 0).cells va43) Pick.hd rfl ?_
     refine dA (Stone.le.refl _) (d_done (e_then (sr (sa rfl (ne (c_block (c_loopE (τ := Nat) [(34, _), (24, _), (8, _), (7, _), (6, _), (3, _)] (fun Ek z1 => (9, i64 z1) :: Ek) (fun z1 => [.blk b7 (.cells ((yBk b lo hi i z1).cells va43).toArray 40 (0, 0)), .row va43 84 5 (((b.l.take i).filter (inR lo hi)).length + 1) (xs ++ r.cells (.slice (some pb) 1 cb)), .blk b3 (.cells (b.cells (.slice (some p) b.l.length a)).toArray 40 (0, 0)), .blk b6 (.cells [.string ⟨#[]⟩, .string ⟨#[]⟩, .int .u64 0, .int .u64 0, .slice none 0 0, .int .u64 0, .int .u64 0, .int .u64 0, .int .u64 0, .int .u64 0, .int .u64 0, .int .u64 0, .int .u64 0, .int .u64 0, .int .u64 0, .bool false, .bool false, .int .u64 0, .int .u64 0].toArray 40 (0, 0))]) (fun z1 => S) (fun z1 => z1 ≤ 2) (fun z1 => 2 - z1) (0) (Nat.zero_le _) (fun z1 hz1 K1l hr1 => ?_))))))))
     refine c_seq (sr (mv rfl (yy (y_lt rfl rfl) (nec rfl (fun g3 => ?_) (fun g3 => ?_)))))
     · have hk2 : z1 < 2 := by simp at g3; omega
       have hcn := cnt_le (b := b) (lo := lo) (hi := hi) (i := i) (k := z1)
       have hat : ((yBk b lo hi i z1).cells va43)[0 + 17 + z1 * 1]? = some (u64 (cnt b lo hi i z1)) := by rw [book_at hk2]; simp [yBk]
       refine c_skip (e_then (c_seq (c_block (sr (mv rfl (yy (y_cvu cv_3_25 rfl om) (mv rfl (yy (y_far fo_40_7 rfl) (yy (y_iaaN ar_38 rfl rfl ao) (ll (lb ld_25 (hc := book_at hk2)) ?_))))))))))
       refine yy (y_lt rfl rfl) (nec rfl (fun g4 => ?_) (fun g4 => ?_))
       · have hlt : i < b.at_ z1 := by simp at g4; omega
         refine c_region (mv rfl (yy (y_far fo_40_7 rfl) (yy (y_iaaN ar_38 rfl rfl ao) (ll (lb ld_25 (hc := hat)) ?_))))
         refine yy (y_addU (m := 1) rfl rfl om) (yy (y_far fo_40_7 rfl) (yy (y_iaaN ar_38 rfl rfl ao) (lw (t_st1' sz_25 rfl rfl rfl pk (by rw [book_len]; exact blt_of om) ?_))))
         refine t_eqblk (b := b7) (cs' := (yBk b lo hi i (z1 + 1)).cells va43) Pick.hd (yBk_set hr' hin hlt hk2) ?_
         exact l_nil (e_in (e_then (c_region (mv rfl (yy (y_addN (m := 1) rfl rfl om) (sa rfl (ne (t_to (hr1 (z1 + 1) om om)))))))))
       · have hlt : ¬ i < b.at_ z1 := by simp at g4; omega
         refine c_skip (e_in (e_then (c_region (mv rfl (yy (y_addN (m := 1) rfl rfl om) (sa rfl (ne (t_eqblk (b := b7) (cs' := (yBk b lo hi i (z1 + 1)).cells va43) pk (by rw [yBk_keep hlt]) ?_))))))))
         exact t_to (hr1 (z1 + 1) om om)
     · refine c_exit ?_
       refine e_then_exit (e_then_exit (e_in_same (e_in (e_then (c_region (mv rfl (yy (y_addN (m := 1) rfl rfl om) (sa rfl (ne ?_)))))))))
       have hk2 : z1 = 2 := by simp at g3; omega
       subst hk2
       refine t_eqn ((b.l.take (i + 1)).filter (inR lo hi)).length pk (by rw [hfn, List.length_append]; rfl) ?_
       refine t_eqblk (b := b7) (cs' := (xBk b lo hi (i + 1)).cells va43) pk rfl ?_
       exact t_to (hr0 (i + 1, va43, xs ++ r.cells (.slice (some pb) 1 cb)) ⟨hil, by simp only; rw [hfn]; exact hf.snoc ⟨_, rfl, hb⟩ rfl, ho43⟩ (by simp only; omega))
   · have hin : inR lo hi r = false := g2
     have hfn : (b.l.take (i + 1)).filter (inR lo hi) = (b.l.take i).filter (inR lo hi) := by rw [List.take_add_one, hr', List.filter_append]; simp [hin]
     refine c_skip (e_in (e_then (c_region (mv rfl (yy (y_addN (m := 1) rfl rfl om) (sa rfl (ne (t_eqn ((b.l.take (i + 1)).filter (inR lo hi)).length pk (by rw [hfn]) ?_))))))))
     refine t_eqblk (b := b7) (cs' := (xBk b lo hi (i + 1)).cells v) pk (by rw [xBk_no hr' hin]) ?_
     exact t_to (hr0 (i + 1, v, xs) ⟨hil, by simp only; rw [hfn]; exact hf, hone⟩ (by simp only; omega))
 · have hil : i = b.l.length := by simp at g1; omega
   subst hil
   rw [List.take_length] at hf hfl
   rw [List.take_length]
   refine t_pub (C := recC) (l := b.l.filter (inR lo hi)) pk (fun S' hle => hf.monoR hle) rfl (fun S2 le2 hs2 => ?_)
   obtain ⟨A9, a9, rfl, -⟩ := hs2.shape
   refine t_eqblk (b := b7) (cs' := (halfB b lo hi).cells (.slice A9 (b.l.filter (inR lo hi)).length a9)) pk (xBk_end ho) ?_
   refine c_exit ?_
   refine e_then_exit (e_then_exit (e_in_same (e_then (sr (yy (y_far fo_40_4 rfl) (ll (lb ld_26) ?_))))))
   refine lw (t_callR rfl (numbered_ok hs2 hfl) en_33 ?_)
   rintro v65 S65 le65 h65
   obtain ⟨A65, a65, rfl, -⟩ := h65.shape
   refine yy (y_far fo_40_4 rfl) (lw (s1 sz_26 (ne ?_)))
   refine sr (ll (lbw ld_40) ?_)
   refine lw (sw sz_40 (ne ?_))
   exact c_ret (f_retR rfl (ResV.agg ld_40 rfl pk rfl rn) ⟨_, rfl, h65⟩)
end Go.Proofs.YtkdmbimkanjbhaaGreatDoor.Eng

/-
  Part 7 of the proof of WholeBooks: W26, W27, W28, W29, Law1, Refl, Refl2, W30, W31, W32.
-/
import Derived.Test.YtkdmbimkanjbhaaGreatDoorQ6
namespace Go.Proofs.YtkdmbimkanjbhaaGreatDoor.Eng
open Go Go.Proofs
set_option maxRecDepth 100000
attribute [local irreducible] Tr
def isLower (r x : Rec) : Bool := x.prod == r.prod && decide (x.seq < r.seq)
theorem lower_ok {S : Stone} {v bv : Value} {l : List Rec} {r : Rec} (h : Recs S v l) (hl : l.length ≤ 4096) : Con Tryz.prog 35 #[v, .agg (r.cells bv).toArray] [] S (Ret (.bool (l.any (isLower r))) S) := by
 obtain ⟨A, cap, rfl, hc, hm, -⟩ := h.shape
 refine con_of 30 Tryz.func35 rfl rfl rfl (fun w0 => ?_)
 refine sr (bx rfl rfl (fun b3 => sa rfl (nes (sr (sa rfl (ne (c_block (c_loopH (τ := Nat) [(4, _), (3, _), (0, _)] (fun Ek z0 => (5, i64 z0) :: Ek) (fun z0 => z0 ≤ l.length ∧ (l.take z0).any (isLower r) = false) (fun z0 => l.length - z0) (0) (⟨Nat.zero_le _, rfl⟩) (fun z0 hz0 K0l hr0 => ?_)))))))))
 refine c_seq (sr (mv rfl (mv rfl (yy (y_ln sl_26 rfl) (yy (y_lt rfl rfl) (nec rfl (fun g1 => ?_) (fun g1 => ?_)))))))
 · have hil : z0 < l.length := by simpa using g1
   obtain ⟨x, hx⟩ : ∃ r, l[z0]? = some r := ⟨_, List.getElem?_eq_getElem hil⟩
   obtain ⟨q, xv, rfl, hbv, f0, f1, f2, f3, f4, f5⟩ := h.at hx
   refine c_skip (e_then (c_seq (c_block (c_seq (c_cutv (d := 29) (v := .bool (isLower r x)) (fun K2v hK2v => ?_) ?_)))))
   · -- the value
     refine dRa [4, 6, 13, 15] (.take 0 (.take 1 (.take 2 (.take 3 (.take 4 (.take 5 (.take 6 (.take 7 (.take 8 (.take 9 (.take 10 (.take 11 (.take 12 (.take 13 (.take 14 (.take 15 (.take 16 (.take 17 .done)))))))))))))))))) ?_
     refine em rfl rfl (em rfl rfl (ey rfl (y_iaN sl_26 rfl rfl ao) (ey rfl (y_fa fo_84_3 rfl) (dl rfl (ld_st ld_25 rfl ‹_›) ?_))))
     refine ey rfl (y_far fo_84_3 rfl) (dl rfl (lb ld_25) ?_)
     refine ey rfl (y_eq rfl rfl) (em rfl rfl (t_split (gd := 20) rfl (fun hb20 => ?_) (fun hb20 => ?_)))
     · -- hb20
       have hp20 := hb20
       simp at hp20
       refine egy rfl hb20 (y_move rfl) (egy rfl hb20 (y_move rfl) (egy rfl hb20 (y_iaN sl_26 rfl rfl ao) (egy rfl hb20 (y_fa fo_84_4 rfl) (dgl rfl hb20 (ld_st ld_25 rfl ‹_›) ?_))))
       refine egy rfl hb20 (y_far fo_84_4 rfl) (dgl rfl hb20 (lb ld_25) ?_)
       exact egy rfl hb20 (y_lt rfl rfl) (ey rfl (y_pick_t' rfl hb20 rfl) (d_done (lk_val hK2v rfl (congrArg Value.bool (by first | (simp only [isLower]; rw [Bool.eq_iff_iff]; simp_all; done) | (simp only [isLower]; rw [Bool.eq_iff_iff]; simp_all; omega))))))
     · -- hb20
       have hp20 := hb20
       simp at hp20
       exact zn rfl hb20 (zn rfl hb20 (zn rfl hb20 (zn rfl hb20 (zn rfl hb20 (zn rfl hb20 (zn rfl hb20 (zn rfl hb20 (ey rfl (y_pick_f' rfl hb20 rfl) (d_done (lk_val hK2v rfl (congrArg Value.bool (by first | (simp only [isLower]; rw [Bool.eq_iff_iff]; simp_all; done) | (simp only [isLower]; rw [Bool.eq_iff_iff]; simp_all; omega)))))))))))))
   refine c_cond rfl (fun g3 => ?_) (fun g3 => ?_)
   · have hq : l.any (isLower r) = true := List.any_eq_true.2 ⟨x, List.mem_of_getElem? hx, g3⟩
     exact sr (sa rfl (netr (e_in_ret (e_then_ret (e_then_ret (e_in_ret (e_then_ret (f_ret0 rfl (rt rfl) (by rw [hq]; rfl) rfl))))))))
   · have hno3 := g3
     exact c_skip (e_in (e_then (c_region (mv rfl (yy (y_addN (m := 1) rfl rfl om) (sa rfl (ne (t_to (hr0 (z0 + 1) ⟨by omega, any_next hz0.2 hx hno3⟩ om)))))))))
 · refine c_exit ?_
   refine e_then_exit (e_then_exit (e_in_same (e_then (sr (sa rfl (netr ?_))))))
   have hzl : z0 = l.length := by simp at g1; omega
   have hno : l.any (isLower r) = false := by have := hz0.2; rwa [hzl, List.take_length] at this
   exact f_ret0 rfl (rt rfl) (by rw [hno]; rfl) rfl
theorem numbered_ok {S : Stone} {v : Value} {l : List Rec} (h : Recs S v l) (hl : l.length ≤ 200) : Con Tryz.prog 33 #[v] [] S (RetR fun u S' => Recs S' u (renum l)) := by
 obtain ⟨A, cap, rfl, hc, hm, -⟩ := h.shape
 refine con_of 24 Tryz.func33 rfl rfl rfl (fun w0 => ?_)
 refine sr (sa rfl (nesr (sa rfl (nes (sr (t_nilrow 84 5 ?_))))))
 refine sa rfl (ne (c_block (c_loopE (τ := Nat × Value × List Value) [(2, _), (0, _)] (fun Ek z0 => (4, i64 z0.1) :: (3, z0.2.1) :: Ek) (fun z0 => [.row z0.2.1 84 5 z0.1 z0.2.2]) (fun z0 => S) (fun z0 => z0.1 ≤ l.length ∧ Flat S 5 recC z0.2.2 (renum (l.take z0.1)) ∧ z0.2.1.oneCell' = true) (fun z0 => l.length - z0.1) ((0, .slice none 0 0, [])) (⟨Nat.zero_le _, Flat.nil, rfl⟩) (fun z0 hz0 K0l hr0 => ?_))))
 obtain ⟨i, w, xs⟩ := z0
 obtain ⟨hi, hf, hone⟩ := hz0
 simp only at hi hf hone
 dsimp only
 refine c_seq (sr (mv rfl (mv rfl (yy (y_ln sl_26 rfl) (yy (y_lt rfl rfl) (nec rfl (fun g1 => ?_) (fun g1 => ?_)))))))
 · have hil : i < l.length := by simpa using g1
   obtain ⟨r, hr⟩ : ∃ r, l[i]? = some r := ⟨_, List.getElem?_eq_getElem hil⟩
   obtain ⟨p, bv, rfl, hb, f0, f1, f2, f3, f4, f5⟩ := h.at hr
   obtain ⟨pb, cb, rfl, -⟩ := id hb
   have hlt : (l.take i).length = i := by rw [List.length_take]; omega
   refine c_skip (e_then (c_seq (c_block (sr (mv rfl (mv rfl (yy (y_iaN sl_26 rfl rfl ao) (ll (ltm ld_84 rfl ‹_›) ?_))))))))
   refine al zc_84 (fun b5 => lw (sw sz_84 (nesr (mv rfl (yy (y_cvu cv_3_25 rfl om) ?_)))))
   refine yy (y_far fo_84_0 rfl) (lw (s1 sz_25 (ne ?_)))
   refine c_region (mv rfl (ll (lbw ld_84) ?_))
   refine lw (t_bs1 ap_26 zc_84 rfl rfl rfl rfl rfl (fun b21 => lw (aR ap_26 (fun va22 ho22 => sa rfl (l_nil (e_in (e_then (c_region ?_))))))))
   exact mv rfl (yy (y_addN (m := 1) rfl rfl om) (sa rfl (ne (t_to (hr0 (i + 1, va22, xs ++ Rec.cells { r with off := i } (.slice (some pb) 1 cb)) ⟨hil, by simp only; rw [List.take_add_one, hr, Option.toList_some, renum_snoc, hlt]; exact hf.snoc (a := { r with off := i }) ⟨_, rfl, hb⟩ rfl, ho22⟩ (by simp only; omega))))))
 · refine c_exit ?_
   refine e_then_exit (e_then_exit (e_in_same (e_then (sr (mv rfl (sa rfl (netr ?_)))))))
   have hi' : i = l.length := by simp at g1; omega
   subst hi'
   rw [List.take_length] at hf
   refine t_pub (C := recC) (l := renum l) Pick.hd (fun S' hle => hf.monoR hle) (by rw [renum_length]) (fun S' hle hs => ?_)
   exact f_retR rfl (rt rfl) hs
end Go.Proofs.YtkdmbimkanjbhaaGreatDoor.Eng
namespace Go.Proofs.YtkdmbimkanjbhaaGreatDoor.Eng
open Go Go.Proofs
set_option maxRecDepth 100000
attribute [local irreducible] Tr
theorem new_ok {S : Stone} : Con Tryz.prog 4 #[.agg #[.string ⟨#[]⟩, .string ⟨#[]⟩], .int .u64 1] [] S (Ret (.tuple #[.agg #[.string ⟨#[]⟩, .string ⟨#[]⟩, .int .u64 1, .int .u64 0, .slice none 0 0, .slice none 0 0, .slice none 0 0], .int .i64 0]) S) := by
 refine con_of 17 Tryz.func4 rfl rfl rfl (fun w0 => ?_)
 refine sr (bx rfl rfl (fun b2 => al zc_30 (fun b4 => sa rfl (nes (sr (ll (lbw ld_24) ?_))))))
 refine lw (t_callr' rfl (range_ok (lo := 0) (hi := 6) om om om) en_7 (yy (y_ne rfl rfl) (mv rfl (t_known (gd := 9) (v := false) rfl (by rfl) (fun hb9 => ?_)))))
 refine qy hb9 (y_move rfl) (qy hb9 (y_eq rfl rfl) (yy (y_pick_f' rfl hb9 rfl) (ne (c_false rfl (c_skip (e_then (sr (ll (lbw ld_24) ?_))))))))
 refine mv rfl (yy (y_build pl_30 zc_30 rfl rfl) (lw (sw sz_30 (sa rfl ?_))))
 exact netr (f_ret0 rfl (ResV.agg ld_30 rfl pk rfl (rt rfl)) rfl rfl)
end Go.Proofs.YtkdmbimkanjbhaaGreatDoor.Eng
namespace Go.Proofs.YtkdmbimkanjbhaaGreatDoor.Eng
open Go Go.Proofs
set_option maxRecDepth 100000
attribute [local irreducible] Tr
theorem bs_54_9 : bsK Tryz.prog 54 9 = true := by kernel_rfl
/-- Values are bytes, keys are keys. -/
def RecOk (l : List Rec) : Prop := ∀ r ∈ l, r.key < 6 ∧ r.val < 256
theorem rec_eq {a b : Rec} (ha : a.key < 6 ∧ a.val < 256) (hb : b.key < 6 ∧ b.val < 256) : (a = b) ↔ (a.off = b.off ∧ a.key = b.key ∧ a.val = b.val ∧ a.prod = b.prod ∧ a.seq = b.seq) := by
 cases a; cases b; simp
theorem same_recs_ok {S : Stone} {v w : Value} {l l' : List Rec} (h : Recs S v l) (h' : Recs S w l') (hl : RecOk l) (hl' : RecOk l') : Con Tryz.prog 43 #[v, w] [] S (Ret (.bool (decide (l = l'))) S) := by
 obtain ⟨A, cap, rfl, hc, hm, -⟩ := h.shape
 obtain ⟨B, capB, rfl, hcB, hmB, -⟩ := h'.shape
 refine con_of 82 Tryz.func43 rfl rfl rfl (fun w0 => ?_)
 refine sr (sa rfl (nes (sr (mv rfl (yy (y_ln sl_26 rfl) (mv rfl (yy (y_ln sl_26 rfl) (yy (y_ne rfl rfl) (nec rfl (fun g1 => ?_) (fun g1 => ?_))))))))))
 · have hne : ¬ l = l' := fun e => by subst e; simp at g1
   exact sr (sa rfl (netr (e_then_ret (f_ret0 rfl (rt rfl) (by rw [decide_eq_false hne]; rfl) rfl))))
 · have hlen : l.length = l'.length := by simp at g1; omega
   refine c_skip (e_then (c_seq (sr (sa rfl (ne (c_block (c_loopH (τ := Nat) [(10, _), (4, _), (0, _), (1, _)] (fun Ek z0 => (5, i64 z0) :: Ek) (fun z0 => z0 ≤ l.length ∧ l.take z0 = l'.take z0) (fun z0 => l.length - z0) (0) (⟨Nat.zero_le _, rfl⟩) (fun z0 hz0 K0l hr0 => ?_))))))))
   refine c_seq (sr (mv rfl (mv rfl (yy (y_ln sl_26 rfl) (yy (y_lt rfl rfl) (nec rfl (fun g2 => ?_) (fun g2 => ?_)))))))
   · have hil : z0 < l.length := by simpa using g2
     obtain ⟨x, hx⟩ : ∃ r, l[z0]? = some r := ⟨_, List.getElem?_eq_getElem hil⟩
     obtain ⟨y, hy⟩ : ∃ r, l'[z0]? = some r := ⟨_, List.getElem?_eq_getElem om⟩
     obtain ⟨p, xv, rfl, hxv, f0, f1, f2, f3, f4, f5⟩ := h.at hx
     obtain ⟨q, yv, rfl, hyv, k0, k1, k2, k3, k4, k5⟩ := h'.at hy
     obtain ⟨hx6, hx256⟩ := hl x (List.mem_of_getElem? hx)
     obtain ⟨hy6, hy256⟩ := hl' y (List.mem_of_getElem? hy)
     have e1 := ky_eq hx6 hy6
     have e2 := bs_eq hx256 hy256
     have e3 := rec_eq ⟨hx6, hx256⟩ ⟨hy6, hy256⟩
     refine c_skip (e_then (c_seq (c_block (c_seq (c_cutv (d := 81) (v := .bool (!decide (x = y))) (fun K3v hK3v => ?_) ?_)))))
     · -- the value
       refine dRa [4, 9, 16, 21, 29, 30, 35, 36, 44, 49, 57, 62] (.take 0 (.take 1 (.take 2 (.take 3 (.take 4 (.take 5 (.take 6 (.take 7 (.take 8 (.take 9 (.take 10 (.take 11 (.take 12 (.take 13 (.take 14 (.take 15 (.take 16 (.take 17 (.take 18 (.take 19 (.take 20 (.take 21 (.take 22 (.take 23 (.take 24 (.take 25 (.take 26 (.take 27 (.take 28 (.take 29 (.take 30 (.take 31 (.take 32 (.take 33 (.take 34 (.take 35 (.take 36 (.take 37 (.take 38 (.take 39 (.take 40 (.take 41 (.take 42 (.take 43 (.take 44 (.take 45 (.take 46 (.take 47 (.take 48 (.take 49 (.take 50 (.take 51 (.take 52 (.take 53 (.take 54 (.take 55 (.take 56 (.take 57 (.take 58 (.take 59 (.take 60 (.take 61 (.take 62 (.take 63 (.take 64 .done))))))))))))))))))))))))))))))))))))))))))))))))))))))))))))))))) ?_
       refine em rfl rfl (em rfl rfl (ey rfl (y_iaN sl_26 rfl rfl ao) (ey rfl (y_fa fo_84_0 rfl) (dl rfl (ld_st ld_25 rfl ‹_›) ?_))))
       refine em rfl rfl (em rfl rfl (ey rfl (y_iaN sl_26 rfl rfl ao) (ey rfl (y_fa fo_84_0 rfl) (dl rfl (ld_st ld_25 rfl ‹_›) ?_))))
       refine ey rfl (y_ne rfl rfl) (em rfl rfl (t_split (gd := 28) rfl (fun hb28 => ?_) (fun hb28 => ?_)))
       · -- hb28
         refine zn rfl hb28 (zn rfl hb28 (zn rfl hb28 (zn rfl hb28 (zn rfl hb28 (zn rfl hb28 (zn rfl hb28 (zn rfl hb28 (zn rfl hb28 (zn rfl hb28 (zn rfl hb28 (ey rfl (y_pick_t' rfl hb28 rfl) (em rfl rfl (t_split (gd := 41) rfl (fun hb41 => ?_) (fun hb41 => ?_))))))))))))))
         · -- hb41
           refine zn rfl hb41 (zn rfl hb41 (zn rfl hb41 (zn rfl hb41 (zn rfl hb41 (zn rfl hb41 (zn rfl hb41 (zn rfl hb41 (zn rfl hb41 (zn rfl hb41 (zn rfl hb41 (zn rfl hb41 (zn rfl hb41 (ey rfl (y_pick_t' rfl hb41 rfl) (em rfl rfl (t_split (gd := 56) rfl (fun hb56 => ?_) (fun hb56 => ?_))))))))))))))))
           · -- hb56
             refine zn rfl hb56 (zn rfl hb56 (zn rfl hb56 (zn rfl hb56 (zn rfl hb56 (zn rfl hb56 (zn rfl hb56 (zn rfl hb56 (zn rfl hb56 (zn rfl hb56 (zn rfl hb56 (ey rfl (y_pick_t' rfl hb56 rfl) (em rfl rfl (t_split (gd := 69) rfl (fun hb69 => ?_) (fun hb69 => ?_))))))))))))))
             · -- hb69
               exact zn rfl hb69 (zn rfl hb69 (zn rfl hb69 (zn rfl hb69 (zn rfl hb69 (zn rfl hb69 (zn rfl hb69 (zn rfl hb69 (zn rfl hb69 (zn rfl hb69 (zn rfl hb69 (ey rfl (y_pick_t' rfl hb69 rfl) (d_done (lk_val hK3v rfl (congrArg Value.bool (by rw [Bool.eq_iff_iff]; simp_all; try omega)))))))))))))))
             · -- hb69
               refine egy rfl hb69 (y_move rfl) (egy rfl hb69 (y_move rfl) (egy rfl hb69 (y_iaN sl_26 rfl rfl ao) (egy rfl hb69 (y_fa fo_84_4 rfl) (dgl rfl hb69 (ld_st ld_25 rfl ‹_›) ?_))))
               refine egy rfl hb69 (y_move rfl) (egy rfl hb69 (y_move rfl) (egy rfl hb69 (y_iaN sl_26 rfl rfl ao) (egy rfl hb69 (y_fa fo_84_4 rfl) (dgl rfl hb69 (ld_st ld_25 rfl ‹_›) ?_))))
               exact egy rfl hb69 (y_ne rfl rfl) (ey rfl (y_pick_f' rfl hb69 rfl) (d_done (lk_val hK3v rfl (congrArg Value.bool (by rw [Bool.eq_iff_iff]; simp_all; try omega)))))
           · -- hb56
             refine egy rfl hb56 (y_move rfl) (egy rfl hb56 (y_move rfl) (egy rfl hb56 (y_iaN sl_26 rfl rfl ao) (egy rfl hb56 (y_fa fo_84_3 rfl) (dgl rfl hb56 (ld_st ld_25 rfl ‹_›) ?_))))
             refine egy rfl hb56 (y_move rfl) (egy rfl hb56 (y_move rfl) (egy rfl hb56 (y_iaN sl_26 rfl rfl ao) (egy rfl hb56 (y_fa fo_84_3 rfl) (dgl rfl hb56 (ld_st ld_25 rfl ‹_›) ?_))))
             refine egy rfl hb56 (y_ne rfl rfl) (ey rfl (y_pick_f' rfl hb56 rfl) (em rfl rfl (t_split (gd := 69) rfl (fun hb69 => ?_) (fun hb69 => ?_))))
             · -- hb69
               exact zn rfl hb69 (zn rfl hb69 (zn rfl hb69 (zn rfl hb69 (zn rfl hb69 (zn rfl hb69 (zn rfl hb69 (zn rfl hb69 (zn rfl hb69 (zn rfl hb69 (zn rfl hb69 (ey rfl (y_pick_t' rfl hb69 rfl) (d_done (lk_val hK3v rfl (congrArg Value.bool (by rw [Bool.eq_iff_iff]; simp_all; try omega)))))))))))))))
             · -- hb69
               refine egy rfl hb69 (y_move rfl) (egy rfl hb69 (y_move rfl) (egy rfl hb69 (y_iaN sl_26 rfl rfl ao) (egy rfl hb69 (y_fa fo_84_4 rfl) (dgl rfl hb69 (ld_st ld_25 rfl ‹_›) ?_))))
               refine egy rfl hb69 (y_move rfl) (egy rfl hb69 (y_move rfl) (egy rfl hb69 (y_iaN sl_26 rfl rfl ao) (egy rfl hb69 (y_fa fo_84_4 rfl) (dgl rfl hb69 (ld_st ld_25 rfl ‹_›) ?_))))
               exact egy rfl hb69 (y_ne rfl rfl) (ey rfl (y_pick_f' rfl hb69 rfl) (d_done (lk_val hK3v rfl (congrArg Value.bool (by rw [Bool.eq_iff_iff]; simp_all; try omega)))))
         · -- hb41
           refine egy rfl hb41 (y_move rfl) (egy rfl hb41 (y_move rfl) (egy rfl hb41 (y_iaN sl_26 rfl rfl ao) (egy rfl hb41 (y_fa fo_84_2 rfl) (dgl rfl hb41 (ld_st ld_54 rfl ‹_›) ?_))))
           refine dgl rfl hb41 (ld_bs bs_54_9 rfl ‹_› om) ?_
           refine egy rfl hb41 (y_move rfl) (egy rfl hb41 (y_move rfl) (egy rfl hb41 (y_iaN sl_26 rfl rfl ao) (egy rfl hb41 (y_fa fo_84_2 rfl) (dgl rfl hb41 (ld_st ld_54 rfl ‹_›) ?_))))
           refine dgl rfl hb41 (ld_bs bs_54_9 rfl ‹_› om) ?_
           refine egy rfl hb41 (y_sne rfl rfl) (ey rfl (y_pick_f' rfl hb41 rfl) (em rfl rfl (t_split (gd := 56) rfl (fun hb56 => ?_) (fun hb56 => ?_))))
           · -- hb56
             refine zn rfl hb56 (zn rfl hb56 (zn rfl hb56 (zn rfl hb56 (zn rfl hb56 (zn rfl hb56 (zn rfl hb56 (zn rfl hb56 (zn rfl hb56 (zn rfl hb56 (zn rfl hb56 (ey rfl (y_pick_t' rfl hb56 rfl) (em rfl rfl (t_split (gd := 69) rfl (fun hb69 => ?_) (fun hb69 => ?_))))))))))))))
             · -- hb69
               exact zn rfl hb69 (zn rfl hb69 (zn rfl hb69 (zn rfl hb69 (zn rfl hb69 (zn rfl hb69 (zn rfl hb69 (zn rfl hb69 (zn rfl hb69 (zn rfl hb69 (zn rfl hb69 (ey rfl (y_pick_t' rfl hb69 rfl) (d_done (lk_val hK3v rfl (congrArg Value.bool (by rw [Bool.eq_iff_iff]; simp_all; try omega)))))))))))))))
             · -- hb69
               refine egy rfl hb69 (y_move rfl) (egy rfl hb69 (y_move rfl) (egy rfl hb69 (y_iaN sl_26 rfl rfl ao) (egy rfl hb69 (y_fa fo_84_4 rfl) (dgl rfl hb69 (ld_st ld_25 rfl ‹_›) ?_))))
               refine egy rfl hb69 (y_move rfl) (egy rfl hb69 (y_move rfl) (egy rfl hb69 (y_iaN sl_26 rfl rfl ao) (egy rfl hb69 (y_fa fo_84_4 rfl) (dgl rfl hb69 (ld_st ld_25 rfl ‹_›) ?_))))
               exact egy rfl hb69 (y_ne rfl rfl) (ey rfl (y_pick_f' rfl hb69 rfl) (d_done (lk_val hK3v rfl (congrArg Value.bool (by rw [Bool.eq_iff_iff]; simp_all; try omega)))))
           · -- hb56
             refine egy rfl hb56 (y_move rfl) (egy rfl hb56 (y_move rfl) (egy rfl hb56 (y_iaN sl_26 rfl rfl ao) (egy rfl hb56 (y_fa fo_84_3 rfl) (dgl rfl hb56 (ld_st ld_25 rfl ‹_›) ?_))))
             refine egy rfl hb56 (y_move rfl) (egy rfl hb56 (y_move rfl) (egy rfl hb56 (y_iaN sl_26 rfl rfl ao) (egy rfl hb56 (y_fa fo_84_3 rfl) (dgl rfl hb56 (ld_st ld_25 rfl ‹_›) ?_))))
             refine egy rfl hb56 (y_ne rfl rfl) (ey rfl (y_pick_f' rfl hb56 rfl) (em rfl rfl (t_split (gd := 69) rfl (fun hb69 => ?_) (fun hb69 => ?_))))
             · -- hb69
               exact zn rfl hb69 (zn rfl hb69 (zn rfl hb69 (zn rfl hb69 (zn rfl hb69 (zn rfl hb69 (zn rfl hb69 (zn rfl hb69 (zn rfl hb69 (zn rfl hb69 (zn rfl hb69 (ey rfl (y_pick_t' rfl hb69 rfl) (d_done (lk_val hK3v rfl (congrArg Value.bool (by rw [Bool.eq_iff_iff]; simp_all; try omega)))))))))))))))
             · -- hb69
               refine egy rfl hb69 (y_move rfl) (egy rfl hb69 (y_move rfl) (egy rfl hb69 (y_iaN sl_26 rfl rfl ao) (egy rfl hb69 (y_fa fo_84_4 rfl) (dgl rfl hb69 (ld_st ld_25 rfl ‹_›) ?_))))
               refine egy rfl hb69 (y_move rfl) (egy rfl hb69 (y_move rfl) (egy rfl hb69 (y_iaN sl_26 rfl rfl ao) (egy rfl hb69 (y_fa fo_84_4 rfl) (dgl rfl hb69 (ld_st ld_25 rfl ‹_›) ?_))))
               exact egy rfl hb69 (y_ne rfl rfl) (ey rfl (y_pick_f' rfl hb69 rfl) (d_done (lk_val hK3v rfl (congrArg Value.bool (by rw [Bool.eq_iff_iff]; simp_all; try omega)))))
       · -- hb28
         refine egy rfl hb28 (y_move rfl) (egy rfl hb28 (y_move rfl) (egy rfl hb28 (y_iaN sl_26 rfl rfl ao) (egy rfl hb28 (y_fa fo_84_1 rfl) (dgl rfl hb28 (ld_st ld_9 rfl ‹_›) ?_))))
         refine egy rfl hb28 (y_move rfl) (egy rfl hb28 (y_move rfl) (egy rfl hb28 (y_iaN sl_26 rfl rfl ao) (egy rfl hb28 (y_fa fo_84_1 rfl) (dgl rfl hb28 (ld_st ld_9 rfl ‹_›) ?_))))
         refine egy rfl hb28 (y_sne rfl rfl) (ey rfl (y_pick_f' rfl hb28 rfl) (em rfl rfl (t_split (gd := 41) rfl (fun hb41 => ?_) (fun hb41 => ?_))))
         · -- hb41
           refine zn rfl hb41 (zn rfl hb41 (zn rfl hb41 (zn rfl hb41 (zn rfl hb41 (zn rfl hb41 (zn rfl hb41 (zn rfl hb41 (zn rfl hb41 (zn rfl hb41 (zn rfl hb41 (zn rfl hb41 (zn rfl hb41 (ey rfl (y_pick_t' rfl hb41 rfl) (em rfl rfl (t_split (gd := 56) rfl (fun hb56 => ?_) (fun hb56 => ?_))))))))))))))))
           · -- hb56
             refine zn rfl hb56 (zn rfl hb56 (zn rfl hb56 (zn rfl hb56 (zn rfl hb56 (zn rfl hb56 (zn rfl hb56 (zn rfl hb56 (zn rfl hb56 (zn rfl hb56 (zn rfl hb56 (ey rfl (y_pick_t' rfl hb56 rfl) (em rfl rfl (t_split (gd := 69) rfl (fun hb69 => ?_) (fun hb69 => ?_))))))))))))))
             · -- hb69
               exact zn rfl hb69 (zn rfl hb69 (zn rfl hb69 (zn rfl hb69 (zn rfl hb69 (zn rfl hb69 (zn rfl hb69 (zn rfl hb69 (zn rfl hb69 (zn rfl hb69 (zn rfl hb69 (ey rfl (y_pick_t' rfl hb69 rfl) (d_done (lk_val hK3v rfl (congrArg Value.bool (by rw [Bool.eq_iff_iff]; simp_all; try omega)))))))))))))))
             · -- hb69
               refine egy rfl hb69 (y_move rfl) (egy rfl hb69 (y_move rfl) (egy rfl hb69 (y_iaN sl_26 rfl rfl ao) (egy rfl hb69 (y_fa fo_84_4 rfl) (dgl rfl hb69 (ld_st ld_25 rfl ‹_›) ?_))))
               refine egy rfl hb69 (y_move rfl) (egy rfl hb69 (y_move rfl) (egy rfl hb69 (y_iaN sl_26 rfl rfl ao) (egy rfl hb69 (y_fa fo_84_4 rfl) (dgl rfl hb69 (ld_st ld_25 rfl ‹_›) ?_))))
               exact egy rfl hb69 (y_ne rfl rfl) (ey rfl (y_pick_f' rfl hb69 rfl) (d_done (lk_val hK3v rfl (congrArg Value.bool (by rw [Bool.eq_iff_iff]; simp_all; try omega)))))
           · -- hb56
             refine egy rfl hb56 (y_move rfl) (egy rfl hb56 (y_move rfl) (egy rfl hb56 (y_iaN sl_26 rfl rfl ao) (egy rfl hb56 (y_fa fo_84_3 rfl) (dgl rfl hb56 (ld_st ld_25 rfl ‹_›) ?_))))
             refine egy rfl hb56 (y_move rfl) (egy rfl hb56 (y_move rfl) (egy rfl hb56 (y_iaN sl_26 rfl rfl ao) (egy rfl hb56 (y_fa fo_84_3 rfl) (dgl rfl hb56 (ld_st ld_25 rfl ‹_›) ?_))))
             refine egy rfl hb56 (y_ne rfl rfl) (ey rfl (y_pick_f' rfl hb56 rfl) (em rfl rfl (t_split (gd := 69) rfl (fun hb69 => ?_) (fun hb69 => ?_))))
             · -- hb69
               exact zn rfl hb69 (zn rfl hb69 (zn rfl hb69 (zn rfl hb69 (zn rfl hb69 (zn rfl hb69 (zn rfl hb69 (zn rfl hb69 (zn rfl hb69 (zn rfl hb69 (zn rfl hb69 (ey rfl (y_pick_t' rfl hb69 rfl) (d_done (lk_val hK3v rfl (congrArg Value.bool (by rw [Bool.eq_iff_iff]; simp_all; try omega)))))))))))))))
             · -- hb69
               refine egy rfl hb69 (y_move rfl) (egy rfl hb69 (y_move rfl) (egy rfl hb69 (y_iaN sl_26 rfl rfl ao) (egy rfl hb69 (y_fa fo_84_4 rfl) (dgl rfl hb69 (ld_st ld_25 rfl ‹_›) ?_))))
               refine egy rfl hb69 (y_move rfl) (egy rfl hb69 (y_move rfl) (egy rfl hb69 (y_iaN sl_26 rfl rfl ao) (egy rfl hb69 (y_fa fo_84_4 rfl) (dgl rfl hb69 (ld_st ld_25 rfl ‹_›) ?_))))
               exact egy rfl hb69 (y_ne rfl rfl) (ey rfl (y_pick_f' rfl hb69 rfl) (d_done (lk_val hK3v rfl (congrArg Value.bool (by rw [Bool.eq_iff_iff]; simp_all; try omega)))))
         · -- hb41
           refine egy rfl hb41 (y_move rfl) (egy rfl hb41 (y_move rfl) (egy rfl hb41 (y_iaN sl_26 rfl rfl ao) (egy rfl hb41 (y_fa fo_84_2 rfl) (dgl rfl hb41 (ld_st ld_54 rfl ‹_›) ?_))))
           refine dgl rfl hb41 (ld_bs bs_54_9 rfl ‹_› om) ?_
           refine egy rfl hb41 (y_move rfl) (egy rfl hb41 (y_move rfl) (egy rfl hb41 (y_iaN sl_26 rfl rfl ao) (egy rfl hb41 (y_fa fo_84_2 rfl) (dgl rfl hb41 (ld_st ld_54 rfl ‹_›) ?_))))
           refine dgl rfl hb41 (ld_bs bs_54_9 rfl ‹_› om) ?_
           refine egy rfl hb41 (y_sne rfl rfl) (ey rfl (y_pick_f' rfl hb41 rfl) (em rfl rfl (t_split (gd := 56) rfl (fun hb56 => ?_) (fun hb56 => ?_))))
           · -- hb56
             refine zn rfl hb56 (zn rfl hb56 (zn rfl hb56 (zn rfl hb56 (zn rfl hb56 (zn rfl hb56 (zn rfl hb56 (zn rfl hb56 (zn rfl hb56 (zn rfl hb56 (zn rfl hb56 (ey rfl (y_pick_t' rfl hb56 rfl) (em rfl rfl (t_split (gd := 69) rfl (fun hb69 => ?_) (fun hb69 => ?_))))))))))))))
             · -- hb69
               exact zn rfl hb69 (zn rfl hb69 (zn rfl hb69 (zn rfl hb69 (zn rfl hb69 (zn rfl hb69 (zn rfl hb69 (zn rfl hb69 (zn rfl hb69 (zn rfl hb69 (zn rfl hb69 (ey rfl (y_pick_t' rfl hb69 rfl) (d_done (lk_val hK3v rfl (congrArg Value.bool (by rw [Bool.eq_iff_iff]; simp_all; try omega)))))))))))))))
             · -- hb69
               refine egy rfl hb69 (y_move rfl) (egy rfl hb69 (y_move rfl) (egy rfl hb69 (y_iaN sl_26 rfl rfl ao) (egy rfl hb69 (y_fa fo_84_4 rfl) (dgl rfl hb69 (ld_st ld_25 rfl ‹_›) ?_))))
               refine egy rfl hb69 (y_move rfl) (egy rfl hb69 (y_move rfl) (egy rfl hb69 (y_iaN sl_26 rfl rfl ao) (egy rfl hb69 (y_fa fo_84_4 rfl) (dgl rfl hb69 (ld_st ld_25 rfl ‹_›) ?_))))
               exact egy rfl hb69 (y_ne rfl rfl) (ey rfl (y_pick_f' rfl hb69 rfl) (d_done (lk_val hK3v rfl (congrArg Value.bool (by rw [Bool.eq_iff_iff]; simp_all; try omega)))))
           · -- hb56
             refine egy rfl hb56 (y_move rfl) (egy rfl hb56 (y_move rfl) (egy rfl hb56 (y_iaN sl_26 rfl rfl ao) (egy rfl hb56 (y_fa fo_84_3 rfl) (dgl rfl hb56 (ld_st ld_25 rfl ‹_›) ?_))))
             refine egy rfl hb56 (y_move rfl) (egy rfl hb56 (y_move rfl) (egy rfl hb56 (y_iaN sl_26 rfl rfl ao) (egy rfl hb56 (y_fa fo_84_3 rfl) (dgl rfl hb56 (ld_st ld_25 rfl ‹_›) ?_))))
             refine egy rfl hb56 (y_ne rfl rfl) (ey rfl (y_pick_f' rfl hb56 rfl) (em rfl rfl (t_split (gd := 69) rfl (fun hb69 => ?_) (fun hb69 => ?_))))
             · -- hb69
               exact zn rfl hb69 (zn rfl hb69 (zn rfl hb69 (zn rfl hb69 (zn rfl hb69 (zn rfl hb69 (zn rfl hb69 (zn rfl hb69 (zn rfl hb69 (zn rfl hb69 (zn rfl hb69 (ey rfl (y_pick_t' rfl hb69 rfl) (d_done (lk_val hK3v rfl (congrArg Value.bool (by rw [Bool.eq_iff_iff]; simp_all; try omega)))))))))))))))
             · -- hb69
               refine egy rfl hb69 (y_move rfl) (egy rfl hb69 (y_move rfl) (egy rfl hb69 (y_iaN sl_26 rfl rfl ao) (egy rfl hb69 (y_fa fo_84_4 rfl) (dgl rfl hb69 (ld_st ld_25 rfl ‹_›) ?_))))
               refine egy rfl hb69 (y_move rfl) (egy rfl hb69 (y_move rfl) (egy rfl hb69 (y_iaN sl_26 rfl rfl ao) (egy rfl hb69 (y_fa fo_84_4 rfl) (dgl rfl hb69 (ld_st ld_25 rfl ‹_›) ?_))))
               exact egy rfl hb69 (y_ne rfl rfl) (ey rfl (y_pick_f' rfl hb69 rfl) (d_done (lk_val hK3v rfl (congrArg Value.bool (by rw [Bool.eq_iff_iff]; simp_all; try omega)))))
     refine c_cond rfl (fun g4 => ?_) (fun g4 => ?_)
     · have hne : ¬ l = l' := fun e => by subst e; rw [hx] at hy; cases hy; simp at g4
       exact sr (sa rfl (netr (e_in_ret (e_then_ret (e_then_ret (e_in_ret (e_then_ret (f_ret0 rfl (rt rfl) (by rw [decide_eq_false hne]; rfl) rfl))))))))
     · have hxy : x = y := by simpa using g4
       exact c_skip (e_in (e_then (c_region (mv rfl (yy (y_addN (m := 1) rfl rfl om) (sa rfl (ne (t_to (hr0 (z0 + 1) ⟨by omega, by rw [List.take_add_one, List.take_add_one, hz0.2, hx, hy, hxy]⟩ om)))))))))
   · refine c_exit ?_
     refine e_then_exit (e_then_exit (e_in_same (e_then (sr (sa rfl (netr ?_))))))
     have hzl : z0 = l.length := by simp at g2; omega
     have hall : l = l' := by have := hz0.2; rw [hzl, List.take_length, hlen, List.take_length] at this; exact this
     exact f_ret0 rfl (rt rfl) (by rw [decide_eq_true hall]; rfl) rfl
end Go.Proofs.YtkdmbimkanjbhaaGreatDoor.Eng
namespace Go.Proofs.YtkdmbimkanjbhaaGreatDoor.Eng
open Go Go.Proofs
set_option maxRecDepth 100000
attribute [local irreducible] Tr
theorem same_result_ok {S : Stone} {v w : Value} {l l' : List Rec} {e e' o o' : Nat} {d d' : Bool} (h : Recs S v l) (h' : Recs S w l') (hl : RecOk l) (hl' : RecOk l') :
 Con Tryz.prog 25 #[.agg #[i64 e, u64 o, .bool d, v], .agg #[i64 e', u64 o', .bool d', w]] [] S (Ret (.bool (decide (e = e') && decide (o = o') && (d == d') && decide (l = l'))) S) := by
 refine con_of 33 Tryz.func25 rfl rfl rfl (fun w0 => ?_)
 refine sr (bx rfl rfl (fun b2 => bx rfl rfl (fun b3 => sa rfl (nesr (yy (y_far fo_77_3 rfl) (ll (lb ld_26) ?_))))))
 refine yy (y_far fo_77_3 rfl) (ll (lb ld_26) ?_)
 refine lw (t_callr' rfl (same_recs_ok ‹_› ‹_› ‹_› ‹_›) en_43 ?_)
 refine sa rfl (nesr (mv rfl (mv rfl ?_)))
 apply l_and 6 (gd := 12) (d := 18) rfl
 · intro hb12 K1 hK1
   refine qy hb12 (y_far fo_77_0 rfl) (gl hb12 (lb ld_31) ?_)
   refine qy hb12 (y_far fo_77_0 rfl) (gl hb12 (lb ld_31) ?_)
   exact qy hb12 (y_eq rfl rfl) (yy (y_pick_t' rfl hb12 rfl) (lk_end hK1))
 · intro hb12 K1 hK1
   exact qn hb12 (qn hb12 (qn hb12 (qn hb12 (qn hb12 (yy (y_pick_f' rfl hb12 rfl) (lk_end hK1))))))
 refine mv rfl ?_
 apply l_and 6 (gd := 19) (d := 25) rfl
 · intro hb19 K2 hK2
   refine qy hb19 (y_far fo_77_1 rfl) (gl hb19 (lb ld_25) ?_)
   refine qy hb19 (y_far fo_77_1 rfl) (gl hb19 (lb ld_25) ?_)
   exact qy hb19 (y_eq rfl rfl) (yy (y_pick_t' rfl hb19 rfl) (lk_end hK2))
 · intro hb19 K2 hK2
   exact qn hb19 (qn hb19 (qn hb19 (qn hb19 (qn hb19 (yy (y_pick_f' rfl hb19 rfl) (lk_end hK2))))))
 refine mv rfl ?_
 apply l_and 6 (gd := 26) (d := 32) rfl
 · intro hb26 K3 hK3
   refine qy hb26 (y_far fo_77_2 rfl) (gl hb26 (lb ld_4) ?_)
   refine qy hb26 (y_far fo_77_2 rfl) (gl hb26 (lb ld_4) ?_)
   exact qy hb26 (y_beq bl_4 rfl rfl) (yy (y_pick_t' rfl hb26 rfl) (lk_end hK3))
 · intro hb26 K3 hK3
   exact qn hb26 (qn hb26 (qn hb26 (qn hb26 (qn hb26 (yy (y_pick_f' rfl hb26 rfl) (lk_end hK3))))))
 refine sa rfl (netr ?_)
 exact f_ret0 rfl (rt rfl) (by
  show Value.bool _ = Value.bool _
  congr 1
  have q1 : ((e : Int) == (e' : Int)) = decide (e = e') := by rw [Bool.eq_iff_iff]; simp; omega
  have q2 : ((o : Int) == (o' : Int)) = decide (o = o') := by rw [Bool.eq_iff_iff]; simp; omega
  rw [q1, q2]; cases decide (e = e') <;> cases decide (o = o') <;> cases (d == d') <;> cases decide (l = l') <;> rfl) rfl
end Go.Proofs.YtkdmbimkanjbhaaGreatDoor.Eng
namespace Go.Proofs.YtkdmbimkanjbhaaGreatDoor.Eng
open Go
/-! ### the plain law, one: what a shard's state is, by its book; commands -/
structure Res where
  err : Nat
  off : Nat
  old : Bool
  l : List Rec
def Res.bad (e : Nat) : Res := ⟨e, 0, false, []⟩
/-- Where a producer's last record stands. -/
def prdOf (b : Bk) (i : Nat) : Prd := if b.l.any (isRec i (b.last i)) then ⟨i, b.last i, true, b.l.findIdx (isRec i (b.last i))⟩ else ⟨i, b.last i, false, 0⟩
def prdsOf (b : Bk) : List Prd := ([1, 2, 3, 4, 5, 6, 7, 8, 9].filter fun i => decide (0 < b.last i)).map (prdOf b)
def cnssOf (b : Bk) : List Cns := ([0, 1].filter b.there).map fun k => ⟨k, b.at_ k⟩
def shOf (b : Bk) : Sh := ⟨b.lo, b.hi, b.epoch, b.frozen, b.l, prdsOf b, cnssOf b⟩
/-- A book that may be. -/
structure BkOk (b : Bk) : Prop where
  lo : b.lo < 6
  lh : b.lo < b.hi
  hi : b.hi ≤ 6
  epoch : 1 ≤ b.epoch
  num : Num b.l
  key : ∀ r ∈ b.l, r.key < 6 ∧ inR b.lo b.hi r = true
  val : ∀ r ∈ b.l, r.val < 256
  prod : ∀ r ∈ b.l, 1 ≤ r.prod ∧ r.prod ≤ 9
  seq : ∀ r ∈ b.l, 1 ≤ r.seq ∧ r.seq ≤ b.last r.prod
  up : ∀ (i j : Nat) a c, b.l[i]? = some a → b.l[j]? = some c → i < j → a.prod = c.prod → a.seq < c.seq
  at_ : ∀ k, b.at_ k ≤ b.l.length
  gone : ∀ k, b.there k = false → b.at_ k = 0
  last : ∀ i, b.last i ≤ 1000
theorem BkOk.recOk {b : Bk} (h : BkOk b) : RecOk b.l := fun r hr => ⟨(h.key r hr).1, h.val r hr⟩
theorem prdOf_id (b : Bk) (i : Nat) : (prdOf b i).id = i := by unfold prdOf; split <;> rfl
theorem prdOf_seq (b : Bk) (i : Nat) : (prdOf b i).seq = b.last i := by unfold prdOf; split <;> rfl
theorem prdOf_here (b : Bk) (i : Nat) : (prdOf b i).here = b.l.any (isRec i (b.last i)) := by unfold prdOf; split <;> simp_all
theorem mem_nine {i : Nat} : i ∈ [1, 2, 3, 4, 5, 6, 7, 8, 9] ↔ 1 ≤ i ∧ i ≤ 9 := by
  constructor
  · intro h; simp at h; omega
  · intro ⟨h1, h2⟩
    have : i = 1 ∨ i = 2 ∨ i = 3 ∨ i = 4 ∨ i = 5 ∨ i = 6 ∨ i = 7 ∨ i = 8 ∨ i = 9 := by omega
    simpa using this
theorem mem_prdsOf {b : Bk} {x : Prd} : x ∈ prdsOf b ↔ ∃ i, 1 ≤ i ∧ i ≤ 9 ∧ 0 < b.last i ∧ x = prdOf b i := by
  unfold prdsOf
  rw [List.mem_map]
  constructor
  · rintro ⟨i, hi, rfl⟩
    rw [List.mem_filter, mem_nine] at hi
    exact ⟨i, hi.1.1, hi.1.2, by simpa using hi.2, rfl⟩
  · rintro ⟨i, h1, h2, h3, rfl⟩
    exact ⟨i, by rw [List.mem_filter, mem_nine]; exact ⟨⟨h1, h2⟩, by simpa using h3⟩, rfl⟩
theorem up_prdsOf (b : Bk) : (prdsOf b).Pairwise fun x y => x.id < y.id := by
  unfold prdsOf
  rw [List.pairwise_map]
  simp only [prdOf_id]
  exact List.Pairwise.filter _ (by decide)
theorem len_prdsOf (b : Bk) : (prdsOf b).length ≤ 9 := by
  unfold prdsOf
  rw [List.length_map]
  exact List.length_filter_le _ _
theorem len_cnssOf (b : Bk) : (cnssOf b).length ≤ 2 := by
  unfold cnssOf
  rw [List.length_map]
  exact List.length_filter_le _ _
/-- Lists that rise by something are what they hold. -/
theorem rise_ext {α : Type} (f : α → Nat) : ∀ {l l' : List α}, (l.Pairwise fun x y => f x < f y) → (l'.Pairwise fun x y => f x < f y) → (∀ x, x ∈ l ↔ x ∈ l') → l = l'
  | [], [], _, _, _ => rfl
  | [], y :: l', _, _, h => by have := (h y).2 (by simp); simp at this
  | x :: l, [], _, _, h => by have := (h x).1 (by simp); simp at this
  | x :: l, y :: l', h1, h2, h => by
    rw [List.pairwise_cons] at h1 h2
    have e : x = y := by
      rcases List.mem_cons.1 ((h x).1 (by simp)) with e | hx
      · exact e
      · rcases List.mem_cons.1 ((h y).2 (by simp)) with e | hy
        · exact e.symm
        · have := h1.1 y hy; have := h2.1 x hx; omega
    subst e
    congr 1
    refine rise_ext f h1.2 h2.2 fun z => ?_
    constructor
    · intro hz
      rcases List.mem_cons.1 ((h z).1 (List.mem_cons_of_mem _ hz)) with e | hz'
      · subst e; have := h1.1 z hz; omega
      · exact hz'
    · intro hz
      rcases List.mem_cons.1 ((h z).2 (List.mem_cons_of_mem _ hz)) with e | hz'
      · subst e; have := h2.1 z hz; omega
      · exact hz'
theorem cmpN_lt {a b : Nat} : cmpN a b < 0 ↔ a < b := by unfold cmpN; split <;> (try split) <;> omega
theorem cmpN_zero {a b : Nat} : (cmpN a b == 0) = decide (a = b) := by unfold cmpN; split <;> (try split) <;> simp <;> omega
/-- What stands ahead of a place is lower, what stands from it on is not. -/
theorem bpos_take {α : Type} (f : α → Nat) (k : Nat) {l : List α} {y : α} (h : y ∈ l.take (bpos (fun y => cmpN (f y) k) l)) : f y < k := by
  obtain ⟨j, hj, rfl⟩ := List.mem_take_iff_getElem.1 h
  have hj' : j < l.findIdx (fun x => !decide (cmpN (f x) k < 0)) := by have : bpos (fun y => cmpN (f y) k) l = l.findIdx (fun x => !decide (cmpN (f x) k < 0)) := rfl; omega
  have := List.not_of_lt_findIdx hj'
  rw [← cmpN_lt]; simpa using this
theorem bpos_drop {α : Type} (f : α → Nat) (k : Nat) {l : List α} (hup : l.Pairwise fun x y => f x < f y) {y : α} (h : y ∈ l.drop (bpos (fun y => cmpN (f y) k) l)) : k ≤ f y := by
  obtain ⟨j, hj⟩ := List.getElem?_of_mem h
  rw [List.getElem?_drop] at hj
  have hlt := (List.getElem?_eq_some_iff.1 hj).1
  have hb : bpos (fun y => cmpN (f y) k) l < l.length := by omega
  have h0 : ¬ cmpN (f l[bpos (fun y => cmpN (f y) k) l]) k < 0 := by
    have := List.findIdx_getElem (p := fun x => !decide (cmpN (f x) k < 0)) (xs := l) (w := hb)
    unfold bpos; simpa using this
  rw [cmpN_lt] at h0
  by_cases e : j = 0
  · subst e
    rw [Nat.add_zero, List.getElem?_eq_getElem hb] at hj
    simp only [Option.some.injEq] at hj
    rw [← hj]; omega
  · have := pw_get hup (List.getElem?_eq_getElem hb) hj (by omega)
    omega
theorem mem_putP {l : List Prd} {x y : Prd} : y ∈ putP l x ↔ y = x ∨ (y ∈ l ∧ y.id ≠ x.id) := by
  unfold putP
  generalize hF : (l.filter fun y => !(y.id == x.id)) = F
  have hm : y ∈ F ↔ (y ∈ l ∧ y.id ≠ x.id) := by rw [← hF, List.mem_filter]; simp
  rw [← hm]
  conv => rhs; rw [← List.take_append_drop (bpos (fun y => cmpN y.id x.id) F) F]
  simp only [List.mem_append, List.mem_singleton]
  constructor
  · rintro ((h | h) | h)
    · exact .inr (.inl h)
    · exact .inl h
    · exact .inr (.inr h)
  · rintro (h | h | h)
    · exact .inl (.inr h)
    · exact .inl (.inl h)
    · exact .inr h
theorem up_putP {l : List Prd} {x : Prd} (h : l.Pairwise fun x y => x.id < y.id) : (putP l x).Pairwise fun x y => x.id < y.id := by
  unfold putP
  generalize hF : (l.filter fun y => !(y.id == x.id)) = F
  have hup : F.Pairwise fun x y => x.id < y.id := by rw [← hF]; exact h.filter _
  have hne : ∀ y ∈ F, y.id ≠ x.id := fun y hy => by rw [← hF, List.mem_filter] at hy; simpa using hy.2
  have hd : (F.take (bpos (fun y => cmpN y.id x.id) F) ++ F.drop (bpos (fun y => cmpN y.id x.id) F)).Pairwise fun x y => x.id < y.id := by rw [List.take_append_drop]; exact hup
  rw [List.pairwise_append] at hd
  rw [List.append_assoc, List.pairwise_append]
  refine ⟨hd.1, ?_, fun a ha b hb => ?_⟩
  · rw [List.singleton_append, List.pairwise_cons]
    refine ⟨fun y hy => ?_, hd.2.1⟩
    have h1 := bpos_drop (fun y : Prd => y.id) x.id hup hy
    have h2 := hne y (List.mem_of_mem_drop hy)
    have : x.id ≤ y.id := h1
    omega
  · rw [List.singleton_append, List.mem_cons] at hb
    rcases hb with rfl | hb
    · exact bpos_take (fun y : Prd => y.id) _ ha
    · exact hd.2.2 a ha b hb
theorem find_rise {α : Type} (f : α → Nat) : ∀ {l : List α}, (l.Pairwise fun x y => f x < f y) → ∀ {x : α}, x ∈ l → l.find? (f · == f x) = some x
  | [], _, _, h => by simp at h
  | y :: l, hp, x, h => by
    rw [List.pairwise_cons] at hp
    rcases List.mem_cons.1 h with rfl | h
    · simp
    · have := hp.1 x h
      rw [List.find?_cons]
      have e : (f y == f x) = false := by simp; omega
      rw [e]; exact find_rise f hp.2 h
theorem findP_of {b : Bk} {i : Nat} (h1 : 1 ≤ i) (h9 : i ≤ 9) : findP (prdsOf b) i = if 0 < b.last i then some (prdOf b i) else none := by
  unfold findP
  split
  · rename_i h
    have := find_rise (fun x : Prd => x.id) (up_prdsOf b) (mem_prdsOf.2 ⟨i, h1, h9, h, rfl⟩)
    rw [prdOf_id] at this; exact this
  · rename_i h
    rw [List.find?_eq_none]
    intro x hx
    obtain ⟨j, _, _, h3, rfl⟩ := mem_prdsOf.1 hx
    rw [prdOf_id]
    simp; intro e; subst e; exact h h3
theorem judge_of {b : Bk} {i n : Nat} (h1 : 1 ≤ i) (h9 : i ≤ 9) (hn : 1 ≤ n) :
    judge (prdsOf b) i n = if b.last i < n then (1, 0) else if n = b.last i ∧ b.l.any (isRec i n) = true then (2, b.l.findIdx (isRec i n)) else (3, 0) := by
  unfold judge
  rw [findP_of h1 h9]
  by_cases h0 : 0 < b.last i
  · rw [if_pos h0]
    simp only [prdOf_seq]
    split
    · rfl
    · by_cases e : n = b.last i
      · subst e
        rw [prdOf_here]
        by_cases ha : b.l.any (isRec i (b.last i)) = true
        · rw [if_pos ⟨rfl, ha⟩, if_pos ⟨rfl, ha⟩]
          unfold prdOf; rw [if_pos ha]
        · rw [if_neg (fun h => ha h.2), if_neg (fun h => ha h.2)]
      · rw [if_neg (fun h => e h.1), if_neg (fun h => e h.1)]
  · rw [if_neg h0, if_pos (by omega)]
theorem tabOk_of {b : Bk} (h : ∀ i, b.last i ≤ 1000) : TabOk (prdsOf b) where
  id := fun x hx => by obtain ⟨i, h1, _, _, rfl⟩ := mem_prdsOf.1 hx; rw [prdOf_id]; exact h1
  seq := fun x hx => by obtain ⟨i, h1, _, h3, rfl⟩ := mem_prdsOf.1 hx; rw [prdOf_seq]; have := h i; omega
  off := fun x hx => by
    obtain ⟨i, h1, _, h3, rfl⟩ := mem_prdsOf.1 hx
    unfold prdOf; split <;> simp
  up := up_prdsOf b
theorem cnsOk_of (b : Bk) : CnsOk (cnssOf b) where
  nm := fun x hx => by
    unfold cnssOf at hx
    obtain ⟨k, hk, rfl⟩ := List.mem_map.1 hx
    have := (List.mem_filter.1 hk).1
    simp at this; simp only; omega
  up := by
    unfold cnssOf
    rw [List.pairwise_map]
    exact List.Pairwise.filter (R := fun i j : Nat => i < j) _ (by decide)
theorem isRec_iff {p n : Nat} {r : Rec} : isRec p n r = true ↔ r.prod = p ∧ r.seq = n := by unfold isRec; simp
/-- What a book says is a state that may be. -/
theorem shOk_of {b : Bk} (h : BkOk b) (hl : b.l.length ≤ 200) : ShOk (shOf b) where
  lo := h.lo
  lh := h.lh
  hi := h.hi
  epoch := h.epoch
  num := h.num
  ll := hl
  pl := by have := len_prdsOf b; simp only [shOf]; omega
  cl := by have := len_cnssOf b; simp only [shOf]; omega
  tab := tabOk_of h.last
  cns := cnsOk_of b
  ord := ⟨h.key, fun r hr => by
      have h1 := h.prod r hr
      have h2 := h.seq r hr
      exact ⟨prdOf b r.prod, mem_prdsOf.2 ⟨r.prod, h1.1, h1.2, by omega, rfl⟩, prdOf_id b _, by rw [prdOf_seq]; exact h2.2⟩, fun r hr => (h.seq r hr).1, h.up⟩
  here := fun x hx hh => by
    obtain ⟨i, h1, _, h3, rfl⟩ := mem_prdsOf.1 hx
    rw [prdOf_here] at hh
    have hlt : b.l.findIdx (isRec i (b.last i)) < b.l.length := by
      obtain ⟨r, hr, hq⟩ := List.any_eq_true.1 hh
      exact List.findIdx_lt_length_of_exists ⟨r, hr, hq⟩
    have hq := isRec_iff.1 (List.findIdx_getElem (p := isRec i (b.last i)) (xs := b.l) (w := hlt))
    refine ⟨b.l[b.l.findIdx (isRec i (b.last i))], ?_, ?_, ?_⟩
    · unfold prdOf; rw [if_pos hh]; exact List.getElem?_eq_getElem hlt
    · rw [prdOf_id]; exact hq.1
    · rw [prdOf_seq]; exact hq.2
  ahead := fun x hx => by
    simp only [shOf, cnssOf] at hx
    obtain ⟨k, hk, rfl⟩ := List.mem_map.1 hx
    exact h.at_ k
/-! ### commands -/
def Cmd.rcd (c : Cmd) (n : Nat) : Rec := ⟨n, c.key, c.val, c.prod, c.seq⟩
/-- What a state comes to behind a command. -/
def doS (s : Sh) (c : Cmd) : Sh × Res :=
  if c.epoch ≠ s.epoch then (s, .bad 162)
  else if c.kind = 1 then
    if ¬ (s.lo ≤ c.key ∧ c.key < s.hi) then (s, .bad 163)
    else if (judge s.p c.prod c.seq).1 = 2 then (s, ⟨0, (judge s.p c.prod c.seq).2, true, []⟩)
    else if (judge s.p c.prod c.seq).1 = 3 then (s, .bad 152)
    else if s.frozen ≠ 0 then (s, .bad 164)
    else ({ s with l := s.l ++ [c.rcd s.l.length], p := putP s.p ⟨c.prod, c.seq, true, s.l.length⟩ }, ⟨0, s.l.length, false, []⟩)
  else if c.kind = 3 then
    if (judge s.p c.prod c.seq).1 ≠ 1 then (s, ⟨0, 0, true, []⟩)
    else if s.frozen ≠ 0 then (s, .bad 164)
    else if s.l.length < c.off then (s, .bad 141)
    else ({ s with c := putC s.c ⟨c.name, c.off⟩, p := putP s.p ⟨c.prod, c.seq, false, 0⟩ }, ⟨0, c.off, false, []⟩)
  else if c.kind = 5 then
    if s.frozen ≠ 0 ∧ s.frozen ≠ c.plan then (s, .bad 164) else ({ s with frozen := c.plan }, ⟨0, 0, s.frozen == c.plan, []⟩)
  else if c.kind = 6 then
    if s.frozen ≠ 0 ∧ s.frozen ≠ c.plan then (s, .bad 164) else ({ s with frozen := 0 }, ⟨0, 0, s.frozen == 0, []⟩)
  else if s.frozen ≠ 0 then (s, .bad 164)
  else if c.kind = 4 then (s, ⟨0, (readC s.c c.name).1, (readC s.c c.name).2, []⟩)
  else if s.l.length < c.off then (s, .bad 141)
  else (s, ⟨0, c.off + min c.most (s.l.length - c.off), false, (s.l.drop c.off).take c.most⟩)
def setF {α : Type} (f : Nat → α) (k : Nat) (v : α) : Nat → α := fun j => if j = k then v else f j
/-- What a book comes to. -/
def doesB (b : Bk) (c : Cmd) : Bk × Res :=
  if c.epoch ≠ b.epoch then (b, .bad 162)
  else if c.kind = 5 ∨ c.kind = 6 then
    if b.frozen ≠ 0 ∧ b.frozen ≠ c.plan then (b, .bad 164)
    else if c.kind = 5 then ({ b with frozen := c.plan }, ⟨0, 0, !decide (b.frozen = 0), []⟩)
    else ({ b with frozen := 0 }, ⟨0, 0, decide (b.frozen = 0), []⟩)
  else if c.kind = 1 then
    if ¬ (b.lo ≤ c.key ∧ c.key < b.hi) then (b, .bad 163)
    else if c.seq ≤ b.last c.prod ∧ b.l.any (isRec c.prod c.seq) = true ∧ c.seq = b.last c.prod then (b, ⟨0, b.l.findIdx (isRec c.prod c.seq), true, []⟩)
    else if c.seq ≤ b.last c.prod then (b, .bad 152)
    else if b.frozen ≠ 0 then (b, .bad 164)
    else ({ b with last := setF b.last c.prod c.seq, l := b.l ++ [c.rcd b.l.length] }, ⟨0, b.l.length, false, []⟩)
  else if c.kind = 3 ∧ c.seq ≤ b.last c.prod then (b, ⟨0, 0, true, []⟩)
  else if b.frozen ≠ 0 then (b, .bad 164)
  else if c.kind = 4 then (b, ⟨0, b.at_ c.name, b.there c.name, []⟩)
  else if b.l.length < c.off then (b, .bad 141)
  else if c.kind = 3 then ({ b with last := setF b.last c.prod c.seq, there := setF b.there c.name true, at_ := setF b.at_ c.name c.off }, ⟨0, c.off, false, []⟩)
  else (b, ⟨0, min b.l.length (c.off + c.most), false, (b.l.drop c.off).take c.most⟩)
theorem setF_same {α : Type} (f : Nat → α) (k : Nat) (v : α) : setF f k v k = v := by simp [setF]
theorem setF_ne {α : Type} {f : Nat → α} {k j : Nat} {v : α} (h : j ≠ k) : setF f k v j = f j := by simp [setF, h]
theorem not_any_above {b : Bk} (h : BkOk b) {p n : Nat} (hn : b.last p < n) : b.l.any (isRec p n) = false := by
  rw [List.any_eq_false]
  intro r hr hq
  obtain ⟨h1, h2⟩ := isRec_iff.1 hq
  have := (h.seq r hr).2
  rw [h1] at this; omega
theorem findIdx_none {α : Type} {q : α → Bool} {l : List α} (h : l.any q = false) : l.findIdx q = l.length := by
  rw [List.findIdx_eq_length]
  exact fun x hx => by simpa using List.any_eq_false.1 h x hx
theorem prdOf_append_ne {b : Bk} {i : Nat} {r : Rec} {f : Nat → Nat} (hr : r.prod ≠ i) (hf : f i = b.last i) : prdOf { b with last := f, l := b.l ++ [r] } i = prdOf b i := by
  unfold prdOf
  have hq : isRec i (b.last i) r = false := by unfold isRec; simp [hr]
  simp only [hf, List.any_append, List.any_cons, List.any_nil, hq, Bool.or_false]
  split
  · rename_i ha
    congr 1
    rw [List.findIdx_append]
    obtain ⟨x, hx, hxq⟩ := List.any_eq_true.1 ha
    rw [if_pos (List.findIdx_lt_length_of_exists ⟨x, hx, hxq⟩)]
  · rfl
theorem prdsOf_put {b b' : Bk} {p : Nat} {x : Prd} (h1 : 1 ≤ p) (h9 : p ≤ 9) (hx : x = prdOf b' p) (hpos : 0 < b'.last p) (hne : ∀ i, i ≠ p → b'.last i = b.last i ∧ prdOf b' i = prdOf b i) : putP (prdsOf b) x = prdsOf b' := by
  refine rise_ext (fun x => x.id) (up_putP (up_prdsOf b)) (up_prdsOf b') fun y => ?_
  have hxi : x.id = p := by rw [hx, prdOf_id]
  rw [mem_putP, mem_prdsOf, mem_prdsOf, hxi]
  constructor
  · rintro (rfl | ⟨⟨i, e1, e2, e3, rfl⟩, hn⟩)
    · exact ⟨p, h1, h9, hpos, hx⟩
    · rw [prdOf_id] at hn
      obtain ⟨n1, n2⟩ := hne i hn
      exact ⟨i, e1, e2, by omega, n2.symm⟩
  · rintro ⟨i, e1, e2, e3, rfl⟩
    by_cases hi : i = p
    · subst hi; exact .inl hx.symm
    · obtain ⟨n1, n2⟩ := hne i hi
      exact .inr ⟨⟨i, e1, e2, by omega, n2⟩, by rw [prdOf_id]; exact hi⟩
theorem readC_of {b : Bk} (h : ∀ k, b.there k = false → b.at_ k = 0) {k : Nat} (hk : k < 2) : readC (cnssOf b) k = (b.at_ k, b.there k) := by
  have : k = 0 ∨ k = 1 := by omega
  unfold readC cnssOf
  cases h0 : b.there 0 <;> cases h1 : b.there 1 <;> rcases this with rfl | rfl <;> simp [h0, h1, h 0, h 1]
theorem putC_of {b : Bk} {k n : Nat} (hk : k < 2) : putC (cnssOf b) ⟨k, n⟩ = cnssOf { b with there := setF b.there k true, at_ := setF b.at_ k n } := by
  have : k = 0 ∨ k = 1 := by omega
  unfold putC cnssOf
  cases h0 : b.there 0 <;> cases h1 : b.there 1 <;> rcases this with rfl | rfl <;> simp [h0, h1, bpos, bfound, cmpN, setF, List.findIdx_cons]
/-- A COMMAND: the state does what the book does. -/
theorem doS_of {b : Bk} {c : Cmd} (h : BkOk b) (hc : CmdOk c) (hp : c.prod ≤ 9) : doS (shOf b) c = (shOf (doesB b c).1, (doesB b c).2) := by
  have hj := judge_of (b := b) hc.prod hp hc.seq.1
  have hk := hc.kind
  unfold doS doesB
  simp only [shOf, hj]
  by_cases he : c.epoch = b.epoch
  case neg => simp only [ne_eq, he, not_false_eq_true, if_true]
  simp only [ne_eq, he, not_true_eq_false, if_false]
  by_cases k1 : c.kind = 1
  · simp only [k1, if_true]
    simp only [show ¬ (1 = 5 ∨ 1 = 6) by omega, if_false]
    by_cases hin : b.lo ≤ c.key ∧ c.key < b.hi
    case neg => simp only [hin, not_false_eq_true, if_true]
    simp only [hin, not_true_eq_false, if_false, and_self]
    by_cases hs : b.last c.prod < c.seq
    · have hs' : ¬ c.seq ≤ b.last c.prod := by omega
      simp only [hs, hs', if_true, if_false, false_and, show ¬ (1 = 2) by omega, show ¬ (1 = 3) by omega]
      by_cases hf : b.frozen = 0
      case neg => simp only [hf, not_false_eq_true, if_true]
      have hf0 : (¬ b.frozen = 0) = False := by simp [hf]
      simp only [hf0, if_false]
      have hno := not_any_above h hs
      have hq : isRec c.prod c.seq (c.rcd b.l.length) = true := isRec_iff.2 ⟨rfl, rfl⟩
      have e : putP (prdsOf b) ⟨c.prod, c.seq, true, b.l.length⟩ = prdsOf { b with last := setF b.last c.prod c.seq, l := b.l ++ [c.rcd b.l.length] } := by
        refine prdsOf_put hc.prod hp ?_ (by simp only [setF_same]; have := hc.seq.1; omega) fun i hi => ⟨setF_ne hi, prdOf_append_ne (fun e => hi e.symm) (setF_ne hi)⟩
        unfold prdOf
        simp only [setF_same, List.any_append, List.any_cons, hq, Bool.true_or, Bool.or_true, if_true, List.findIdx_append, findIdx_none hno, Nat.lt_irrefl, if_false, List.findIdx_cons]
        simp
      simp only [cnssOf]
      rw [e]
    · have hs' : c.seq ≤ b.last c.prod := by omega
      simp only [hs, hs', if_false, true_and, if_true]
      by_cases ha : c.seq = b.last c.prod ∧ b.l.any (isRec c.prod c.seq) = true
      · have ha' : b.l.any (isRec c.prod c.seq) = true ∧ c.seq = b.last c.prod := ⟨ha.2, ha.1⟩
        simp only [if_pos ha, if_pos ha', if_true]
      · have ha' : ¬ (b.l.any (isRec c.prod c.seq) = true ∧ c.seq = b.last c.prod) := fun e => ha ⟨e.2, e.1⟩
        simp only [if_neg ha, if_neg ha', show ¬ (3 = 2) by omega, if_false, if_true]
  simp only [k1, if_false]
  by_cases k3 : c.kind = 3
  · simp only [k3, if_true, true_and, show ¬ (3 = 5 ∨ 3 = 6) by omega, if_false, show ¬ (3 = 4) by omega]
    by_cases hs : b.last c.prod < c.seq
    · have hs' : ¬ c.seq ≤ b.last c.prod := by omega
      simp only [hs, hs', if_true, if_false, not_true_eq_false]
      by_cases hf : b.frozen = 0
      case neg => simp only [hf, not_false_eq_true, if_true]
      have hf0 : (¬ b.frozen = 0) = False := by simp [hf]
      simp only [hf0, if_false]
      by_cases ho : b.l.length < c.off
      · simp only [ho, if_true]
      simp only [ho, if_false]
      have hno := not_any_above h hs
      have e : putP (prdsOf b) ⟨c.prod, c.seq, false, 0⟩ = prdsOf { b with last := setF b.last c.prod c.seq, there := setF b.there c.name true, at_ := setF b.at_ c.name c.off } := by
        refine prdsOf_put hc.prod hp ?_ (by simp only [setF_same]; have := hc.seq.1; omega) fun i hi => ⟨setF_ne hi, by unfold prdOf; simp only [setF_ne hi]⟩
        unfold prdOf
        simp only [setF_same, hno]
        simp
      rw [e, putC_of hc.name]
      rfl
    · have hs' : c.seq ≤ b.last c.prod := by omega
      simp only [hs, hs', if_false, if_true]
      split <;> simp
  simp only [k3, if_false, false_and]
  by_cases k5 : c.kind = 5
  · simp only [k5, if_true, true_or]
    by_cases hf : ¬ b.frozen = 0 ∧ ¬ b.frozen = c.plan
    · have hf0 : (¬ b.frozen = 0 ∧ ¬ b.frozen = c.plan) = True := by simp only [eq_iff_iff, iff_true]; exact hf
      simp only [hf0, if_true]
    · have hf0 : (¬ b.frozen = 0 ∧ ¬ b.frozen = c.plan) = False := by simp only [eq_iff_iff, iff_false]; exact hf
      simp only [hf0, if_false]
      have e : (b.frozen == c.plan) = !decide (b.frozen = 0) := by
        have := hc.plan
        rw [Bool.eq_iff_iff]; simp; omega
      rw [e]; rfl
  simp only [k5, if_false, false_or]
  by_cases k6 : c.kind = 6
  · simp only [k6, if_true]
    by_cases hf : ¬ b.frozen = 0 ∧ ¬ b.frozen = c.plan
    · have hf0 : (¬ b.frozen = 0 ∧ ¬ b.frozen = c.plan) = True := by simp only [eq_iff_iff, iff_true]; exact hf
      simp only [hf0, if_true]
    · have hf0 : (¬ b.frozen = 0 ∧ ¬ b.frozen = c.plan) = False := by simp only [eq_iff_iff, iff_false]; exact hf
      simp only [hf0, if_false]
      have e : (b.frozen == 0) = decide (b.frozen = 0) := by rw [Bool.eq_iff_iff]; simp
      rw [e]; rfl
  simp only [k6, if_false]
  by_cases hf : b.frozen = 0
  case neg => simp only [hf, not_false_eq_true, if_true]
  have hf0 : (¬ b.frozen = 0) = False := by simp [hf]
  simp only [hf0, if_false]
  by_cases k4 : c.kind = 4
  · simp only [k4, if_true, readC_of h.gone hc.name]
  simp only [k4, if_false]
  by_cases ho : b.l.length < c.off
  · simp only [ho, if_true]
  simp only [ho, if_false]
  congr 2
  omega
/-- The book stays one that may be. -/
theorem bkOk_does {b : Bk} {c : Cmd} (h : BkOk b) (hc : CmdOk c) (hp : c.prod ≤ 9) (hv : c.val < 256) (hs : c.seq ≤ 1000) : BkOk (doesB b c).1 := by
  unfold doesB
  split
  · exact h
  split
  · split
    · exact h
    · split
      · exact ⟨h.lo, h.lh, h.hi, h.epoch, h.num, h.key, h.val, h.prod, h.seq, h.up, h.at_, h.gone, h.last⟩
      · exact ⟨h.lo, h.lh, h.hi, h.epoch, h.num, h.key, h.val, h.prod, h.seq, h.up, h.at_, h.gone, h.last⟩
  split
  · split
    · exact h
    rename_i hin
    have hin := Classical.not_not.1 hin
    split
    · exact h
    split
    · exact h
    rename_i hlt
    split
    · exact h
    have hmem : ∀ r, r ∈ b.l ++ [c.rcd b.l.length] → r ∈ b.l ∨ r = c.rcd b.l.length := fun r hr => by simpa using hr
    have hlast : ∀ p, b.last p ≤ setF b.last c.prod c.seq p := fun p => by unfold setF; split <;> (try subst_vars) <;> omega
    refine ⟨h.lo, h.lh, h.hi, h.epoch, ?_, ?_, ?_, ?_, ?_, ?_, ?_, h.gone, ?_⟩
    · intro i r hi
      rw [List.getElem?_append] at hi
      split at hi
      · exact h.num i r hi
      · have : i = b.l.length := by
          rw [List.getElem?_singleton] at hi
          split at hi
          · omega
          · cases hi
        subst this
        simp at hi
        rw [← hi]; rfl
    · intro r hr
      rcases hmem r hr with h1 | rfl
      · exact h.key r h1
      · exact ⟨hc.key, by unfold inR; exact decide_eq_true hin⟩
    · intro r hr
      rcases hmem r hr with h1 | rfl
      · exact h.val r h1
      · exact hv
    · intro r hr
      rcases hmem r hr with h1 | rfl
      · exact h.prod r h1
      · exact ⟨hc.prod, hp⟩
    · intro r hr
      rcases hmem r hr with h1 | rfl
      · have := h.seq r h1; have := hlast r.prod; exact ⟨by omega, by simp only; omega⟩
      · exact ⟨hc.seq.1, by simp [Cmd.rcd, setF_same]⟩
    · intro i j x y hi hj hij hxy
      have hjl : j < b.l.length + 1 := by have := (List.getElem?_eq_some_iff.1 hj).1; simpa using this
      simp only at hi hj
      rw [List.getElem?_append_left (by omega)] at hi
      by_cases hjb : j < b.l.length
      · rw [List.getElem?_append_left hjb] at hj
        exact h.up i j x y hi hj hij hxy
      · have : j = b.l.length := by omega
        subst this
        simp at hj
        subst hj
        have := (h.seq x (List.mem_of_getElem? hi)).2
        rw [hxy] at this
        simp only [Cmd.rcd] at this ⊢
        omega
    · intro k; have := h.at_ k; simp; omega
    · intro i
      simp only [setF]
      split
      · exact hs
      · exact h.last i
  split
  · exact h
  split
  · exact h
  split
  · exact h
  split
  · exact h
  rename_i ho
  split
  · rename_i h3 _ _ _ _ k3
    have hlt : ¬ c.seq ≤ b.last c.prod := fun e => by simp_all
    have hlast : ∀ p, b.last p ≤ setF b.last c.prod c.seq p := fun p => by unfold setF; split <;> (try subst_vars) <;> omega
    refine ⟨h.lo, h.lh, h.hi, h.epoch, h.num, h.key, h.val, h.prod, ?_, h.up, ?_, ?_, ?_⟩
    · intro r hr
      have := h.seq r hr; have := hlast r.prod; exact ⟨by omega, by simp only; omega⟩
    · intro k
      simp only [setF]
      split
      · omega
      · exact h.at_ k
    · intro k
      simp only [setF]
      split
      · intro e; cases e
      · exact h.gone k
    · intro i
      simp only [setF]
      split
      · exact hs
      · exact h.last i
  · exact h
end Go.Proofs.YtkdmbimkanjbhaaGreatDoor.Eng
namespace Go.Proofs.YtkdmbimkanjbhaaGreatDoor.Eng
open Go Go.Proofs Go.Extern
set_option maxRecDepth 100000
/-! ### closed facts on errors: 31: Errno · 143: again · 184: *refusal · 86: error · 193: reflectlite's rtype · 108: *Errno -/
abbrev hnd (t : Nat) : Value := .pointer (some ⟨4, t, none⟩)
abbrev rty (t : Nat) : Value := .iface 193 (.agg #[hnd t])
theorem ta_205_184 (v : Value) : TaOk Tryz.prog (.iface 184 v) 86 205 (.tuple #[.nilIface, .bool false]) := ⟨fun w => run_typeAssert_lacksB Tryz.underlying205 (by kernel_rfl) (by kernel_rfl) v 86 w⟩
theorem ta_205_31 (v : Value) : TaOk Tryz.prog (.iface 31 v) 86 205 (.tuple #[.nilIface, .bool false]) := ⟨fun w => run_typeAssert_lacksB Tryz.underlying205 (by kernel_rfl) (by kernel_rfl) v 86 w⟩
theorem ta_205_143 (v : Value) : TaOk Tryz.prog (.iface 143 v) 86 205 (.tuple #[.nilIface, .bool false]) := ⟨fun w => run_typeAssert_lacksB Tryz.underlying205 (by kernel_rfl) (by kernel_rfl) v 86 w⟩
theorem ta_200_184 (v : Value) : TaOk Tryz.prog (.iface 184 v) 86 200 (.tuple #[.iface 184 v, .bool true]) := ⟨fun w => run_typeAssert_hasB Tryz.underlying200 (by kernel_rfl) v 86 w⟩
theorem ta_200_31 (v : Value) : TaOk Tryz.prog (.iface 31 v) 86 200 (.tuple #[.nilIface, .bool false]) := ⟨fun w => run_typeAssert_lacksB Tryz.underlying200 (by kernel_rfl) (by kernel_rfl) v 86 w⟩
theorem ta_202_31 (v : Value) : TaOk Tryz.prog (.iface 31 v) 86 202 (.tuple #[.nilIface, .bool false]) := ⟨fun w => run_typeAssert_lacksB Tryz.underlying202 (by kernel_rfl) (by kernel_rfl) v 86 w⟩
theorem ta_197_184 (v : Value) : TaOk Tryz.prog (.iface 184 v) 86 197 (.tuple #[.nilIface, .bool false]) := ⟨fun w => run_typeAssert_lacksB Tryz.underlying197 (by kernel_rfl) (by kernel_rfl) v 86 w⟩
theorem md_unwrap (v : Value) : MdOk Tryz.prog 184 v "Unwrap" 170 v := ⟨fun w => by kernel_rfl⟩
theorem md_comp (v : Value) : MdOk Tryz.prog 193 (.agg #[v]) "Comparable" 173 (.agg #[v]) := ⟨fun w => by kernel_rfl⟩
theorem md_kind (v : Value) : MdOk Tryz.prog 193 (.agg #[v]) "Kind" 161 v := ⟨fun w => by kernel_rfl⟩
theorem md_elem (v : Value) : MdOk Tryz.prog 193 (.agg #[v]) "Elem" 174 (.agg #[v]) := ⟨fun w => by kernel_rfl⟩
theorem md_impl (v : Value) : MdOk Tryz.prog 193 (.agg #[v]) "Implements" 175 (.agg #[v]) := ⟨fun w => by kernel_rfl⟩
theorem md_asgn (v : Value) : MdOk Tryz.prog 193 (.agg #[v]) "AssignableTo" 172 (.agg #[v]) := ⟨fun w => by kernel_rfl⟩
theorem nat_typeof_143 (v : Value) : NatV Tryz.prog 80 [.iface 143 v] (rty 143) := ⟨fun w => by kernel_rfl⟩
theorem nat_typeof_31 (v : Value) : NatV Tryz.prog 80 [.iface 31 v] (rty 31) := ⟨fun w => by kernel_rfl⟩
theorem nat_typeof_184 (v : Value) : NatV Tryz.prog 80 [.iface 184 v] (rty 184) := ⟨fun w => by kernel_rfl⟩
theorem nat_comp_143 : NatV Tryz.prog 173 [.agg #[hnd 143]] (.bool true) := ⟨fun w => by kernel_rfl⟩
theorem nat_comp_31 : NatV Tryz.prog 173 [.agg #[hnd 31]] (.bool true) := ⟨fun w => by kernel_rfl⟩
theorem nat_kind_108 : NatV Tryz.prog 161 [hnd 108] (.int .u8 22) := ⟨fun w => by kernel_rfl⟩
theorem nat_kind_31 : NatV Tryz.prog 161 [hnd 31] (.int .u8 2) := ⟨fun w => by kernel_rfl⟩
theorem nat_elem_108 : NatV Tryz.prog 174 [.agg #[hnd 108]] (rty 31) := ⟨fun w => by kernel_rfl⟩
theorem nat_impl_31 : NatV Tryz.prog 175 [.agg #[hnd 31], rty 86] (.bool true) := ⟨fun w => by kernel_rfl⟩
theorem nat_asgn_184 : NatV Tryz.prog 172 [.agg #[hnd 184], rty 31] (.bool false) := ⟨fun w => by kernel_rfl⟩
theorem nat_asgn_31 : NatV Tryz.prog 172 [.agg #[hnd 31], rty 31] (.bool true) := ⟨fun w => by kernel_rfl⟩
theorem nat_valueof_108 (t : Addr) : NatA Tryz.prog 76 [.iface 108 (.pointer (some t))] (.cells #[.pointer (some t)] 108 (0, 0)) (fun b => .agg #[hnd 108, .pointer (some ⟨b, 0, none⟩), .int .u64 150]) := ⟨fun w => by kernel_rfl⟩
theorem nat_valueof_31 (n : Int) : NatA Tryz.prog 76 [.iface 31 (.int .i64 n)] (.cells #[.int .i64 n] 31 (0, 0)) (fun b => .agg #[hnd 31, .pointer (some ⟨b, 0, none⟩), .int .u64 130]) := ⟨fun w => by kernel_rfl⟩
theorem nat_type_108 (a : Addr) : NatV Tryz.prog 77 [.agg #[hnd 108, .pointer (some a), .int .u64 150]] (rty 108) := ⟨fun w => by kernel_rfl⟩
theorem eq_again (w : World) : (binOp .eql 86 (.iface 143 (.agg #[])) (.iface 143 (.agg #[]))).run Tryz.prog w = .ok (.bool true) w := by kernel_rfl
theorem eq_errno (a b : Int) (w : World) : (binOp .eql 86 (.iface 31 (.int .i64 a)) (.iface 31 (.int .i64 b))).run Tryz.prog w = .ok (.bool (a == b)) w := by kernel_rfl
theorem eq_types (t t' : TypeId) (v v' : Value) (h : t ≠ t') (w : World) : (binOp .eql 86 (.iface t v) (.iface t' v')).run Tryz.prog w = .ok (.bool false) w := by
  exact run_eql_iface_types t t' v v' Tryz.underlying86 h w
end Go.Proofs.YtkdmbimkanjbhaaGreatDoor.Eng
namespace Go.Proofs.YtkdmbimkanjbhaaGreatDoor.Eng
open Go Go.Proofs Go.Extern
set_option maxRecDepth 100000
theorem rlm (z : Sem Value) (f : TypeId → Addr → Nat → Nat → Sem Value) (v : Value) :
    ReflectliteValue.method z f #[v] = (do match ← ReflectliteValue.parts v with | none => z | some (t, a, fl) => f t a fl (fl % 32)) := rfl
theorem parts108 (a : Addr) (w : World) : (ReflectliteValue.parts (.agg #[hnd 108, .pointer (some a), .int .u64 150])).run Tryz.prog w = .ok (some (108, a, 150)) w := by kernel_rfl
theorem parts31 (a : Addr) (w : World) : (ReflectliteValue.parts (.agg #[hnd 31, .pointer (some a), .int .u64 130])).run Tryz.prog w = .ok (some (31, a, 130)) w := by kernel_rfl
theorem parts31a (a : Addr) (w : World) : (ReflectliteValue.parts (.agg #[hnd 31, .pointer (some a), .int .u64 386])).run Tryz.prog w = .ok (some (31, a, 386)) w := by kernel_rfl
theorem isNil108 {a p : Addr} {W : World} (ha : W.cell? a = some (.pointer (some p))) : (callFunc 78 [.agg #[hnd 108, .pointer (some a), .int .u64 150]].toArray).run Tryz.prog W = .ok (.value (.bool false)) W := by
  rw [@run_callFunc_extern Tryz.prog 78 _ (ReflectliteValue.method (ReflectliteValue.valueError "reflectlite.Value.IsNil" 0) ReflectliteValue.isNil) Tryz.func78 (by kernel_rfl) (by kernel_rfl) (by kernel_rfl) (by kernel_rfl), rlm]
  simp only [Sem.run_bind, parts108, Result.andThen]
  simp [ReflectliteValue.isNil, loadVar, isAgg, underlying, Tryz.underlying108, ha, Result.andThen]
theorem elemOf108 (w : World) : (Rtype.elem? 108).run Tryz.prog w = .ok (some 31) w := by kernel_rfl
theorem mk31 (p : Addr) (w : World) : (ReflectliteValue.mk 31 p ReflectliteValue.flagAddr).run Tryz.prog w = .ok (.agg #[hnd 31, .pointer (some p), .int .u64 386]) w := by kernel_rfl
theorem elemV108 {a p : Addr} {W : World} (ha : W.cell? a = some (.pointer (some p))) : (callFunc 99 [.agg #[hnd 108, .pointer (some a), .int .u64 150]].toArray).run Tryz.prog W = .ok (.value (.agg #[hnd 31, .pointer (some p), .int .u64 386])) W := by
  rw [@run_callFunc_extern Tryz.prog 99 _ (ReflectliteValue.method (ReflectliteValue.valueError "reflectlite.Value.Elem" 0) ReflectliteValue.elem) Tryz.func99 (by kernel_rfl) (by kernel_rfl) (by kernel_rfl) (by kernel_rfl), rlm]
  simp only [Sem.run_bind, parts108, Result.andThen]
  simp [ReflectliteValue.elem, loadVar, isAgg, underlying, Tryz.underlying108, ha, Result.andThen, elemOf108, mk31]
theorem rls (v x : Value) : ReflectliteValue.set #[v, x] = (do
    let (some (dst, a, fl), some (src, b, _)) := (← ReflectliteValue.parts v, ← ReflectliteValue.parts x)
      | unsupported (.noEntry "extern/(internal/reflectlite.Value).Set.zeroValue")
    if fl / ReflectliteValue.flagAddr % 2 == 0 then unsupported (.noEntry "extern/(internal/reflectlite.Value).Set.unaddressable")
    let val ← loadVar src b
    if ← Rtype.directlyAssignable dst src then storeVar dst a val
    else if ← Rtype.implements dst src then
      if (← Rtype.kind src) == 20 then
        match val with
        | .nilIface => unsupported (.noEntry "extern/reflectlite: a nil value of one interface type handed on as a value of another")
        | _ => storeVar dst a val
      else storeVar dst a (.iface src val)
    else panicString ("reflectlite.Set: value of type " ++ (← Rtype.spelt src) ++ " is not assignable to type " ++ (← Rtype.spelt dst))
    pure (.tuple #[])) := rfl
theorem direct31 (w : World) : (Rtype.directlyAssignable 31 31).run Tryz.prog w = .ok true w := by kernel_rfl
theorem set31 {b : Nat} {tb : Nat} {x : Value} {e : Int} {W : World} (hb : W.cell? ⟨b, 0, none⟩ = some (.int .i64 e)) (ht : W.heap[tb]? = some (.cells #[x] 31 (0, 0))) :
    (callFunc 100 [.agg #[hnd 31, .pointer (some ⟨tb, 0, none⟩), .int .u64 386], .agg #[hnd 31, .pointer (some ⟨b, 0, none⟩), .int .u64 130]].toArray).run Tryz.prog W = .ok (.value (.tuple #[])) (W.setRow tb #[.int .i64 e]) := by
  rw [@run_callFunc_extern Tryz.prog 100 _ ReflectliteValue.set Tryz.func100 (by kernel_rfl) (by kernel_rfl) (by kernel_rfl) (by kernel_rfl), rls]
  have hs := run_storeVar (P := Tryz.prog) (t := 31) (b := tb) (off := 0) (m := 1) (v := .int .i64 e) (vs := [.int .i64 e]) sz_31 rfl rfl rfl ht (by simp)
  simp only [Sem.run_bind, parts31a, parts31, Result.andThen]
  simp [ReflectliteValue.flagAddr, loadVar, isAgg, underlying, Tryz.underlying31, hb, Result.andThen, direct31, hs]
end Go.Proofs.YtkdmbimkanjbhaaGreatDoor.Eng
namespace Go.Proofs.YtkdmbimkanjbhaaGreatDoor.Eng
open Go Go.Proofs
set_option maxRecDepth 100000
attribute [local irreducible] Tr
theorem unwrap_ok {S : Stone} {b : Nat} {e : Value} (h : S.cell ⟨b, 0 + 1, none⟩ = some e) : Con Tryz.prog 170 #[.pointer (some ⟨b, 0, none⟩)] [] S (Ret e S) := by
 refine con_of 7 Tryz.func170 rfl rfl rfl (fun w0 => ?_)
 refine sr (sa rfl (nesr (mv rfl (yy (y_nil rfl) (yy (y_far fo_186_1 rfl) (ll (ld_st ld_86 rfl ‹_›) ?_))))))
 exact sa rfl (netr (f_ret0 rfl (rt rfl) rfl rfl))
abbrev again : Value := .iface 143 (.agg #[])
abbrev errno (e : Nat) : Value := .iface 31 (i64 e)
abbrev refl (b : Nat) : Value := .iface 184 (.pointer (some ⟨b, 0, none⟩))
theorem is_again {S : Stone} {b : Nat} (h : S.cell ⟨b, 0 + 1, none⟩ = some again) : Con Tryz.prog 81 #[refl b, again, .bool true] [] S (Ret (.bool true) S) := by
 refine con_of 54 Tryz.func81 rfl rfl rfl (fun w0 => ?_)
 refine sr (sa rfl (ne (c_block (c_loopH (τ := Bool) [(6, _), (1, _), (2, _)] (fun Ek z0 => (0, bif z0 then again else refl b) :: Ek) (fun z0 => True) (fun z0 => bif z0 then 0 else 1) (false) (trivial) (fun z0 hz0 K0l hr0 => ?_)))))
 cases z0
 · -- case o
   refine c_block (c_seq (sr (mv rfl (mv rfl (t_known (gd := 15) (v := true) rfl (by rfl) (fun hb15 => ?_))))))
   refine qy hb15 (y_move rfl) (qy hb15 (y_move rfl) (qy hb15 (y_ieq (b := false) rfl rfl (eq_types _ _ _ _ (by decide))) ?_))
   refine yy (y_pick_t' rfl hb15 rfl) (ne (c_false rfl (c_skip (e_then (c_seq (sr (mv rfl (yy (y_ta rfl (ta_205_184 _)) (mv rfl (yy (y_ext rfl rfl) (yy (y_ext rfl rfl) (sa rfl (sa rfl (nesr (mv rfl (mv rfl (t_known (gd := 26) (v := false) rfl (by rfl) (fun hb26 => ?_))))))))))))))))))
   refine qn hb26 (qn hb26 (qn hb26 (yy (y_pick_f' rfl hb26 rfl) (ne (c_false rfl (c_skip (e_then (sr (mv rfl (ne (c_block (sr (yy (y_ta rfl (ta_200_184 _)) (yy (y_ext rfl rfl) (yy (y_ext rfl rfl) (ne (c_true rfl (c_seq ?_))))))))))))))))))
   exact c_region (sa rfl (nesr (mv rfl (lw (t_invr rfl rfl (md_unwrap _) en_170 (unwrap_ok h) (sa rfl (nesr (mv rfl (yy (y_inil if_86 rfl) (ne (c_false rfl (c_skip (e_in (e_in (e_then (t_to (hr0 true trivial (by decide))))))))))))))))))
 · -- case i
   refine c_block (c_seq (sr (mv rfl (mv rfl (t_known (gd := 15) (v := true) rfl (by rfl) (fun hb15 => ?_))))))
   exact qy hb15 (y_move rfl) (qy hb15 (y_move rfl) (qy hb15 (y_ieq (b := true) rfl rfl eq_again) (yy (y_pick_t' rfl hb15 rfl) (ne (c_true rfl (sr (sa rfl (netr (e_then_ret (e_in_ret (e_then_ret (e_in_ret (f_ret0 rfl (rt rfl) rfl rfl)))))))))))))
theorem is_errno {S : Stone} {b e : Nat} (h : S.cell ⟨b, 0 + 1, none⟩ = some (errno e)) : Con Tryz.prog 81 #[refl b, again, .bool true] [] S (Ret (.bool false) S) := by
 refine con_of 54 Tryz.func81 rfl rfl rfl (fun w0 => ?_)
 refine sr (sa rfl (ne (c_block (c_loopH (τ := Bool) [(6, _), (1, _), (2, _)] (fun Ek z0 => (0, bif z0 then errno e else refl b) :: Ek) (fun z0 => True) (fun z0 => bif z0 then 0 else 1) (false) (trivial) (fun z0 hz0 K0l hr0 => ?_)))))
 cases z0
 · -- case o
   refine c_block (c_seq (sr (mv rfl (mv rfl (t_known (gd := 15) (v := true) rfl (by rfl) (fun hb15 => ?_))))))
   refine qy hb15 (y_move rfl) (qy hb15 (y_move rfl) (qy hb15 (y_ieq (b := false) rfl rfl (eq_types _ _ _ _ (by decide))) ?_))
   refine yy (y_pick_t' rfl hb15 rfl) (ne (c_false rfl (c_skip (e_then (c_seq (sr (mv rfl (yy (y_ta rfl (ta_205_184 _)) (mv rfl (yy (y_ext rfl rfl) (yy (y_ext rfl rfl) (sa rfl (sa rfl (nesr (mv rfl (mv rfl (t_known (gd := 26) (v := false) rfl (by rfl) (fun hb26 => ?_))))))))))))))))))
   refine qn hb26 (qn hb26 (qn hb26 (yy (y_pick_f' rfl hb26 rfl) (ne (c_false rfl (c_skip (e_then (sr (mv rfl (ne (c_block (sr (yy (y_ta rfl (ta_200_184 _)) (yy (y_ext rfl rfl) (yy (y_ext rfl rfl) (ne (c_true rfl (c_seq ?_))))))))))))))))))
   exact c_region (sa rfl (nesr (mv rfl (lw (t_invr rfl rfl (md_unwrap _) en_170 (unwrap_ok h) (sa rfl (nesr (mv rfl (yy (y_inil if_86 rfl) (ne (c_false rfl (c_skip (e_in (e_in (e_then (t_to (hr0 true trivial (by decide))))))))))))))))))
 · -- case i
   refine c_block (c_seq (sr (mv rfl (mv rfl (t_known (gd := 15) (v := true) rfl (by rfl) (fun hb15 => ?_))))))
   refine qy hb15 (y_move rfl) (qy hb15 (y_move rfl) (qy hb15 (y_ieq (b := false) rfl rfl (eq_types _ _ _ _ (by decide))) ?_))
   refine yy (y_pick_t' rfl hb15 rfl) (ne (c_false rfl (c_skip (e_then (c_seq (sr (mv rfl (yy (y_ta rfl (ta_205_31 _)) (mv rfl (yy (y_ext rfl rfl) (yy (y_ext rfl rfl) (sa rfl (sa rfl (nesr (mv rfl (mv rfl (t_known (gd := 26) (v := false) rfl (by rfl) (fun hb26 => ?_))))))))))))))))))
   refine qn hb26 (qn hb26 (qn hb26 (yy (y_pick_f' rfl hb26 rfl) (ne (c_false rfl (c_skip (e_then (sr (mv rfl (ne (c_block (sr (yy (y_ta rfl (ta_200_31 _)) (yy (y_ext rfl rfl) (yy (y_ext rfl rfl) (ne (c_false rfl (c_seq ?_))))))))))))))))))
   exact c_region (yy (y_ta rfl (ta_202_31 _)) (yy (y_ext rfl rfl) (yy (y_ext rfl rfl) (ne (c_false rfl (sr (sa rfl (nesr (sa rfl (netr (e_in_ret (e_in_ret (e_then_ret (e_in_ret (f_ret0 rfl (rt rfl) rfl rfl)))))))))))))))
theorem is_plain {S : Stone} {e t : Nat} : Con Tryz.prog 81 #[errno e, errno t, .bool true] [] S (Ret (.bool (e == t)) S) := by
 have heq : ((e : Int) == (t : Int)) = (e == t) := by rw [Bool.eq_iff_iff]; simp; omega
 refine con_of 54 Tryz.func81 rfl rfl rfl (fun w0 => ?_)
 refine sr (sa rfl (ne (c_block (c_loopH (τ := Unit) [(6, _), (0, _), (1, _), (2, _)] (fun Ek z0 => Ek) (fun z0 => True) (fun z0 => 0) (()) (trivial) (fun z0 hz0 K0l hr0 => ?_)))))
 refine c_block (c_seq (sr (mv rfl (mv rfl (t_known (gd := 15) (v := true) rfl (by rfl) (fun hb15 => ?_))))))
 refine qy hb15 (y_move rfl) (qy hb15 (y_move rfl) (qy hb15 (y_ieq rfl rfl (eq_errno _ _)) ?_))
 rw [heq]
 refine yy (y_pick_t' rfl hb15 rfl) (nec rfl (fun g1 => ?_) (fun g1 => ?_))
 · have hq : (e == t) = true := g1
   exact sr (sa rfl (netr (e_then_ret (e_in_ret (e_then_ret (e_in_ret (f_ret0 rfl (rt rfl) (by rw [hq]; rfl) rfl)))))))
 · have hq : (e == t) = false := g1
   refine c_skip (e_then (c_seq (sr (mv rfl (yy (y_ta rfl (ta_205_31 _)) (mv rfl (yy (y_ext rfl rfl) (yy (y_ext rfl rfl) (sa rfl (sa rfl (nesr (mv rfl (mv rfl (t_known (gd := 26) (v := false) rfl (by rfl) (fun hb26 => ?_)))))))))))))))
   refine qn hb26 (qn hb26 (qn hb26 (yy (y_pick_f' rfl hb26 rfl) (ne (c_false rfl (c_skip (e_then (sr (mv rfl (ne (c_block (sr (yy (y_ta rfl (ta_200_31 _)) (yy (y_ext rfl rfl) (yy (y_ext rfl rfl) (ne (c_false rfl (c_seq ?_))))))))))))))))))
   exact c_region (yy (y_ta rfl (ta_202_31 _)) (yy (y_ext rfl rfl) (yy (y_ext rfl rfl) (ne (c_false rfl (sr (sa rfl (nesr (sa rfl (netr (e_in_ret (e_in_ret (e_then_ret (e_in_ret (f_ret0 rfl (rt rfl) (by rw [hq]; rfl) rfl)))))))))))))))
theorem errIs_nil {S : Stone} : Con Tryz.prog 44 #[.nilIface, again] [] S (Ret (.bool false) S) := by
 refine con_of 22 Tryz.func44 rfl rfl rfl (fun w0 => ?_)
 refine sr (sa rfl (nes (sr (mv rfl (yy (y_inil0 if_86 rfl) (mv rfl (t_known (gd := 8) (v := true) rfl (by rfl) (fun hb8 => ?_))))))))
 exact qn hb8 (qn hb8 (yy (y_pick_t' rfl hb8 rfl) (ne (c_true rfl (sr (mv rfl (mv rfl (yy (y_ieqn if_86 rfl rfl) (sa rfl (netr (e_then_ret (f_ret0 rfl (rt rfl) rfl rfl))))))))))))
theorem errIs_again {S : Stone} {b : Nat} (h : S.cell ⟨b, 0 + 1, none⟩ = some again) : Con Tryz.prog 44 #[refl b, again] [] S (Ret (.bool true) S) := by
 refine con_of 22 Tryz.func44 rfl rfl rfl (fun w0 => ?_)
 refine sr (sa rfl (nes (sr (mv rfl (yy (y_inil if_86 rfl) (mv rfl (t_known (gd := 8) (v := false) rfl (by rfl) (fun hb8 => ?_))))))))
 refine qy hb8 (y_move rfl) (qy hb8 (y_inil if_86 rfl) (yy (y_pick_f' rfl hb8 rfl) (ne (c_false rfl (c_skip (e_then (sr (mv rfl (yy (y_natv rfl (nat_typeof_143 _)) (yy (y_invn (l := []) rfl rfl (md_comp _) nat_comp_143) (sa rfl (nesr (mv rfl (mv rfl (mv rfl (lw (t_callr' rfl (is_again h) en_81 (sa rfl (l_nil ?_)))))))))))))))))))
 exact e_then (c_ret (f_ret0 rfl (rt rfl) rfl rfl))
theorem errIs_errno {S : Stone} {b e : Nat} (h : S.cell ⟨b, 0 + 1, none⟩ = some (errno e)) : Con Tryz.prog 44 #[refl b, again] [] S (Ret (.bool false) S) := by
 refine con_of 22 Tryz.func44 rfl rfl rfl (fun w0 => ?_)
 refine sr (sa rfl (nes (sr (mv rfl (yy (y_inil if_86 rfl) (mv rfl (t_known (gd := 8) (v := false) rfl (by rfl) (fun hb8 => ?_))))))))
 refine qy hb8 (y_move rfl) (qy hb8 (y_inil if_86 rfl) (yy (y_pick_f' rfl hb8 rfl) (ne (c_false rfl (c_skip (e_then (sr (mv rfl (yy (y_natv rfl (nat_typeof_143 _)) (yy (y_invn (l := []) rfl rfl (md_comp _) nat_comp_143) (sa rfl (nesr (mv rfl (mv rfl (mv rfl (lw (t_callr' rfl (is_errno h) en_81 (sa rfl (l_nil ?_)))))))))))))))))))
 exact e_then (c_ret (f_ret0 rfl (rt rfl) rfl rfl))
theorem errIs_plain {S : Stone} {e t : Nat} : Con Tryz.prog 44 #[errno e, errno t] [] S (Ret (.bool (e == t)) S) := by
 refine con_of 22 Tryz.func44 rfl rfl rfl (fun w0 => ?_)
 refine sr (sa rfl (nes (sr (mv rfl (yy (y_inil if_86 rfl) (mv rfl (t_known (gd := 8) (v := false) rfl (by rfl) (fun hb8 => ?_))))))))
 refine qy hb8 (y_move rfl) (qy hb8 (y_inil if_86 rfl) (yy (y_pick_f' rfl hb8 rfl) (ne (c_false rfl (c_skip (e_then (sr (mv rfl (yy (y_natv rfl (nat_typeof_31 _)) (yy (y_invn (l := []) rfl rfl (md_comp _) nat_comp_31) (sa rfl (nesr (mv rfl (mv rfl (mv rfl (lw (t_callr' rfl (is_plain) en_81 (sa rfl (l_nil ?_)))))))))))))))))))
 exact e_then (c_ret (f_ret0 rfl (rt rfl) rfl rfl))
end Go.Proofs.YtkdmbimkanjbhaaGreatDoor.Eng
namespace Go.Proofs.YtkdmbimkanjbhaaGreatDoor.Eng
open Go Go.Proofs
set_option maxRecDepth 100000
attribute [local irreducible] Tr
theorem blk_cell {w : World} {b off : Nat} {cs : Array Value} {T : TypeId} {fz : Nat × Nat} {v : Value} (h : (Item.blk b (.cells cs T fz)).holds w) (hc : cs[off]? = some v) : w.cell? ⟨b, off, none⟩ = some v := by
 have h' : w.heap[b]? = some (.cells cs T fz) := h
 simp [World.cell?, h', hc]
theorem as_ok {S : Stone} {b tb pb e : Nat} {x : Value} (h : S.cell ⟨b, 0 + 1, none⟩ = some (errno e)) (hpb : S.cell ⟨pb, 0, none⟩ = some (.pointer (some ⟨tb, 0, none⟩))) :
 Con Tryz.prog 79 #[refl b, .iface 108 (.pointer (some ⟨tb, 0, none⟩)), .agg #[hnd 108, .pointer (some ⟨pb, 0, none⟩), .int .u64 150], rty 31] [.blk tb (.cells #[x] 31 (0, 0))] S (fun u I' S' => u = .bool true ∧ I' = [.blk tb (.cells #[i64 e] 31 (0, 0))] ∧ S' = S) := by
 refine con_of 62 Tryz.func79 rfl rfl rfl (fun w0 => ?_)
 refine sr (bx rfl rfl (fun b6 => sa rfl (ne (c_block (c_loopH (τ := Bool) [(8, _), (6, _), (1, _), (3, _)] (fun Ek z0 => (0, bif z0 then errno e else refl b) :: Ek) (fun z0 => True) (fun z0 => bif z0 then 0 else 1) (false) (trivial) (fun z0 hz0 K0l hr0 => ?_))))))
 cases z0
 · -- case o
   refine c_block (c_seq (sr (mv rfl (yy (y_natv rfl (nat_typeof_184 _)) (mv rfl (yy (y_invn rfl rfl (md_asgn _) nat_asgn_184) (ne (c_false rfl (c_skip (e_then (c_seq (sr (mv rfl (yy (y_ta rfl (ta_197_184 _)) (mv rfl (yy (y_ext rfl rfl) (yy (y_ext rfl rfl) (sa rfl (sa rfl (l_nil ?_))))))))))))))))))))
   refine e_then (sr (mv rfl (mv rfl (t_known (gd := 31) (v := false) rfl (by rfl) (fun hb31 => ?_)))))
   refine qn hb31 (qn hb31 (qn hb31 (yy (y_pick_f' rfl hb31 rfl) (ne (c_false rfl (c_skip (e_then (sr (mv rfl (ne (c_block (sr (yy (y_ta rfl (ta_200_184 _)) (yy (y_ext rfl rfl) (yy (y_ext rfl rfl) (ne (c_true rfl (c_seq ?_))))))))))))))))))
   exact c_region (sa rfl (nesr (mv rfl (lw (t_invr rfl rfl (md_unwrap _) en_170 (unwrap_ok h) (sa rfl (nesr (mv rfl (yy (y_inil if_86 rfl) (ne (c_false rfl (c_skip (e_in (e_in (e_then (t_to (hr0 true trivial (by decide))))))))))))))))))
 · -- case i
   refine c_block (c_seq (sr (mv rfl (yy (y_natv rfl (nat_typeof_31 _)) (mv rfl (yy (y_invn rfl rfl (md_asgn _) nat_asgn_31) (ne (c_true rfl (sr (ll (lbw ld_155) ?_))))))))))
   refine ll (ld_nat rfl ⟨fun w _ hS => elemV108 (stone_cell hS hpb)⟩) ?_
   refine mv rfl (lw (t_nata rfl (nat_valueof_31 _) (fun b23 => lw (t_nats (b := tb) rfl pk (fun w hH => set31 (blk_cell (hH (.blk b23 (.cells #[.int .i64 e] 31 (0, 0))) (by simp)) rfl) (hH (.blk tb (.cells #[x] 31 (0, 0))) (by simp))) ?_))))
   exact nesr (sa rfl (netr (e_then_ret (e_in_ret (e_then_ret (e_in_ret (f_retS rfl (rt rfl) ⟨rfl, rfl, rfl⟩)))))))
def Gl (S : Stone) : Prop := S.cell ⟨0, 0, none⟩ = some (rty 86)
theorem errAs_nil {S : Stone} {v : Value} : Con Tryz.prog 40 #[.nilIface, v] [] S (Ret (.bool false) S) := by
 refine con_of 42 Tryz.func40 rfl rfl rfl (fun w0 => ?_)
 exact sr (sa rfl (nes (sr (mv rfl (yy (y_inil0 if_86 rfl) (ne (c_true rfl (sr (sa rfl (netr (e_then_ret (f_ret0 rfl (rt rfl) rfl rfl))))))))))))
theorem errAs_hit {S : Stone} {b tb e : Nat} {x : Value} (hg : Gl S) (h : S.cell ⟨b, 0 + 1, none⟩ = some (errno e)) :
 Con Tryz.prog 40 #[refl b, .iface 108 (.pointer (some ⟨tb, 0, none⟩))] [.blk tb (.cells #[x] 31 (0, 0))] S (fun u I' S' => u = .bool true ∧ I' = [.blk tb (.cells #[i64 e] 31 (0, 0))]) := by
 refine con_of 42 Tryz.func40 rfl rfl rfl (fun w0 => ?_)
 refine sr (sa rfl (nes (sr (mv rfl (yy (y_inil if_86 rfl) (ne (c_false rfl (c_skip (e_then (c_seq (sr (mv rfl (yy (y_inil if_20 rfl) (ne (c_false rfl (c_skip ?_))))))))))))))))
 refine e_then (sr (mv rfl (lw (t_nata rfl (nat_valueof_108 _) (fun b14 => t_stone Pick.hd (fun S1 le1 hS1 => ?_))))))
 have hpb : S1.cell ⟨b14, 0, none⟩ = some (.pointer (some ⟨tb, 0, none⟩)) := by simp [Stone.cell, hS1]
 have hg1 : S1.cell ⟨0, 0, none⟩ = some (rty 86) := le1.cell hg
 have h1 := le1.cell h
 refine al zc_155 (fun b5 => lw (sw sz_155 (ne ?_)))
 refine sr (ll (lbw ld_155) ?_)
 refine yy (y_natv rfl (nat_type_108 _)) (sa rfl (nes (sr (mv rfl (yy (y_invn (l := []) rfl rfl (md_kind _) nat_kind_108) (yy (y_ne rfl rfl) (mv rfl (t_known (gd := 20) (v := false) rfl (by rfl) (fun hb20 => ?_)))))))))
 refine gl hb20 (lbw ld_155) ?_
 refine gl hb20 (ld_nat rfl ⟨fun w _ hS => isNil108 (stone_cell hS hpb)⟩) ?_
 refine yy (y_pick_f' rfl hb20 rfl) (ne (c_false rfl (c_skip (e_then (sr (mv rfl (yy (y_invn (l := []) rfl rfl (md_elem _) nat_elem_108) (sa rfl (nes (sr (mv rfl (yy (y_invn (l := []) rfl rfl (md_kind _) nat_kind_31) (yy (y_ne rfl rfl) (mv rfl (t_known (gd := 30) (v := true) rfl (by rfl) (fun hb30 => ?_))))))))))))))))
 refine qy hb30 (y_move rfl) (gl hb30 (ld_st ld_158 rfl ‹_›) ?_)
 refine qy hb30 (y_invn rfl rfl (md_impl _) nat_impl_31) (qy hb30 (y_not rfl) (yy (y_pick_t' rfl hb30 rfl) (ne (c_false rfl (c_skip (e_then (sr (mv rfl (mv rfl (ll (lbw ld_155) ?_))))))))))
 refine mv rfl (lw (t_call en_79 rfl (Pick.perm pk) (as_ok h1 hpb) (lt_n rfl) ?_))
 rintro v I1 S2 hle ⟨rfl, rfl, rfl⟩
 exact sa rfl (netr (f_retS rfl (rt rfl) ⟨rfl, rfl⟩))
end Go.Proofs.YtkdmbimkanjbhaaGreatDoor.Eng
namespace Go.Proofs.YtkdmbimkanjbhaaGreatDoor.Eng
open Go Go.Proofs
set_option maxRecDepth 100000
attribute [local irreducible] Tr
/-- What an error is: none; done before; why not. -/
def ErrR (S : Stone) (v : Value) : Option (Option Nat) → Prop
 | none => v = .nilIface
 | some none => ∃ b, v = refl b ∧ S.cell ⟨b, 0 + 1, none⟩ = some again
 | some (some e) => ∃ b, v = refl b ∧ S.cell ⟨b, 0 + 1, none⟩ = some (errno e)
theorem Refusal.err {S : Stone} {v : Value} {e : Nat} (h : Refusal S v e) : ErrR S v (some (some e)) := by
 obtain ⟨b, k, h1, _, h3⟩ := h
 exact ⟨b, h1, h3⟩
theorem ErrR.mono {S S' : Stone} {v : Value} {o : Option (Option Nat)} (h : ErrR S v o) (hle : Stone.le S S') : ErrR S' v o := by
 match o, h with
 | none, h => exact h
 | some none, ⟨b, h1, h2⟩ => exact ⟨b, h1, hle.cell h2⟩
 | some (some e), ⟨b, h1, h2⟩ => exact ⟨b, h1, hle.cell h2⟩
def prodS (s : Sh) (c : Cmd) : Sh × Nat × Option (Option Nat) :=
 if ¬ (s.lo ≤ c.key ∧ c.key < s.hi) then (s, 0, some (some 163))
 else if (judge s.p c.prod c.seq).1 = 2 then (s, (judge s.p c.prod c.seq).2, some none)
 else if (judge s.p c.prod c.seq).1 = 3 then (s, 0, some (some 152))
 else if s.frozen ≠ 0 then (s, 0, some (some 164))
 else ({ s with l := s.l ++ [c.rcd s.l.length], p := putP s.p ⟨c.prod, c.seq, true, s.l.length⟩ }, s.l.length, none)
theorem judge_cases (l : List Prd) (i n : Nat) : (judge l i n).1 = 1 ∨ (judge l i n).1 = 2 ∨ (judge l i n).1 = 3 := by
 unfold judge
 split
 · exact .inl rfl
 · split
   · exact .inl rfl
   · split
     · exact .inr (.inl rfl)
     · exact .inr (.inr rfl)
theorem produce_ok {S : Stone} {v bv : Value} {s : Sh} {c : Cmd} (h : PartR S v s) (ho : ShOk s) (hl : s.l.length < 200) (hb : Byt S bv c.val) (hc : CmdOk c) :
 Con Tryz.prog 70 #[v, .agg (c.cells bv).toArray] [] S (RetR fun u S' => ∃ v' e, u = .tuple #[v', u64 (prodS s c).2.1, e] ∧ PartR S' v' (prodS s c).1 ∧ ErrR S' e (prodS s c).2.2) := by
 have h' := h
 obtain ⟨rv, pv, cv, rfl, hr, hp, hcv⟩ := h
 obtain ⟨A, cap, rfl, hca, hm, -⟩ := hr.shape
 obtain ⟨B, capB, rfl, hcB, hmB, -⟩ := hp.shape
 obtain ⟨D, capD, rfl, hcD, hmD, -⟩ := hcv.shape
 obtain ⟨pb, cb, rfl, -⟩ := id hb
 obtain ⟨o1, o2, o3, o4, o5, o6, o7, o8, o9, o10, o11, o12, o13⟩ := ho
 obtain ⟨q1, q2, ⟨q3, q4⟩, q5, q6, q7, q8⟩ := hc
 refine con_of 102 Tryz.func70 rfl rfl rfl (fun w0 => ?_)
 refine sr (bx rfl rfl (fun b2 => bx rfl rfl (fun b3 => al zc_30 (fun b4 => sa rfl (sa rfl (nes (sr (yy (y_far fo_30_0 rfl) (ll (lbs ld_24) ?_)))))))))
 refine yy (y_far fo_57_4 rfl) (ll (lb ld_9) ?_)
 refine lw (t_callr' rfl (has_ok o1 o2 o3 q8) en_45 (yy (y_not rfl) (nec rfl (fun g1 => ?_) (fun g1 => ?_))))
 · have hin : ¬ (s.lo ≤ c.key ∧ c.key < s.hi) := by simp at g1; omega
   have hq : prodS s c = (s, 0, some (some 163)) := by unfold prodS; rw [if_pos hin]
   refine c_seq (dR ([.blk b2 (.cells (s.cells (.slice A s.l.length cap) (.slice B s.p.length capB) (.slice D s.c.length capD)).toArray 30 (0, 0)), .blk b3 (.cells (c.cells (.slice (some pb) 1 cb)).toArray 57 (0, 0))]) [0, 1] (.take 0 (.take 1 (.alt 2 (.alt 3 (.take 4 (.take 5 .done)) .stop) .stop))) ?_)
   refine dl rfl (lbw ld_30) ?_
   refine dl rfl (lbw ld_57) ?_
   refine da rfl (t_callR rfl (refuse_ok (e := 163) om) en_73 ?_)
   rintro v21 S21 le21 h21
   refine dA le21 (da rfl (sw sz_30 ?_))
   exact dA le21 (ea rfl rfl (ea rfl rfl (d_done (e_then (c_ret (e_then_ret (f_retR rfl (ResV.agg ld_30 rfl pk rfl (ResV.tmp rfl (rt rfl))) (by rw [hq]; exact ⟨_, _, rfl, h'.mono le21, h21.err⟩))))))))
 · have hin : s.lo ≤ c.key ∧ c.key < s.hi := by simp at g1; omega
   have hjc := judge_cases s.p c.prod c.seq
   refine c_skip (e_then (c_seq (sr (yy (y_far fo_30_4 rfl) (ll (lb ld_27) ?_)))))
   refine yy (y_far fo_57_2 rfl) (ll (lb ld_25) ?_)
   refine yy (y_far fo_57_3 rfl) (ll (lb ld_25) ?_)
   refine lw (t_callr' rfl ((judge_ok ‹_› om om om).back) en_65 ?_)
   refine mv rfl (yy (y_ext rfl rfl) (yy (y_ext rfl rfl) (sa rfl (sa rfl (ne (c_block (sr (mv rfl (yy (y_eq rfl rfl) (sa rfl (nec rfl (fun g2 => ?_) (fun g2 => ?_))))))))))))
   · have hj : (judge s.p c.prod c.seq).1 = 2 := by simp at g2; omega
     have hq : prodS s c = (s, (judge s.p c.prod c.seq).2, some none) := by unfold prodS; rw [if_neg (fun e => e hin), if_pos hj]
     refine c_seq (dR ([.blk b2 (.cells (s.cells (.slice A s.l.length cap) (.slice B s.p.length capB) (.slice D s.c.length capD)).toArray 30 (0, 0)), .blk b3 (.cells (c.cells (.slice (some pb) 1 cb)).toArray 57 (0, 0))]) [0, 3] (.take 0 (.take 1 (.take 2 (.take 3 (.take 4 (.take 5 (.take 6 (.alt 7 (.take 8 (.alt 9 (.take 10 (.take 11 .done)) .stop)) (.alt 9 (.take 10 (.alt 7 (.take 8 (.take 11 .done)) .stop)) .stop))))))))) ?_)
     refine dl rfl (lbw ld_30) ?_
     refine em rfl rfl (ey rfl (y_far fo_57_0 rfl) (dl rfl (lb ld_55) ?_))
     refine ey rfl (y_build pl_143 zc_143 rfl rfl) (ey rfl (y_mi co_143 rfl) (ey rfl (y_build pl_186 zc_186 rfl rfl) (d_alt rfl rfl ?_ ?_)))
     · -- first 7
       refine t_box rfl rfl (lt_n rfl) (fun b42 => ?_)
       refine dA (Stone.le.refl _) (ey rfl (y_mi co_184 rfl) (da rfl (sw sz_30 ?_)))
       refine dA (Stone.le.refl _) (ea rfl rfl (ea rfl rfl (d_done (e_then (c_ret (e_in_ret (e_then_ret (t_stone (b := b42) pk (fun S1 le1 hS1 => ?_)))))))))
       exact f_retR rfl (ResV.agg ld_30 rfl pk rfl (ResV.tmp rfl (rt rfl))) (by rw [hq]; exact ⟨_, _, rfl, h'.mono le1, b42, rfl, by simp only [Stone.cell, hS1]; rfl⟩)
     refine d_alt rfl rfl ?_ d_stop
     refine sw sz_30 ?_
     refine dA (Stone.le.refl _) (ea rfl rfl (da rfl (t_box rfl rfl (lt_n rfl) (fun b42 => ?_))))
     refine dA (Stone.le.refl _) (ey rfl (y_mi co_184 rfl) (ea rfl rfl (d_done (e_then (c_ret (e_in_ret (e_then_ret (t_stone (b := b42) pk (fun S1 le1 hS1 => ?_)))))))))
     exact f_retR rfl (ResV.agg ld_30 rfl pk rfl (ResV.tmp rfl (rt rfl))) (by rw [hq]; exact ⟨_, _, rfl, h'.mono le1, b42, rfl, by simp only [Stone.cell, hS1]; rfl⟩)
   · have hj2 : ¬ (judge s.p c.prod c.seq).1 = 2 := by simp at g2; omega
     refine sr (mv rfl (yy (y_eq rfl rfl) (sa rfl (nec rfl (fun g3 => ?_) (fun g3 => ?_)))))
     · have hj : (judge s.p c.prod c.seq).1 = 3 := by simp at g3; omega
       have hq : prodS s c = (s, 0, some (some 152)) := by unfold prodS; rw [if_neg (fun e => e hin), if_neg hj2, if_pos hj]
       refine c_seq (dR ([.blk b2 (.cells (s.cells (.slice A s.l.length cap) (.slice B s.p.length capB) (.slice D s.c.length capD)).toArray 30 (0, 0)), .blk b3 (.cells (c.cells (.slice (some pb) 1 cb)).toArray 57 (0, 0))]) [0, 1] (.take 0 (.take 1 (.alt 2 (.alt 3 (.take 4 (.take 5 .done)) .stop) .stop))) ?_)
       refine dl rfl (lbw ld_30) ?_
       refine dl rfl (lbw ld_57) ?_
       refine da rfl (t_callR rfl (refuse_ok (e := 152) om) en_73 ?_)
       rintro v49 S49 le49 h49
       refine dA le49 (da rfl (sw sz_30 ?_))
       exact dA le49 (ea rfl rfl (ea rfl rfl (d_done (e_then (c_ret (e_in_ret (e_then_ret (f_retR rfl (ResV.agg ld_30 rfl pk rfl (ResV.tmp rfl (rt rfl))) (by rw [hq]; exact ⟨_, _, rfl, h'.mono le49, h49.err⟩)))))))))
     · have hj3 : ¬ (judge s.p c.prod c.seq).1 = 3 := by simp at g3; omega
       refine sr (yy (y_far fo_30_2 rfl) (ll (lb ld_25) ?_))
       refine yy (y_ne rfl rfl) (sa rfl (nec rfl (fun g4 => ?_) (fun g4 => ?_)))
       · have hf : s.frozen ≠ 0 := by simp at g4; omega
         have hq : prodS s c = (s, 0, some (some 164)) := by unfold prodS; rw [if_neg (fun e => e hin), if_neg hj2, if_neg hj3, if_pos hf]
         refine c_seq (dR ([.blk b2 (.cells (s.cells (.slice A s.l.length cap) (.slice B s.p.length capB) (.slice D s.c.length capD)).toArray 30 (0, 0)), .blk b3 (.cells (c.cells (.slice (some pb) 1 cb)).toArray 57 (0, 0))]) [0, 1] (.take 0 (.take 1 (.alt 2 (.alt 3 (.take 4 (.take 5 .done)) .stop) .stop))) ?_)
         refine dl rfl (lbw ld_30) ?_
         refine dl rfl (lbw ld_57) ?_
         refine da rfl (t_callR rfl (refuse_ok (e := 164) om) en_73 ?_)
         rintro v56 S56 le56 h56
         refine dA le56 (da rfl (sw sz_30 ?_))
         exact dA le56 (ea rfl rfl (ea rfl rfl (d_done (e_then (c_ret (e_in_ret (e_then_ret (f_retR rfl (ResV.agg ld_30 rfl pk rfl (ResV.tmp rfl (rt rfl))) (by rw [hq]; exact ⟨_, _, rfl, h'.mono le56, h56.err⟩)))))))))
       · have hf : ¬ s.frozen ≠ 0 := by simp at g4; omega
         have hj1 : (judge s.p c.prod c.seq).1 = 1 := by omega
         have hq : prodS s c = ({ s with l := s.l ++ [c.rcd s.l.length], p := putP s.p ⟨c.prod, c.seq, true, s.l.length⟩ }, s.l.length, none) := by unfold prodS; rw [if_neg (fun e => e hin), if_neg hj2, if_neg hj3, if_neg hf]
         refine c_skip (e_in (e_then (sr (yy (y_far fo_30_3 rfl) (ll (lb ld_26) ?_)))))
         refine yy (y_far fo_57_4 rfl) (ll (lb ld_9) ?_)
         refine yy (y_far fo_57_5 rfl) (ll (lb ld_54) ?_)
         refine yy (y_far fo_57_2 rfl) (ll (lb ld_25) ?_)
         refine yy (y_far fo_57_3 rfl) (ll (lb ld_25) ?_)
         refine yy (y_build pl_84 zc_84 rfl rfl) (lw (t_callR rfl (append_ok (r := c.rcd 0) hr o5 hb om) en_93 ?_))
         rintro v69 S69 le69 ⟨vv69, rfl, hv69⟩
         have hp69 := hp.mono le69
         obtain ⟨A69, c69, rfl, -⟩ := hv69.shape
         refine mv rfl (yy (y_ext rfl rfl) (yy (y_ext rfl rfl) (yy (y_ext rfl rfl) (sa rfl (sa rfl (sa rfl (nes (sr (mv rfl (yy (y_ne rfl rfl) (ne (c_false rfl (c_skip (e_then (sr (yy (y_far fo_30_4 rfl) (ll (lb ld_27) ?_)))))))))))))))))
         refine yy (y_far fo_57_2 rfl) (ll (lb ld_25) ?_)
         refine yy (y_far fo_57_3 rfl) (ll (lb ld_25) ?_)
         refine mv rfl (lw (t_callR rfl (accept_ok hp69 o9 om q2 q3 q4 hj1) en_94 ?_))
         rintro v87 S87 le87 ⟨vv87, rfl, hv87⟩
         obtain ⟨A87, c87, rfl, -⟩ := hv87.shape
         refine mv rfl (yy (y_ext rfl rfl) (yy (y_ext rfl rfl) (sa rfl (sa rfl (nes (sr (mv rfl (yy (y_ne rfl rfl) (ne (c_false rfl (c_skip (e_then (sr (mv rfl (mv rfl (yy (y_far fo_30_3 rfl) (lw (s1 sz_26 (yy (y_far fo_30_4 rfl) ?_)))))))))))))))))))
         refine lw (s1 sz_27 (ne ?_))
         refine sr (ll (lbw ld_30) ?_)
         refine mv rfl (lw (sw sz_30 (sa rfl (sa rfl ?_))))
         exact netr (f_retR rfl (ResV.agg ld_30 rfl pk rfl (ResV.tmp rfl (rt rfl))) (by rw [hq]; exact ⟨_, _, rfl, ⟨_, _, _, rfl, hv69.mono le87, hv87, hcv.mono (le69.trans le87)⟩, rfl⟩))
end Go.Proofs.YtkdmbimkanjbhaaGreatDoor.Eng

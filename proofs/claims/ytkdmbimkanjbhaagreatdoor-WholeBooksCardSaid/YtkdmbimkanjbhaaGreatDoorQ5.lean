/-
  Part 5 of the proof of WholeBooks: W1, W2, W3, W4, W5, W6, W7, W8, W9, W10, W11.
-/
import Derived.Test.YtkdmbimkanjbhaaGreatDoorQ4
namespace Go.Proofs.YtkdmbimkanjbhaaGreatDoor.Eng
open Go Go.Proofs
set_option maxRecDepth 100000
attribute [local irreducible] Tr
/-- Each record has its place as its offset. -/
def Num (l : List Rec) : Prop := ∀ (i : Nat) r, l[i]? = some r → r.off = i
theorem range_ok {S : Stone} {lo hi : Nat} (h1 : lo < 6) (h2 : lo < hi) (h3 : hi ≤ 6) : Con Tryz.prog 7 #[.agg #[.string (ky lo), .string (kh hi)]] [] S (Ret (.int .i64 0) S) := by
 have a1 := ky_size_le lo
 have a2 := kh_size_le hi
 have a3 : (!((kh hi).toList == (⟨#[]⟩ : ByteArray).toList)) = decide (hi ≠ 6) := by rw [kh_empty om h3]; simp
 refine con_of 25 Tryz.func7 rfl rfl rfl (fun w0 => ?_)
 refine sr (bx rfl rfl (fun b1 => sa rfl (nes (c_block (sr (yy (y_far fo_24_0 rfl) (ll (lb ld_9) ?_)))))))
 refine yy (y_slen st_9 rfl) (yy (y_gt rfl rfl) (mv rfl ?_))
 apply l_or 5 (gd := 8) (d := 13) rfl
 · intro hb8 K1 hK1
   refine qy hb8 (y_far fo_24_1 rfl) (gl hb8 (lb ld_9) ?_)
   exact qy hb8 (y_slen st_9 rfl) (qy hb8 (y_gt rfl rfl) (yy (y_pick_f' rfl hb8 rfl) (lk_end hK1)))
 · intro hb8 K1 hK1
   exact qn hb8 (qn hb8 (qn hb8 (qn hb8 (yy (y_pick_t' rfl hb8 rfl) (lk_end hK1)))))
 refine sa rfl (nec rfl (fun g2 => ?_) (fun g2 => ?_))
 · simp at g2; omega
 · refine c_seq ?_
   refine c_region (yy (y_far fo_24_1 rfl) (ll (lb ld_9) ?_))
   refine yy (y_sne rfl rfl) (mv rfl ?_)
   apply l_and 6 (gd := 18) (d := 24) rfl
   · intro hb18 K3 hK3
     refine qy hb18 (y_far fo_24_1 rfl) (gl hb18 (lb ld_9) ?_)
     refine qy hb18 (y_far fo_24_0 rfl) (gl hb18 (lb ld_9) ?_)
     exact qy hb18 (y_sle rfl rfl) (yy (y_pick_t' rfl hb18 rfl) (lk_end hK3))
   · intro hb18 K3 hK3
     exact qn hb18 (qn hb18 (qn hb18 (qn hb18 (qn hb18 (yy (y_pick_f' rfl hb18 rfl) (lk_end hK3))))))
   refine sa rfl (nec rfl (fun g4 => ?_) (fun g4 => ?_))
   ·
     rw [a3] at g4
     by_cases e : hi = 6
     · simp [e] at g4
     · rw [kh_lt om, ky_less om om, ky_eq om om] at g4
       simp at g4; omega
   · refine c_skip ?_
     exact e_in (e_then (sr (sa rfl (netr (f_ret0 rfl (rt rfl) rfl rfl)))))
theorem has_ok {S : Stone} {lo hi k : Nat} (h1 : lo < 6) (h2 : lo < hi) (h3 : hi ≤ 6) (h4 : k < 6) : Con Tryz.prog 45 #[.agg #[.string (ky lo), .string (kh hi)], .string (ky k)] [] S (Ret (.bool (decide (lo ≤ k ∧ k < hi))) S) := by
 have a1 := ky_size_le k
 have a3 := kh_empty (by omega : 1 ≤ hi) h3
 refine con_of 30 Tryz.func45 rfl rfl rfl (fun w0 => ?_)
 refine sr (bx rfl rfl (fun b2 => sa rfl (nesr (ll (lbw ld_24) ?_))))
 refine lw (t_callr' rfl (range_ok ‹_› ‹_› ‹_›) en_7 ?_)
 refine yy (y_eq rfl rfl) (mv rfl ?_)
 apply l_and 4 (gd := 8) (d := 12) rfl
 · intro hb8 K1 hK1
   exact qy hb8 (y_move rfl) (qy hb8 (y_slen st_9 rfl) (qy hb8 (y_le rfl rfl) (yy (y_pick_t' rfl hb8 rfl) (lk_end hK1))))
 · intro hb8 K1 hK1
   exact qn hb8 (qn hb8 (qn hb8 (yy (y_pick_f' rfl hb8 rfl) (lk_end hK1))))
 refine mv rfl ?_
 apply l_and 5 (gd := 13) (d := 18) rfl
 · intro hb13 K2 hK2
   refine qy hb13 (y_far fo_24_0 rfl) (gl hb13 (lb ld_9) ?_)
   exact qy hb13 (y_move rfl) (qy hb13 (y_sle rfl rfl) (yy (y_pick_t' rfl hb13 rfl) (lk_end hK2)))
 · intro hb13 K2 hK2
   exact qn hb13 (qn hb13 (qn hb13 (qn hb13 (yy (y_pick_f' rfl hb13 rfl) (lk_end hK2)))))
 refine mv rfl ?_
 apply l_and 10 (gd := 19) (d := 29) rfl
 · intro hb19 K3 hK3
   refine qy hb19 (y_far fo_24_1 rfl) (gl hb19 (lb ld_9) ?_)
   refine qy hb19 (y_seq rfl rfl) (qy hb19 (y_move rfl) ?_)
   apply l_or 5 (gd := 23) (d := 28) rfl
   · intro hb23 K4 hK4
     refine qy hb23 (y_move rfl) (qy hb23 (y_far fo_24_1 rfl) (gl hb23 (lb ld_9) ?_))
     exact qy hb23 (y_slt rfl rfl) (qy hb19 (y_pick_f' rfl hb23 rfl) (lk_end hK4))
   · intro hb23 K4 hK4
     exact qn hb23 (qn hb23 (qn hb23 (qn hb23 (qy hb19 (y_pick_t' rfl hb23 rfl) (lk_end hK4)))))
   exact yy (y_pick_t' rfl hb19 rfl) (lk_end hK3)
 · intro hb19 K3 hK3
   exact qn hb19 (qn hb19 (qn hb19 (qn hb19 (qu (qu (qu (qu (qn hb19 (yy (y_pick_f' rfl hb19 rfl) (lk_end hK3))))))))))
 refine sa rfl (netr ?_)
 exact f_ret0 rfl (rt rfl) (by
  show Value.bool _ = Value.bool _
  congr 1
  rw [a3, ky_less h1 h4, ky_eq h1 h4]
  have b1 : decide (((ky k).size : Int) ≤ 32) = true := by simp; omega
  rw [b1, Bool.eq_iff_iff]
  by_cases e : hi = 6
  · simp only [e, beq_self_eq_true, Bool.and_eq_true, Bool.or_eq_true, decide_eq_true_eq, true_and, and_true, true_or]; omega
  · rw [kh_lt om, ky_less h4 om]; simp only [e, beq_self_eq_true, Bool.and_eq_true, Bool.or_eq_true, decide_eq_true_eq, true_and, false_or]; omega) rfl
theorem log_ok {S : Stone} {v : Value} {l : List Rec} (h : Recs S v l) (hn : Num l) (hl : l.length ≤ 4096) : Con Tryz.prog 46 #[v] [] S (Ret (.bool true) S) := by
 obtain ⟨A, cap, rfl, hc, hm, -⟩ := h.shape
 refine con_of 33 Tryz.func46 rfl rfl rfl (fun w0 => ?_)
 refine sr (sa rfl (nes (sr (mv rfl (yy (y_ln sl_26 rfl) (mv rfl (ne (c_block (c_loopH (τ := Nat) [(6, _), (5, _), (2, _), (0, _)] (fun Ek z0 => (7, i64 z0) :: Ek) (fun z0 => z0 ≤ l.length) (fun z0 => l.length - z0) (0) (Nat.zero_le _) (fun z0 hz0 K0l hr0 => ?_))))))))))
 refine sr (yy (y_lt rfl rfl) (nes (c_cond rfl (fun g1 => ?_) (fun g1 => ?_))))
 · simp at g1
   obtain ⟨r, hr⟩ : ∃ r, l[z0]? = some r := ⟨_, List.getElem?_eq_getElem g1⟩
   obtain ⟨p, bv, rfl, ⟨pb, cb, rfl, -, -, -⟩, f0, f1, f2, f3, f4, f5⟩ := h.at hr
   have ho := hn _ _ hr
   refine c_skip (e_then (c_seq (c_block (sr (mv rfl (yy (y_iaN sl_26 rfl rfl ao) (ll (ltm ld_84 rfl ‹_›) ?_)))))))
   refine al zc_84 (fun b4 => sa rfl (lw (sw sz_84 (ne ?_))))
   refine sr (yy (y_far fo_84_0 rfl) (ll (lb ld_25) ?_))
   refine mv rfl (yy (y_cvu cv_3_25 rfl om) (yy (y_ne rfl rfl) (mv rfl ?_)))
   apply l_or 5 (gd := 17) (d := 22) rfl
   · intro hb17 K2 hK2
     refine qy hb17 (y_far fo_84_1 rfl) (gl hb17 (lb ld_9) ?_)
     exact qy hb17 (y_slen st_9 rfl) (qy hb17 (y_gt rfl rfl) (yy (y_pick_f' rfl hb17 rfl) (lk_end hK2)))
   · intro hb17 K2 hK2
     exact qn hb17 (qn hb17 (qn hb17 (qn hb17 (yy (y_pick_t' rfl hb17 rfl) (lk_end hK2)))))
   refine mv rfl ?_
   apply l_or 5 (gd := 23) (d := 28) rfl
   · intro hb23 K3 hK3
     refine qy hb23 (y_far fo_84_2 rfl) (gl hb23 (lb ld_54) ?_)
     exact qy hb23 (y_ln sl_54 rfl) (qy hb23 (y_gt rfl rfl) (yy (y_pick_f' rfl hb23 rfl) (lk_end hK3)))
   · intro hb23 K3 hK3
     exact qn hb23 (qn hb23 (qn hb23 (qn hb23 (yy (y_pick_t' rfl hb23 rfl) (lk_end hK3)))))
   refine nec rfl (fun g4 => ?_) (fun g4 => ?_)
   · have := ky_size_le r.key; simp [ho] at g4; omega
   · refine c_skip ?_
     exact e_in (e_then (c_region (yy (y_addN (m := 1) rfl rfl om) (mv rfl (ne (t_to (hr0 (z0 + 1) om om)))))))
 · refine c_exit ?_
   exact e_then_exit (e_then_exit (e_in_same (e_then (sr (mv rfl (yy (y_ln sl_26 rfl) (yy (y_le rfl rfl) (sa rfl (netr (f_ret0 rfl (rt rfl) (by show Value.bool _ = _; congr 1; simp; omega) rfl))))))))))
theorem bclone_ok {S : Stone} {v : Value} {b : Nat} (h : Byt S v b) : Con Tryz.prog 67 #[v] [] S (RetR fun u S' => Byt S' u b) := by
 obtain ⟨p, cap, rfl, h1, h2, h3⟩ := id h
 refine con_of 8 Tryz.func67 rfl rfl rfl (fun w0 => ?_)
 refine sr (sa rfl (nes (sr (mv rfl (yy (y_slnil sl_54 rfl) (nec rfl (fun g1 => ?_) (fun g1 => ?_)))))))
 · cases g1
 · refine c_skip ?_
   refine e_then (sr (lw (t_bs0 ap_54 zc_5 rfl (fun b5 => mv rfl (lw (t_appS (h.sl) plain_byt ap_54 rfl rfl pk mo om rfl (fun va7 nw7 hf7 hm7 ho7 => ?_)))))))
   refine sa rfl (netr (t_pub (l := [b]) (C := bytC) Pick.hd (fun S' hle => by rw [List.nil_append]; exact hf7.mono fun _ _ h => h) rfl (fun S' hle hs => ?_)))
   exact f_retR rfl (rt rfl) hs.byt
theorem own_ok {S : Stone} {r : Rec} {bv : Value} {n : Nat} (h : Byt S bv r.val) (hn : n ≤ 9223372036854775807) : Con Tryz.prog 47 #[.agg (r.cells bv).toArray, i64 n] [] S (RetR fun u S' => ∃ bv', u = .agg ((({ r with off := n } : Rec)).cells bv').toArray ∧ Byt S' bv' r.val) := by
 refine con_of 13 Tryz.func47 rfl rfl rfl (fun w0 => ?_)
 refine sr (bx rfl rfl (fun b2 => al zc_84 (fun b4 => nesr (mv rfl (yy (y_cvu cv_3_25 rfl om) (yy (y_far fo_84_2 rfl) (ll (lb ld_54) ?_)))))))
 refine lw (t_callR rfl (bclone_ok ‹_›) en_67 ?_)
 rintro v9 S9 le9 h9
 obtain ⟨p9, c9, rfl, -⟩ := id h9
 refine yy (y_far fo_84_0 rfl) (lw (s1 sz_25 (yy (y_far fo_84_2 rfl) ?_)))
 refine lw (s1 sz_54 (l_nil ?_))
 refine e_then (sr (ll (lbw ld_84) ?_))
 refine lw (sw sz_84 (ne ?_))
 exact c_ret (f_retR rfl (ResV.agg ld_84 rfl pk rfl rn) ⟨_, rfl, ‹_›⟩)
end Go.Proofs.YtkdmbimkanjbhaaGreatDoor.Eng
namespace Go.Proofs.YtkdmbimkanjbhaaGreatDoor.Eng
open Go Go.Proofs
set_option maxRecDepth 100000
attribute [local irreducible] Tr
theorem owned_ok {S : Stone} {v : Value} {l : List Rec} (h : Recs S v l) (hl : l.length ≤ 4096) (ho : ∀ r ∈ l, r.off ≤ 9223372036854775807) : Con Tryz.prog 98 #[v] [] S (RowR 84 5 recC l) := by
 obtain ⟨A, cap, rfl, hc, hm, -⟩ := h.shape
 refine con_of 26 Tryz.func98 rfl rfl rfl (fun w0 => ?_)
 refine sr (sa rfl (nesr (mv rfl (yy (y_ln sl_26 rfl) (yy (y_addN (m := 1) rfl rfl om) (lw (t_mk0 ap_26 zc_84 rfl om mo rfl (fun b9 => sa rfl (nes (sr (mv rfl (yy (y_ln sl_26 rfl) (mv rfl (ne (c_block (c_loopE (τ := Nat × Value × List Value × Stone) [(11, _), (10, _), (2, _)] (fun Ek z0 => (12, i64 z0.1) :: (3, z0.2.1) :: Ek) (fun z0 => [.row z0.2.1 84 5 z0.1 z0.2.2.1]) (fun z0 => z0.2.2.2) (fun z0 => z0.1 ≤ l.length ∧ Stone.le S z0.2.2.2 ∧ Flat z0.2.2.2 5 recC z0.2.2.1 (l.take z0.1) ∧ z0.2.1.oneCell' = true) (fun z0 => l.length - z0.1) ((0, .slice (some ⟨b9, 0, none⟩) 0 (l.length + 1), [], S)) (⟨Nat.zero_le _, Stone.le.refl _, Flat.nil, rfl⟩) (fun z0 hz0 K0l hr0 => ?_)))))))))))))))))
 obtain ⟨i, v, xs, S1⟩ := z0
 obtain ⟨hi, hle, hf, hone⟩ := hz0
 simp only at hi hle hf hone
 refine sr (yy (y_lt rfl rfl) (nes (c_cond rfl (fun g1 => ?_) (fun g1 => ?_))))
 · simp at g1
   obtain ⟨r, hr⟩ : ∃ r, l[i]? = some r := ⟨_, List.getElem?_eq_getElem g1⟩
   obtain ⟨p, bv, rfl, hb, f0, f1, f2, f3, f4, f5⟩ := (h.mono hle).at hr
   obtain ⟨pb, cb, rfl, -⟩ := id hb
   have hro := ho _ (List.mem_of_getElem? hr)
   refine c_skip (e_then (c_seq (c_block (sr (yy (y_iaN sl_26 rfl rfl ao) (ll (ltm ld_84 rfl ‹_›) ?_))))))
   refine al zc_84 (fun b5 => lw (sw sz_84 (ne ?_)))
   refine c_region (mv rfl (ll (lbw ld_84) ?_))
   refine yy (y_far fo_84_0 rfl) (ll (lb ld_25) ?_)
   refine yy (y_cvi cv_25_3 rfl om) (lw (t_callR rfl (own_ok ‹_› om) en_47 ?_))
   rintro v21 S21 le21 ⟨b21, rfl, hb21⟩
   obtain ⟨q21, c21, rfl, -⟩ := id hb21
   refine lw (t_bs1 ap_26 zc_84 rfl rfl rfl rfl rfl (fun b22 => lw (aR ap_26 (fun va23 ho23 => sa rfl (l_nil (e_in (e_then ?_)))))))
   exact c_region (yy (y_addN (m := 1) rfl rfl om) (mv rfl (ne (t_to (hr0 (i + 1, va23, _, S21) ⟨by simp only; omega, hle.trans le21, by rw [List.take_add_one, hr]; exact (hf.monoR le21).snoc ⟨_, rfl, hb21⟩ rfl, ho23⟩ (by simp only; omega))))))
 · refine c_exit ?_
   refine e_then_exit (e_then_exit (e_in_same (e_then (sr (mv rfl (sa rfl (netr ?_)))))))
   have hi' : i = l.length := by simp at g1; omega
   subst hi'
   rw [List.take_length] at hf
   exact f_retS rfl (rt rfl) ⟨_, rfl, hf, hone⟩
end Go.Proofs.YtkdmbimkanjbhaaGreatDoor.Eng
namespace Go.Proofs.YtkdmbimkanjbhaaGreatDoor.Eng
open Go Go.Proofs
set_option maxRecDepth 100000
attribute [local irreducible] Tr
def Prd.none : Prd := ⟨0, 0, false, 0⟩
theorem number_ok {S : Stone} {n : Nat} : Con Tryz.prog 89 #[u64 n] [] S (Ret (.bool (decide (1 ≤ n ∧ n ≤ 9223372036854775807))) S) := by
 refine con_of 9 Tryz.func89 rfl rfl rfl (fun w0 => ?_)
 refine sr (sa rfl (nesr (mv rfl (yy (y_ge rfl rfl) (mv rfl ?_)))))
 apply l_and 3 (gd := 5) (d := 8) rfl
 · intro hb5 K1 hK1
   exact qy hb5 (y_move rfl) (qy hb5 (y_le rfl rfl) (yy (y_pick_t' rfl hb5 rfl) (lk_end hK1)))
 · intro hb5 K1 hK1
   exact qn hb5 (qn hb5 (yy (y_pick_f' rfl hb5 rfl) (lk_end hK1)))
 exact sa rfl (netr (f_ret0 rfl (rt rfl) (by show Value.bool _ = Value.bool _; congr 1; rw [Bool.eq_iff_iff]; simp; omega) rfl))
theorem same_id_ok {S : Stone} {x : Prd} {p : Addr} {id : Nat} (h : S.cell p = some (u64 id)) : Con Tryz.prog 104 #[.agg x.cells.toArray, .pointer (some p)] [] S (Ret (.bool (x.id == id)) S) := by
 refine con_of 8 Tryz.func104 rfl rfl rfl (fun w0 => ?_)
 refine sr (bx rfl rfl (fun b2 => sa rfl (nesr (yy (y_far fo_67_0 rfl) (ll (lb ld_25) ?_)))))
 refine ll (ld_st ld_25 rfl ‹_›) ?_
 exact yy (y_eq rfl rfl) (sa rfl (netr (f_ret0 rfl (rt rfl) (by show Value.bool _ = Value.bool _; congr 1; rw [Bool.eq_iff_iff]; simp; omega) rfl)))
theorem first_ok {S : Stone} {v : Value} {l : List Prd} {f : FuncId} {fv : List Value} {q : Prd → Bool} (h : Prds S v l) (hk : enK Tryz.prog f = true) (hq : ∀ x ∈ l, Con Tryz.prog f ([] ++ [Value.agg x.cells.toArray] ++ fv).toArray [] S (Ret (.bool (q x)) S)) :
 Con Tryz.prog 103 #[v, .func (.func f) #[] fv.toArray] [] S (Ret (.tuple #[.agg ((l.find? q).getD Prd.none).cells.toArray, .bool (l.find? q).isSome]) S) := by
 obtain ⟨A, cap, rfl, hc, hm, -⟩ := h.shape
 refine con_of 21 Tryz.func103 rfl rfl rfl (fun w0 => ?_)
 refine sr (al zc_67 (fun b4 => sa rfl (nes (sr (mv rfl (yy (y_ln sl_27 rfl) (mv rfl (ne (c_block (c_loopH (τ := Nat) [(10, _), (9, _), (5, _), (4, _), (1, _)] (fun Ek z0 => (11, i64 z0) :: Ek) (fun z0 => z0 ≤ l.length ∧ (l.take z0).find? q = none) (fun z0 => l.length - z0) (0) (⟨Nat.zero_le _, rfl⟩) (fun z0 hz0 K0l hr0 => ?_)))))))))))
 refine sr (yy (y_lt rfl rfl) (nes (c_cond rfl (fun g1 => ?_) (fun g1 => ?_))))
 · simp at g1
   obtain ⟨r, hr⟩ : ∃ r, l[z0]? = some r := ⟨_, List.getElem?_eq_getElem g1⟩
   obtain ⟨p, rfl, f0, f1, f2, f3, f5⟩ := h.at hr
   refine c_skip (e_then (c_seq (c_block (sr (yy (y_iaN sl_27 rfl rfl ao) (ll (ltm ld_67 rfl ‹_›) ?_))))))
   refine al zc_67 (fun b7 => lw (sw sz_67 (ne ?_)))
   refine sr (mv rfl (ll (lbw ld_67) ?_))
   refine lw (t_callvr' rfl rfl (hq r (List.mem_of_getElem? hr)) hk (nec rfl (fun g2 => ?_) (fun g2 => ?_)))
   · have hfd := find_at hz0.2 hr g2
     refine sr (ll (lbw ld_67) ?_)
     refine lw (sw sz_67 (sa rfl (netr (e_in_ret ?_))))
     exact e_then_ret (e_then_ret (e_in_ret (e_then_ret (f_ret0 rfl (ResV.agg ld_67 rfl pk rfl (rt rfl)) (by rw [hfd]; rfl) rfl))))
   · refine c_skip ?_
     exact e_in (e_then (c_region (yy (y_addN (m := 1) rfl rfl om) (mv rfl (ne (t_to (hr0 (z0 + 1) ⟨by omega, find_next hz0.2 hr g2⟩ om)))))))
 · have hzl : z0 = l.length := by simp at g1; omega
   have hfd : l.find? q = none := by have := hz0.2; rw [hzl, List.take_length] at this; exact this
   refine c_exit ?_
   refine e_then_exit (e_then_exit (e_in_same (e_then (sr (al zc_67 (fun b8 => nesr (ll (lbw ld_67) ?_)))))))
   refine lw (sw sz_67 (sa rfl (l_nil ?_)))
   exact e_then (c_ret (f_ret0 rfl (ResV.agg ld_67 rfl pk rfl (rt rfl)) (by rw [hfd]; rfl) rfl))
def findP (l : List Prd) (id : Nat) : Option Prd := l.find? (·.id == id)
theorem find_ok {S : Stone} {v : Value} {l : List Prd} {id : Nat} (h : Prds S v l) : Con Tryz.prog 83 #[v, u64 id] [] S (RetR fun u _ => u = .tuple #[.agg ((findP l id).getD Prd.none).cells.toArray, .bool (findP l id).isSome]) := by
 refine con_of 11 Tryz.func83 rfl rfl rfl (fun w0 => ?_)
 refine sr (bx rfl rfl (fun b3 => t_stone Pick.hd (fun S1 le1 hS1 => ?_)))
 refine al zc_67 (fun b4 => sa rfl (nesr (mv rfl (yy (y_mf' rfl rfl) (lw (t_callr' rfl (first_ok (q := fun x => x.id == id) (h.mono le1) en_104 (fun x _ => same_id_ok (p := ⟨b3, 0, none⟩) (by simp [Stone.cell, hS1]))) en_103 ?_))))))
 refine yy (y_ext rfl rfl) (yy (y_ext rfl rfl) (lw (sw sz_67 (sa rfl ?_))))
 exact netr (f_retR rfl (ResV.agg ld_67 rfl pk rfl (rt rfl)) rfl)
end Go.Proofs.YtkdmbimkanjbhaaGreatDoor.Eng
namespace Go.Proofs.YtkdmbimkanjbhaaGreatDoor.Eng
open Go Go.Proofs
set_option maxRecDepth 100000
attribute [local irreducible] Tr
/-- A table of producers. -/
structure TabOk (l : List Prd) : Prop where
 id : ∀ x ∈ l, 1 ≤ x.id
 seq : ∀ x ∈ l, 1 ≤ x.seq ∧ x.seq ≤ 9223372036854775807
 off : ∀ x ∈ l, x.here = false → x.off = 0
 up : l.Pairwise fun x y => x.id < y.id
def judge (l : List Prd) (id seq : Nat) : Nat × Nat :=
 match findP l id with
 | none => (1, 0)
 | some x => if x.seq < seq then (1, 0) else if seq = x.seq ∧ x.here = true then (2, x.off) else (3, 0)
theorem judge_new {l : List Prd} {id seq : Nat} (g : (!(findP l id).isSome || decide ((((findP l id).getD Prd.none).seq : Int) < (seq : Int))) = true) : judge l id seq = (1, 0) := by
 unfold judge
 cases hf : findP l id with
 | none => rfl
 | some x => rw [hf] at g; simp at g; simp [g]
theorem judge_else {l : List Prd} {id seq : Nat} (g : (!(findP l id).isSome || decide ((((findP l id).getD Prd.none).seq : Int) < (seq : Int))) = false) :
 judge l id seq = if ((decide ((seq : Int) = (((findP l id).getD Prd.none).seq : Int)) && ((findP l id).getD Prd.none).here) = true) then (2, ((findP l id).getD Prd.none).off) else (3, 0) := by
 unfold judge
 cases hf : findP l id with
 | none => rw [hf] at g; simp at g
 | some x =>
  rw [hf] at g; simp at g
  have : ¬ x.seq < seq := by omega
  have e : ((seq : Int) = (x.seq : Int)) ↔ seq = x.seq := by omega
  simp [this, e]
theorem judge_ok {S : Stone} {v : Value} {l : List Prd} {id seq : Nat} (h : Prds S v l) (h1 : 1 ≤ id) (h2 : 1 ≤ seq) (h3 : seq ≤ 9223372036854775807) :
 Con Tryz.prog 65 #[v, u64 id, u64 seq] [] S (RetR fun u _ => u = .tuple #[i64 (judge l id seq).1, u64 (judge l id seq).2]) := by
 refine con_of 43 Tryz.func65 rfl rfl rfl (fun w0 => ?_)
 refine sr (sa rfl (sa rfl (nes (c_seq (c_cutv (d := 16) (v := .bool false) (fun K1v hK1v => ?_) ?_)))))
 · -- the value
   refine c_region (mv rfl (yy (y_eq rfl rfl) (mv rfl ?_)))
   apply l_or 4 (gd := 12) (d := 16) rfl
   · intro hb12 K2 hK2
     exact qy hb12 (y_move rfl) (gw hb12 (t_callr' rfl (number_ok) en_89 (qy hb12 (y_not rfl) (yy (y_pick_f' rfl hb12 rfl) (lk_end hK2)))))
   · intro hb12 K2 hK2
     exact qn hb12 (qn hb12 (qn hb12 (yy (y_pick_t' rfl hb12 rfl) (lk_end hK2))))
   exact l_nil (lk_val hK1v rfl (congrArg Value.bool (by simp; omega)))
 refine c_false rfl (c_skip (e_then (sr (mv rfl (mv rfl (lw (t_callR rfl (find_ok ‹_›) en_83 ?_)))))))
 rintro v20 S20 le20 rfl
 refine mv rfl (yy (y_ext rfl rfl) (yy (y_ext rfl rfl) (al zc_67 (fun b8 => lw (sw sz_67 (sa rfl (nes (c_block (sr (mv rfl (yy (y_not rfl) (mv rfl ?_))))))))))))
 apply l_or 5 (gd := 26) (d := 31) rfl
 · intro hb26 K4 hK4
   refine qy hb26 (y_move rfl) (qy hb26 (y_far fo_67_1 rfl) (gl hb26 (lb ld_25) ?_))
   exact qy hb26 (y_gt rfl rfl) (yy (y_pick_f' rfl hb26 rfl) (lk_end hK4))
 · intro hb26 K4 hK4
   exact qn hb26 (qn hb26 (qn hb26 (qn hb26 (yy (y_pick_t' rfl hb26 rfl) (lk_end hK4)))))
 refine sa rfl (nec rfl (fun g5 => ?_) (fun g5 => ?_))
 · have hj := judge_new g5
   exact sr (sa rfl (sa rfl (netr (e_in_ret (e_then_ret (f_retR rfl (ResV.tmp rfl (rt rfl)) (by rw [hj]; rfl)))))))
 · have hj := judge_else g5
   refine sr (mv rfl (yy (y_far fo_67_1 rfl) (ll (lb ld_25) ?_)))
   refine yy (y_eq rfl rfl) (mv rfl ?_)
   apply l_and 3 (gd := 37) (d := 40) rfl
   · intro hb37 K6 hK6
     refine qy hb37 (y_far fo_67_2 rfl) (gl hb37 (lb ld_4) ?_)
     exact yy (y_pick_t' rfl hb37 rfl) (lk_end hK6)
   · intro hb37 K6 hK6
     exact qn hb37 (qn hb37 (yy (y_pick_f' rfl hb37 rfl) (lk_end hK6)))
   refine sa rfl (nec rfl (fun g7 => ?_) (fun g7 => ?_))
   · rw [if_pos (by first | exact g7 | simpa using g7)] at hj
     refine c_seq (dRa [1] (.take 0 (.take 1 (.take 2 (.take 3 .done)))) ?_)
     refine ey rfl (y_far fo_67_3 rfl) (dl rfl (lb ld_25) ?_)
     exact ea rfl rfl (ea rfl rfl (d_done (e_then (c_ret (e_in_ret (e_then_ret (f_retR rfl (ResV.tmp rfl (rt rfl)) (by rw [hj]; rfl))))))))
   · rw [if_neg (by first | (rw [g7]; simp) | simpa using g7)] at hj
     exact c_skip (e_in (e_then (sr (sa rfl (sa rfl (netr (f_retR rfl (ResV.tmp rfl (rt rfl)) (by rw [hj]; rfl))))))))
def later (x y : Prd) : Bool := decide (y.seq < x.seq) || (decide (x.seq = y.seq) && x.here && !y.here)
theorem later_ok {S : Stone} {x y : Prd} : Con Tryz.prog 84 #[.agg x.cells.toArray, .agg y.cells.toArray] [] S (Ret (.bool (later x y)) S) := by
 refine con_of 26 Tryz.func84 rfl rfl rfl (fun w0 => ?_)
 refine sr (bx rfl rfl (fun b2 => bx rfl rfl (fun b3 => sa rfl (nesr (yy (y_far fo_67_1 rfl) (ll (lb ld_25) ?_))))))
 refine yy (y_far fo_67_1 rfl) (ll (lb ld_25) ?_)
 refine yy (y_gt rfl rfl) (mv rfl ?_)
 apply l_or 15 (gd := 10) (d := 25) rfl
 · intro hb10 K1 hK1
   refine qy hb10 (y_far fo_67_1 rfl) (gl hb10 (lb ld_25) ?_)
   refine qy hb10 (y_far fo_67_1 rfl) (gl hb10 (lb ld_25) ?_)
   refine qy hb10 (y_eq rfl rfl) (qy hb10 (y_move rfl) ?_)
   apply l_and 3 (gd := 16) (d := 19) rfl
   · intro hb16 K2 hK2
     refine qy hb16 (y_far fo_67_2 rfl) (gl hb16 (lb ld_4) ?_)
     exact qy hb10 (y_pick_t' rfl hb16 rfl) (lk_end hK2)
   · intro hb16 K2 hK2
     exact qn hb16 (qn hb16 (qy hb10 (y_pick_f' rfl hb16 rfl) (lk_end hK2)))
   refine qy hb10 (y_move rfl) ?_
   apply l_and 4 (gd := 20) (d := 24) rfl
   · intro hb20 K3 hK3
     refine qy hb20 (y_far fo_67_2 rfl) (gl hb20 (lb ld_4) ?_)
     exact qy hb20 (y_not rfl) (qy hb10 (y_pick_t' rfl hb20 rfl) (lk_end hK3))
   · intro hb20 K3 hK3
     exact qn hb20 (qn hb20 (qn hb20 (qy hb10 (y_pick_f' rfl hb20 rfl) (lk_end hK3))))
   exact yy (y_pick_f' rfl hb10 rfl) (lk_end hK1)
 · intro hb10 K1 hK1
   exact qn hb10 (qn hb10 (qn hb10 (qn hb10 (qn hb10 (qn hb10 (qu (qu (qn hb10 (qn hb10 (qu (qu (qu (qn hb10 (yy (y_pick_t' rfl hb10 rfl) (lk_end hK1)))))))))))))))
 refine sa rfl (netr ?_)
 exact f_ret0 rfl (rt rfl) (by
  show Value.bool _ = Value.bool _
  congr 1
  unfold later
  rw [Bool.eq_iff_iff]
  cases x.here <;> cases y.here <;> simp <;> omega) rfl
end Go.Proofs.YtkdmbimkanjbhaaGreatDoor.Eng
namespace Go.Proofs.YtkdmbimkanjbhaaGreatDoor.Eng
open Go Go.Proofs
set_option maxRecDepth 100000
attribute [local irreducible] Tr
theorem table_ok {S : Stone} {v : Value} {l : List Prd} (h : Prds S v l) (ht : TabOk l) (hl : l.length ≤ 256) : Con Tryz.prog 60 #[v] [] S (Ret (.bool true) S) := by
 obtain ⟨A, cap, rfl, hc, hm, -⟩ := h.shape
 refine con_of 50 Tryz.func60 rfl rfl rfl (fun w0 => ?_)
 refine sr (sa rfl (nes (sr (mv rfl (yy (y_ln sl_27 rfl) (mv rfl (ne (c_block (c_loopH (τ := Nat) [(6, _), (5, _), (2, _), (0, _)] (fun Ek z0 => (7, i64 z0) :: Ek) (fun z0 => z0 ≤ l.length) (fun z0 => l.length - z0) (0) (Nat.zero_le _) (fun z0 hz0 K0l hr0 => ?_))))))))))
 refine sr (yy (y_lt rfl rfl) (nes (c_cond rfl (fun g1 => ?_) (fun g1 => ?_))))
 · simp at g1
   obtain ⟨r, hr⟩ : ∃ r, l[z0]? = some r := ⟨_, List.getElem?_eq_getElem g1⟩
   obtain ⟨r', hr'⟩ : ∃ r, l[z0 - 1]? = some r := ⟨_, List.getElem?_eq_getElem om⟩
   obtain ⟨p, rfl, f0, f1, f2, f3, f5⟩ := h.at hr
   obtain ⟨p', e', k0, k1, k2, k3, k5⟩ := h.at hr'
   injection e' with e'
   subst e'
   have a1 := ht.id _ (List.mem_of_getElem? hr)
   have a2 := ht.seq _ (List.mem_of_getElem? hr)
   have a3 := ht.off _ (List.mem_of_getElem? hr)
   have a4 : 0 < z0 → r'.id < r.id := fun hz => pw_get ht.up hr' hr om
   refine c_skip (e_then (c_seq (c_block (sr (mv rfl (yy (y_iaN sl_27 rfl rfl ao) (ll (ltm ld_67 rfl ‹_›) ?_)))))))
   refine al zc_67 (fun b4 => sa rfl (lw (sw sz_67 (nes (c_cutv (d := 45) (v := .bool false) (fun K2v hK2v => ?_) ?_)))))
   · -- the value
     refine dRa [1, 5, 11, 15, 28, 30] (.take 0 (.take 1 (.take 2 (.take 3 (.take 4 (.take 5 (.alt 6 (.take 7 (.take 8 (.take 9 (.take 10 (.take 11 (.take 12 (.take 13 (.take 14 (.take 15 (.take 16 (.take 17 (.take 18 (.take 19 (.take 20 (.take 21 (.take 22 (.take 23 (.take 24 (.take 25 (.take 26 (.take 27 (.take 28 (.take 29 (.take 30 (.take 31 (.take 32 (.take 33 .done))))))))))))))))))))))))))) .stop))))))) ?_
     refine ey rfl (y_far fo_67_0 rfl) (dl rfl (lb ld_25) ?_)
     refine ey rfl (y_eq rfl rfl) (em rfl rfl (t_known (gd := 15) (v := false) rfl (by simp; omega) (fun hb15 => ?_)))
     refine egy rfl hb15 (y_far fo_67_1 rfl) (dgl rfl hb15 (lb ld_25) ?_)
     refine dag rfl hb15 (t_callr' rfl (number_ok) en_89 ?_)
     refine dA (Stone.le.refl _) (egy rfl hb15 (y_not rfl) (ey rfl (y_pick_f' rfl hb15 rfl) (em rfl rfl (t_known (gd := 21) (v := false) rfl (by simp; omega) (fun hb21 => ?_)))))
     refine egy rfl hb21 (y_far fo_67_2 rfl) (dgl rfl hb21 (lb ld_4) ?_)
     refine egy rfl hb21 (y_not rfl) (egy rfl hb21 (y_move rfl) (t_split (gd := 25) rfl (fun hb25 => ?_) (fun hb25 => ?_)))
     · -- hb25
       refine egy rfl hb25 (y_far fo_67_3 rfl) (dgl rfl hb25 (lb ld_25) ?_)
       refine egy rfl hb25 (y_ne rfl rfl) (egy rfl hb21 (y_pick_t' rfl hb25 rfl) (ey rfl (y_pick_f' rfl hb21 rfl) (em rfl rfl (t_known (gd := 31) (v := false) rfl (by cases hh : r.here <;> simp_all) (fun hb31 => ?_)))))
       refine egy rfl hb31 (y_move rfl) (egy rfl hb31 (y_gt rfl rfl) (egy rfl hb31 (y_move rfl) (t_split (gd := 34) rfl (fun hb34 => ?_) (fun hb34 => ?_))))
       · -- hb34
         have hp34 := hb34; simp at hp34
         refine egy rfl hb34 (y_move rfl) (egy rfl hb34 (y_move rfl) (egy rfl hb34 (y_subN (m := 1) rfl rfl om om) (egy rfl hb34 (y_iaN sl_27 rfl rfl ao) (egy rfl hb34 (y_fa fo_67_0 rfl) (dgl rfl hb34 (ld_st ld_25 rfl ‹_›) ?_)))))
         refine egy rfl hb34 (y_far fo_67_0 rfl) (dgl rfl hb34 (lb ld_25) ?_)
         exact egy rfl hb34 (y_ge rfl rfl) (egy rfl hb31 (y_pick_t' rfl hb34 rfl) (ey rfl (y_pick_f' rfl hb31 rfl) (d_done (lk_val hK2v rfl (congrArg Value.bool (by first | rfl | (simp_all; done) | (simp_all; omega)))))))
       · -- hb34
         exact zn rfl hb34 (zn rfl hb34 (zn rfl hb34 (zn rfl hb34 (zn rfl hb34 (zn rfl hb34 (zn rfl hb34 (zn rfl hb34 (zn rfl hb34 (egy rfl hb31 (y_pick_f' rfl hb34 rfl) (ey rfl (y_pick_f' rfl hb31 rfl) (d_done (lk_val hK2v rfl (congrArg Value.bool (by first | rfl | (simp_all; done) | (simp_all; omega)))))))))))))))
     · -- hb25
       refine zn rfl hb25 (zn rfl hb25 (zn rfl hb25 (egy rfl hb21 (y_pick_f' rfl hb25 rfl) (ey rfl (y_pick_f' rfl hb21 rfl) (em rfl rfl (t_known (gd := 31) (v := false) rfl (by cases hh : r.here <;> simp_all) (fun hb31 => ?_)))))))
       refine egy rfl hb31 (y_move rfl) (egy rfl hb31 (y_gt rfl rfl) (egy rfl hb31 (y_move rfl) (t_split (gd := 34) rfl (fun hb34 => ?_) (fun hb34 => ?_))))
       · -- hb34
         have hp34 := hb34; simp at hp34
         refine egy rfl hb34 (y_move rfl) (egy rfl hb34 (y_move rfl) (egy rfl hb34 (y_subN (m := 1) rfl rfl om om) (egy rfl hb34 (y_iaN sl_27 rfl rfl ao) (egy rfl hb34 (y_fa fo_67_0 rfl) (dgl rfl hb34 (ld_st ld_25 rfl ‹_›) ?_)))))
         refine egy rfl hb34 (y_far fo_67_0 rfl) (dgl rfl hb34 (lb ld_25) ?_)
         exact egy rfl hb34 (y_ge rfl rfl) (egy rfl hb31 (y_pick_t' rfl hb34 rfl) (ey rfl (y_pick_f' rfl hb31 rfl) (d_done (lk_val hK2v rfl (congrArg Value.bool (by first | rfl | (simp_all; done) | (simp_all; omega)))))))
       · -- hb34
         exact zn rfl hb34 (zn rfl hb34 (zn rfl hb34 (zn rfl hb34 (zn rfl hb34 (zn rfl hb34 (zn rfl hb34 (zn rfl hb34 (zn rfl hb34 (egy rfl hb31 (y_pick_f' rfl hb34 rfl) (ey rfl (y_pick_f' rfl hb31 rfl) (d_done (lk_val hK2v rfl (congrArg Value.bool (by first | rfl | (simp_all; done) | (simp_all; omega)))))))))))))))
   exact c_false rfl (c_skip (e_in (e_then (c_region (yy (y_addN (m := 1) rfl rfl om) (mv rfl (ne (t_to (hr0 (z0 + 1) om om)))))))))
 · refine c_exit ?_
   exact e_then_exit (e_then_exit (e_in_same (e_then (sr (mv rfl (yy (y_ln sl_27 rfl) (yy (y_le rfl rfl) (sa rfl (netr (f_ret0 rfl (rt rfl) (by show Value.bool _ = _; congr 1; simp; omega) rfl))))))))))
end Go.Proofs.YtkdmbimkanjbhaaGreatDoor.Eng
namespace Go.Proofs.YtkdmbimkanjbhaaGreatDoor.Eng
open Go Go.Proofs
set_option maxRecDepth 100000
attribute [local irreducible] Tr
def bpos {α : Type} (cf : α → Int) (l : List α) : Nat := l.findIdx fun x => !decide (cf x < 0)
def bfound {α : Type} (cf : α → Int) (l : List α) : Bool := match l[bpos cf l]? with | some x => cf x == 0 | none => false
theorem bpos_of {α : Type} {cf : α → Int} {l : List α} {i : Nat} (hi : i ≤ l.length) (hlo : ∀ (m : Nat) a, l[m]? = some a → m < i → cf a < 0) (hhi : ∀ (m : Nat) a, l[m]? = some a → i ≤ m → ¬ cf a < 0) : bpos cf l = i := by
 unfold bpos
 by_cases e : i = l.length
 · subst e
   rw [List.findIdx_eq_length]
   intro x hx
   obtain ⟨m, hm, rfl⟩ := List.getElem_of_mem hx
   simpa using hlo m _ (List.getElem?_eq_getElem hm) hm
 · have h : i < l.length := by omega
   rw [List.findIdx_eq h]
   refine ⟨by simpa using hhi i _ (List.getElem?_eq_getElem h) (Nat.le_refl _), fun j hj => ?_⟩
   simpa using hlo j _ (List.getElem?_eq_getElem om) hj
theorem indexFunc_90 {I : List Item} {S : Stone} {v : Value} {l : List Prd} {f : FuncId} {fv : List Value} {q : Prd → Bool} (h : Rd I S 4 prdC v l) (hk : enK Tryz.prog f = true) (hq : ∀ x ∈ l, Con Tryz.prog f ([] ++ [Value.agg x.cells.toArray] ++ fv).toArray [] S (Ret (.bool (q x)) S)) :
 Con Tryz.prog 90 #[v, .func (.func f) #[] fv.toArray] I S (fun u I' S' => u = .int .i64 (indexOf q l) ∧ I' = I ∧ S' = S) := by
 obtain ⟨A, cap, rfl, hc, hm, -⟩ := h.shape
 refine con_of 19 Tryz.func90 rfl rfl rfl (fun w0 => ?_)
 refine sr (sa rfl (nes (sr (mv rfl (yy (y_ln sl_27 rfl) (mv rfl (ne (c_block (c_loopH (τ := Nat) [(7, _), (4, _), (0, _), (1, _)] (fun Ek z0 => (8, i64 z0) :: Ek) (fun z0 => z0 ≤ l.length ∧ (l.take z0).any q = false) (fun z0 => l.length - z0) (0) (⟨Nat.zero_le _, rfl⟩) (fun z0 hz0 K0l hr0 => ?_))))))))))
 refine sr (yy (y_lt rfl rfl) (nes (c_cond rfl (fun g1 => ?_) (fun g1 => ?_))))
 · simp at g1
   obtain ⟨r, hr⟩ : ∃ r, l[z0]? = some r := ⟨_, List.getElem?_eq_getElem g1⟩
   obtain ⟨p, cs, rfl, rfl, hrd⟩ := h.at hr
   refine c_skip (e_then (c_seq (c_block (sr (mv rfl (sa rfl (nesr (mv rfl (mv rfl (mv rfl (yy (y_iaN sl_27 rfl rfl ao) (ll (ld_rd ld_67 rfl ‹_›) ?_))))))))))))
   refine lw (t_callvr' rfl rfl (hq r (List.mem_of_getElem? hr)) hk (nec rfl (fun g2 => ?_) (fun g2 => ?_)))
   · refine c_seq ?_
     exact c_region (mv rfl (sa rfl (netr (e_in_ret (e_then_ret (e_then_ret (e_in_ret (e_then_ret (f_retS rfl (rt rfl) ⟨by rw [indexOf_at hz0.2 hr g2]; rfl, rfl, rfl⟩)))))))))
   · refine c_skip ?_
     exact e_in (e_then (c_region (yy (y_addN (m := 1) rfl rfl om) (mv rfl (ne (t_to (hr0 (z0 + 1) ⟨by omega, any_next hz0.2 hr g2⟩ om)))))))
 · refine c_exit ?_
   refine e_then_exit (e_then_exit (e_in_same (e_then (sr (sa rfl (netr ?_))))))
   have hzl : z0 = l.length := by simp at g1; omega
   have hno : l.any q = false := by have := hz0.2; rwa [hzl, List.take_length] at this
   exact f_retS rfl (rt rfl) ⟨by unfold indexOf; rw [hno]; rfl, rfl, rfl⟩
theorem bsearch_107 {I : List Item} {S : Stone} {v : Value} {l : List Prd} {t : Prd} {f : FuncId} {cf : Prd → Int} (h : Rd I S 4 prdC v l) (hl : l.length ≤ 4096) (hk : enK Tryz.prog f = true) (hq : ∀ x ∈ l, Con Tryz.prog f ([] ++ [Value.agg x.cells.toArray, Value.agg t.cells.toArray] ++ []).toArray [] S (Ret (.int .i64 (cf x)) S))
 (hmono : ∀ (i j : Nat) a b, l[i]? = some a → l[j]? = some b → i ≤ j → cf b < 0 → cf a < 0) :
 Con Tryz.prog 107 #[v, .agg t.cells.toArray, .func (.func f) #[] #[]] I S (fun u I' S' => u = .tuple #[i64 (bpos cf l), .bool (bfound cf l)] ∧ I' = I ∧ S' = S) := by
 obtain ⟨A, cap, rfl, hc, hm, -⟩ := h.shape
 refine con_of 49 Tryz.func107 rfl rfl rfl (fun w0 => ?_)
 refine sr (bx rfl rfl (fun b4 => sa rfl (sa rfl (nesr (mv rfl (yy (y_ln sl_27 rfl) (sa rfl (nesr (mv rfl (sa rfl (sa rfl (nes (c_block (c_loopH (τ := Nat × Nat) [(8, _), (7, _), (6, _), (4, _), (0, _), (2, _)] (fun Ek z0 => (9, i64 z0.1) :: (10, i64 z0.2) :: Ek) (fun z0 => z0.1 ≤ z0.2 ∧ z0.2 ≤ l.length ∧ (∀ (m : Nat) a, l[m]? = some a → m < z0.1 → cf a < 0) ∧ (∀ (m : Nat) a, l[m]? = some a → z0.2 ≤ m → ¬ cf a < 0)) (fun z0 => z0.2 - z0.1) ((0, l.length)) (⟨Nat.zero_le _, Nat.le_refl _, fun m a _ hm => by omega, fun m a ha hm => by have := (List.getElem?_eq_some_iff.1 ha).1; omega⟩) (fun z0 hz0 K0l hr0 => ?_)))))))))))))))
 obtain ⟨i, j⟩ := z0
 obtain ⟨hij, hjn, hlo, hhi⟩ := hz0
 simp only at hij hjn hlo hhi
 refine c_seq (sr (mv rfl (mv rfl (yy (y_lt rfl rfl) (nec rfl (fun g1 => ?_) (fun g1 => ?_))))))
 · have hij' : i < j := by simpa using g1
   obtain ⟨r, hr⟩ : ∃ r, l[(i + j) / 2]? = some r := ⟨_, List.getElem?_eq_getElem om⟩
   obtain ⟨p, cs, rfl, rfl, hrd⟩ := h.at hr
   refine c_skip (e_then (c_block (sr (mv rfl (mv rfl (yy (y_addN rfl rfl om) (yy (y_cvu cv_3_230 rfl om) (yy (y_shr rfl rfl) (yy (y_cvi cv_230_3 rfl om) (sa rfl (nes (dRa [4, 5] (.take 0 (.take 1 (.take 2 (.take 3 (.take 4 (.take 5 (.alt 6 (.take 7 .done) .stop))))))) ?_))))))))))))
   refine em rfl rfl (em rfl rfl (em rfl rfl (ey rfl (y_iaN sl_27 rfl rfl ao) (dl rfl (ld_rd ld_67 rfl ‹_›) ?_))))
   refine dl rfl (lbw ld_67) ?_
   refine da rfl (t_callvr' rfl rfl (hq r (List.mem_of_getElem? hr)) hk ?_)
   refine dA (Stone.le.refl _) (ey rfl (y_lt rfl rfl) (d_done (e_then (c_cond rfl (fun g2 => ?_) (fun g2 => ?_)))))
   · have hlt : cf r < 0 := by simpa using g2
     exact c_region (mv rfl (yy (y_addN (m := 1) rfl rfl om) (sa rfl (l_nil (e_in (e_then (t_to (hr0 ((i + j) / 2 + 1, j) ⟨by simp only; omega, hjn, fun m a ha hm => hmono m _ a r ha hr (by simp only at hm; omega) hlt, hhi⟩ (by simp only; omega)))))))))
   · have hlt : ¬ cf r < 0 := by simpa using g2
     exact c_region (mv rfl (sa rfl (l_nil (e_in (e_then (t_to (hr0 (i, (i + j) / 2) ⟨by simp only; omega, by simp only; omega, hlo, fun m a ha hm hneg => hlt (hmono _ m r a hr ha hm hneg)⟩ (by simp only; omega))))))))
 · have hij' : i = j := by simp at g1; omega
   subst hij'
   have hpos := bpos_of hjn hlo hhi
   have hrd' : ∀ (h' : i < l.length), ∃ p r, A = some p ∧ l[i]? = some r ∧ Reads I S (p.add (i * 4)) r.cells := fun h' => by
    obtain ⟨r, hr⟩ : ∃ r, l[i]? = some r := ⟨_, List.getElem?_eq_getElem h'⟩
    obtain ⟨p, cs, e, rfl, hrd⟩ := h.at hr
    exact ⟨p, r, e, hr, hrd⟩
   refine c_exit ?_
   refine e_then_exit (e_then_exit (e_in_same (e_then (c_seq (dRa [9, 10] (.take 0 (.take 1 (.take 2 (.take 3 (.take 4 (.take 5 (.take 6 (.take 7 (.take 8 (.take 9 (.take 10 (.alt 11 (.take 12 (.take 13 (.take 14 (.take 15 .done)))) .stop)))))))))))) ?_)))))
   refine em rfl rfl (em rfl rfl (em rfl rfl (ey rfl (y_lt rfl rfl) (em rfl rfl (t_split (gd := 39) rfl (fun hb39 => ?_) (fun hb39 => ?_))))))
   · -- hb39
     have hp38 := hb39
     simp at hp38
     obtain ⟨p, r, rfl, hr, hrd⟩ := hrd' hp38
     refine egy rfl hb39 (y_move rfl) (egy rfl hb39 (y_move rfl) (egy rfl hb39 (y_move rfl) (egy rfl hb39 (y_iaN sl_27 rfl rfl ao) (dgl rfl hb39 (ld_rd ld_67 rfl ‹_›) ?_))))
     refine dgl rfl hb39 (lbw ld_67) ?_
     refine dag rfl hb39 (t_callvr' rfl rfl (hq r (List.mem_of_getElem? hr)) hk ?_)
     exact dA (Stone.le.refl _) (egy rfl hb39 (y_eq rfl rfl) (ey rfl (y_pick_t' rfl hb39 rfl) (ea rfl rfl (ea rfl rfl (d_done (e_then (c_ret (f_retS rfl (ResV.tmp rfl (rt rfl)) ⟨by rw [hpos]; unfold bfound; rw [hpos, hr]; rfl, rfl, rfl⟩))))))))
   · -- hb39
     refine zn rfl hb39 (zn rfl hb39 (zn rfl hb39 (zn rfl hb39 (zn rfl hb39 (zn rfl hb39 (zan rfl hb39 (zn rfl hb39 (ey rfl (y_pick_f' rfl hb39 rfl) (ea rfl rfl (ea rfl rfl (d_done (e_then (c_ret ?_)))))))))))))
     exact f_retS rfl (ResV.tmp rfl (rt rfl)) ⟨by
      have hno : l[i]? = none := by rw [List.getElem?_eq_none_iff]; simp at hb39; omega
      rw [hpos]; unfold bfound; rw [hpos, hno]; rfl, rfl, rfl⟩
theorem indexFunc_91 {I : List Item} {S : Stone} {v : Value} {l : List Cns} {f : FuncId} {fv : List Value} {q : Cns → Bool} (h : Rd I S 2 cnsC v l) (hk : enK Tryz.prog f = true) (hq : ∀ x ∈ l, Con Tryz.prog f ([] ++ [Value.agg x.cells.toArray] ++ fv).toArray [] S (Ret (.bool (q x)) S)) :
 Con Tryz.prog 91 #[v, .func (.func f) #[] fv.toArray] I S (fun u I' S' => u = .int .i64 (indexOf q l) ∧ I' = I ∧ S' = S) := by
 obtain ⟨A, cap, rfl, hc, hm, -⟩ := h.shape
 refine con_of 19 Tryz.func91 rfl rfl rfl (fun w0 => ?_)
 refine sr (sa rfl (nes (sr (mv rfl (yy (y_ln sl_28 rfl) (mv rfl (ne (c_block (c_loopH (τ := Nat) [(7, _), (4, _), (0, _), (1, _)] (fun Ek z0 => (8, i64 z0) :: Ek) (fun z0 => z0 ≤ l.length ∧ (l.take z0).any q = false) (fun z0 => l.length - z0) (0) (⟨Nat.zero_le _, rfl⟩) (fun z0 hz0 K0l hr0 => ?_))))))))))
 refine sr (yy (y_lt rfl rfl) (nes (c_cond rfl (fun g1 => ?_) (fun g1 => ?_))))
 · simp at g1
   obtain ⟨r, hr⟩ : ∃ r, l[z0]? = some r := ⟨_, List.getElem?_eq_getElem g1⟩
   obtain ⟨p, cs, rfl, rfl, hrd⟩ := h.at hr
   refine c_skip (e_then (c_seq (c_block (sr (mv rfl (sa rfl (nesr (mv rfl (mv rfl (mv rfl (yy (y_iaN sl_28 rfl rfl ao) (ll (ld_rd ld_65 rfl ‹_›) ?_))))))))))))
   refine lw (t_callvr' rfl rfl (hq r (List.mem_of_getElem? hr)) hk (nec rfl (fun g2 => ?_) (fun g2 => ?_)))
   · refine c_seq ?_
     exact c_region (mv rfl (sa rfl (netr (e_in_ret (e_then_ret (e_then_ret (e_in_ret (e_then_ret (f_retS rfl (rt rfl) ⟨by rw [indexOf_at hz0.2 hr g2]; rfl, rfl, rfl⟩)))))))))
   · refine c_skip ?_
     exact e_in (e_then (c_region (yy (y_addN (m := 1) rfl rfl om) (mv rfl (ne (t_to (hr0 (z0 + 1) ⟨by omega, any_next hz0.2 hr g2⟩ om)))))))
 · refine c_exit ?_
   refine e_then_exit (e_then_exit (e_in_same (e_then (sr (sa rfl (netr ?_))))))
   have hzl : z0 = l.length := by simp at g1; omega
   have hno : l.any q = false := by have := hz0.2; rwa [hzl, List.take_length] at this
   exact f_retS rfl (rt rfl) ⟨by unfold indexOf; rw [hno]; rfl, rfl, rfl⟩
theorem bsearch_112 {I : List Item} {S : Stone} {v : Value} {l : List Cns} {t : Cns} {f : FuncId} {cf : Cns → Int} (h : Rd I S 2 cnsC v l) (hl : l.length ≤ 4096) (hk : enK Tryz.prog f = true) (hq : ∀ x ∈ l, Con Tryz.prog f ([] ++ [Value.agg x.cells.toArray, Value.agg t.cells.toArray] ++ []).toArray [] S (Ret (.int .i64 (cf x)) S))
 (hmono : ∀ (i j : Nat) a b, l[i]? = some a → l[j]? = some b → i ≤ j → cf b < 0 → cf a < 0) :
 Con Tryz.prog 112 #[v, .agg t.cells.toArray, .func (.func f) #[] #[]] I S (fun u I' S' => u = .tuple #[i64 (bpos cf l), .bool (bfound cf l)] ∧ I' = I ∧ S' = S) := by
 obtain ⟨A, cap, rfl, hc, hm, -⟩ := h.shape
 refine con_of 49 Tryz.func112 rfl rfl rfl (fun w0 => ?_)
 refine sr (bx rfl rfl (fun b4 => sa rfl (sa rfl (nesr (mv rfl (yy (y_ln sl_28 rfl) (sa rfl (nesr (mv rfl (sa rfl (sa rfl (nes (c_block (c_loopH (τ := Nat × Nat) [(8, _), (7, _), (6, _), (4, _), (0, _), (2, _)] (fun Ek z0 => (9, i64 z0.1) :: (10, i64 z0.2) :: Ek) (fun z0 => z0.1 ≤ z0.2 ∧ z0.2 ≤ l.length ∧ (∀ (m : Nat) a, l[m]? = some a → m < z0.1 → cf a < 0) ∧ (∀ (m : Nat) a, l[m]? = some a → z0.2 ≤ m → ¬ cf a < 0)) (fun z0 => z0.2 - z0.1) ((0, l.length)) (⟨Nat.zero_le _, Nat.le_refl _, fun m a _ hm => by omega, fun m a ha hm => by have := (List.getElem?_eq_some_iff.1 ha).1; omega⟩) (fun z0 hz0 K0l hr0 => ?_)))))))))))))))
 obtain ⟨i, j⟩ := z0
 obtain ⟨hij, hjn, hlo, hhi⟩ := hz0
 simp only at hij hjn hlo hhi
 refine c_seq (sr (mv rfl (mv rfl (yy (y_lt rfl rfl) (nec rfl (fun g1 => ?_) (fun g1 => ?_))))))
 · have hij' : i < j := by simpa using g1
   obtain ⟨r, hr⟩ : ∃ r, l[(i + j) / 2]? = some r := ⟨_, List.getElem?_eq_getElem om⟩
   obtain ⟨p, cs, rfl, rfl, hrd⟩ := h.at hr
   refine c_skip (e_then (c_block (sr (mv rfl (mv rfl (yy (y_addN rfl rfl om) (yy (y_cvu cv_3_230 rfl om) (yy (y_shr rfl rfl) (yy (y_cvi cv_230_3 rfl om) (sa rfl (nes (dRa [4, 5] (.take 0 (.take 1 (.take 2 (.take 3 (.take 4 (.take 5 (.alt 6 (.take 7 .done) .stop))))))) ?_))))))))))))
   refine em rfl rfl (em rfl rfl (em rfl rfl (ey rfl (y_iaN sl_28 rfl rfl ao) (dl rfl (ld_rd ld_65 rfl ‹_›) ?_))))
   refine dl rfl (lbw ld_65) ?_
   refine da rfl (t_callvr' rfl rfl (hq r (List.mem_of_getElem? hr)) hk ?_)
   refine dA (Stone.le.refl _) (ey rfl (y_lt rfl rfl) (d_done (e_then (c_cond rfl (fun g2 => ?_) (fun g2 => ?_)))))
   · have hlt : cf r < 0 := by simpa using g2
     exact c_region (mv rfl (yy (y_addN (m := 1) rfl rfl om) (sa rfl (l_nil (e_in (e_then (t_to (hr0 ((i + j) / 2 + 1, j) ⟨by simp only; omega, hjn, fun m a ha hm => hmono m _ a r ha hr (by simp only at hm; omega) hlt, hhi⟩ (by simp only; omega)))))))))
   · have hlt : ¬ cf r < 0 := by simpa using g2
     exact c_region (mv rfl (sa rfl (l_nil (e_in (e_then (t_to (hr0 (i, (i + j) / 2) ⟨by simp only; omega, by simp only; omega, hlo, fun m a ha hm hneg => hlt (hmono _ m r a hr ha hm hneg)⟩ (by simp only; omega))))))))
 · have hij' : i = j := by simp at g1; omega
   subst hij'
   have hpos := bpos_of hjn hlo hhi
   have hrd' : ∀ (h' : i < l.length), ∃ p r, A = some p ∧ l[i]? = some r ∧ Reads I S (p.add (i * 2)) r.cells := fun h' => by
    obtain ⟨r, hr⟩ : ∃ r, l[i]? = some r := ⟨_, List.getElem?_eq_getElem h'⟩
    obtain ⟨p, cs, e, rfl, hrd⟩ := h.at hr
    exact ⟨p, r, e, hr, hrd⟩
   refine c_exit ?_
   refine e_then_exit (e_then_exit (e_in_same (e_then (c_seq (dRa [9, 10] (.take 0 (.take 1 (.take 2 (.take 3 (.take 4 (.take 5 (.take 6 (.take 7 (.take 8 (.take 9 (.take 10 (.alt 11 (.take 12 (.take 13 (.take 14 (.take 15 .done)))) .stop)))))))))))) ?_)))))
   refine em rfl rfl (em rfl rfl (em rfl rfl (ey rfl (y_lt rfl rfl) (em rfl rfl (t_split (gd := 39) rfl (fun hb39 => ?_) (fun hb39 => ?_))))))
   · -- hb39
     have hp38 := hb39
     simp at hp38
     obtain ⟨p, r, rfl, hr, hrd⟩ := hrd' hp38
     refine egy rfl hb39 (y_move rfl) (egy rfl hb39 (y_move rfl) (egy rfl hb39 (y_move rfl) (egy rfl hb39 (y_iaN sl_28 rfl rfl ao) (dgl rfl hb39 (ld_rd ld_65 rfl ‹_›) ?_))))
     refine dgl rfl hb39 (lbw ld_65) ?_
     refine dag rfl hb39 (t_callvr' rfl rfl (hq r (List.mem_of_getElem? hr)) hk ?_)
     exact dA (Stone.le.refl _) (egy rfl hb39 (y_eq rfl rfl) (ey rfl (y_pick_t' rfl hb39 rfl) (ea rfl rfl (ea rfl rfl (d_done (e_then (c_ret (f_retS rfl (ResV.tmp rfl (rt rfl)) ⟨by rw [hpos]; unfold bfound; rw [hpos, hr]; rfl, rfl, rfl⟩))))))))
   · -- hb39
     refine zn rfl hb39 (zn rfl hb39 (zn rfl hb39 (zn rfl hb39 (zn rfl hb39 (zn rfl hb39 (zan rfl hb39 (zn rfl hb39 (ey rfl (y_pick_f' rfl hb39 rfl) (ea rfl rfl (ea rfl rfl (d_done (e_then (c_ret ?_)))))))))))))
     exact f_retS rfl (ResV.tmp rfl (rt rfl)) ⟨by
      have hno : l[i]? = none := by rw [List.getElem?_eq_none_iff]; simp at hb39; omega
      rw [hpos]; unfold bfound; rw [hpos, hno]; rfl, rfl, rfl⟩
end Go.Proofs.YtkdmbimkanjbhaaGreatDoor.Eng
namespace Go.Proofs.YtkdmbimkanjbhaaGreatDoor.Eng
open Go Go.Proofs
set_option maxRecDepth 100000
attribute [local irreducible] Tr
theorem nan_ok {S : Stone} {n : Nat} : Con Tryz.prog 124 #[u64 n] [] S (Ret (.bool false) S) := by
 refine con_of 6 Tryz.func124 rfl rfl rfl (fun w0 => ?_)
 exact sr (sa rfl (nesr (mv rfl (mv rfl (yy (y_ne rfl rfl) (sa rfl (netr (f_ret0 rfl (rt rfl) (by show Value.bool _ = Value.bool _; congr 1; simp) rfl))))))))
def cmpN (a b : Nat) : Int := if a < b then -1 else if b < a then 1 else 0
theorem compare_ok {S : Stone} {a b : Nat} : Con Tryz.prog 109 #[u64 a, u64 b] [] S (Ret (.int .i64 (cmpN a b)) S) := by
 refine con_of 20 Tryz.func109 rfl rfl rfl (fun w0 => ?_)
 refine sr (sa rfl (nesr (mv rfl (lw (t_callr' rfl (nan_ok) en_124 (sa rfl (nesr (mv rfl (lw (t_callr' rfl (nan_ok) en_124 (sa rfl (nes (sr (mv rfl (l_nil ?_)))))))))))))))
 refine e_then (c_false rfl (c_skip (e_then (c_seq (sr (mv rfl (ne (c_false rfl (c_skip (e_then (c_seq (sr (mv rfl (mv rfl (yy (y_lt rfl rfl) (nec rfl (fun g3 => ?_) (fun g3 => ?_)))))))))))))))))
 · have hc : cmpN a b = -1 := by simp at g3; simp [cmpN, g3]
   exact sr (sa rfl (netr (e_then_ret (f_ret0 rfl (rt rfl) (by rw [hc]; rfl) rfl))))
 · simp at g3
   refine c_skip (e_then (c_seq (sr (mv rfl (mv rfl (yy (y_gt rfl rfl) (nec rfl (fun g4 => ?_) (fun g4 => ?_))))))))
   · have hc : cmpN a b = 1 := by simp at g4; unfold cmpN; rw [if_neg om, if_pos om]
     exact sr (sa rfl (netr (e_then_ret (f_ret0 rfl (rt rfl) (by rw [hc]; rfl) rfl))))
   · have hc : cmpN a b = 0 := by simp at g4; unfold cmpN; rw [if_neg om, if_neg om]
     exact c_skip (e_then (sr (sa rfl (netr (f_ret0 rfl (rt rfl) (by rw [hc]; rfl) rfl)))))
theorem byid_ok {S : Stone} {x y : Prd} : Con Tryz.prog 108 #[.agg x.cells.toArray, .agg y.cells.toArray] [] S (Ret (.int .i64 (cmpN x.id y.id)) S) := by
 refine con_of 10 Tryz.func108 rfl rfl rfl (fun w0 => ?_)
 refine sr (bx rfl rfl (fun b2 => bx rfl rfl (fun b3 => sa rfl (nesr (yy (y_far fo_67_0 rfl) (ll (lb ld_25) ?_))))))
 refine yy (y_far fo_67_0 rfl) (ll (lb ld_25) ?_)
 exact lw (t_callr' rfl (compare_ok) en_109 (sa rfl (netr (f_ret0 rfl (rt rfl) rfl rfl))))
theorem same_ok {S : Stone} {x y : Prd} {p : Addr} (h : S.cell (p.add 0) = some (u64 y.id)) : Con Tryz.prog 106 #[.agg x.cells.toArray, .pointer (some p)] [] S (Ret (.bool (x.id == y.id)) S) := by
 refine con_of 9 Tryz.func106 rfl rfl rfl (fun w0 => ?_)
 refine sr (bx rfl rfl (fun b2 => sa rfl (nesr (yy (y_far fo_67_0 rfl) (ll (lb ld_25) ?_)))))
 refine yy (y_fa fo_67_0 rfl) (ll (ld_st ld_25 rfl ‹_›) ?_)
 exact yy (y_eq rfl rfl) (sa rfl (netr (f_ret0 rfl (rt rfl) (by show Value.bool _ = Value.bool _; congr 1; rw [Bool.eq_iff_iff]; simp; omega) rfl)))
theorem nans_ok {S : Stone} {n : ByteArray} : Con Tryz.prog 129 #[.string n] [] S (Ret (.bool false) S) := by
 refine con_of 6 Tryz.func129 rfl rfl rfl (fun w0 => ?_)
 exact sr (sa rfl (nesr (mv rfl (mv rfl (yy (y_sne rfl rfl) (sa rfl (netr (f_ret0 rfl (rt rfl) (by show Value.bool _ = Value.bool _; congr 1; simp) rfl))))))))
theorem compares_ok {S : Stone} {a b : Nat} (ha : a < 2) (hb : b < 2) : Con Tryz.prog 114 #[.string (nm a), .string (nm b)] [] S (Ret (.int .i64 (cmpN a b)) S) := by
 refine con_of 20 Tryz.func114 rfl rfl rfl (fun w0 => ?_)
 refine sr (sa rfl (nesr (mv rfl (lw (t_callr' rfl (nans_ok) en_129 (sa rfl (nesr (mv rfl (lw (t_callr' rfl (nans_ok) en_129 (sa rfl (nes (sr (mv rfl (l_nil ?_)))))))))))))))
 refine e_then (c_false rfl (c_skip (e_then (c_seq (sr (mv rfl (ne (c_false rfl (c_skip (e_then (c_seq (sr (mv rfl (mv rfl (yy (y_slt rfl rfl) (nec rfl (fun g3 => ?_) (fun g3 => ?_)))))))))))))))))
 · have hc : cmpN a b = -1 := by rw [nm_less ha hb] at g3; simp at g3; simp [cmpN, g3]
   exact sr (sa rfl (netr (e_then_ret (f_ret0 rfl (rt rfl) (by rw [hc]; rfl) rfl))))
 · rw [nm_less ha hb] at g3; simp at g3
   refine c_skip (e_then (c_seq (sr (mv rfl (mv rfl (yy (y_sgt rfl rfl) (nec rfl (fun g4 => ?_) (fun g4 => ?_))))))))
   · have hc : cmpN a b = 1 := by rw [nm_less ha hb, nm_eq ha hb] at g4; simp at g4; unfold cmpN; rw [if_neg om, if_pos om]
     exact sr (sa rfl (netr (e_then_ret (f_ret0 rfl (rt rfl) (by rw [hc]; rfl) rfl))))
   · have hc : cmpN a b = 0 := by rw [nm_less ha hb, nm_eq ha hb] at g4; simp at g4; unfold cmpN; rw [if_neg om, if_neg om]
     exact c_skip (e_then (sr (sa rfl (netr (f_ret0 rfl (rt rfl) (by rw [hc]; rfl) rfl)))))
theorem byname_ok {S : Stone} {x y : Cns} (hx : x.name < 2) (hy : y.name < 2) : Con Tryz.prog 88 #[.agg x.cells.toArray, .agg y.cells.toArray] [] S (Ret (.int .i64 (cmpN x.name y.name)) S) := by
 refine con_of 10 Tryz.func88 rfl rfl rfl (fun w0 => ?_)
 refine sr (bx rfl rfl (fun b2 => bx rfl rfl (fun b3 => sa rfl (nesr (yy (y_far fo_65_0 rfl) (ll (lb ld_9) ?_))))))
 refine yy (y_far fo_65_0 rfl) (ll (lb ld_9) ?_)
 exact lw (t_callr' rfl (compares_ok om om) en_114 (sa rfl (netr (f_ret0 rfl (rt rfl) rfl rfl))))
theorem pclone_ok {S : Stone} {v : Value} {l : List Prd} (h : Prds S v l) (hl : l.length ≤ 4096) : Con Tryz.prog 68 #[v] [] S (RowR 67 4 prdC l) := by
 obtain ⟨A, cap, rfl, hc, hm, -⟩ := h.shape
 refine con_of 8 Tryz.func68 rfl rfl rfl (fun w0 => ?_)
 refine sr (sa rfl (nes (sr (mv rfl (yy (y_slnil sl_27 rfl) (nec rfl (fun g1 => ?_) (fun g1 => ?_)))))))
 · have hl0 : l = [] := by
    cases l with
    | nil => rfl
    | cons a l => obtain ⟨p, rfl, _⟩ := h.at (i := 0) (r := a) rfl; cases g1
   subst hl0
   refine t_nilrow 67 4 ?_
   exact sr (sa rfl (netr (e_then_ret (f_retS rfl (rt rfl) ⟨[], rfl, Flat.nil, rfl⟩))))
 · refine c_skip ?_
   refine e_then (sr (lw (t_bs0 ap_27 zc_67 rfl (fun b5 => mv rfl (lw (t_appS (h) plain_prd ap_27 rfl rfl pk mo om rfl (fun va7 nw7 hf7 hm7 ho7 => ?_)))))))
   refine sa rfl (netr ?_)
   rw [Nat.zero_add, List.nil_append]
   exact f_retS rfl (rt rfl) ⟨_, rfl, hf7, ho7⟩
theorem cclone_ok {S : Stone} {v : Value} {l : List Cns} (h : Cnss S v l) (hl : l.length ≤ 4096) : Con Tryz.prog 69 #[v] [] S (RowR 65 2 cnsC l) := by
 obtain ⟨A, cap, rfl, hc, hm, -⟩ := h.shape
 refine con_of 8 Tryz.func69 rfl rfl rfl (fun w0 => ?_)
 refine sr (sa rfl (nes (sr (mv rfl (yy (y_slnil sl_28 rfl) (nec rfl (fun g1 => ?_) (fun g1 => ?_)))))))
 · have hl0 : l = [] := by
    cases l with
    | nil => rfl
    | cons a l => obtain ⟨p, rfl, _⟩ := h.at (i := 0) (r := a) rfl; cases g1
   subst hl0
   refine t_nilrow 65 2 ?_
   exact sr (sa rfl (netr (e_then_ret (f_retS rfl (rt rfl) ⟨[], rfl, Flat.nil, rfl⟩))))
 · refine c_skip ?_
   refine e_then (sr (lw (t_bs0 ap_28 zc_65 rfl (fun b5 => mv rfl (lw (t_appS (h) plain_cns ap_28 rfl rfl pk mo om rfl (fun va7 nw7 hf7 hm7 ho7 => ?_)))))))
   refine sa rfl (netr ?_)
   rw [Nat.zero_add, List.nil_append]
   exact f_retS rfl (rt rfl) ⟨_, rfl, hf7, ho7⟩
end Go.Proofs.YtkdmbimkanjbhaaGreatDoor.Eng
namespace Go.Proofs.YtkdmbimkanjbhaaGreatDoor.Eng
open Go Go.Proofs
set_option maxRecDepth 100000
attribute [local irreducible] Tr
theorem overlaps_125 {w : World} {vb gb m vc off lb cb nv capv n cap : Nat} {cs xs : List Value} (hv : w.ownsRow 0 67 4 (.slice (some ⟨vb, 0, none⟩) nv capv) nv cs) (hg : w.ownsRow 0 67 4 (.slice (some ⟨gb, 0, none⟩) n cap) n xs) (hne : vb ≠ gb) (hn : 0 < n) :
 (callFunc 125 #[.slice (some ⟨vb, 0, none⟩) m vc, .slice (some ⟨gb, off, none⟩) lb cb]).run Tryz.prog w = .ok (.value (.bool false)) w := by
 obtain ⟨cv, hv1, _⟩ := row_open hv
 obtain ⟨cg, hg1, hg2, _, hg3, _⟩ := row_open hg
 obtain ⟨inf, hu, _, _⟩ := slK_spec sl_27
 rw [run_callFunc_extern Tryz.func125 kr kr kr (e := Extern.SlicesOverlaps.overlaps #[27, 27] #[4]) kr,
  Lib.run_overlaps_apart w 27 4 67 hu 4 (sizeOf_of sz_67) ⟨vb, 0, none⟩ ⟨gb, off, none⟩ m vc lb cb hne 67 67 cv.size cg.size (by simp [World.shape?, hv1]) (by simp [World.shape?, hg1]) om (by simp [World.frozen?, hv1]) (by simp [World.frozen?, hv1])]
 rfl
theorem ovn_125 {H : List Item} {S : Stone} {vb gb m vc off lb cb nv capv n cap : Nat} {cs xs : List Value} (hv : Item.row (.slice (some ⟨vb, 0, none⟩) nv capv) 67 4 nv cs ∈ H) (hg : Item.row (.slice (some ⟨gb, 0, none⟩) n cap) 67 4 n xs ∈ H) (hne : vb ≠ gb) (hn : 0 < n) :
 NatOk Tryz.prog H S 125 [.slice (some ⟨vb, 0, none⟩) m vc, .slice (some ⟨gb, off, none⟩) lb cb] (.bool false) := ⟨fun _ hH _ => overlaps_125 (hH _ hv) (hH _ hg) hne hn⟩
theorem insert_nil_110 {S : Stone} {b : Nat} {cs : List Value} (hc : cs.length = 4) (h1 : cs.all Value.oneCell' = true) :
 Con Tryz.prog 110 #[.slice none 0 0, .int .i64 0, .slice (some ⟨b, 0, none⟩) 1 1] [.row (.slice none 0 0) 67 4 0 [], .row (.slice (some ⟨b, 0, none⟩) 1 1) 67 4 1 cs] S (fun u I' S' => S' = S ∧ I' = [.row u 67 4 1 cs] ∧ u.oneCell' = true) := by
 refine con_of 95 Tryz.func110 rfl rfl rfl (fun w0 => ?_)
 refine sr (sa rfl (nesr (mv rfl (mv rfl (lw (t_y (y_sl sl_27 rfl (l := 0) (h := 0) ⟨_, rfl⟩ rfl om om) rfl (lt_n rfl) (nesr (mv rfl (yy (y_ln sl_27 rfl) (sa rfl (nes (sr (mv rfl (yy (y_eq rfl rfl) ?_))))))))))))))
 refine ne (c_false rfl (c_skip (e_then (sr (mv rfl (yy (y_ln sl_27 rfl) (sa rfl (nes (sr (mv rfl (mv rfl (yy (y_eq rfl rfl) (ne (c_true rfl (sr (mv rfl ?_))))))))))))))))
 refine mv rfl (lw (t_appR ap_27 rfl rfl Pick.hd Pick.hd (by rw [hc]) h1 mo om rfl (fun va25 ho25 => ?_)))
 exact sa rfl (netr (e_then_ret (f_retS rfl (rt rfl) ⟨rfl, rfl, ho25⟩)))
theorem insert_some_110 {S : Stone} {b gb n cap i : Nat} {xs cs : List Value} (hi : i ≤ n) (hnc : n ≤ cap) (hcap : cap ≤ 9223372036854775807) (hn : n ≤ 1000) (hx : xs.length = n * 4) (hc : cs.length = 4) (h1 : cs.all Value.oneCell' = true) (h1x : xs.all Value.oneCell' = true) :
 Con Tryz.prog 110 #[.slice (some ⟨gb, 0, none⟩) n cap, i64 i, .slice (some ⟨b, 0, none⟩) 1 1] [.row (.slice (some ⟨gb, 0, none⟩) n cap) 67 4 n xs, .row (.slice (some ⟨b, 0, none⟩) 1 1) 67 4 1 cs] S
  (fun u I' S' => S' = S ∧ I' = [.row u 67 4 (n + 1) (xs.take (i * 4) ++ cs ++ xs.drop (i * 4))] ∧ u.oneCell' = true) := by
 have hdl : (xs.drop (i * 4)).length = (n - i) * 4 := by rw [List.length_drop, hx]; omega
 have hd1 : (xs.drop (i * 4)).all Value.oneCell' = true := List.all_eq_true.2 fun u hu => List.all_eq_true.1 h1x u (List.mem_of_mem_drop hu)
 refine con_of 95 Tryz.func110 rfl rfl rfl (fun w0 => ?_)
 refine sr (sa rfl (nesr (mv rfl (mv rfl (lw (t_y (y_sl sl_27 rfl (l := i) (h := n) ⟨_, rfl⟩ rfl om om) rfl (lt_n rfl) (nesr (mv rfl (yy (y_ln sl_27 rfl) (sa rfl (nes (sr (mv rfl (yy (y_eq rfl rfl) ?_))))))))))))))
 refine ne (c_false rfl (c_skip (e_then (sr (mv rfl (yy (y_ln sl_27 rfl) (sa rfl (nes (sr (mv rfl (mv rfl (yy (y_eq rfl rfl) (nec rfl (fun g2 => ?_) (fun g2 => ?_))))))))))))))
 · have hin : i = n := by simp at g2; omega
   refine sr (mv rfl (mv rfl (lw (t_appR ap_27 rfl rfl Pick.hd Pick.hd (by rw [hc]) h1 mo om rfl (fun va25 ho25 => ?_)))))
   exact sa rfl (netr (e_then_ret (f_retS rfl (rt rfl) ⟨rfl, by rw [hin, List.take_of_length_le om, List.drop_eq_nil_iff.2 om, List.append_nil], ho25⟩)))
 · have hin : i < n := by simp at g2; omega
   refine c_skip (e_then (c_seq (sr (mv rfl (mv rfl (yy (y_addN rfl rfl om) (mv rfl (yy (y_cap (by rw [sl_27]; rfl) rfl) ?_))))))))
   refine yy (y_gt rfl rfl) (nec rfl (fun g3 => ?_) (fun g3 => ?_))
   · have hgrow : cap < n + 1 := by simp at g3; omega
     refine sr (mv rfl (mv rfl (yy (y_slh sl_27 rfl rfl om) (mv rfl (mv rfl (yy (y_addN rfl rfl om) (mv rfl (yy (y_subN (n := n + 1) (m := i) rfl rfl om om) (lw (t_appz (i := i) (k := n + 1 - i) ap_27 (by kernel_rfl : cvK Tryz.prog 3 3 = some .i64) rfl rfl Pick.hd rfl om rfl om om om mo rfl (fun b2 cap2 zs hzs => ?_)))))))))))
     rw [show i + (n + 1 - i) = n + 1 by omega]
     have hl2 : (xs.take (i * 4) ++ zs).length = (n + 1) * 4 := by rw [List.length_append, List.length_take, hzs, hx]; omega
     refine t_form Pick.hd (fun hv0 _ => by cases hv0) (fun _ _ hv2 hnc2 hcm2 _ => ?_)
     simp only [Value.slice.injEq, Option.some.injEq, Addr.mk.injEq, true_and, and_true] at hv2
     obtain ⟨-, rfl⟩ := hv2
     have ho40 : Value.oneCell' (.slice (some ⟨b2, 0, none⟩) (n + 1) cap2) = true := rfl
     refine sa rfl (nesr (mv rfl (mv rfl (yy (y_slr sl_27 rfl rfl om om om) (mv rfl (lw (t_copy (cs := cs) sl_27 rfl rfl Pick.hd (by rw [hc]; omega) (src_row (Pick.tl (Pick.tl Pick.hd)) (fun j u hj => by simpa using hj)) om h1 rfl ?_)))))))
     refine nes (dRa [] (.take 0 (.take 1 (.take 2 (.take 3 (.take 4 (.take 5 (.take 6 (.take 7 (.alt 8 .done .stop))))))))) ?_)
     refine em rfl rfl (em rfl rfl (em rfl rfl (ey rfl (y_addN rfl rfl om) (ey rfl (y_slr sl_27 rfl rfl om om om) (em rfl rfl (em rfl rfl (ey rfl (y_slr sl_27 rfl rfl om om om) (da rfl (t_copy (cs := xs.drop (i * 4)) sl_27 rfl rfl Pick.hd (by rw [hdl]; congr 1; omega) (src_row (Pick.tl Pick.hd) (fun j u hj => by rw [List.getElem?_drop] at hj; rw [← hj]; congr 1; omega)) om hd1 rfl ?_)))))))))
     refine t_eqrow Pick.hd (put2_cells hx hi hc (by rw [List.length_append, List.length_take, hzs, hx]; omega) (by rw [List.take_append_of_le_length (by rw [List.length_take]; omega), List.take_take, Nat.min_self])) ?_
     exact dA (Stone.le.refl _) (d_done (e_then (sr (mv rfl (sa rfl (netr (e_then_ret (f_retS rfl (rt rfl) ⟨rfl, rfl, ho40⟩))))))))
   · have hroom : n + 1 ≤ cap := by simp at g3; omega
     refine c_skip (e_then (sr (mv rfl (mv rfl (mv rfl (yy (y_addN rfl rfl om) (yy (y_slh sl_27 rfl rfl om) (t_reslice (n + 1) Pick.hd hroom (fun ys hyl hyx => ?_)))))))))
     rw [Nat.min_eq_left om] at hyx
     refine sa rfl (nes (sr (mv rfl (mv rfl (mv rfl (mv rfl (yy (y_addN rfl rfl om) (yy (y_slr sl_27 rfl rfl om om om) (t_apart Pick.hd Pick.hd (fun hne => ?_))))))))))
     refine lw (t_nat rfl (ovn_125 (List.mem_cons_of_mem _ (List.mem_cons_self ..)) (List.mem_cons_self ..) hne om) (yy (y_not rfl) (ne (c_true rfl (c_seq (dRa [] (.take 0 (.take 1 (.take 2 (.take 3 (.take 4 (.take 5 (.take 6 (.take 7 (.alt 8 .done .stop))))))))) ?_))))))
     refine em rfl rfl (em rfl rfl (em rfl rfl (ey rfl (y_addN rfl rfl om) (ey rfl (y_slr sl_27 rfl rfl om om om) (em rfl rfl (em rfl rfl (ey rfl (y_slr sl_27 rfl rfl om om om) (da rfl ?_))))))))
     refine t_copy (cs := xs.drop (i * 4)) sl_27 rfl rfl Pick.hd (by rw [hdl]; congr 1; omega) (src_row Pick.hd (fun j u hj => by
      rw [List.getElem?_drop] at hj
      have hlt := (List.getElem?_eq_some_iff.1 hj).1
      have : (ys.take (n * 4))[0 + i * 4 + j]? = some u := by rw [hyx, List.take_of_length_le om]; simpa using hj
      rw [List.getElem?_take] at this
      split at this
      · exact this
      · cases this)) om hd1 rfl ?_
     refine dA (Stone.le.refl _) (d_done (e_then (sr (mv rfl (mv rfl (yy (y_slr sl_27 rfl rfl om om om) (mv rfl (lw (t_copy (cs := cs) sl_27 rfl rfl Pick.hd (by rw [hc]; omega) (src_row (Pick.tl Pick.hd) (fun j u hj => by simpa using hj)) om h1 rfl ?_)))))))))
     rw [Nat.zero_add, Nat.zero_add]
     refine t_eqrow Pick.hd (put_cells hx hi hc ys hyl (by
      have : (ys.take (n * 4)).take (i * 4) = (xs.take (n * 4)).take (i * 4) := by rw [hyx]
      rwa [List.take_take, List.take_take, Nat.min_eq_left om] at this)) ?_
     exact nesr (mv rfl (sa rfl (netr (e_then_ret (f_retS rfl (rt rfl) ⟨rfl, rfl, rfl⟩)))))
theorem insert_110 {S : Stone} {b n i : Nat} {v : Value} {xs cs : List Value} (hi : i ≤ n) (hn : n ≤ 1000) (hx : xs.length = n * 4) (hc : cs.length = 4) (h1 : cs.all Value.oneCell' = true) (h1x : xs.all Value.oneCell' = true) :
 Con Tryz.prog 110 #[v, i64 i, .slice (some ⟨b, 0, none⟩) 1 1] [.row v 67 4 n xs, .row (.slice (some ⟨b, 0, none⟩) 1 1) 67 4 1 cs] S
  (fun u I' S' => S' = S ∧ I' = [.row u 67 4 (n + 1) (xs.take (i * 4) ++ cs ++ xs.drop (i * 4))] ∧ u.oneCell' = true) := by
 refine Con.form (fun hv hn0 => ?_) (fun gb cap hv hnc hcap => ?_)
 · subst hv; subst hn0
   have hi0 : i = 0 := by omega
   subst hi0
   have hx0 : xs = [] := List.length_eq_zero_iff.1 om
   subst hx0
   exact (insert_nil_110 hc h1).mono (fun u I' S' ⟨e1, e2, e3⟩ => ⟨e1, by rw [e2]; simp, e3⟩)
 · subst hv
   exact insert_some_110 hi hnc hcap hn hx hc h1 h1x
theorem overlaps_127 {w : World} {vb gb m vc off lb cb nv capv n cap : Nat} {cs xs : List Value} (hv : w.ownsRow 0 65 2 (.slice (some ⟨vb, 0, none⟩) nv capv) nv cs) (hg : w.ownsRow 0 65 2 (.slice (some ⟨gb, 0, none⟩) n cap) n xs) (hne : vb ≠ gb) (hn : 0 < n) :
 (callFunc 127 #[.slice (some ⟨vb, 0, none⟩) m vc, .slice (some ⟨gb, off, none⟩) lb cb]).run Tryz.prog w = .ok (.value (.bool false)) w := by
 obtain ⟨cv, hv1, _⟩ := row_open hv
 obtain ⟨cg, hg1, hg2, _, hg3, _⟩ := row_open hg
 obtain ⟨inf, hu, _, _⟩ := slK_spec sl_28
 rw [run_callFunc_extern Tryz.func127 kr kr kr (e := Extern.SlicesOverlaps.overlaps #[28, 28] #[4]) kr,
  Lib.run_overlaps_apart w 28 4 65 hu 2 (sizeOf_of sz_65) ⟨vb, 0, none⟩ ⟨gb, off, none⟩ m vc lb cb hne 65 65 cv.size cg.size (by simp [World.shape?, hv1]) (by simp [World.shape?, hg1]) om (by simp [World.frozen?, hv1]) (by simp [World.frozen?, hv1])]
 rfl
theorem ovn_127 {H : List Item} {S : Stone} {vb gb m vc off lb cb nv capv n cap : Nat} {cs xs : List Value} (hv : Item.row (.slice (some ⟨vb, 0, none⟩) nv capv) 65 2 nv cs ∈ H) (hg : Item.row (.slice (some ⟨gb, 0, none⟩) n cap) 65 2 n xs ∈ H) (hne : vb ≠ gb) (hn : 0 < n) :
 NatOk Tryz.prog H S 127 [.slice (some ⟨vb, 0, none⟩) m vc, .slice (some ⟨gb, off, none⟩) lb cb] (.bool false) := ⟨fun _ hH _ => overlaps_127 (hH _ hv) (hH _ hg) hne hn⟩
theorem insert_nil_113 {S : Stone} {b : Nat} {cs : List Value} (hc : cs.length = 2) (h1 : cs.all Value.oneCell' = true) :
 Con Tryz.prog 113 #[.slice none 0 0, .int .i64 0, .slice (some ⟨b, 0, none⟩) 1 1] [.row (.slice none 0 0) 65 2 0 [], .row (.slice (some ⟨b, 0, none⟩) 1 1) 65 2 1 cs] S (fun u I' S' => S' = S ∧ I' = [.row u 65 2 1 cs] ∧ u.oneCell' = true) := by
 refine con_of 95 Tryz.func113 rfl rfl rfl (fun w0 => ?_)
 refine sr (sa rfl (nesr (mv rfl (mv rfl (lw (t_y (y_sl sl_28 rfl (l := 0) (h := 0) ⟨_, rfl⟩ rfl om om) rfl (lt_n rfl) (nesr (mv rfl (yy (y_ln sl_28 rfl) (sa rfl (nes (sr (mv rfl (yy (y_eq rfl rfl) ?_))))))))))))))
 refine ne (c_false rfl (c_skip (e_then (sr (mv rfl (yy (y_ln sl_28 rfl) (sa rfl (nes (sr (mv rfl (mv rfl (yy (y_eq rfl rfl) (ne (c_true rfl (sr (mv rfl ?_))))))))))))))))
 refine mv rfl (lw (t_appR ap_28 rfl rfl Pick.hd Pick.hd (by rw [hc]) h1 mo om rfl (fun va25 ho25 => ?_)))
 exact sa rfl (netr (e_then_ret (f_retS rfl (rt rfl) ⟨rfl, rfl, ho25⟩)))
theorem insert_some_113 {S : Stone} {b gb n cap i : Nat} {xs cs : List Value} (hi : i ≤ n) (hnc : n ≤ cap) (hcap : cap ≤ 9223372036854775807) (hn : n ≤ 1000) (hx : xs.length = n * 2) (hc : cs.length = 2) (h1 : cs.all Value.oneCell' = true) (h1x : xs.all Value.oneCell' = true) :
 Con Tryz.prog 113 #[.slice (some ⟨gb, 0, none⟩) n cap, i64 i, .slice (some ⟨b, 0, none⟩) 1 1] [.row (.slice (some ⟨gb, 0, none⟩) n cap) 65 2 n xs, .row (.slice (some ⟨b, 0, none⟩) 1 1) 65 2 1 cs] S
  (fun u I' S' => S' = S ∧ I' = [.row u 65 2 (n + 1) (xs.take (i * 2) ++ cs ++ xs.drop (i * 2))] ∧ u.oneCell' = true) := by
 have hdl : (xs.drop (i * 2)).length = (n - i) * 2 := by rw [List.length_drop, hx]; omega
 have hd1 : (xs.drop (i * 2)).all Value.oneCell' = true := List.all_eq_true.2 fun u hu => List.all_eq_true.1 h1x u (List.mem_of_mem_drop hu)
 refine con_of 95 Tryz.func113 rfl rfl rfl (fun w0 => ?_)
 refine sr (sa rfl (nesr (mv rfl (mv rfl (lw (t_y (y_sl sl_28 rfl (l := i) (h := n) ⟨_, rfl⟩ rfl om om) rfl (lt_n rfl) (nesr (mv rfl (yy (y_ln sl_28 rfl) (sa rfl (nes (sr (mv rfl (yy (y_eq rfl rfl) ?_))))))))))))))
 refine ne (c_false rfl (c_skip (e_then (sr (mv rfl (yy (y_ln sl_28 rfl) (sa rfl (nes (sr (mv rfl (mv rfl (yy (y_eq rfl rfl) (nec rfl (fun g2 => ?_) (fun g2 => ?_))))))))))))))
 · have hin : i = n := by simp at g2; omega
   refine sr (mv rfl (mv rfl (lw (t_appR ap_28 rfl rfl Pick.hd Pick.hd (by rw [hc]) h1 mo om rfl (fun va25 ho25 => ?_)))))
   exact sa rfl (netr (e_then_ret (f_retS rfl (rt rfl) ⟨rfl, by rw [hin, List.take_of_length_le om, List.drop_eq_nil_iff.2 om, List.append_nil], ho25⟩)))
 · have hin : i < n := by simp at g2; omega
   refine c_skip (e_then (c_seq (sr (mv rfl (mv rfl (yy (y_addN rfl rfl om) (mv rfl (yy (y_cap (by rw [sl_28]; rfl) rfl) ?_))))))))
   refine yy (y_gt rfl rfl) (nec rfl (fun g3 => ?_) (fun g3 => ?_))
   · have hgrow : cap < n + 1 := by simp at g3; omega
     refine sr (mv rfl (mv rfl (yy (y_slh sl_28 rfl rfl om) (mv rfl (mv rfl (yy (y_addN rfl rfl om) (mv rfl (yy (y_subN (n := n + 1) (m := i) rfl rfl om om) (lw (t_appz (i := i) (k := n + 1 - i) ap_28 (by kernel_rfl : cvK Tryz.prog 3 3 = some .i64) rfl rfl Pick.hd rfl om rfl om om om mo rfl (fun b2 cap2 zs hzs => ?_)))))))))))
     rw [show i + (n + 1 - i) = n + 1 by omega]
     have hl2 : (xs.take (i * 2) ++ zs).length = (n + 1) * 2 := by rw [List.length_append, List.length_take, hzs, hx]; omega
     refine t_form Pick.hd (fun hv0 _ => by cases hv0) (fun _ _ hv2 hnc2 hcm2 _ => ?_)
     simp only [Value.slice.injEq, Option.some.injEq, Addr.mk.injEq, true_and, and_true] at hv2
     obtain ⟨-, rfl⟩ := hv2
     have ho40 : Value.oneCell' (.slice (some ⟨b2, 0, none⟩) (n + 1) cap2) = true := rfl
     refine sa rfl (nesr (mv rfl (mv rfl (yy (y_slr sl_28 rfl rfl om om om) (mv rfl (lw (t_copy (cs := cs) sl_28 rfl rfl Pick.hd (by rw [hc]; omega) (src_row (Pick.tl (Pick.tl Pick.hd)) (fun j u hj => by simpa using hj)) om h1 rfl ?_)))))))
     refine nes (dRa [] (.take 0 (.take 1 (.take 2 (.take 3 (.take 4 (.take 5 (.take 6 (.take 7 (.alt 8 .done .stop))))))))) ?_)
     refine em rfl rfl (em rfl rfl (em rfl rfl (ey rfl (y_addN rfl rfl om) (ey rfl (y_slr sl_28 rfl rfl om om om) (em rfl rfl (em rfl rfl (ey rfl (y_slr sl_28 rfl rfl om om om) (da rfl (t_copy (cs := xs.drop (i * 2)) sl_28 rfl rfl Pick.hd (by rw [hdl]; congr 1; omega) (src_row (Pick.tl Pick.hd) (fun j u hj => by rw [List.getElem?_drop] at hj; rw [← hj]; congr 1; omega)) om hd1 rfl ?_)))))))))
     refine t_eqrow Pick.hd (put2_cells hx hi hc (by rw [List.length_append, List.length_take, hzs, hx]; omega) (by rw [List.take_append_of_le_length (by rw [List.length_take]; omega), List.take_take, Nat.min_self])) ?_
     exact dA (Stone.le.refl _) (d_done (e_then (sr (mv rfl (sa rfl (netr (e_then_ret (f_retS rfl (rt rfl) ⟨rfl, rfl, ho40⟩))))))))
   · have hroom : n + 1 ≤ cap := by simp at g3; omega
     refine c_skip (e_then (sr (mv rfl (mv rfl (mv rfl (yy (y_addN rfl rfl om) (yy (y_slh sl_28 rfl rfl om) (t_reslice (n + 1) Pick.hd hroom (fun ys hyl hyx => ?_)))))))))
     rw [Nat.min_eq_left om] at hyx
     refine sa rfl (nes (sr (mv rfl (mv rfl (mv rfl (mv rfl (yy (y_addN rfl rfl om) (yy (y_slr sl_28 rfl rfl om om om) (t_apart Pick.hd Pick.hd (fun hne => ?_))))))))))
     refine lw (t_nat rfl (ovn_127 (List.mem_cons_of_mem _ (List.mem_cons_self ..)) (List.mem_cons_self ..) hne om) (yy (y_not rfl) (ne (c_true rfl (c_seq (dRa [] (.take 0 (.take 1 (.take 2 (.take 3 (.take 4 (.take 5 (.take 6 (.take 7 (.alt 8 .done .stop))))))))) ?_))))))
     refine em rfl rfl (em rfl rfl (em rfl rfl (ey rfl (y_addN rfl rfl om) (ey rfl (y_slr sl_28 rfl rfl om om om) (em rfl rfl (em rfl rfl (ey rfl (y_slr sl_28 rfl rfl om om om) (da rfl ?_))))))))
     refine t_copy (cs := xs.drop (i * 2)) sl_28 rfl rfl Pick.hd (by rw [hdl]; congr 1; omega) (src_row Pick.hd (fun j u hj => by
      rw [List.getElem?_drop] at hj
      have hlt := (List.getElem?_eq_some_iff.1 hj).1
      have : (ys.take (n * 2))[0 + i * 2 + j]? = some u := by rw [hyx, List.take_of_length_le om]; simpa using hj
      rw [List.getElem?_take] at this
      split at this
      · exact this
      · cases this)) om hd1 rfl ?_
     refine dA (Stone.le.refl _) (d_done (e_then (sr (mv rfl (mv rfl (yy (y_slr sl_28 rfl rfl om om om) (mv rfl (lw (t_copy (cs := cs) sl_28 rfl rfl Pick.hd (by rw [hc]; omega) (src_row (Pick.tl Pick.hd) (fun j u hj => by simpa using hj)) om h1 rfl ?_)))))))))
     rw [Nat.zero_add, Nat.zero_add]
     refine t_eqrow Pick.hd (put_cells hx hi hc ys hyl (by
      have : (ys.take (n * 2)).take (i * 2) = (xs.take (n * 2)).take (i * 2) := by rw [hyx]
      rwa [List.take_take, List.take_take, Nat.min_eq_left om] at this)) ?_
     exact nesr (mv rfl (sa rfl (netr (e_then_ret (f_retS rfl (rt rfl) ⟨rfl, rfl, rfl⟩)))))
theorem insert_113 {S : Stone} {b n i : Nat} {v : Value} {xs cs : List Value} (hi : i ≤ n) (hn : n ≤ 1000) (hx : xs.length = n * 2) (hc : cs.length = 2) (h1 : cs.all Value.oneCell' = true) (h1x : xs.all Value.oneCell' = true) :
 Con Tryz.prog 113 #[v, i64 i, .slice (some ⟨b, 0, none⟩) 1 1] [.row v 65 2 n xs, .row (.slice (some ⟨b, 0, none⟩) 1 1) 65 2 1 cs] S
  (fun u I' S' => S' = S ∧ I' = [.row u 65 2 (n + 1) (xs.take (i * 2) ++ cs ++ xs.drop (i * 2))] ∧ u.oneCell' = true) := by
 refine Con.form (fun hv hn0 => ?_) (fun gb cap hv hnc hcap => ?_)
 · subst hv; subst hn0
   have hi0 : i = 0 := by omega
   subst hi0
   have hx0 : xs = [] := List.length_eq_zero_iff.1 om
   subst hx0
   exact (insert_nil_113 hc h1).mono (fun u I' S' ⟨e1, e2, e3⟩ => ⟨e1, by rw [e2]; simp, e3⟩)
 · subst hv
   exact insert_some_113 hi hnc hcap hn hx hc h1 h1x
end Go.Proofs.YtkdmbimkanjbhaaGreatDoor.Eng
namespace Go.Proofs.YtkdmbimkanjbhaaGreatDoor.Eng
open Go Go.Proofs
set_option maxRecDepth 100000
attribute [local irreducible] Tr
theorem delete_nil {S : Stone} {f : FuncId} {fv : List Value} {q : Prd → Bool} (hk : enK Tryz.prog f = true) :
 Con Tryz.prog 105 #[.slice none 0 0, .func (.func f) #[] fv.toArray] [.row (.slice none 0 0) 67 4 0 []] S (RowR 67 4 prdC ([] : List Prd)) := by
 refine con_of 42 Tryz.func105 rfl rfl rfl (fun w0 => ?_)
 refine sr (sa rfl (nesr (mv rfl (mv rfl (lw (t_callA rfl (indexFunc_90 (l := []) (q := q) Rd.nil hk (fun x hx => by cases hx)) en_90 (fun v10 I10 S10 le10 h10 => ?_)))))))
 obtain ⟨rfl, rfl, rfl⟩ := h10
 exact sa rfl (nes (sr (mv rfl (yy (y_eq rfl rfl) (ne (c_true rfl (sr (mv rfl (sa rfl (netr (e_then_ret (f_retS rfl (rt rfl) ⟨[], rfl, Flat.nil, rfl⟩))))))))))))
theorem delete_some {S : Stone} {gb cap : Nat} {xs : List Value} {l : List Prd} {f : FuncId} {fv : List Value} {q : Prd → Bool} (hf : Flat S 4 prdC xs l) (hnc : l.length ≤ cap) (hcap : cap ≤ 9223372036854775807) (hl : l.length ≤ 4096) (hk : enK Tryz.prog f = true)
 (hq : ∀ x ∈ l, Con Tryz.prog f ([] ++ [Value.agg x.cells.toArray] ++ fv).toArray [] S (Ret (.bool (q x)) S)) :
 Con Tryz.prog 105 #[.slice (some ⟨gb, 0, none⟩) l.length cap, .func (.func f) #[] fv.toArray] [.row (.slice (some ⟨gb, 0, none⟩) l.length cap) 67 4 l.length xs] S (RowR 67 4 prdC (l.filter fun x => !q x)) := by
 have hrd : Rd [.row (.slice (some ⟨gb, 0, none⟩) l.length cap) 67 4 l.length xs] S 4 prdC (.slice (some ⟨gb, 0, none⟩) l.length cap) l := hf.rd hnc mo (List.mem_singleton.2 rfl)
 refine con_of 42 Tryz.func105 rfl rfl rfl (fun w0 => ?_)
 refine sr (sa rfl (nesr (mv rfl (mv rfl (lw (t_callA rfl (indexFunc_90 hrd hk hq) en_90 (fun v10 I10 S10 le10 h10 => ?_)))))))
 obtain ⟨rfl, rfl, rfl⟩ := h10
 refine sa rfl (nes (sr (mv rfl (yy (y_eq rfl rfl) (nec rfl (fun g1 => ?_) (fun g1 => ?_))))))
 · have hno : indexOf q l = -1 := by simpa using g1
   refine sr (mv rfl (sa rfl (netr (e_then_ret ?_))))
   rw [indexOf_none hno]
   exact f_retS rfl (rt rfl) ⟨xs, rfl, hf, rfl⟩
 · have hsm : indexOf q l ≠ -1 := by simpa using g1
   obtain ⟨k, hk1, hk2, hk3⟩ := indexOf_some hsm
   rw [hk1]
   refine c_skip (e_then (c_seq (sr (mv rfl (yy (y_addN (m := 1) rfl rfl om) (sa rfl (ne (c_block (c_loopE (τ := Nat × Nat × List Value × List Prd) [(12, _), (4, _), (0, _), (1, _)] (fun Ek z0 => (5, i64 z0.1) :: (6, i64 z0.2.1) :: Ek) (fun z0 => [.row (.slice (some ⟨gb, 0, none⟩) l.length cap) 67 4 l.length z0.2.2.1]) (fun z0 => S10) (fun z0 => z0.1 < z0.2.1 ∧ z0.2.1 ≤ l.length ∧ Flat S10 4 prdC z0.2.2.1 z0.2.2.2 ∧ z0.2.2.2.length = l.length ∧ z0.2.2.2.take z0.1 = (l.take z0.2.1).filter (fun x => !q x) ∧ z0.2.2.2.drop z0.2.1 = l.drop z0.2.1) (fun z0 => l.length - z0.2.1) ((k, k + 1, xs, l)) (⟨Nat.lt_succ_self _, hk2, hf, rfl, hk3, rfl⟩) (fun z0 hz0 K0l hr0 => ?_))))))))))
   obtain ⟨i, j, xs1, ys⟩ := z0
   obtain ⟨hij, hjn, hfl, hyl, hyt, hyd⟩ := hz0
   simp only at hij hjn hfl hyl hyt hyd
   dsimp only
   refine c_seq (sr (mv rfl (mv rfl (yy (y_ln sl_27 rfl) (yy (y_lt rfl rfl) (nec rfl (fun g2 => ?_) (fun g2 => ?_)))))))
   · have hj : j < l.length := by simpa using g2
     obtain ⟨r, hr⟩ : ∃ r, l[j]? = some r := ⟨_, List.getElem?_eq_getElem hj⟩
     have hyr : ys[j]? = some r := by have := congrArg (fun t => t[0]?) hyd; simp only [List.getElem?_drop, Nat.add_zero] at this; rw [this, hr]
     obtain ⟨cs, rfl, -, hcell⟩ := hfl.2 j r hyr
     refine c_skip (e_then (c_seq (c_block (sr (mv rfl (mv rfl (yy (y_iaNr sl_27 rfl rfl ao) (ll (ld_flat ld_67 rfl pk (fun m u hm => by rw [Nat.zero_add]; exact hcell m u hm) rfl) ?_))))))))
     refine al zc_67 (fun b7 => lw (sw sz_67 (ne ?_)))
     refine sr (mv rfl (ll (lbw ld_67) ?_))
     refine lw (t_callvr' rfl rfl (hq r (List.mem_of_getElem? hr)) hk (yy (y_not rfl) (nec rfl (fun g3 => ?_) (fun g3 => ?_))))
     · have hqr : q r = false := by simpa using g3
       refine sr (mv rfl (mv rfl (ll (lbw ld_67) ?_)))
       refine yy (y_iaNr sl_27 rfl rfl ao) (lw (t_str sz_67 rfl rfl rfl rfl rfl pk om ?_))
       rw [Nat.zero_add (i * 4)]
       exact ner (mv rfl (yy (y_addN (m := 1) rfl rfl om) (sa rfl (l_nil (e_in (e_then (c_region (mv rfl (yy (y_addN (m := 1) rfl rfl om) (sa rfl (ne (t_to (hr0 (i + 1, j + 1, xs1.take (i * 4) ++ r.cells ++ xs1.drop (i * 4 + 4), ys.set i r) ⟨by simp only; omega, hj, hfl.set om rfl rfl, by simp only [List.length_set]; exact hyl, filter_next hr hqr hyt om, by simp only [List.drop_set]; rw [if_pos om, ← List.drop_drop, hyd, List.drop_drop]⟩ (by simp only; omega))))))))))))))
     · have hqr : q r = true := by simpa using g3
       exact c_skip (e_in (e_then (c_region (mv rfl (yy (y_addN (m := 1) rfl rfl om) (sa rfl (ne (t_to (hr0 (i, j + 1, xs1, ys) ⟨by simp only; omega, hj, hfl, hyl, by simp only; rw [filter_skip hr hqr]; exact hyt, by simp only; rw [← List.drop_drop, hyd, List.drop_drop]⟩ (by simp only; omega))))))))))
   · have hjn' : j = l.length := by simp at g2; omega
     rw [hjn', List.take_length] at hyt
     have hil : i = (l.filter fun x => !q x).length := by rw [← hyt, List.length_take]; omega
     refine c_exit ?_
     refine e_then_exit (e_then_exit (e_in_same (e_then (sr (mv rfl (mv rfl (yy (y_slr sl_27 rfl rfl om om om) (lw (t_clear sl_27 zc_67 rfl rfl rfl Pick.hd om (fun cz hcz => nesr (mv rfl (mv rfl (yy (y_slh sl_27 rfl rfl om) (sa rfl (netr (t_reslice i Pick.hd om (fun xs3 hx3 ht3 => ?_)))))))))))))))))
     have hfx : Flat S10 4 prdC xs3 (l.filter fun x => !q x) := by
      have h1 := hfl.take i
      rw [hyt] at h1
      have h2 : min l.length i = i := by omega
      rw [h2, Nat.zero_add, List.take_of_length_le (by omega : xs3.length ≤ i * 4)] at ht3
      have h3 : (xs1.take (i * 4)).length = i * 4 := by rw [List.length_take, hfl.1]; omega
      rw [ht3, List.append_assoc, List.take_left' h3]
      exact h1
     subst hil
     exact f_retS rfl (rt rfl) ⟨xs3, rfl, hfx, rfl⟩
theorem delete_ok {S : Stone} {v : Value} {xs : List Value} {l : List Prd} {f : FuncId} {fv : List Value} {q : Prd → Bool} (hf : Flat S 4 prdC xs l) (hl : l.length ≤ 4096) (hk : enK Tryz.prog f = true)
 (hq : ∀ x ∈ l, Con Tryz.prog f ([] ++ [Value.agg x.cells.toArray] ++ fv).toArray [] S (Ret (.bool (q x)) S)) :
 Con Tryz.prog 105 #[v, .func (.func f) #[] fv.toArray] [.row v 67 4 l.length xs] S (RowR 67 4 prdC (l.filter fun x => !q x)) := by
 refine Con.form (fun hv hn0 => ?_) (fun gb cap hv hnc hcap => ?_)
 · subst hv
   have hl0 : l = [] := List.length_eq_zero_iff.1 hn0
   subst hl0
   have hx0 : xs = [] := List.length_eq_zero_iff.1 (by simpa using hf.1)
   subst hx0
   exact delete_nil (q := q) hk
 · subst hv
   exact delete_some hf hnc hcap hl hk hq
end Go.Proofs.YtkdmbimkanjbhaaGreatDoor.Eng
namespace Go.Proofs.YtkdmbimkanjbhaaGreatDoor.Eng
open Go Go.Proofs
set_option maxRecDepth 100000
attribute [local irreducible] Tr
/-- A producer in its place. -/
def putP (l : List Prd) (x : Prd) : List Prd :=
 (l.filter fun y => !(y.id == x.id)).take (bpos (fun y => cmpN y.id x.id) (l.filter fun y => !(y.id == x.id))) ++ [x] ++ (l.filter fun y => !(y.id == x.id)).drop (bpos (fun y => cmpN y.id x.id) (l.filter fun y => !(y.id == x.id)))
theorem bpos_le {α : Type} (cf : α → Int) (l : List α) : bpos cf l ≤ l.length := List.findIdx_le_length
theorem putP_length {l : List Prd} {x : Prd} : (putP l x).length = (l.filter fun y => !(y.id == x.id)).length + 1 := by
 unfold putP
 have := bpos_le (fun y : Prd => cmpN y.id x.id) (l.filter fun y => !(y.id == x.id))
 simp only [List.length_append, List.length_take, List.length_drop, List.length_singleton]; omega
theorem cmpN_neg {a b : Nat} : cmpN a b < 0 ↔ a < b := by unfold cmpN; split <;> (try split) <;> omega
theorem putP_ok {S : Stone} {v : Value} {l : List Prd} {x : Prd} (h : Prds S v l) (hup : l.Pairwise fun x y => x.id < y.id) (hl : l.length ≤ 256) : Con Tryz.prog 85 #[v, .agg x.cells.toArray] [] S (RowR 67 4 prdC (putP l x)) := by
 refine con_of 23 Tryz.func85 rfl rfl rfl (fun w0 => ?_)
 refine sr (bx rfl rfl (fun b3 => t_stone Pick.hd (fun S1 le1 hS1 => ?_)))
 have hx1 : ∀ (j : Nat) u, x.cells[j]? = some u → S1.cell ((⟨b3, 0, none⟩ : Addr).add j) = some u := fun j u hj => by rw [add_lit]; simp [Stone.cell, hS1, hj]
 have hv1 := h.mono le1
 refine sa rfl (nesr (mv rfl (lw (t_callRow rfl (pclone_ok ‹_› om) en_68 (fun v9 xs9 S9 le9 hf9 ho9 => ?_)))))
 have hx9 : ∀ (j : Nat) u, x.cells[j]? = some u → S9.cell ((⟨b3, 0, none⟩ : Addr).add j) = some u := fun j u hj => le9.cell (hx1 j u hj)
 refine yy (y_mf' rfl rfl) (lw (t_callA rfl (delete_ok (q := fun y => y.id == x.id) hf9 om en_106 (fun y _ => same_ok (hx9 0 _ rfl))) en_105 (fun v11 I11 S11 le11 h11 => ?_)))
 obtain ⟨xs11, rfl, hf11, ho11⟩ := h11
 have hx11 : ∀ (j : Nat) u, x.cells[j]? = some u → S11.cell ((⟨b3, 0, none⟩ : Addr).add j) = some u := fun j u hj => le11.cell (hx9 j u hj)
 generalize hl' : (l.filter fun y => !(y.id == x.id)) = l' at *
 have hup' : l'.Pairwise fun x y => x.id < y.id := by rw [← hl']; exact hup.filter _
 have hlen' : l'.length ≤ 256 := by rw [← hl']; exact Nat.le_trans (List.length_filter_le _ _) hl
 have hbp := bpos_le (fun y : Prd => cmpN y.id x.id) l'
 refine sa rfl (nesr (mv rfl (ll (ltm ld_67 rfl ‹_›) ?_)))
 refine t_rdrow Pick.hd hf11 (fun hrd => ?_)
 refine lw (t_callA rfl (bsearch_107 (cf := fun y => cmpN y.id x.id) hrd om en_108 (fun y _ => byid_ok) (fun i j a b ha hb hij hb0 => cmpN_neg.2 (by
  have hb1 := cmpN_neg.1 hb0
  rcases Nat.lt_or_eq_of_le hij with h1 | h1
  · have := pw_get hup' ha hb h1; omega
  · subst h1; rw [ha] at hb; cases hb; exact hb1))) en_107 (fun v15 I15 S15 le15 h15 => ?_))
 obtain ⟨rfl, rfl, rfl⟩ := h15
 refine mv rfl (yy (y_ext rfl rfl) (yy (y_ext rfl rfl) (sa rfl (sa rfl (nesr (mv rfl (mv rfl (ll (ltm ld_67 rfl ‹_›) ?_))))))))
 refine lw (t_bs1 ap_27 zc_67 rfl rfl rfl rfl rfl (fun b21 => lw (t_callA rfl (Con.perm (insert_110 hbp om hf11.1 rfl rfl (hf11.plain plain_prd)) (List.Perm.swap _ _ _)) en_110 (fun v22 I22 S22 le22 h22 => ?_))))
 obtain ⟨rfl, rfl, ho22⟩ := h22
 exact sa rfl (netr (f_retS rfl (rt rfl) ⟨_, by rw [putP_length, hl'], by unfold putP; rw [hl']; exact hf11.put _ rfl rfl, ho22⟩))
end Go.Proofs.YtkdmbimkanjbhaaGreatDoor.Eng
namespace Go.Proofs.YtkdmbimkanjbhaaGreatDoor.Eng
open Go Go.Proofs
set_option maxRecDepth 100000
attribute [local irreducible] Tr
theorem take_ok {S : Stone} {v : Value} {l : List Prd} {x : Prd} (h : Prds S v l) (ht : TabOk l) (hl : l.length ≤ 200) (h1 : 1 ≤ x.id) (h2 : 1 ≤ x.seq) (h3 : x.seq ≤ 9223372036854775807) (hj : (judge l x.id x.seq).1 = 1) :
 Con Tryz.prog 122 #[v, .agg x.cells.toArray] [] S (RetR fun u S' => ∃ v', u = .tuple #[v', .int .i64 0] ∧ Prds S' v' (putP l x)) := by
 obtain ⟨A, cap, rfl, hc, hm, -⟩ := h.shape
 have hup := ht.up
 refine con_of 47 Tryz.func122 rfl rfl rfl (fun w0 => ?_)
 refine sr (bx rfl rfl (fun b3 => sa rfl (sa rfl (nesr (mv rfl (yy (y_far fo_67_0 rfl) (ll (lb ld_25) ?_)))))))
 refine lw (t_callR rfl (find_ok ‹_›) en_83 ?_)
 rintro v14 S14 le14 rfl
 have hh14 := h.mono le14
 refine mv rfl (yy (y_ext rfl rfl) (yy (y_ext rfl rfl) (al zc_67 (fun b6 => lw (sw sz_67 (sa rfl (l_nil ?_)))))))
 refine e_then (sr (mv rfl (yy (y_far fo_67_0 rfl) (ll (lb ld_25) ?_))))
 refine yy (y_far fo_67_1 rfl) (ll (lb ld_25) ?_)
 refine lw (t_callR rfl (judge_ok ‹_› om om om) en_65 ?_)
 rintro v23 S23 le23 rfl
 have hh23 := hh14.mono le23
 refine mv rfl (yy (y_ext rfl rfl) (yy (y_ext rfl rfl) (sa rfl (sa rfl (nes (c_block (sr (mv rfl (lw (t_callr' rfl (table_ok ‹_› ‹_› om) en_60 ?_))))))))))
 refine yy (y_not rfl) (sa rfl (nec rfl (fun g1 => ?_) (fun g1 => ?_)))
 · cases g1
 · refine c_seq ?_
   refine c_region (mv rfl (yy (y_eq rfl rfl) (sa rfl (nec rfl (fun g2 => ?_) (fun g2 => ?_)))))
   · rw [hj] at g2; cases g2
   · refine c_seq ?_
     refine c_region (mv rfl (yy (y_ne rfl rfl) (sa rfl (nec rfl (fun g3 => ?_) (fun g3 => ?_)))))
     · rw [hj] at g3; cases g3
     · refine c_seq ?_
       refine c_region (mv rfl (yy (y_not rfl) (mv rfl ?_)))
       apply l_and 4 (gd := 39) (d := 43) rfl
       · intro hb39 K4 hK4
         exact qy hb39 (y_move rfl) (qy hb39 (y_ln sl_27 rfl) (qy hb39 (y_eq rfl rfl) (yy (y_pick_t' rfl hb39 rfl) (lk_end hK4))))
       · intro hb39 K4 hK4
         exact qn hb39 (qn hb39 (qn hb39 (yy (y_pick_f' rfl hb39 rfl) (lk_end hK4))))
       refine sa rfl (nec rfl (fun g5 => ?_) (fun g5 => ?_))
       · simp at g5; omega
       · refine c_skip ?_
         refine e_in (e_then (sr (mv rfl (ll (lbw ld_67) ?_))))
         refine lw (t_callRow rfl (putP_ok ‹_› ‹_› om) en_85 (fun v46 xs46 S46 le46 hf46 ho46 => ?_))
         refine sa rfl (sa rfl (netr (t_pub (C := prdC) (l := putP l x) pk (fun S' hle => hf46.mono fun _ _ h => h) rfl (fun S' hle hs => ?_))))
         exact f_retR rfl (ResV.tmp rfl (rt rfl)) ⟨_, rfl, hs⟩
theorem accept_ok {S : Stone} {v : Value} {l : List Prd} {id seq off : Nat} (h : Prds S v l) (ht : TabOk l) (hl : l.length ≤ 200) (h1 : 1 ≤ id) (h2 : 1 ≤ seq) (h3 : seq ≤ 9223372036854775807) (hj : (judge l id seq).1 = 1) :
 Con Tryz.prog 94 #[v, u64 id, u64 seq, u64 off] [] S (RetR fun u S' => ∃ v', u = .tuple #[v', .int .i64 0] ∧ Prds S' v' (putP l ⟨id, seq, true, off⟩)) := by
 refine con_of 18 Tryz.func94 rfl rfl rfl (fun w0 => ?_)
 refine sr (sa rfl (sa rfl (nesr (mv rfl (mv rfl (mv rfl (mv rfl (yy (y_build pl_67 zc_67 rfl rfl) (lw (t_callR rfl (take_ok (x := ⟨id, seq, true, off⟩) h ht hl h1 h2 h3 hj) en_122 ?_))))))))))
 rintro v15 S15 le15 ⟨v', rfl, hv'⟩
 exact yy (y_ext rfl rfl) (yy (y_ext rfl rfl) (sa rfl (sa rfl (netr (f_retR rfl (ResV.tmp rfl (rt rfl)) ⟨v', rfl, hv'⟩)))))
theorem pass_ok {S : Stone} {v : Value} {l : List Prd} {id seq : Nat} (h : Prds S v l) (ht : TabOk l) (hl : l.length ≤ 200) (h1 : 1 ≤ id) (h2 : 1 ≤ seq) (h3 : seq ≤ 9223372036854775807) (hj : (judge l id seq).1 = 1) :
 Con Tryz.prog 96 #[v, u64 id, u64 seq] [] S (RetR fun u S' => ∃ v', u = .tuple #[v', .int .i64 0] ∧ Prds S' v' (putP l ⟨id, seq, false, 0⟩)) := by
 refine con_of 15 Tryz.func96 rfl rfl rfl (fun w0 => ?_)
 refine sr (sa rfl (sa rfl (nesr (mv rfl (mv rfl (mv rfl (yy (y_build pl_67 zc_67 rfl rfl) (lw (t_callR rfl (take_ok (x := ⟨id, seq, false, 0⟩) h ht hl h1 h2 h3 hj) en_122 ?_)))))))))
 rintro v12 S12 le12 ⟨v', rfl, hv'⟩
 exact yy (y_ext rfl rfl) (yy (y_ext rfl rfl) (sa rfl (sa rfl (netr (f_retR rfl (ResV.tmp rfl (rt rfl)) ⟨v', rfl, hv'⟩)))))
theorem same_name_ok {S : Stone} {x : Cns} {p : Addr} {k : Nat} (hx : x.name < 2) (hk : k < 2) (h : S.cell p = some (.string (nm k))) : Con Tryz.prog 97 #[.agg x.cells.toArray, .pointer (some p)] [] S (Ret (.bool (x.name == k)) S) := by
 refine con_of 8 Tryz.func97 rfl rfl rfl (fun w0 => ?_)
 refine sr (bx rfl rfl (fun b2 => sa rfl (nesr (yy (y_far fo_65_0 rfl) (ll (lb ld_9) ?_)))))
 refine ll (ld_st ld_9 rfl ‹_›) ?_
 exact yy (y_seq rfl rfl) (sa rfl (netr (f_ret0 rfl (rt rfl) (by show Value.bool _ = Value.bool _; congr 1; rw [nm_eq hx hk, Bool.eq_iff_iff]; simp) rfl)))
def readC (l : List Cns) (k : Nat) : Nat × Bool := match l.find? (·.name == k) with | some x => (x.off, true) | none => (0, false)
/-- Consumers have names. -/
def NmOk (l : List Cns) : Prop := ∀ x ∈ l, x.name < 2
theorem read_ok {S : Stone} {v : Value} {l : List Cns} {k : Nat} (h : Cnss S v l) (hn : NmOk l) (hk : k < 2) : Con Tryz.prog 74 #[v, .string (nm k)] [] S (RetR fun u _ => u = .tuple #[u64 (readC l k).1, .bool (readC l k).2]) := by
 obtain ⟨A, cap, rfl, hc, hm, -⟩ := h.shape
 refine con_of 17 Tryz.func74 rfl rfl rfl (fun w0 => ?_)
 refine sr (bx rfl rfl (fun b3 => t_stone Pick.hd (fun S1 le1 hS1 => ?_)))
 have h1 := h.mono le1
 refine sa rfl (sa rfl (nesr (mv rfl (yy (y_mf' rfl rfl) (lw (t_callr' rfl (indexFunc_91 (I := []) (q := fun x => x.name == k) h1.rd en_97 (fun x hx => same_name_ok (p := ⟨b3, 0, none⟩) (hn x hx) hk (by simp [Stone.cell, hS1]))) en_91 ?_))))))
 refine sa rfl (nes (sr ?_))
 have hif := indexOf_find (fun x : Cns => x.name == k) l
 refine mv rfl (yy (y_lt rfl rfl) (nec rfl (fun g1 => ?_) (fun g1 => ?_)))
 · have hno : l.find? (fun x => x.name == k) = none := by
    rcases hif with ⟨i, r, e1, _⟩ | ⟨_, e2⟩
    · rw [e1] at g1; simp at g1; omega
    · exact e2
   exact sr (sa rfl (sa rfl (netr (e_then_ret (f_retR rfl (ResV.tmp rfl (rt rfl)) (by unfold readC; rw [hno]; rfl))))))
 · obtain ⟨i, r, e1, hr, e2⟩ : ∃ (i : Nat) (r : Cns), indexOf (fun x => x.name == k) l = (i : Int) ∧ l[i]? = some r ∧ l.find? (fun x => x.name == k) = some r := by
    rcases hif with h | ⟨e1, _⟩
    · exact h
    · rw [e1] at g1; simp at g1
   rw [e1]
   have hil := (List.getElem?_eq_some_iff.1 hr).1
   obtain ⟨p, rfl, f0, f1, f5⟩ := h1.at hr
   refine c_skip (e_then (sr (mv rfl (mv rfl (yy (y_iaN sl_28 rfl rfl ao) (yy (y_fa fo_65_1 rfl) (ll (ld_st ld_25 rfl ‹_›) ?_)))))))
   exact sa rfl (sa rfl (netr (f_retR rfl (ResV.tmp rfl (rt rfl)) (by unfold readC; rw [e2]; rfl))))
theorem pcontains_ok {S : Stone} {v : Value} {l : List Prd} {f : FuncId} {fv : List Value} {q : Prd → Bool} (h : Prds S v l) (hk : enK Tryz.prog f = true) (hq : ∀ x ∈ l, Con Tryz.prog f ([] ++ [Value.agg x.cells.toArray] ++ fv).toArray [] S (Ret (.bool (q x)) S)) :
 Con Tryz.prog 63 #[v, .func (.func f) #[] fv.toArray] [] S (Ret (.bool (l.any q)) S) := by
 refine con_of 9 Tryz.func63 rfl rfl rfl (fun w0 => ?_)
 exact sr (sa rfl (nesr (mv rfl (mv rfl (lw (t_callr' rfl (indexFunc_90 (I := []) h.rd hk hq) en_90 (yy (y_ge rfl rfl) (sa rfl (netr (f_ret0 rfl (rt rfl) (by show Value.bool _ = Value.bool _; congr 1; unfold indexOf; split <;> simp_all) rfl))))))))))
theorem ccontains_ok {S : Stone} {v : Value} {l : List Cns} {f : FuncId} {fv : List Value} {q : Cns → Bool} (h : Cnss S v l) (hk : enK Tryz.prog f = true) (hq : ∀ x ∈ l, Con Tryz.prog f ([] ++ [Value.agg x.cells.toArray] ++ fv).toArray [] S (Ret (.bool (q x)) S)) :
 Con Tryz.prog 64 #[v, .func (.func f) #[] fv.toArray] [] S (Ret (.bool (l.any q)) S) := by
 refine con_of 9 Tryz.func64 rfl rfl rfl (fun w0 => ?_)
 exact sr (sa rfl (nesr (mv rfl (mv rfl (lw (t_callr' rfl (indexFunc_91 (I := []) h.rd hk hq) en_91 (yy (y_ge rfl rfl) (sa rfl (netr (f_ret0 rfl (rt rfl) (by show Value.bool _ = Value.bool _; congr 1; unfold indexOf; split <;> simp_all) rfl))))))))))
def ofN (to : List Nat) (n : Nat) : Nat := to.getD (min n (to.length - 1)) 0
theorem of_ok {S : Stone} {v : Value} {to : List Nat} {n : Nat} (h : Nats S v to) (h1 : 1 ≤ to.length) : Con Tryz.prog 48 #[v, u64 n] [] S (Ret (u64 (ofN to n)) S) := by
 obtain ⟨A, cap, rfl, hc, hm, -⟩ := h.shape
 obtain ⟨r, hr⟩ : ∃ r, to[min n (to.length - 1)]? = some r := ⟨_, List.getElem?_eq_getElem om⟩
 obtain ⟨p, rfl, f0, f1⟩ := h.at hr
 refine con_of 14 Tryz.func48 rfl rfl rfl (fun w0 => ?_)
 refine sr (sa rfl (nesr (mv rfl (mv rfl (mv rfl (yy (y_ln sl_116 rfl) (yy (y_subN (m := 1) rfl rfl om om) (yy (y_cvu cv_3_25 rfl om) (yy (y_minN rfl rfl) (yy (y_iaN sl_116 rfl rfl ao) (ll (ld_st ld_25 rfl ‹_›) ?_)))))))))))
 exact sa rfl (netr (f_ret0 rfl (rt rfl) (by unfold ofN; rw [List.getD_eq_getElem?_getD, hr]; rfl) rfl))
end Go.Proofs.YtkdmbimkanjbhaaGreatDoor.Eng

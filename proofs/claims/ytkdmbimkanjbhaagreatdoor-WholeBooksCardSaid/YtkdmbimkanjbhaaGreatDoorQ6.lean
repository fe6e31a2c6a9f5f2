/-
  Part 6 of the proof of WholeBooks: W12, W13, W14, W15, W16, W17, W18, W19, W20, W21, W22, W23, W24, W25.
-/
import Derived.Test.YtkdmbimkanjbhaaGreatDoorQ5
namespace Go.Proofs.YtkdmbimkanjbhaaGreatDoor.Eng
open Go Go.Proofs
set_option maxRecDepth 100000
attribute [local irreducible] Tr
theorem append_ok {S : Stone} {v bv : Value} {l : List Rec} {r : Rec} (h : Recs S v l) (hn : Num l) (hb : Byt S bv r.val) (hl : l.length ≤ 200) :
 Con Tryz.prog 93 #[v, .agg (r.cells bv).toArray] [] S (RetR fun u S' => ∃ v', u = .tuple #[v', u64 l.length, .int .i64 0] ∧ Recs S' v' (l ++ [{ r with off := l.length }])) := by
 obtain ⟨A, cap, rfl, hc, hm, -⟩ := h.shape
 obtain ⟨pb, cb, rfl, -⟩ := id hb
 have hoff : ∀ r ∈ l, r.off ≤ 9223372036854775807 := fun r hr => by
  obtain ⟨i, hi, rfl⟩ := List.getElem_of_mem hr
  have := hn i _ (List.getElem?_eq_getElem hi)
  omega
 have hks := ky_size_le r.key
 refine con_of 36 Tryz.func93 rfl rfl rfl (fun w0 => ?_)
 refine sr (bx rfl rfl (fun b3 => sa rfl (sa rfl (sa rfl (nes (c_block (sr (mv rfl (lw (t_callr' rfl (log_ok ‹_› ‹_› om) en_46 ?_))))))))))
 refine yy (y_not rfl) (sa rfl (nec rfl (fun g1 => ?_) (fun g1 => ?_)))
 · cases g1
 · refine c_seq ?_
   refine c_region (yy (y_far fo_84_1 rfl) (ll (lb ld_9) ?_))
   refine yy (y_slen st_9 rfl) (yy (y_gt rfl rfl) (sa rfl (nec rfl (fun g2 => ?_) (fun g2 => ?_))))
   · simp at g2; omega
   · refine c_seq ?_
     refine c_region (yy (y_far fo_84_2 rfl) (ll (lb ld_54) ?_))
     refine yy (y_ln sl_54 rfl) (yy (y_gt rfl rfl) (sa rfl (nec rfl (fun g3 => ?_) (fun g3 => ?_))))
     · simp at g3
     · refine c_seq ?_
       refine c_region (mv rfl (yy (y_ln sl_26 rfl) (yy (y_eq rfl rfl) (sa rfl (nec rfl (fun g4 => ?_) (fun g4 => ?_))))))
       · simp at g4; omega
       · refine c_skip ?_
         refine e_in (e_then (c_seq (dRa [2] (.take 0 (.take 2 (.take 3 (.take 4 (.take 8 (.take 9 (.take 10 (.alt 1 (.alt 5 (.alt 6 (.alt 7 (.take 11 (.take 12 (.take 13 .done))) .stop) .stop) .stop) .stop)))))))) ?_)))
         refine em rfl rfl (dl rfl (lbw ld_84) ?_)
         refine em rfl rfl (ey rfl (y_ln sl_26 rfl) (em rfl rfl (ey rfl (y_ln sl_26 rfl) (ey rfl (y_cvu cv_3_25 rfl om) (da rfl (t_callRow rfl (owned_ok ‹_› om hoff) en_98 (fun v26 xs26 S26 le26 hf26 ho26 => ?_)))))))
         have hb26 := hb.mono le26
         refine dA le26 (da rfl (t_callR rfl (own_ok ‹_› om) en_47 ?_))
         rintro v30 S30 le30 ⟨b30, rfl, hb30⟩
         obtain ⟨q30, c30, rfl, -⟩ := id hb30
         refine dA (le26.trans le30) (da rfl (t_bs1 ap_26 zc_84 rfl rfl rfl rfl rfl (fun b31 => ?_)))
         refine dA (le26.trans le30) (da rfl (aR ap_26 (fun va32 ho32 => ?_)))
         refine dA (le26.trans le30) (ea rfl rfl (ea rfl rfl (ea rfl rfl (d_done (e_then (c_ret (t_pub (C := recC) (l := l ++ [{ r with off := l.length }]) pk (fun S' hle => ((hf26.monoR le30).snoc (a := { r with off := l.length }) ⟨_, rfl, hb30⟩ rfl).monoR hle) (by simp) (fun S' hle hs => ?_))))))))
         exact f_retR rfl (ResV.tmp rfl (ResV.tmp rfl (rt rfl))) ⟨_, rfl, hs⟩
theorem fetch_ok {S : Stone} {v : Value} {l : List Rec} {n m : Nat} (h : Recs S v l) (hn : Num l) (hl : l.length ≤ 200) (hnl : n ≤ l.length) (hm : m ≤ 64) :
 Con Tryz.prog 75 #[v, u64 n, i64 m] [] S (RetR fun u S' => ∃ v', u = .tuple #[v', .int .i64 0] ∧ Recs S' v' ((l.drop n).take m)) := by
 obtain ⟨A, cap, rfl, hc, hcm, -⟩ := h.shape
 have hlen : ((l.drop n).take m).length = min m (l.length - n) := by rw [List.length_take, List.length_drop]
 have hoff : ∀ r ∈ (l.drop n).take m, r.off ≤ 9223372036854775807 := fun r hr => by
  have hr' := List.mem_of_mem_drop (List.mem_of_mem_take hr)
  obtain ⟨i, hi, rfl⟩ := List.getElem_of_mem hr'
  have := hn i _ (List.getElem?_eq_getElem hi)
  omega
 have hsl : Recs S (sliced A n l.length cap 5) (l.drop n) := by
  have := Sl.sub h hnl (Nat.le_refl _)
  rwa [List.take_length] at this
 refine con_of 30 Tryz.func75 rfl rfl rfl (fun w0 => ?_)
 refine sr (sa rfl (sa rfl (nes (c_block (sr (mv rfl (lw (t_callr' rfl (log_ok ‹_› ‹_› om) en_46 ?_))))))))
 refine yy (y_not rfl) (sa rfl (nec rfl (fun g1 => ?_) (fun g1 => ?_)))
 · cases g1
 · refine c_seq ?_
   refine c_region (mv rfl (mv rfl (yy (y_ln sl_26 rfl) (yy (y_cvu cv_3_25 rfl om) (yy (y_gt rfl rfl) (sa rfl (nec rfl (fun g2 => ?_) (fun g2 => ?_))))))))
   · simp at g2; omega
   · refine c_skip ?_
     refine e_in (e_then (sr (mv rfl (mv rfl (yy (y_sl sl_26 rfl (l := n) (h := l.length) ⟨_, rfl⟩ rfl om om) ?_)))))
     obtain ⟨A2, cap2, e2, hc2, hm2, hcm2⟩ := hsl.shape
     rw [e2] at hsl ⊢
     rw [List.length_drop] at e2 hc2 hm2 hsl ⊢
     refine sa rfl (nesr (mv rfl (mv rfl (yy (y_maxN (n := m) (m := 0) rfl rfl) (mv rfl (yy (y_ln sl_26 rfl) (yy (y_min3 rfl rfl rfl) ?_)))))))
     rw [show (min (min ((max m 0 : Nat) : Int) 64) ((l.length - n : Nat) : Int)) = ((min m (l.length - n) : Nat) : Int) by omega]
     refine yy (y_slh sl_26 rfl rfl om) ?_
     have hs2 : Recs S (.slice A2 (min m (l.length - n)) cap2) ((l.drop n).take m) := by
      have := Sl.sub hsl (Nat.zero_le _) (by omega : min m (l.length - n) ≤ l.length - n)
      rw [sliced_zero, List.drop_zero] at this
      have e : (l.drop n).take (min m (l.length - n)) = (l.drop n).take m := by
       rcases Nat.le_total m (l.length - n) with h1 | h1
       · rw [Nat.min_eq_left h1]
       · rw [Nat.min_eq_right h1, List.take_of_length_le (by rw [List.length_drop]; omega), List.take_of_length_le (by rw [List.length_drop]; omega)]
      rwa [e] at this
     refine lw (t_callRow rfl (owned_ok hs2 om hoff) en_98 (fun v29 xs29 S29 le29 hf29 ho29 => sa rfl (sa rfl (netr (t_pub (C := recC) (l := (l.drop n).take m) Pick.hd (fun S' hle => hf29.monoR hle) rfl (fun S' hle hs => ?_))))))
     exact f_retR rfl (ResV.tmp rfl (rt rfl)) ⟨_, rfl, hs⟩
/-- Consumers on a log that was kept. -/
def mapC (l : List Cns) (to : List Nat) : List Cns := l.map fun x => ⟨x.name, ofN to x.off⟩
theorem map_ok {S : Stone} {v w : Value} {l : List Cns} {to : List Nat} (h : Cnss S v l) (ht : Nats S w to) (h1 : 1 ≤ to.length) (hl : l.length ≤ 64) : Con Tryz.prog 32 #[v, w] [] S (RetR fun u S' => Cnss S' u (mapC l to)) := by
 obtain ⟨A, cap, rfl, hc, hm, -⟩ := h.shape
 obtain ⟨B, capB, rfl, hcB, hmB, -⟩ := ht.shape
 refine con_of 32 Tryz.func32 rfl rfl rfl (fun w0 => ?_)
 refine sr (sa rfl (nes (sr (mv rfl (yy (y_ln sl_91 rfl) (yy (y_eq rfl rfl) (nec rfl (fun g1 => ?_) (fun g1 => ?_))))))))
 · have h0 : to.length = 0 := by simpa using g1
   omega
 · refine c_skip ?_
   refine e_then (sr (mv rfl (yy (y_mf' rfl rfl) (sa rfl (nesr (sa rfl (nes (sr (t_nilrow 65 2 ?_)))))))))
   refine mv rfl (yy (y_ln sl_28 rfl) (mv rfl (ne (c_block (c_loopE (τ := Nat × Value × List Value) [(15, _), (14, _), (5, _), (11, _), (4, _)] (fun Ek z0 => (16, i64 z0.1) :: (6, z0.2.1) :: Ek) (fun z0 => [.row z0.2.1 65 2 z0.1 z0.2.2]) (fun z0 => S) (fun z0 => z0.1 ≤ l.length ∧ Flat S 2 cnsC z0.2.2 (mapC (l.take z0.1) to) ∧ z0.2.1.oneCell' = true) (fun z0 => l.length - z0.1) ((0, .slice none 0 0, [])) (⟨Nat.zero_le _, Flat.nil, rfl⟩) (fun z0 hz0 K0l hr0 => ?_))))))
   obtain ⟨i, v, xs⟩ := z0
   obtain ⟨hi, hf, hone⟩ := hz0
   simp only at hi hf hone
   dsimp only
   refine sr (yy (y_lt rfl rfl) (nes (c_cond rfl (fun g2 => ?_) (fun g2 => ?_))))
   · have hil : i < l.length := by simpa using g2
     obtain ⟨r, hr⟩ : ∃ r, l[i]? = some r := ⟨_, List.getElem?_eq_getElem hil⟩
     obtain ⟨p, rfl, f0, f1, f5⟩ := h.at hr
     refine c_skip (e_then (c_seq (c_block (sr (yy (y_iaN sl_28 rfl rfl ao) (ll (ltm ld_65 rfl ‹_›) ?_))))))
     refine al zc_65 (fun b8 => lw (sw sz_65 (ne (dR ([.blk b8 (.cells r.cells.toArray 65)]) [2, 5] (.take 0 (.take 1 (.take 2 (.take 3 (.take 4 (.take 5 (.alt 6 (.take 7 (.alt 8 (.alt 9 (.take 10 .done) .stop) .stop)) .stop))))))) ?_))))
     refine em rfl rfl (ey rfl (y_far fo_65_0 rfl) (dl rfl (lb ld_9) ?_))
     refine em rfl rfl (ey rfl (y_far fo_65_1 rfl) (dl rfl (lb ld_25) ?_))
     refine da rfl (t_callvr' rfl rfl (of_ok ht h1) en_48 ?_)
     refine dA (Stone.le.refl _) (ey rfl (y_build pl_65 zc_65 rfl rfl) (da rfl (t_bs1 ap_28 zc_65 rfl rfl rfl rfl rfl (fun b28 => ?_))))
     refine dA (Stone.le.refl _) (da rfl (aR ap_28 (fun va29 ho29 => ?_)))
     exact dA (Stone.le.refl _) (ea rfl rfl (d_done (e_in (e_then (c_region (yy (y_addN (m := 1) rfl rfl om) (mv rfl (ne (t_to (hr0 (i + 1, va29, xs ++ Cns.cells ⟨r.name, ofN to r.off⟩) ⟨hil, by simp only [mapC]; rw [List.take_add_one, hr, List.map_append]; exact hf.snoc rfl rfl, ho29⟩ (by simp only; omega)))))))))))
   · refine c_exit ?_
     refine e_then_exit (e_then_exit (e_in_same (e_then (sr (mv rfl (sa rfl (netr ?_)))))))
     have hi' : i = l.length := by simp at g2; omega
     subst hi'
     rw [List.take_length] at hf
     refine t_pub (C := cnsC) (l := mapC l to) Pick.hd (fun S' hle => hf.mono fun _ _ h => h) (by simp [mapC]) (fun S' hle hs => ?_)
     exact f_retR rfl (rt rfl) hs
end Go.Proofs.YtkdmbimkanjbhaaGreatDoor.Eng
namespace Go.Proofs.YtkdmbimkanjbhaaGreatDoor.Eng
open Go Go.Proofs
set_option maxRecDepth 100000
attribute [local irreducible] Tr
def cutset : ByteArray := ⟨#[97, 98, 99, 100, 101, 102, 103, 104, 105, 106, 107, 108, 109, 110, 111, 112, 113, 114, 115, 116, 117, 118, 119, 120, 121, 122, 48, 49, 50, 51, 52, 53, 54, 55, 56, 57, 45, 95, 46]⟩
def cutl : List UInt8 := [97, 98, 99, 100, 101, 102, 103, 104, 105, 106, 107, 108, 109, 110, 111, 112, 113, 114, 115, 116, 117, 118, 119, 120, 121, 122, 48, 49, 50, 51, 52, 53, 54, 55, 56, 57, 45, 95, 46]
/-- The set of those that come in a name. -/
def SetOk (S : Stone) (p : Addr) : Prop := S.cell (p.add (99 * 1)) = some (.bool true) ∧ S.cell (p.add (100 * 1)) = some (.bool true)
theorem SetOk.mono {S S' : Stone} {p : Addr} (h : SetOk S p) (hle : Stone.le S S') : SetOk S' p := ⟨hle.cell h.1, hle.cell h.2⟩
theorem contains_ok {S : Stone} {b k : Nat} (h : SetOk S ⟨b, 0, none⟩) (hk : k < 2) : Con Tryz.prog 130 #[.pointer (some ⟨b, 0, none⟩), .int .u8 ((99 + k : Nat) : Int)] [] S (Ret (.bool true) S) := by
 have hc : S.cell ⟨b, 0 + (99 + k) * 1, none⟩ = some (.bool true) := by
  obtain ⟨h1, h2⟩ := h
  rw [add_lit] at h1 h2
  have : k = 0 ∨ k = 1 := by omega
  rcases this with rfl | rfl
  · exact h1
  · exact h2
 refine con_of 10 Tryz.func130 rfl rfl rfl (fun w0 => ?_)
 refine sr (sa rfl (nesr (mv rfl (mv rfl (yy (y_nil rfl) (yy (y_iaaN ar_223 rfl rfl ao) (ll (ld_st ld_4 rfl ‹_›) ?_)))))))
 exact sa rfl (netr (f_ret0 rfl (rt rfl) rfl rfl))
theorem nm_at (k : Nat) (hk : k < 2) : (nm k)[0]? = some (UInt8.ofNat (99 + k)) ∧ (((UInt8.ofNat (99 + k)).toNat : Nat) : Int) = ((99 + k : Nat) : Int) := by
 have : k = 0 ∨ k = 1 := by omega
 rcases this with rfl | rfl <;> exact ⟨rfl, rfl⟩
theorem trimLeft_ok {S : Stone} {b : Nat} : Con Tryz.prog 118 #[.string ⟨#[]⟩, .pointer (some ⟨b, 0, none⟩)] [] S (Ret (.string ⟨#[]⟩) S) := by
 refine con_of 16 Tryz.func118 rfl rfl rfl (fun w0 => ?_)
 refine sr (sa rfl (nes (c_block (c_loopH (τ := Unit) [(4, _), (1, _)] (fun Ek z0 => (0, .string ⟨#[]⟩) :: Ek) (fun z0 => z0 = z0) (fun z0 => 0) (()) (rfl) (fun z0 hz0 K0l hr0 => ?_)))))
 refine c_seq (sr (mv rfl (yy (y_slen st_9 rfl) (yy (y_gt rfl rfl) (ne (c_false rfl (c_exit ?_)))))))
 exact e_then_exit (e_then_exit (e_in_same (e_then (sr (mv rfl (sa rfl (netr (f_ret0 rfl (rt rfl) rfl rfl))))))))
theorem trimRight_ok {S : Stone} {b k : Nat} (h : SetOk S ⟨b, 0, none⟩) (hk : k < 2) : Con Tryz.prog 119 #[.string (nm k), .pointer (some ⟨b, 0, none⟩)] [] S (Ret (.string ⟨#[]⟩) S) := by
 obtain ⟨hn1, hn2⟩ := nm_at k hk
 refine con_of 22 Tryz.func119 rfl rfl rfl (fun w0 => ?_)
 refine sr (sa rfl (nes (c_block (c_loopH (τ := Bool) [(4, _), (1, _)] (fun Ek z0 => (0, .string (bif z0 then nm k else ⟨#[]⟩)) :: Ek) (fun z0 => True) (fun z0 => z0.toNat) (true) (trivial) (fun z0 hz0 K0l hr0 => ?_)))))
 cases z0
 · refine c_seq ?_
   refine sr (mv rfl (yy (y_slen st_9 rfl) (yy (y_gt rfl rfl) (ne (c_false rfl (c_exit ?_))))))
   exact e_then_exit (e_then_exit (e_in_same (e_then (sr (mv rfl (sa rfl (netr (f_ret0 rfl (rt rfl) rfl rfl))))))))
 dsimp only [cond_true]
 refine c_seq (sr (mv rfl (yy (y_slen st_9 rfl) (yy (y_gt rfl rfl) (ne (c_true rfl (c_skip (e_then (c_block (c_seq (sr (mv rfl (mv rfl (mv rfl (yy (y_slen st_9 rfl) (yy (y_subN (n := 1) (m := 1) rfl rfl om om) (yy (y_is (i := 0) st_9 rfl rfl hn1) ?_)))))))))))))))))
 rw [hn2]
 exact lw (t_callr' rfl (contains_ok h hk) en_130 (yy (y_not rfl) (ne (c_false rfl (c_skip (e_then (c_region (mv rfl (mv rfl (yy (y_slen st_9 rfl) (yy (y_subN (n := 1) (m := 1) rfl rfl om om) (yy (y_slst (l := 0) (h := 0) st_9 rfl rfl ⟨_, rfl⟩ om om) (sa rfl (l_nil (e_in (e_then (t_to (hr0 false trivial (by simp)))))))))))))))))))
end Go.Proofs.YtkdmbimkanjbhaaGreatDoor.Eng
namespace Go.Proofs.YtkdmbimkanjbhaaGreatDoor.Eng
open Go Go.Proofs
set_option maxRecDepth 100000
attribute [local irreducible] Tr
theorem zcs_223 : ∃ zs, zcK Tryz.prog 223 = some zs ∧ zs.length = 256 ∧ zs.all Value.oneCell' = true := ⟨_, zc_223, rfl, rfl⟩
theorem cut_at : ∀ i, i < 39 → cutset[i]? = some (cutl.getD i 0) ∧ (cutl.getD i 0).toNat < 128 := by decide
theorem cut_c : (cutl.getD 2 0).toNat = 99 ∧ (cutl.getD 3 0).toNat = 100 := by decide
theorem ascii_ok {S : Stone} : Con Tryz.prog 117 #[.string cutset] [] S (RetR fun u _ => ∃ cs : List Value, u = .tuple #[.agg cs.toArray, .bool true] ∧ cs.length = 256 ∧ cs.all Value.oneCell' = true ∧ cs[99]? = some (.bool true) ∧ cs[100]? = some (.bool true)) := by
 obtain ⟨zs, hzs, hzl, hz1⟩ := zcs_223
 have hcz : cutset.size = 39 := rfl
 refine con_of 21 Tryz.func117 rfl rfl rfl (fun w0 => ?_)
 refine sr (lw (t_alloc hzs (lt_n rfl) (fun b2 => sa rfl (nes (sr (sa rfl (ne (c_block (c_loopE (τ := Nat × List Value) [(3, _), (2, _), (0, _)] (fun Ek z0 => (4, i64 z0.1) :: Ek) (fun z0 => [.blk b2 (.cells z0.2.toArray 223 (0, 0))]) (fun z0 => S) (fun z0 => z0.1 ≤ 39 ∧ z0.2.length = 256 ∧ z0.2.all Value.oneCell' = true ∧ ∀ j, j < z0.1 → z0.2[(cutl.getD j 0).toNat]? = some (.bool true)) (fun z0 => 39 - z0.1) ((0, zs)) (⟨by omega, hzl, hz1, fun j hj => by omega⟩) (fun z0 hz0 K0l hr0 => ?_))))))))))
 obtain ⟨i, cs⟩ := z0
 obtain ⟨hi, hcl, hc1, hset⟩ := hz0
 simp only at hi hcl hc1 hset
 dsimp only
 refine c_seq (sr (mv rfl (mv rfl (yy (y_slen st_9 rfl) (yy (y_lt rfl rfl) (nec rfl (fun g1 => ?_) (fun g1 => ?_)))))))
 · have hil : i < 39 := by simp at g1; omega
   obtain ⟨hb, hb2⟩ := cut_at i hil
   generalize hcc : cutl.getD i 0 = cc at *
   refine c_skip (e_then (c_seq (c_block (sr (mv rfl (mv rfl (yy (y_is st_9 rfl rfl (by first | assumption | rfl)) ?_)))))))
   refine sa rfl (nes (sr (mv rfl (yy (y_ge rfl rfl) (nec rfl (fun g2 => ?_) (fun g2 => ?_))))))
   · simp at g2; omega
   · refine c_skip ?_
     refine e_then (c_region (mv rfl (yy (y_iaaN ar_223 rfl rfl ao) (lw (t_st1 sz_4 rfl rfl rfl pk om ?_)))))
     rw [Nat.zero_add (cc.toNat * 1), Nat.mul_one cc.toNat]
     refine l_nil (e_in (e_then (c_region (mv rfl (yy (y_addN (m := 1) rfl rfl om) (sa rfl (ne ?_)))))))
     exact t_to (hr0 (i + 1, cs.set cc.toNat (.bool true)) ⟨by simp only; omega, by simp only [List.length_set]; exact hcl, List.all_eq_true.2 (fun u hu => by
      rcases List.mem_or_eq_of_mem_set hu with h | h
      · exact List.all_eq_true.1 hc1 u h
      · subst h; rfl), fun j hj => by
      simp only at hj ⊢
      rw [List.getElem?_set]
      by_cases e : cc.toNat = (cutl.getD j 0).toNat
      · rw [if_pos e, if_pos om]
      · rw [if_neg e]
        have hji : j ≠ i := fun e' => by subst e'; exact e (by rw [hcc])
        exact hset j om⟩ (by simp only; omega))
 · have hil : i = 39 := by simp at g1; omega
   refine c_exit ?_
   refine e_then_exit (e_then_exit (e_in_same (e_then (sr (ll (lbw ld_223 (hl := hcl)) ?_)))))
   refine lw (t_stw sz_223 rfl rfl rfl hcl hc1 pk hcl ?_)
   exact sa rfl (netr (f_retR rfl (ResV.agg ld_223 rfl pk hcl (rt rfl)) ⟨cs, rfl, hcl, hc1, by have := hset 2 om; rwa [cut_c.1] at this, by have := hset 3 om; rwa [cut_c.2] at this⟩))
theorem trim_ok {S : Stone} {k : Nat} (hk : k < 2) : Con Tryz.prog 92 #[.string (nm k), .string cutset] [] S (RetR fun u _ => u = .string ⟨#[]⟩) := by
 obtain ⟨zs, hzs, hzl, hz1⟩ := zcs_223
 have hne : ((nm k).toList == (⟨#[]⟩ : ByteArray).toList) = false := by rw [nm_list, empty_list]; rfl
 have hne2 : (cutset.toList == (⟨#[]⟩ : ByteArray).toList) = false := by rw [ByteArray.toList_eq, empty_list]; rfl
 refine con_of 43 Tryz.func92 rfl rfl rfl (fun w0 => ?_)
 refine sr (sa rfl (nes (sr (mv rfl (yy (y_seq rfl rfl) (mv rfl (t_known (gd := 9) (v := false) rfl (by exact hne) (fun hb9 => ?_))))))))
 refine qy hb9 (y_move rfl) (qy hb9 (y_seq rfl rfl) (yy (y_pick_f' rfl hb9 rfl) ?_))
 rw [hne2]
 refine ne (c_false rfl (c_skip (e_then (c_seq (sr (mv rfl (yy (y_slen st_9 rfl) (yy (y_eq rfl rfl) (mv rfl (t_known (gd := 17) (v := false) rfl (by rfl) (fun hb17 => ?_)))))))))))
 refine qn hb17 (qn hb17 (qn hb17 (yy (y_pick_f' rfl hb17 rfl) (ne (c_false rfl (c_skip (e_then (c_seq (sr (mv rfl (lw (t_callR rfl (ascii_ok) en_117 ?_))))))))))))
 rintro v31 S31 le31 ⟨cs, rfl, hcl, hc1, h99, h100⟩
 refine mv rfl (yy (y_ext rfl rfl) (yy (y_ext rfl rfl) (lw (t_alloc hzs (lt_n rfl) (fun b5 => lw (t_stw sz_223 rfl rfl rfl hcl hc1 pk hzl ?_))))))
 refine t_stone Pick.hd (fun S1 le1 hS1 => ?_)
 have hok : SetOk S1 ⟨b5, 0, none⟩ := by
  unfold SetOk; rw [add_lit, add_lit]; simp [Stone.cell, hS1, h99, h100]
 exact sa rfl (nesr (mv rfl (ne (c_true rfl (sr (mv rfl (lw (t_callr' rfl (trimRight_ok hok hk) en_119 (lw (t_callr' rfl (trimLeft_ok) en_118 (sa rfl (netr (e_then_ret (f_retR rfl (rt rfl) rfl))))))))))))))
theorem name_ok {S : Stone} {k : Nat} (hk : k < 2) : Con Tryz.prog 66 #[.string (nm k)] [] S (RetR fun u _ => u = .bool true) := by
 have hne : (!((nm k).toList == (⟨#[]⟩ : ByteArray).toList)) = true := by rw [nm_list, empty_list]; rfl
 refine con_of 15 Tryz.func66 rfl rfl rfl (fun w0 => ?_)
 refine sr (sa rfl (nesr (mv rfl (yy (y_sne rfl rfl) (mv rfl (t_known (gd := 5) (v := true) rfl (by exact hne) (fun hb5 => ?_)))))))
 refine qy hb5 (y_move rfl) (qy hb5 (y_slen st_9 rfl) (qy hb5 (y_le rfl rfl) (yy (y_pick_t' rfl hb5 rfl) (mv rfl (t_known (gd := 10) (v := true) rfl (by rfl) (fun hb10 => ?_))))))
 refine qy hb10 (y_move rfl) (gw hb10 (t_callR rfl (trim_ok om) en_92 ?_))
 rintro v12 S12 le12 rfl
 exact qy hb10 (y_seq rfl rfl) (yy (y_pick_t' rfl hb10 rfl) (sa rfl (netr (f_retR rfl (rt rfl) (by show Value.bool _ = _; rw [empty_list]; rfl)))))
end Go.Proofs.YtkdmbimkanjbhaaGreatDoor.Eng
namespace Go.Proofs.YtkdmbimkanjbhaaGreatDoor.Eng
open Go Go.Proofs
set_option maxRecDepth 100000
attribute [local irreducible] Tr
/-- A list of consumers. -/
structure CnsOk (l : List Cns) : Prop where
 nm : NmOk l
 up : l.Pairwise fun x y => x.name < y.name
theorem consumers_ok {S : Stone} {v : Value} {l : List Cns} (h : Cnss S v l) (hc : CnsOk l) (hl : l.length ≤ 64) : Con Tryz.prog 61 #[v] [] S (Ret (.bool true) S) := by
 obtain ⟨A, cap, rfl, hc', hm, -⟩ := h.shape
 refine con_of 35 Tryz.func61 rfl rfl rfl (fun w0 => ?_)
 refine sr (sa rfl (nes (sr (mv rfl (yy (y_ln sl_28 rfl) (mv rfl (ne (c_block (c_loopH (τ := Nat) [(6, _), (5, _), (2, _), (0, _)] (fun Ek z0 => (7, i64 z0) :: Ek) (fun z0 => z0 ≤ l.length) (fun z0 => l.length - z0) (0) (Nat.zero_le _) (fun z0 hz0 K0l hr0 => ?_))))))))))
 refine sr (yy (y_lt rfl rfl) (nes (c_cond rfl (fun g1 => ?_) (fun g1 => ?_))))
 · simp at g1
   obtain ⟨r, hr⟩ : ∃ r, l[z0]? = some r := ⟨_, List.getElem?_eq_getElem g1⟩
   obtain ⟨r', hr'⟩ : ∃ r, l[z0 - 1]? = some r := ⟨_, List.getElem?_eq_getElem om⟩
   obtain ⟨p, rfl, f0, f1, f5⟩ := h.at hr
   obtain ⟨p', e', k0, k1, k5⟩ := h.at hr'
   injection e' with e'
   subst e'
   have a1 := hc.nm _ (List.mem_of_getElem? hr)
   have a2 := hc.nm _ (List.mem_of_getElem? hr')
   have a4 : 0 < z0 → r'.name < r.name := fun hz => pw_get hc.up hr' hr om
   refine c_skip (e_then (c_seq (c_block (sr (mv rfl (yy (y_iaN sl_28 rfl rfl ao) (ll (ltm ld_65 rfl ‹_›) ?_)))))))
   refine al zc_65 (fun b4 => sa rfl (lw (sw sz_65 (nes (c_cutv (d := 30) (v := .bool false) (fun K2v hK2v => ?_) ?_)))))
   · -- the value
     refine dRa [1, 13, 15] (.take 0 (.take 1 (.alt 2 (.take 3 (.take 4 (.take 5 (.take 6 (.take 7 (.take 8 (.take 9 (.take 10 (.take 11 (.take 12 (.take 13 (.take 14 (.take 15 (.take 16 (.take 17 (.take 18 .done)))))))))))))))) .stop))) ?_
     refine ey rfl (y_far fo_65_0 rfl) (dl rfl (lb ld_9) ?_)
     refine da rfl (t_callr' rfl ((name_ok om).back) en_66 ?_)
     refine dA (Stone.le.refl _) (ey rfl (y_not rfl) (em rfl rfl (t_known (gd := 16) (v := false) rfl (by rfl) (fun hb16 => ?_))))
     refine egy rfl hb16 (y_move rfl) (egy rfl hb16 (y_gt rfl rfl) (egy rfl hb16 (y_move rfl) (t_split (gd := 19) rfl (fun hb19 => ?_) (fun hb19 => ?_))))
     · -- hb19
       have hp19 := hb19; simp at hp19
       refine egy rfl hb19 (y_move rfl) (egy rfl hb19 (y_move rfl) (egy rfl hb19 (y_subN (m := 1) rfl rfl om om) (egy rfl hb19 (y_iaN sl_28 rfl rfl ao) (egy rfl hb19 (y_fa fo_65_0 rfl) (dgl rfl hb19 (ld_st ld_9 rfl ‹_›) ?_)))))
       refine egy rfl hb19 (y_far fo_65_0 rfl) (dgl rfl hb19 (lb ld_9) ?_)
       exact egy rfl hb19 (y_sge rfl rfl) (egy rfl hb16 (y_pick_t' rfl hb19 rfl) (ey rfl (y_pick_f' rfl hb16 rfl) (d_done (lk_val hK2v rfl (congrArg Value.bool (by first | rfl | (rw [nm_less a2 a1]; simp_all; done) | (simp_all; done) | (simp_all; omega)))))))
     · -- hb19
       exact zn rfl hb19 (zn rfl hb19 (zn rfl hb19 (zn rfl hb19 (zn rfl hb19 (zn rfl hb19 (zn rfl hb19 (zn rfl hb19 (zn rfl hb19 (egy rfl hb16 (y_pick_f' rfl hb19 rfl) (ey rfl (y_pick_f' rfl hb16 rfl) (d_done (lk_val hK2v rfl (congrArg Value.bool (by first | rfl | (rw [nm_less a2 a1]; simp_all; done) | (simp_all; done) | (simp_all; omega)))))))))))))))
   exact c_false rfl (c_skip (e_in (e_then (c_region (yy (y_addN (m := 1) rfl rfl om) (mv rfl (ne (t_to (hr0 (z0 + 1) om om)))))))))
 · refine c_exit ?_
   exact e_then_exit (e_then_exit (e_in_same (e_then (sr (mv rfl (yy (y_ln sl_28 rfl) (yy (y_le rfl rfl) (sa rfl (netr (f_ret0 rfl (rt rfl) (by show Value.bool _ = _; congr 1; simp; omega) rfl))))))))))
/-- A consumer in its place. -/
def putC (l : List Cns) (x : Cns) : List Cns :=
 if bfound (fun y => cmpN y.name x.name) l then l.set (bpos (fun y => cmpN y.name x.name) l) x
 else l.take (bpos (fun y => cmpN y.name x.name) l) ++ [x] ++ l.drop (bpos (fun y => cmpN y.name x.name) l)
theorem putC_ok {S : Stone} {v : Value} {l : List Cns} {x : Cns} (h : Cnss S v l) (hc : CnsOk l) (hl : l.length ≤ 64) (hx : x.name < 2) : Con Tryz.prog 87 #[v, .agg x.cells.toArray, .func (.func 88) #[] #[]] [] S (RowR 65 2 cnsC (putC l x)) := by
 have hbp := bpos_le (fun y : Cns => cmpN y.name x.name) l
 refine con_of 30 Tryz.func87 rfl rfl rfl (fun w0 => ?_)
 refine sr (bx rfl rfl (fun b4 => t_stone Pick.hd (fun S1 le1 hS1 => ?_)))
 have hx1 : ∀ (j : Nat) u, x.cells[j]? = some u → S1.cell ((⟨b4, 0, none⟩ : Addr).add j) = some u := fun j u hj => by rw [add_lit]; simp [Stone.cell, hS1, hj]
 have hv1 := h.mono le1
 refine sa rfl (nesr (mv rfl (ll (ltm ld_65 rfl ‹_›) ?_)))
 refine mv rfl ?_
 refine lw (t_callr' rfl (bsearch_112 (I := []) (cf := fun y => cmpN y.name x.name) hv1.rd om en_88 (fun y hy => byname_ok (hc.nm y hy) hx) (fun i j a b ha hb hij hb0 => cmpN_neg.2 (by
  have hb1 := cmpN_neg.1 hb0
  rcases Nat.lt_or_eq_of_le hij with h1 | h1
  · have := pw_get hc.up ha hb h1; omega
  · subst h1; rw [ha] at hb; cases hb; exact hb1))) en_112 ?_)
 refine mv rfl (yy (y_ext rfl rfl) (yy (y_ext rfl rfl) (sa rfl (sa rfl (nesr (mv rfl (lw (t_callRow rfl (cclone_ok ‹_› om) en_69 (fun v18 xs18 S18 le18 hf18 ho18 => ?_)))))))))
 have hx18 : ∀ (j : Nat) u, x.cells[j]? = some u → S18.cell ((⟨b4, 0, none⟩ : Addr).add j) = some u := fun j u hj => le18.cell (hx1 j u hj)
 refine sa rfl (nes (sr (mv rfl (nec rfl (fun g1 => ?_) (fun g1 => ?_)))))
 · have hfd : bfound (fun y : Cns => cmpN y.name x.name) l = true := g1
   have hlt : bpos (fun y : Cns => cmpN y.name x.name) l < l.length := by
    unfold bfound at hfd
    split at hfd
    · rename_i hq; exact (List.getElem?_eq_some_iff.1 hq).1
    · cases hfd
   refine t_form Pick.hd (fun _ hn0 => by omega) (fun gb cap hv hnc hcm hxl => ?_)
   subst hv
   refine sr (mv rfl (mv rfl (ll (ltm ld_65 rfl ‹_›) ?_)))
   refine yy (y_iaNr sl_28 rfl rfl ao) (lw (t_str sz_65 rfl rfl rfl rfl rfl pk om ?_))
   rw [Nat.zero_add (bpos (fun y : Cns => cmpN y.name x.name) l * 2)]
   refine nesr (mv rfl (sa rfl (netr (e_then_ret ?_))))
   have hpc : putC l x = l.set (bpos (fun y : Cns => cmpN y.name x.name) l) x := by unfold putC; rw [if_pos hfd]
   refine t_eqn (putC l x).length pk (by rw [hpc, List.length_set]) ?_
   exact f_retS rfl (rt rfl) ⟨_, rfl, by rw [hpc]; exact hf18.set hlt rfl rfl, rfl⟩
 · have hfd : bfound (fun y : Cns => cmpN y.name x.name) l = false := g1
   refine c_skip (e_then (sr (mv rfl (mv rfl (ll (ltm ld_65 rfl ‹_›) ?_)))))
   refine lw (t_bs1 ap_28 zc_65 rfl rfl rfl rfl rfl (fun b28 => lw (t_callA rfl (Con.perm (insert_113 hbp om hf18.1 rfl rfl (hf18.plain plain_cns)) (List.Perm.swap _ _ _)) en_113 (fun v29 I29 S29 le29 h29 => ?_))))
   obtain ⟨rfl, rfl, ho29⟩ := h29
   refine sa rfl (netr ?_)
   have hpc : putC l x = l.take (bpos (fun y : Cns => cmpN y.name x.name) l) ++ [x] ++ l.drop (bpos (fun y : Cns => cmpN y.name x.name) l) := by unfold putC; rw [if_neg (by rw [hfd]; simp)]
   refine t_eqn (putC l x).length pk (by rw [hpc]; simp only [List.length_append, List.length_take, List.length_drop, List.length_singleton]; omega) ?_
   exact f_retS rfl (rt rfl) ⟨_, rfl, by rw [hpc]; exact hf18.put _ rfl rfl, ho29⟩
end Go.Proofs.YtkdmbimkanjbhaaGreatDoor.Eng
namespace Go.Proofs.YtkdmbimkanjbhaaGreatDoor.Eng
open Go Go.Proofs
set_option maxRecDepth 100000
attribute [local irreducible] Tr
theorem commit_ok {S : Stone} {v : Value} {l : List Cns} {x : Cns} {n : Nat} (h : Cnss S v l) (hc : CnsOk l) (hl : l.length ≤ 60) (hx : x.name < 2) (hxn : x.off ≤ n) :
 Con Tryz.prog 95 #[v, .agg x.cells.toArray, u64 n] [] S (RetR fun u S' => ∃ v', u = .tuple #[v', .int .i64 0] ∧ Cnss S' v' (putC l x)) := by
 have hnm := hc.nm
 obtain ⟨A, cap, rfl, hc', hm, -⟩ := h.shape
 refine con_of 42 Tryz.func95 rfl rfl rfl (fun w0 => ?_)
 refine sr (bx rfl rfl (fun b4 => sa rfl (sa rfl (nesr (mv rfl (yy (y_far fo_65_0 rfl) (ll (lb ld_9) ?_)))))))
 refine lw (t_callr' rfl ((read_ok ‹_› ‹_› om).back) en_74 ?_)
 refine mv rfl (yy (y_ext rfl rfl) (yy (y_ext rfl rfl) (sa rfl (sa rfl (nes (c_block (sr (mv rfl (lw (t_callr' rfl (consumers_ok ‹_› ‹_› om) en_61 ?_))))))))))
 refine yy (y_not rfl) (sa rfl (ne (c_false rfl (sr (yy (y_far fo_65_0 rfl) (ll (lb ld_9) ?_))))))
 refine lw (t_callr' rfl ((name_ok om).back) en_66 (yy (y_not rfl) (sa rfl (ne (c_false rfl (sr (yy (y_far fo_65_1 rfl) (ll (lb ld_25) ?_))))))))
 refine mv rfl (yy (y_gt rfl rfl) (sa rfl (nec rfl (fun g3 => ?_) (fun g3 => ?_))))
 · simp at g3; omega
 · refine c_seq ?_
   refine c_region (mv rfl (yy (y_not rfl) (mv rfl ?_)))
   apply l_and 4 (gd := 34) (d := 38) rfl
   · intro hb34 K4 hK4
     exact qy hb34 (y_move rfl) (qy hb34 (y_ln sl_28 rfl) (qy hb34 (y_eq rfl rfl) (yy (y_pick_t' rfl hb34 rfl) (lk_end hK4))))
   · intro hb34 K4 hK4
     exact qn hb34 (qn hb34 (qn hb34 (yy (y_pick_f' rfl hb34 rfl) (lk_end hK4))))
   refine sa rfl (nec rfl (fun g5 => ?_) (fun g5 => ?_))
   · simp at g5; omega
   · refine c_skip ?_
     refine e_in (e_then (sr (mv rfl (ll (lbw ld_65) ?_))))
     refine lw (t_callRow rfl (putC_ok ‹_› ‹_› om om) en_87 (fun v41 xs41 S41 le41 hf41 ho41 => ?_))
     refine sa rfl (sa rfl (netr (t_pub (C := cnsC) (l := putC l x) pk (fun S' hle => hf41.mono fun _ _ h => h) rfl (fun S' hle hs => ?_))))
     exact f_retR rfl (ResV.tmp rfl (rt rfl)) ⟨_, rfl, hs⟩
theorem commit_far {S : Stone} {v : Value} {l : List Cns} {x : Cns} {n : Nat} (h : Cnss S v l) (hc : CnsOk l) (hl : l.length ≤ 60) (hx : x.name < 2) (hxn : n < x.off) :
 Con Tryz.prog 95 #[v, .agg x.cells.toArray, u64 n] [] S (Ret (.tuple #[.slice none 0 0, .int .i64 141]) S) := by
 have hnm := hc.nm
 obtain ⟨A, cap, rfl, hc', hm, -⟩ := h.shape
 refine con_of 42 Tryz.func95 rfl rfl rfl (fun w0 => ?_)
 refine sr (bx rfl rfl (fun b4 => sa rfl (sa rfl (nesr (mv rfl (yy (y_far fo_65_0 rfl) (ll (lb ld_9) ?_)))))))
 refine lw (t_callr' rfl ((read_ok ‹_› ‹_› om).back) en_74 ?_)
 refine mv rfl (yy (y_ext rfl rfl) (yy (y_ext rfl rfl) (sa rfl (sa rfl (nes (c_block (sr (mv rfl (lw (t_callr' rfl (consumers_ok ‹_› ‹_› om) en_61 ?_))))))))))
 refine yy (y_not rfl) (sa rfl (ne (c_false rfl (sr (yy (y_far fo_65_0 rfl) (ll (lb ld_9) ?_))))))
 refine lw (t_callr' rfl ((name_ok om).back) en_66 (yy (y_not rfl) (sa rfl (ne (c_false rfl (sr (yy (y_far fo_65_1 rfl) (ll (lb ld_25) ?_))))))))
 refine mv rfl (yy (y_gt rfl rfl) (sa rfl (nec rfl (fun g3 => ?_) (fun g3 => ?_))))
 · refine c_seq ?_
   exact c_region (sa rfl (sa rfl (netr (e_in_ret (e_then_ret (f_ret0 rfl (ResV.tmp rfl (rt rfl)) rfl rfl))))))
 · simp at g3; omega
/-- A producer on a log that was kept. -/
def moveP (to : List Nat) (x : Prd) : Prd := if x.here && decide (to.getD x.off 0 < to.getD (x.off + 1) 0) then ⟨x.id, x.seq, true, to.getD x.off 0⟩ else ⟨x.id, x.seq, false, 0⟩
theorem move_ok {S : Stone} {v w : Value} {l : List Prd} {to : List Nat} (h : Prds S v l) (ht : Nats S w to) (hl : l.length ≤ 256) (hh : ∀ x ∈ l, x.here = true → x.off + 1 < to.length) : Con Tryz.prog 31 #[v, w] [] S (RetR fun u S' => Prds S' u (l.map (moveP to))) := by
 obtain ⟨A, cap, rfl, hc, hm, -⟩ := h.shape
 obtain ⟨B, capB, rfl, hcB, hmB, -⟩ := ht.shape
 refine con_of 64 Tryz.func31 rfl rfl rfl (fun w0 => ?_)
 refine sr (sa rfl (nesr (sa rfl (nes (sr (t_nilrow 67 4 ?_))))))
 refine mv rfl (yy (y_ln sl_27 rfl) (mv rfl (ne (c_block (c_loopE (τ := Nat × Value × List Value) [(10, _), (9, _), (4, _), (1, _)] (fun Ek z0 => (11, i64 z0.1) :: (5, z0.2.1) :: Ek) (fun z0 => [.row z0.2.1 67 4 z0.1 z0.2.2]) (fun z0 => S) (fun z0 => z0.1 ≤ l.length ∧ Flat S 4 prdC z0.2.2 ((l.take z0.1).map (moveP to)) ∧ z0.2.1.oneCell' = true) (fun z0 => l.length - z0.1) ((0, .slice none 0 0, [])) (⟨Nat.zero_le _, Flat.nil, rfl⟩) (fun z0 hz0 K0l hr0 => ?_))))))
 obtain ⟨i, v, xs⟩ := z0
 obtain ⟨hi, hf, hone⟩ := hz0
 simp only at hi hf hone
 dsimp only
 refine sr (yy (y_lt rfl rfl) (nes (c_cond rfl (fun g1 => ?_) (fun g1 => ?_))))
 · have hil : i < l.length := by simpa using g1
   obtain ⟨r, hr⟩ : ∃ r, l[i]? = some r := ⟨_, List.getElem?_eq_getElem hil⟩
   obtain ⟨p, rfl, f0, f1, f2, f3, f5⟩ := h.at hr
   have hhr := hh r (List.mem_of_getElem? hr)
   have hb : r.here = true → ∃ pb t0 t1, B = some pb ∧ to[r.off]? = some t0 ∧ to[r.off + 1]? = some t1 ∧ S.cell (pb.add (r.off * 1)) = some (u64 t0) ∧ S.cell (pb.add ((r.off + 1) * 1)) = some (u64 t1) := fun h' => by
    have hlt := hhr h'
    obtain ⟨t0, ht0⟩ : ∃ t, to[r.off]? = some t := ⟨_, List.getElem?_eq_getElem om⟩
    obtain ⟨t1, ht1⟩ : ∃ t, to[r.off + 1]? = some t := ⟨_, List.getElem?_eq_getElem hlt⟩
    obtain ⟨pb, e, _, c0⟩ := ht.at ht0
    obtain ⟨pb', e', _, c1⟩ := ht.at ht1
    rw [e] at e'
    injection e' with e'
    subst e'
    exact ⟨pb, t0, t1, e, ht0, ht1, c0, c1⟩
   refine c_skip (e_then (c_seq (c_block (sr (yy (y_iaN sl_27 rfl rfl ao) (ll (ltm ld_67 rfl ‹_›) ?_))))))
   refine al zc_67 (fun b7 => lw (sw sz_67 (ne ?_)))
   refine sr (yy (y_far fo_67_0 rfl) (ll (lb ld_25) ?_))
   refine yy (y_far fo_67_1 rfl) (ll (lb ld_25) ?_)
   refine yy (y_build pl_67 zc_67 rfl rfl) (al zc_67 (fun b8 => lw (sw sz_67 (nes (c_seq (c_cutv (d := 50) (v := .bool (r.here && decide (to.getD r.off 0 < to.getD (r.off + 1) 0))) (fun K2v hK2v => ?_) ?_))))))
   · -- the value
     refine dRa [1, 10, 20, 23, 26, 28] (.take 0 (.take 1 (.take 2 (.take 3 (.take 4 (.take 5 (.take 6 (.take 7 (.take 8 (.take 9 (.take 10 (.take 11 (.take 12 (.take 13 (.take 14 (.take 15 (.take 16 (.take 17 (.take 18 (.take 19 (.take 20 (.take 21 (.take 22 (.take 23 (.take 24 (.take 25 (.take 26 (.take 27 (.take 28 (.take 29 (.take 30 .done))))))))))))))))))))))))))))))) ?_
     refine ey rfl (y_far fo_67_2 rfl) (dl rfl (lb ld_4) ?_)
     refine em rfl rfl (t_split (gd := 22) rfl (fun hb22 => ?_) (fun hb22 => ?_))
     · -- hb22
       have hlt := hhr hb22
       obtain ⟨pb, t0, t1, rfl, hr0', hr1', c0, c1⟩ := hb hb22
       refine egy rfl hb22 (y_move rfl) (egy rfl hb22 (y_ln sl_91 rfl) (egy rfl hb22 (y_cvu cv_3_25 rfl om) (egy rfl hb22 (y_gt rfl rfl) (ey rfl (y_pick_t' rfl hb22 rfl) (em rfl rfl (t_known (gd := 28) (v := true) rfl (by first | rfl | (simp; omega)) (fun hb28 => ?_)))))))
       refine egy rfl hb28 (y_far fo_67_3 rfl) (dgl rfl hb28 (lb ld_25) ?_)
       refine egy rfl hb28 (y_move rfl) (egy rfl hb28 (y_ln sl_91 rfl) (egy rfl hb28 (y_subN (m := 2) rfl rfl om om) (egy rfl hb28 (y_cvu cv_3_25 rfl om) (egy rfl hb28 (y_le rfl rfl) (ey rfl (y_pick_t' rfl hb28 rfl) (em rfl rfl (t_known (gd := 37) (v := true) rfl (by first | rfl | (simp; omega)) (fun hb37 => ?_))))))))
       refine egy rfl hb37 (y_move rfl) (egy rfl hb37 (y_far fo_67_3 rfl) (dgl rfl hb37 (lb ld_25) ?_))
       refine egy rfl hb37 (y_addU (m := 1) rfl rfl om) (egy rfl hb37 (y_iaN sl_91 rfl rfl ao) (dgl rfl hb37 (ld_st ld_25 rfl ‹_›) ?_))
       refine egy rfl hb37 (y_move rfl) (egy rfl hb37 (y_far fo_67_3 rfl) (dgl rfl hb37 (lb ld_25) ?_))
       refine egy rfl hb37 (y_iaN sl_91 rfl rfl ao) (dgl rfl hb37 (ld_st ld_25 rfl ‹_›) ?_)
       exact egy rfl hb37 (y_gt rfl rfl) (ey rfl (y_pick_t' rfl hb37 rfl) (d_done (lk_val hK2v rfl (congrArg Value.bool (by first | (simp_all [List.getD_eq_getElem?_getD]; done) | (simp [List.getD_eq_getElem?_getD, hr0', hr1', hb22]; done) | (rw [hb22]; rfl))))))
     · -- hb22
       refine zn rfl hb22 (zn rfl hb22 (zn rfl hb22 (zn rfl hb22 (ey rfl (y_pick_f' rfl hb22 rfl) (em rfl rfl (t_known (gd := 28) (v := false) rfl (by first | rfl | (simp; omega)) (fun hb28 => ?_)))))))
       refine zn rfl hb28 (zn rfl hb28 (zn rfl hb28 (zn rfl hb28 (zn rfl hb28 (zn rfl hb28 (zn rfl hb28 (ey rfl (y_pick_f' rfl hb28 rfl) (em rfl rfl (t_known (gd := 37) (v := false) rfl (by first | rfl | (simp; omega)) (fun hb37 => ?_))))))))))
       exact zn rfl hb37 (zn rfl hb37 (zn rfl hb37 (zn rfl hb37 (zn rfl hb37 (zn rfl hb37 (zn rfl hb37 (zn rfl hb37 (zn rfl hb37 (zn rfl hb37 (zn rfl hb37 (zn rfl hb37 (ey rfl (y_pick_f' rfl hb37 rfl) (d_done (lk_val hK2v rfl (congrArg Value.bool (by first | (simp_all [List.getD_eq_getElem?_getD]; done) | (simp [List.getD_eq_getElem?_getD, hr0', hr1', hb22]; done) | (rw [hb22]; rfl)))))))))))))))))
   refine c_cond rfl (fun g3 => ?_) (fun g3 => ?_)
   · obtain ⟨hhere, hlt2⟩ : r.here = true ∧ to.getD r.off 0 < to.getD (r.off + 1) 0 := by simpa using g3
     have hlt := hhr hhere
     obtain ⟨pb, t0, t1, rfl, hr0', hr1', c0, c1⟩ := hb hhere
     have hmv : moveP to r = ⟨r.id, r.seq, true, t0⟩ := by unfold moveP; rw [if_pos g3, List.getD_eq_getElem?_getD, hr0']; rfl
     refine dR ([.blk b7 (.cells r.cells.toArray 67)]) [2, 4] (.take 0 (.take 1 (.take 2 (.take 3 (.take 4 (.take 5 (.alt 6 (.take 7 (.alt 8 .done .stop)) .stop))))))) ?_
     refine em rfl rfl (ey rfl (y_far fo_67_3 rfl) (dl rfl (lb ld_25) ?_))
     refine ey rfl (y_iaN sl_91 rfl rfl ao) (dl rfl (ld_st ld_25 rfl ‹_›) ?_)
     refine ey rfl (y_far fo_67_2 rfl) (da rfl (s1 sz_4 ?_))
     refine dA (Stone.le.refl _) (ey rfl (y_far fo_67_3 rfl) (da rfl (s1 sz_25 ?_)))
     refine dA (Stone.le.refl _) (d_done (e_then (c_region (mv rfl (ll (lbw ld_67) ?_)))))
     refine lw (t_bs1 ap_27 zc_67 rfl rfl rfl rfl rfl (fun b60 => lw (aR ap_27 (fun va61 ho61 => ?_))))
     refine t_eqrow Pick.hd (show _ = xs ++ (moveP to r).cells by rw [hmv]; rfl) ?_
     exact sa rfl (l_nil (e_in (e_then (c_region (yy (y_addN (m := 1) rfl rfl om) (mv rfl (ne (t_to (hr0 (i + 1, va61, xs ++ (moveP to r).cells) ⟨hil, by simp only; rw [List.take_add_one, hr, List.map_append]; exact hf.snoc rfl rfl, ho61⟩ (by simp only; omega))))))))))
   · have hmv : moveP to r = ⟨r.id, r.seq, false, 0⟩ := by unfold moveP; rw [if_neg (by rw [g3]; simp)]
     refine c_skip (e_then (c_region (mv rfl (ll (lbw ld_67) ?_))))
     refine lw (t_bs1 ap_27 zc_67 rfl rfl rfl rfl rfl (fun b60 => lw (aR ap_27 (fun va61 ho61 => ?_))))
     refine t_eqrow Pick.hd (show _ = xs ++ (moveP to r).cells by rw [hmv]; rfl) ?_
     exact sa rfl (l_nil (e_in (e_then (c_region (yy (y_addN (m := 1) rfl rfl om) (mv rfl (ne (t_to (hr0 (i + 1, va61, xs ++ (moveP to r).cells) ⟨hil, by simp only; rw [List.take_add_one, hr, List.map_append]; exact hf.snoc rfl rfl, ho61⟩ (by simp only; omega))))))))))
 · refine c_exit ?_
   refine e_then_exit (e_then_exit (e_in_same (e_then (sr (mv rfl (sa rfl (netr ?_)))))))
   have hi' : i = l.length := by simp at g1; omega
   subst hi'
   rw [List.take_length] at hf
   refine t_pub (C := prdC) (l := l.map (moveP to)) Pick.hd (fun S' hle => hf.mono fun _ _ h => h) (by simp) (fun S' hle hs => ?_)
   exact f_retR rfl (rt rfl) hs
end Go.Proofs.YtkdmbimkanjbhaaGreatDoor.Eng
namespace Go.Proofs.YtkdmbimkanjbhaaGreatDoor.Eng
open Go Go.Proofs
set_option maxRecDepth 100000
attribute [local irreducible] Tr
/-- A shard's state. -/
structure Sh where
 lo : Nat
 hi : Nat
 epoch : Nat
 frozen : Nat
 l : List Rec
 p : List Prd
 c : List Cns
def Sh.cells (s : Sh) (rv pv cv : Value) : List Value := [.string (ky s.lo), .string (kh s.hi), u64 s.epoch, u64 s.frozen, rv, pv, cv]
def PartR (S : Stone) (v : Value) (s : Sh) : Prop := ∃ rv pv cv, v = .agg (s.cells rv pv cv).toArray ∧ Recs S rv s.l ∧ Prds S pv s.p ∧ Cnss S cv s.c
theorem PartR.mono {S S' : Stone} {v : Value} {s : Sh} (h : PartR S v s) (hle : Stone.le S S') : PartR S' v s := let ⟨rv, pv, cv, e, h1, h2, h3⟩ := h; ⟨rv, pv, cv, e, h1.mono hle, h2.mono hle, h3.mono hle⟩
structure Cmd where
 kind : Nat
 epoch : Nat
 prod : Nat
 seq : Nat
 key : Nat
 val : Nat
 off : Nat
 most : Nat
 name : Nat
 plan : Nat
def Cmd.cells (c : Cmd) (bv : Value) : List Value := [i64 c.kind, u64 c.epoch, u64 c.prod, u64 c.seq, .string (ky c.key), bv, u64 c.off, i64 c.most, .string (nm c.name), u64 c.plan]
/-- An error that tells why. -/
def Refusal (S : Stone) (v : Value) (e : Nat) : Prop := ∃ b k, v = .iface 184 (.pointer (some ⟨b, 0, none⟩)) ∧ S.cell ⟨b, 0, none⟩ = some k ∧ S.cell ⟨b, 0 + 1, none⟩ = some (.iface 31 (i64 e))
theorem Refusal.mono {S S' : Stone} {v : Value} {e : Nat} (h : Refusal S v e) (hle : Stone.le S S') : Refusal S' v e := let ⟨b, k, e1, h1, h2⟩ := h; ⟨b, k, e1, hle.cell h1, hle.cell h2⟩
theorem refuse_none {S : Stone} {c : Cmd} {bv : Value} : Con Tryz.prog 73 #[.agg (c.cells bv).toArray, .int .i64 0] [] S (Ret .nilIface S) := by
 refine con_of 14 Tryz.func73 rfl rfl rfl (fun w0 => ?_)
 exact sr (bx rfl rfl (fun b2 => sa rfl (nes (sr (mv rfl (yy (y_eq rfl rfl) (ne (c_true rfl (sr (sa rfl (netr (e_then_ret (f_ret0 rfl (rt rfl) rfl rfl)))))))))))))
theorem refuse_ok {S : Stone} {c : Cmd} {bv : Value} {e : Nat} (he : 1 ≤ e) : Con Tryz.prog 73 #[.agg (c.cells bv).toArray, i64 e] [] S (RetR fun u S' => Refusal S' u e) := by
 refine con_of 14 Tryz.func73 rfl rfl rfl (fun w0 => ?_)
 refine sr (bx rfl rfl (fun b2 => sa rfl (nes (sr (mv rfl (yy (y_eq rfl rfl) (nec rfl (fun g1 => ?_) (fun g1 => ?_))))))))
 · simp at g1; omega
 · refine c_skip ?_
   refine e_then (sr (yy (y_far fo_57_0 rfl) (ll (lb ld_55) ?_)))
   refine mv rfl (yy (y_mi co_31 rfl) (yy (y_build pl_186 zc_186 rfl rfl) (bx rfl rfl (fun b12 => yy (y_mi co_184 rfl) (sa rfl (netr (t_stone Pick.hd (fun S1 le1 hS1 => ?_))))))))
   exact f_retR rfl (rt rfl) ⟨b12, _, rfl, by simp only [Stone.cell, hS1]; rfl, by simp only [Stone.cell, hS1]; rfl⟩
theorem ownPart_ok {S : Stone} {v : Value} {s : Sh} (h : PartR S v s) (h1 : s.l.length ≤ 200) (h2 : s.p.length ≤ 200) (h3 : s.c.length ≤ 60) : Con Tryz.prog 38 #[v] [] S (RetR fun u S' => PartR S' u s) := by
 obtain ⟨rv, pv, cv, rfl, hr, hp, hcv⟩ := h
 obtain ⟨A, cap, rfl, hc, hm, -⟩ := hr.shape
 refine con_of 37 Tryz.func38 rfl rfl rfl (fun w0 => ?_)
 refine sr (bx rfl rfl (fun b1 => al zc_30 (fun b2 => nesr (yy (y_far fo_30_3 rfl) (ll (lb ld_26) ?_)))))
 refine yy (y_ln sl_26 rfl) (lw (t_mk0 ap_26 zc_84 rfl om mo rfl (fun b9 => sa rfl (nes (sr (yy (y_far fo_30_3 rfl) (ll (lb ld_26) ?_)))))))
 refine yy (y_ln sl_26 rfl) (mv rfl (ne (c_block (c_loopE (τ := Nat × Value × List Value × Stone) [(12, _), (11, _), (2, _), (1, _)] (fun Ek z0 => (13, i64 z0.1) :: (3, z0.2.1) :: Ek) (fun z0 => [.row z0.2.1 84 5 z0.1 z0.2.2.1, .blk b1 (.cells (s.cells (.slice A s.l.length cap) pv cv).toArray 30 (0, 0)), .blk b2 (.cells [.string ⟨#[]⟩, .string ⟨#[]⟩, .int .u64 0, .int .u64 0, .slice none 0 0, .slice none 0 0, .slice none 0 0].toArray 30 (0, 0))]) (fun z0 => z0.2.2.2) (fun z0 => z0.1 ≤ s.l.length ∧ Stone.le S z0.2.2.2 ∧ Flat z0.2.2.2 5 recC z0.2.2.1 (s.l.take z0.1) ∧ z0.2.1.oneCell' = true) (fun z0 => s.l.length - z0.1) ((0, .slice (some ⟨b9, 0, none⟩) 0 s.l.length, [], S)) (⟨Nat.zero_le _, Stone.le.refl _, Flat.nil, rfl⟩) (fun z0 hz0 K0l hr0 => ?_)))))
 obtain ⟨i, v, xs, S1⟩ := z0
 obtain ⟨hi, hle, hf, hone⟩ := hz0
 simp only at hi hle hf hone
 dsimp only
 refine sr (yy (y_lt rfl rfl) (nes (c_cond rfl (fun g1 => ?_) (fun g1 => ?_))))
 · have hil : i < s.l.length := by simpa using g1
   obtain ⟨r, hrr⟩ : ∃ r, s.l[i]? = some r := ⟨_, List.getElem?_eq_getElem hil⟩
   obtain ⟨p, bv, rfl, hb, f0, f1, f2, f3, f4, f5⟩ := (hr.mono hle).at hrr
   obtain ⟨pb, cb, rfl, -⟩ := id hb
   refine c_skip (e_then (c_seq (c_block (sr (yy (y_iaN sl_26 rfl rfl ao) (ll (ltm ld_84 rfl ‹_›) ?_))))))
   refine al zc_84 (fun b5 => lw (sw sz_84 (ne ?_)))
   refine sr (yy (y_far fo_84_2 rfl) (ll (lb ld_54) ?_))
   refine lw (t_callR rfl (bclone_ok hb) en_67 ?_)
   rintro v19 S19 le19 h19
   obtain ⟨p19, c19, rfl, -⟩ := id h19
   refine yy (y_far fo_84_2 rfl) (lw (s1 sz_54 (ne ?_)))
   refine c_region (mv rfl (ll (lbw ld_84) ?_))
   refine lw (t_bs1 ap_26 zc_84 rfl rfl rfl rfl rfl (fun b23 => lw (aR ap_26 (fun va24 ho24 => sa rfl (l_nil (e_in (e_then ?_)))))))
   exact c_region (yy (y_addN (m := 1) rfl rfl om) (mv rfl (ne (t_to (hr0 (i + 1, va24, xs ++ r.cells (.slice (some p19) 1 c19), S19) ⟨hil, hle.trans le19, by simp only; rw [List.take_add_one, hrr]; exact (hf.monoR le19).snoc ⟨_, rfl, h19⟩ rfl, ho24⟩ (by simp only; omega))))))
 · have hi' : i = s.l.length := by simp at g1; omega
   subst hi'
   rw [List.take_length] at hf
   refine t_pub (C := recC) (l := s.l) pk (fun S' hle => hf.monoR hle) rfl (fun Sr lr hrs => ?_)
   have hpr := hp.mono (hle.trans lr)
   have hcr := hcv.mono (hle.trans lr)
   refine c_exit ?_
   refine e_then_exit (e_then_exit (e_in_same (e_then (c_seq (dR ([.blk b1 (.cells (s.cells (.slice A s.l.length cap) pv cv).toArray 30 (0, 0))]) [2, 5] (.take 0 (.take 1 (.take 2 (.take 4 (.take 5 (.take 7 (.alt 3 (.alt 6 (.alt 8 (.take 9 (.alt 10 (.take 11 (.alt 12 .done .stop)) .stop)) .stop) .stop) .stop))))))) ?_)))))
   refine em rfl rfl (ey rfl (y_far fo_30_4 rfl) (dl rfl (lb ld_27) ?_))
   refine ey rfl (y_far fo_30_5 rfl) (dl rfl (lb ld_28) ?_)
   refine ey rfl (y_far fo_30_3 rfl) (da rfl (t_callRow rfl (pclone_ok hpr om) en_68 (fun v29 xs29 S29 le29 hf29 ho29 => ?_)))
   refine t_pub (C := prdC) (l := s.p) pk (fun S' hle => hf29.mono fun _ _ h => h) rfl (fun Sp lep hps => ?_)
   have hcr' := hcr.mono (le29.trans lep)
   refine dA (le29.trans lep) (da rfl (t_callRow rfl (cclone_ok hcr' om) en_69 (fun v32 xs32 S32 le32 hf32 ho32 => ?_)))
   refine t_pub (C := cnsC) (l := s.c) pk (fun S' hle => hf32.mono fun _ _ h => h) rfl (fun Sc lec hcs => ?_)
   refine dA (((le29.trans lep).trans le32).trans lec) (da rfl (t_st1' sz_26 rfl rfl (by first | assumption | exact Byt.one ‹_› | exact Sl.one ‹_›) pk rfl ?_))
   refine dA (((le29.trans lep).trans le32).trans lec) (ey rfl (y_far fo_30_4 rfl) (da rfl (t_st1' sz_27 rfl rfl (by first | assumption | exact Byt.one ‹_› | exact Sl.one ‹_›) pk rfl ?_)))
   refine dA (((le29.trans lep).trans le32).trans lec) (ey rfl (y_far fo_30_5 rfl) (da rfl (t_st1' sz_28 rfl rfl (by first | assumption | exact Byt.one ‹_› | exact Sl.one ‹_›) pk rfl ?_)))
   refine dA (((le29.trans lep).trans le32).trans lec) (d_done (e_then (sr ?_)))
   obtain ⟨A1, cap1, rfl, -⟩ := hrs.shape
   obtain ⟨A2, cap2, rfl, -⟩ := hps.shape
   obtain ⟨A3, cap3, rfl, -⟩ := hcs.shape
   refine ll (lbw ld_30) ?_
   refine lw (sw sz_30 (ne ?_))
   exact c_ret (f_retR rfl (ResV.agg ld_30 rfl pk rfl rn) ⟨_, _, _, rfl, Recs.mono hrs ((le29.trans lep).trans (le32.trans lec)), Prds.mono hps (le32.trans lec), hcs⟩)
end Go.Proofs.YtkdmbimkanjbhaaGreatDoor.Eng
namespace Go.Proofs.YtkdmbimkanjbhaaGreatDoor.Eng
open Go Go.Proofs
set_option maxRecDepth 100000
attribute [local irreducible] Tr
/-- Numbered anew. -/
def renum (l : List Rec) : List Rec := l.mapIdx fun i r => { r with off := i }
def inR (lo hi : Nat) (r : Rec) : Bool := decide (lo ≤ r.key ∧ r.key < hi)
/-- Where the records of a log come to. -/
def keepTo (q : Rec → Bool) (l : List Rec) : List Nat := (List.range (l.length + 1)).map fun i => ((l.take i).filter q).length
theorem keepTo_take {q : Rec → Bool} {l : List Rec} {i : Nat} (_hi : i ≤ l.length) : ((List.range (i + 1)).map fun j => ((l.take j).filter q).length) = ((List.range i).map fun j => ((l.take j).filter q).length) ++ [((l.take i).filter q).length] := by
 rw [List.range_succ, List.map_append]; rfl
theorem renum_length (l : List Rec) : (renum l).length = l.length := by simp [renum]
theorem renum_snoc (l : List Rec) (r : Rec) : renum (l ++ [r]) = renum l ++ [{ r with off := l.length }] := by simp [renum, List.mapIdx_append]
theorem keep_ok {S : Stone} {v : Value} {l : List Rec} {lo hi : Nat} (h : Recs S v l) (hn : Num l) (hl : l.length ≤ 200) (h1 : lo < 6) (h2 : lo < hi) (h3 : hi ≤ 6) (hk : ∀ r ∈ l, r.key < 6) :
 Con Tryz.prog 30 #[v, .agg #[.string (ky lo), .string (kh hi)]] [] S (RetR fun u S' => ∃ a b, u = .tuple #[a, b] ∧ Recs S' a (renum (l.filter (inR lo hi))) ∧ Nats S' b (keepTo (inR lo hi) l)) := by
 obtain ⟨A, cap, rfl, hc, hm, -⟩ := h.shape
 refine con_of 53 Tryz.func30 rfl rfl rfl (fun w0 => ?_)
 refine sr (bx rfl rfl (fun b3 => sa rfl (sa rfl (nes (sr (mv rfl (lw (t_callr' rfl (log_ok ‹_› ‹_› om) en_46 ?_))))))))
 refine yy (y_not rfl) (mv rfl (t_known (gd := 13) (v := false) rfl (by rfl) (fun hb13 => ?_)))
 refine gl hb13 (lbw ld_24) ?_
 refine gw hb13 (t_callr' rfl (range_ok ‹_› ‹_› ‹_›) en_7 ?_)
 refine qy hb13 (y_ne rfl rfl) (yy (y_pick_f' rfl hb13 rfl) (ne (c_false rfl (c_skip (e_then (sr (sa rfl (nesr (mv rfl (yy (y_ln sl_26 rfl) (yy (y_addN (m := 1) rfl rfl om) (lw (t_mk0 ap_91 zc_25 rfl om mo rfl (fun b21 => sa rfl (nes (sr ?_))))))))))))))))
 refine t_nilrow 84 5 ?_
 refine mv rfl (yy (y_ln sl_26 rfl) (mv rfl (ne (c_block (c_loopE (τ := Nat × Value × List Value × Value × List Value × Stone) [(23, _), (22, _), (17, _), (5, _), (4, _), (3, _)] (fun Ek z0 => (24, i64 z0.1) :: (6, z0.2.1) :: (7, z0.2.2.2.1) :: Ek) (fun z0 => [.row z0.2.1 84 5 ((l.take z0.1).filter (inR lo hi)).length z0.2.2.1, .row z0.2.2.2.1 25 1 z0.1 z0.2.2.2.2.1, .blk b3 (.cells [.string (ky lo), .string (kh hi)].toArray 24 (0, 0))]) (fun z0 => z0.2.2.2.2.2) (fun z0 => z0.1 ≤ l.length ∧ Stone.le S z0.2.2.2.2.2 ∧ Flat z0.2.2.2.2.2 5 recC z0.2.2.1 (renum ((l.take z0.1).filter (inR lo hi))) ∧ z0.2.1.oneCell' = true ∧ Flat z0.2.2.2.2.2 1 natC z0.2.2.2.2.1 ((List.range z0.1).map fun j => ((l.take j).filter (inR lo hi)).length) ∧ z0.2.2.2.1.oneCell' = true) (fun z0 => l.length - z0.1) ((0, .slice none 0 0, [], .slice (some ⟨b21, 0, none⟩) 0 (l.length + 1), [], S)) (⟨Nat.zero_le _, Stone.le.refl _, Flat.nil, rfl, Flat.nil, rfl⟩) (fun z0 hz0 K0l hr0 => ?_))))))
 obtain ⟨i, v, xs, w, ys, S1⟩ := z0
 obtain ⟨hi', hle, hf, hone, hg, honew⟩ := hz0
 simp only at hi' hle hf hone hg honew
 dsimp only
 have hfl : ((l.take i).filter (inR lo hi)).length ≤ 200 := by have := List.length_filter_le (inR lo hi) (l.take i); rw [List.length_take] at this; omega
 refine sr (yy (y_lt rfl rfl) (nes (c_cond rfl (fun g2 => ?_) (fun g2 => ?_))))
 · have hil : i < l.length := by simpa using g2
   obtain ⟨r, hr⟩ : ∃ r, l[i]? = some r := ⟨_, List.getElem?_eq_getElem hil⟩
   obtain ⟨p, bv, rfl, hb, f0, f1, f2, f3, f4, f5⟩ := (h.mono hle).at hr
   obtain ⟨pb, cb, rfl, -⟩ := id hb
   have hkr := hk r (List.mem_of_getElem? hr)
   refine c_skip (e_then (c_seq (c_block (sr (yy (y_iaN sl_26 rfl rfl ao) (ll (ltm ld_84 rfl ‹_›) ?_))))))
   refine al zc_84 (fun b9 => lw (sw sz_84 (nes ?_)))
   refine c_region (mv rfl (mv rfl (ll (ld_ln sl_26 rfl pk) ?_)))
   refine yy (y_cvu cv_3_25 rfl om) (lw (t_bs1 ap_91 zc_25 rfl rfl rfl rfl rfl (fun b32 => lw (aR ap_91 (fun va33 ho33 => sa rfl (l_nil ?_))))))
   refine e_then (sr (ll (lbw ld_24) ?_))
   refine yy (y_far fo_84_1 rfl) (ll (lb ld_9) ?_)
   refine lw (t_callr' rfl (has_ok h1 h2 h3 hkr) en_45 (nec rfl (fun g3 => ?_) (fun g3 => ?_)))
   · have hin : inR lo hi r = true := g3
     have hfn : (l.take (i + 1)).filter (inR lo hi) = (l.take i).filter (inR lo hi) ++ [r] := by rw [List.take_add_one, hr, List.filter_append]; simp [hin]
     refine c_region (mv rfl (ll (lbw ld_84) ?_))
     refine mv rfl (ll (ld_ln sl_26 rfl pk) ?_)
     refine lw (t_callR rfl (own_ok hb om) en_47 ?_)
     rintro v42 S42 le42 ⟨b42, rfl, hb42⟩
     obtain ⟨q42, c42, rfl, -⟩ := id hb42
     refine lw (t_bs1 ap_26 zc_84 rfl rfl rfl rfl rfl (fun b43 => lw (aR ap_26 (fun va44 ho44 => ?_))))
     refine t_eqn ((l.take (i + 1)).filter (inR lo hi)).length Pick.hd (by rw [hfn, List.length_append]; rfl) ?_
     exact sa rfl (l_nil (e_in (e_then (c_region (yy (y_addN (m := 1) rfl rfl om) (mv rfl (ne (t_to (hr0 (i + 1, va44, xs ++ Rec.cells { r with off := ((l.take i).filter (inR lo hi)).length } (.slice (some q42) 1 c42), va33, ys ++ [u64 ((l.take i).filter (inR lo hi)).length], S42) ⟨hil, hle.trans le42, by simp only; rw [hfn, renum_snoc]; exact (hf.monoR le42).snoc (a := { r with off := ((l.take i).filter (inR lo hi)).length }) ⟨_, rfl, hb42⟩ rfl, ho44, by simp only; rw [keepTo_take hi']; exact (hg.mono fun _ _ h => h).snoc rfl rfl, ho33⟩ (by simp only; omega)) (hs := Sel.cons pk (Sel.cons pk (Sel.cons pk Sel.nil)))))))))))
   · have hin : inR lo hi r = false := g3
     have hfn : (l.take (i + 1)).filter (inR lo hi) = (l.take i).filter (inR lo hi) := by rw [List.take_add_one, hr, List.filter_append]; simp [hin]
     refine t_eqn (v := v) ((l.take (i + 1)).filter (inR lo hi)).length pk (by rw [hfn]) ?_
     exact c_skip (e_in (e_then (c_region (yy (y_addN (m := 1) rfl rfl om) (mv rfl (ne (t_to (hr0 (i + 1, v, xs, va33, ys ++ [u64 ((l.take i).filter (inR lo hi)).length], S1) ⟨hil, hle, by simp only; rw [hfn]; exact hf, hone, by simp only; rw [keepTo_take hi']; exact hg.snoc rfl rfl, ho33⟩ (by simp only; omega)))))))))
 · have hil : i = l.length := by simp at g2; omega
   subst hil
   rw [List.take_length] at hf hfl
   rw [List.take_length]
   refine c_exit ?_
   refine e_then_exit (e_then_exit (e_in_same (e_then (sr (mv rfl (mv rfl (mv rfl (ll (ld_ln sl_26 rfl pk) ?_))))))))
   refine yy (y_cvu cv_3_25 rfl om) (lw (t_bs1 ap_91 zc_25 rfl rfl rfl rfl rfl (fun b51 => lw (aR ap_91 (fun va52 ho52 => sa rfl (sa rfl (netr ?_)))))))
   have hgg : Flat S1 1 natC (ys ++ [u64 (l.filter (inR lo hi)).length]) (keepTo (inR lo hi) l) := by
    unfold keepTo
    rw [keepTo_take (Nat.le_refl _)]
    refine hg.snoc ?_ rfl
    rw [List.take_length]; rfl
   refine t_pub (C := natC) (l := keepTo (inR lo hi) l) pk (fun S' hle => hgg.mono fun _ _ h => h) (by simp [keepTo]) (fun S2 le2 hs2 => ?_)
   refine t_pub (C := recC) (l := renum (l.filter (inR lo hi))) pk (fun S' hle => (hf.monoR le2).monoR hle) (by rw [renum_length]) (fun S3 le3 hs3 => ?_)
   exact f_retR rfl (ResV.tmp rfl (rt rfl)) ⟨_, _, rfl, hs3, Nats.mono hs2 le3⟩
end Go.Proofs.YtkdmbimkanjbhaaGreatDoor.Eng
namespace Go.Proofs.YtkdmbimkanjbhaaGreatDoor.Eng
open Go Go.Proofs
set_option maxRecDepth 100000
attribute [local irreducible] Tr
theorem ahead_ok {S : Stone} {x : Cns} {p : Addr} {n : Nat} (h : S.cell p = some (u64 n)) : Con Tryz.prog 59 #[.agg x.cells.toArray, .pointer (some p)] [] S (Ret (.bool (decide (n < x.off))) S) := by
 refine con_of 8 Tryz.func59 rfl rfl rfl (fun w0 => ?_)
 refine sr (bx rfl rfl (fun b2 => sa rfl (nesr (yy (y_far fo_65_1 rfl) (ll (lb ld_25) ?_)))))
 refine ll (ld_st ld_25 rfl ‹_›) ?_
 exact yy (y_gt rfl rfl) (sa rfl (netr (f_ret0 rfl (rt rfl) (by show Value.bool _ = Value.bool _; congr 1; rw [Bool.eq_iff_iff]; simp) rfl)))
/-- Frozen by another plan. -/
theorem freeze_no {S : Stone} {s : Sh} {A1 A2 A3 A4 : Option Addr} {n1 n2 n3 n4 c1 c2 c3 c4 : Nat} {c : Cmd} {by' : Nat} (h1 : s.frozen ≠ 0) (h2 : s.frozen ≠ c.plan) :
 Con Tryz.prog 72 #[.agg (s.cells (.slice A1 n1 c1) (.slice A2 n2 c2) (.slice A3 n3 c3)).toArray, .agg (c.cells (.slice A4 n4 c4)).toArray, u64 by'] [] S (RetR fun u S' => ∃ e, u = .tuple #[.agg (s.cells (.slice A1 n1 c1) (.slice A2 n2 c2) (.slice A3 n3 c3)).toArray, .bool false, e] ∧ Refusal S' e 164) := by
 refine con_of 31 Tryz.func72 rfl rfl rfl (fun w0 => ?_)
 refine sr (bx rfl rfl (fun b3 => bx rfl rfl (fun b4 => al zc_30 (fun b6 => sa rfl (sa rfl (nes (sr (yy (y_far fo_30_2 rfl) (ll (lb ld_25) ?_)))))))))
 refine yy (y_ne rfl rfl) (mv rfl (t_known (gd := 13) (v := true) rfl (by simp; omega) (fun hb13 => ?_)))
 refine qy hb13 (y_far fo_30_2 rfl) (gl hb13 (lb ld_25) ?_)
 refine qy hb13 (y_far fo_57_9 rfl) (gl hb13 (lb ld_25) ?_)
 refine qy hb13 (y_ne rfl rfl) (yy (y_pick_t' rfl hb13 rfl) (nec rfl (fun g1 => ?_) (fun g1 => ?_)))
 · refine c_seq ?_
   refine dR ([.blk b3 (.cells (s.cells (.slice A1 n1 c1) (.slice A2 n2 c2) (.slice A3 n3 c3)).toArray 30 (0, 0)), .blk b4 (.cells (c.cells (.slice A4 n4 c4)).toArray 57 (0, 0))]) [0, 1] (.take 0 (.take 1 (.alt 2 (.alt 3 (.take 4 (.take 5 .done)) .stop) .stop))) ?_
   refine dl rfl (lbw ld_30) ?_
   refine dl rfl (lbw ld_57) ?_
   refine da rfl (t_callR rfl (refuse_ok (e := 164) om) en_73 ?_)
   rintro v22 S22 le22 h22
   refine dA le22 (da rfl (sw sz_30 ?_))
   exact dA le22 (ea rfl rfl (ea rfl rfl (d_done (e_then (c_ret (e_then_ret (f_retR rfl (ResV.agg ld_30 rfl pk rfl (ResV.tmp rfl (rt rfl))) ⟨_, rfl, h22⟩)))))))
 · simp at g1; omega
theorem freeze_yes {S : Stone} {s : Sh} {A1 A2 A3 A4 : Option Addr} {n1 n2 n3 n4 c1 c2 c3 c4 : Nat} {c : Cmd} {by' : Nat} (h1 : s.frozen = 0 ∨ s.frozen = c.plan) :
 Con Tryz.prog 72 #[.agg (s.cells (.slice A1 n1 c1) (.slice A2 n2 c2) (.slice A3 n3 c3)).toArray, .agg (c.cells (.slice A4 n4 c4)).toArray, u64 by'] [] S
  (Ret (.tuple #[.agg (({ s with frozen := by' } : Sh).cells (.slice A1 n1 c1) (.slice A2 n2 c2) (.slice A3 n3 c3)).toArray, .bool (s.frozen == by'), .nilIface]) S) := by
 refine con_of 31 Tryz.func72 rfl rfl rfl (fun w0 => ?_)
 refine sr (bx rfl rfl (fun b3 => bx rfl rfl (fun b4 => al zc_30 (fun b6 => sa rfl (sa rfl (nes (c_seq (c_cutv (d := 19) (v := .bool false) (fun K1v hK1v => ?_) ?_))))))))
 · -- the value
   refine c_region (yy (y_far fo_30_2 rfl) (ll (lb ld_25) ?_))
   refine yy (y_ne rfl rfl) (mv rfl ?_)
   apply l_and 6 (gd := 13) (d := 19) rfl
   · intro hb13 K2 hK2
     refine qy hb13 (y_far fo_30_2 rfl) (gl hb13 (lb ld_25) ?_)
     refine qy hb13 (y_far fo_57_9 rfl) (gl hb13 (lb ld_25) ?_)
     exact qy hb13 (y_ne rfl rfl) (yy (y_pick_t' rfl hb13 rfl) (lk_end hK2))
   · intro hb13 K2 hK2
     exact qn hb13 (qn hb13 (qn hb13 (qn hb13 (qn hb13 (yy (y_pick_f' rfl hb13 rfl) (lk_end hK2))))))
   exact l_nil (lk_val hK1v rfl (congrArg Value.bool (by rcases h1 with h | h <;> simp [h])))
 refine c_false rfl (c_skip (e_then (sr (yy (y_far fo_30_2 rfl) (ll (lb ld_25) ?_)))))
 refine mv rfl (yy (y_eq rfl rfl) (sa rfl (nesr (mv rfl ?_))))
 refine yy (y_far fo_30_2 rfl) (lw (s1 sz_25 (ne ?_)))
 refine sr (ll (lbw ld_30) ?_)
 refine mv rfl (lw (sw sz_30 (sa rfl (sa rfl (netr ?_)))))
 exact f_ret0 rfl (ResV.agg ld_30 rfl pk rfl (ResV.tmp rfl (rt rfl))) (by
  have e : ((s.frozen : Int) == (by' : Int)) = (s.frozen == by') := by rw [Bool.eq_iff_iff]; simp; omega
  show Value.tuple #[_, Value.bool _, _] = _
  rw [e]; rfl) rfl
end Go.Proofs.YtkdmbimkanjbhaaGreatDoor.Eng
namespace Go.Proofs.YtkdmbimkanjbhaaGreatDoor.Eng
open Go Go.Proofs
set_option maxRecDepth 100000
attribute [local irreducible] Tr
/-- A command that may be. -/
structure CmdOk (c : Cmd) : Prop where
 kind : 1 ≤ c.kind ∧ c.kind ≤ 6
 prod : 1 ≤ c.prod
 seq : 1 ≤ c.seq ∧ c.seq ≤ 9223372036854775807
 most : 1 ≤ c.most ∧ c.most ≤ 64
 name : c.name < 2
 plan : 1 ≤ c.plan
 key : c.key < 6
theorem well_ok {S : Stone} {c : Cmd} {p : Addr} {cb : Nat} (h : CmdOk c) : Con Tryz.prog 37 #[.agg (c.cells (.slice (some p) 1 cb)).toArray] [] S (Ret (.bool true) S) := by
 have hnil : Prds S (.slice none 0 0) [] := Sl.nil
 obtain ⟨⟨hk1, hk6⟩, hprod, ⟨hs1, hs2⟩, ⟨hm1, hm2⟩, hname, hplan, hkey⟩ := h
 have hks := ky_size_le c.key
 refine con_of 71 Tryz.func37 rfl rfl rfl (fun w0 => ?_)
 refine sr (bx rfl rfl (fun b1 => sa rfl (nes (sr (yy (y_far fo_57_0 rfl) (ll (lb ld_55) ?_))))))
 refine ne (c_block (sr (yy (y_eq rfl rfl) (sa rfl (nec rfl (fun g1 => ?_) (fun g1 => ?_))))))
 · skip
   refine sr (yy (y_far fo_57_2 rfl) (ll (lb ld_25) ?_))
   refine yy (y_far fo_57_3 rfl) (ll (lb ld_25) ?_)
   refine lw (t_callr' rfl ((judge_ok ‹_› om om om).back) en_65 ?_)
   refine mv rfl (yy (y_ext rfl rfl) (yy (y_ext rfl rfl) (sa rfl (sa rfl (nesr (mv rfl (yy (y_ne rfl rfl) (mv rfl (t_known (gd := 21) (v := true) rfl (by rfl) (fun hb21 => ?_))))))))))
   refine qy hb21 (y_far fo_57_4 rfl) (gl hb21 (lb ld_9) ?_)
   refine qy hb21 (y_slen st_9 rfl) (qy hb21 (y_le rfl rfl) (yy (y_pick_t' rfl hb21 rfl) (mv rfl (t_known (gd := 27) (v := true) rfl (by simp; omega) (fun hb27 => ?_)))))
   refine qy hb27 (y_far fo_57_5 rfl) (gl hb27 (lb ld_54) ?_)
   exact qy hb27 (y_ln sl_54 rfl) (qy hb27 (y_le rfl rfl) (yy (y_pick_t' rfl hb27 rfl) (sa rfl (netr (e_in_ret (e_then_ret (f_ret0 rfl (rt rfl) rfl rfl)))))))
 · have k1 : c.kind ≠ 1 := by intro e; simp [e] at g1
   refine sr (yy (y_eq rfl rfl) (sa rfl (nec rfl (fun g2 => ?_) (fun g2 => ?_))))
   · refine c_seq ?_
     refine c_region (yy (y_far fo_57_7 rfl) (ll (lb ld_3) ?_))
     refine yy (y_ge rfl rfl) (mv rfl (t_known (gd := 38) (v := true) rfl (by simp; omega) (fun hb38 => ?_)))
     refine qy hb38 (y_far fo_57_7 rfl) (gl hb38 (lb ld_3) ?_)
     exact qy hb38 (y_le rfl rfl) (yy (y_pick_t' rfl hb38 rfl) (sa rfl (netr (e_in_ret (e_then_ret (f_ret0 rfl (rt rfl) (by show Value.bool _ = Value.bool _; congr 1; simp; omega) rfl))))))
   · have k2 : c.kind ≠ 2 := by intro e; simp [e] at g2
     refine sr (yy (y_eq rfl rfl) (sa rfl (nec rfl (fun g3 => ?_) (fun g3 => ?_))))
     · refine c_seq ?_
       refine c_region (yy (y_far fo_57_2 rfl) (ll (lb ld_25) ?_))
       refine yy (y_far fo_57_3 rfl) (ll (lb ld_25) ?_)
       refine lw (t_callr' rfl ((judge_ok ‹_› om om om).back) en_65 ?_)
       refine mv rfl (yy (y_ext rfl rfl) (yy (y_ext rfl rfl) (sa rfl (sa rfl (nesr (mv rfl (yy (y_ne rfl rfl) (mv rfl (t_known (gd := 55) (v := true) rfl (by rfl) (fun hb55 => ?_))))))))))
       refine qy hb55 (y_far fo_57_8 rfl) (gl hb55 (lb ld_9) ?_)
       exact gw hb55 (t_callr' rfl ((name_ok om).back) en_66 (yy (y_pick_t' rfl hb55 rfl) (sa rfl (netr (e_in_ret (e_then_ret (f_ret0 rfl (rt rfl) rfl rfl)))))))
     · have k3 : c.kind ≠ 3 := by intro e; simp [e] at g3
       refine sr (yy (y_eq rfl rfl) (sa rfl (nec rfl (fun g4 => ?_) (fun g4 => ?_))))
       · refine c_seq ?_
         refine c_region (yy (y_far fo_57_8 rfl) (ll (lb ld_9) ?_))
         exact lw (t_callr' rfl ((name_ok om).back) en_66 (sa rfl (netr (e_in_ret (e_then_ret (f_ret0 rfl (rt rfl) rfl rfl))))))
       · have k4 : c.kind ≠ 4 := by intro e; simp [e] at g4
         refine c_seq (sr (yy (y_eq rfl rfl) (sa rfl (nec rfl (fun g5 => ?_) (fun g5 => ?_)))))
         · refine c_skip ?_
           refine e_then (c_cond rfl (fun g6 => ?_) (fun g6 => ?_))
           · refine c_seq ?_
             refine c_region (yy (y_far fo_57_9 rfl) (ll (lb ld_25) ?_))
             exact yy (y_ne rfl rfl) (sa rfl (netr (e_in_ret (e_then_ret (f_ret0 rfl (rt rfl) (by show Value.bool _ = Value.bool _; congr 1; simp; omega) rfl)))))
           · refine c_skip ?_
             refine e_in (e_then (sr (sa rfl (netr ?_))))
             (exfalso; simp_all; done)
         · refine c_region ?_
           refine yy (y_eq rfl rfl) (sa rfl (nec rfl (fun g7 => ?_) (fun g7 => ?_)))
           · refine c_seq ?_
             refine c_region (yy (y_far fo_57_9 rfl) (ll (lb ld_25) ?_))
             exact yy (y_ne rfl rfl) (sa rfl (netr (e_in_ret (e_then_ret (f_ret0 rfl (rt rfl) (by show Value.bool _ = Value.bool _; congr 1; simp; omega) rfl)))))
           · refine c_skip ?_
             refine e_in (e_then (sr (sa rfl (netr ?_))))
             (exfalso; simp_all; omega)
end Go.Proofs.YtkdmbimkanjbhaaGreatDoor.Eng
namespace Go.Proofs.YtkdmbimkanjbhaaGreatDoor.Eng
open Go Go.Proofs
set_option maxRecDepth 100000
attribute [local irreducible] Tr
theorem lost_ok {S : Stone} {x : Prd} {l : List Rec} {A : Option Addr} {cap b1 : Nat} {p : Addr} (hl : l.length ≤ 4096) (hr : Recs S (.slice A l.length cap) l) (hn : S.cell p = some (u64 l.length)) (hb : S.cell ⟨b1, 0 + 4, none⟩ = some (.slice A l.length cap))
 (hx : x.here = true → ∃ r, l[x.off]? = some r ∧ r.prod = x.id ∧ r.seq = x.seq) : Con Tryz.prog 58 #[.agg x.cells.toArray, .pointer (some p), .pointer (some ⟨b1, 0, none⟩)] [] S (Ret (.bool false) S) := by
 refine con_of 37 Tryz.func58 rfl rfl rfl (fun w0 => ?_)
 refine sr (bx rfl rfl (fun b3 => sa rfl (nes (dRa [1, 4, 5, 9, 11, 14, 16, 21, 23, 26, 28] (.take 0 (.take 1 (.take 2 (.take 3 (.take 4 (.take 5 (.take 6 (.take 7 (.take 8 (.take 9 (.take 10 (.take 11 (.take 12 (.take 13 (.take 14 (.take 15 (.take 16 (.take 17 (.take 18 (.take 19 (.take 20 (.take 21 (.take 22 (.take 23 (.take 24 (.take 25 (.take 26 (.take 27 (.take 28 (.take 29 (.take 30 (.take 31 (.take 32 .done))))))))))))))))))))))))))))))))) ?_))))
 refine ey rfl (y_far fo_67_2 rfl) (dl rfl (lb ld_4) ?_)
 refine em rfl rfl (t_split (gd := 7) rfl (fun hb7 => ?_) (fun hb7 => ?_))
 · -- hb7
   obtain ⟨r, hrr, hr1, hr2⟩ := hx hb7
   have hil := (List.getElem?_eq_some_iff.1 hrr).1
   obtain ⟨q, bv, rfl, hbv, f0, f1, f2, f3, f4, f5⟩ := hr.at hrr
   refine egy rfl hb7 (y_far fo_67_3 rfl) (dgl rfl hb7 (lb ld_25) ?_)
   refine dgl rfl hb7 (ld_st ld_25 rfl ‹_›) ?_
   refine egy rfl hb7 (y_ge rfl rfl) (egy rfl hb7 (y_move rfl) (t_known (gd := 12) (v := false) rfl (by simp; omega) (fun hb12 => ?_)))
   refine egy rfl hb12 (y_far fo_30_3 rfl) (dgl rfl hb12 (ld_st ld_26 rfl ‹_›) ?_)
   refine egy rfl hb12 (y_far fo_67_3 rfl) (dgl rfl hb12 (lb ld_25) ?_)
   refine egy rfl hb12 (y_iaN sl_26 rfl rfl ao) (egy rfl hb12 (y_fa fo_84_3 rfl) (dgl rfl hb12 (ld_st ld_25 rfl ‹_›) ?_))
   refine egy rfl hb12 (y_far fo_67_0 rfl) (dgl rfl hb12 (lb ld_25) ?_)
   refine egy rfl hb12 (y_ne rfl rfl) (egy rfl hb7 (y_pick_f' rfl hb12 rfl) (egy rfl hb7 (y_move rfl) (t_known (gd := 24) (v := false) rfl (by simp; omega) (fun hb24 => ?_))))
   refine egy rfl hb24 (y_far fo_30_3 rfl) (dgl rfl hb24 (ld_st ld_26 rfl ‹_›) ?_)
   refine egy rfl hb24 (y_far fo_67_3 rfl) (dgl rfl hb24 (lb ld_25) ?_)
   refine egy rfl hb24 (y_iaN sl_26 rfl rfl ao) (egy rfl hb24 (y_fa fo_84_4 rfl) (dgl rfl hb24 (ld_st ld_25 rfl ‹_›) ?_))
   refine egy rfl hb24 (y_far fo_67_1 rfl) (dgl rfl hb24 (lb ld_25) ?_)
   exact egy rfl hb24 (y_ne rfl rfl) (egy rfl hb7 (y_pick_f' rfl hb24 rfl) (ey rfl (y_pick_t' rfl hb7 rfl) (ea rfl rfl (d_done (e_then (c_ret (f_ret0 rfl (rt rfl) (by show Value.bool _ = Value.bool _; congr 1; simp [hr1, hr2]) rfl)))))))
 · -- hb7
   refine zn rfl hb7 (zn rfl hb7 (zn rfl hb7 (zn rfl hb7 (zn rfl hb7 (zu rfl (zu rfl (zu rfl (zu rfl (zu rfl (zu rfl (zu rfl (zu rfl (zu rfl (zu rfl (zn rfl hb7 (zn rfl hb7 (zu rfl (zu rfl (zu rfl (zu rfl (zu rfl (zu rfl (zu rfl ?_)))))))))))))))))))))))
   exact zu rfl (zu rfl (zu rfl (zn rfl hb7 (ey rfl (y_pick_f' rfl hb7 rfl) (ea rfl rfl (d_done (e_then (c_ret (f_ret0 rfl (rt rfl) rfl rfl)))))))))
end Go.Proofs.YtkdmbimkanjbhaaGreatDoor.Eng
namespace Go.Proofs.YtkdmbimkanjbhaaGreatDoor.Eng
open Go Go.Proofs
set_option maxRecDepth 100000
attribute [local irreducible] Tr
theorem mp_180 : mpK Tryz.prog 180 = true := by kernel_rfl
def tabP (l : List Prd) : List (Nat × Nat) := l.foldl (fun m x => setN m x.id x.seq) []
def tabR (l : List Rec) : List (Nat × Nat) := l.foldl (fun m x => setN m x.prod x.seq) []
theorem tabP_snoc (l : List Prd) (x : Prd) : tabP (l ++ [x]) = setN (tabP l) x.id x.seq := by simp [tabP]
theorem tabR_snoc (l : List Rec) (x : Rec) : tabR (l ++ [x]) = setN (tabR l) x.prod x.seq := by simp [tabR]
theorem tabP_take {l : List Prd} (hup : l.Pairwise fun x y => x.id < y.id) : ∀ i, i ≤ l.length → ∀ (j : Nat) x, l[j]? = some x → j < i → (tabP (l.take i)).lookup x.id = some x.seq
 | 0, _, j, x, _, hj => by omega
 | i + 1, hi, j, x, hx, hj => by
  obtain ⟨r, hr⟩ : ∃ r, l[i]? = some r := ⟨_, List.getElem?_eq_getElem om⟩
  rw [List.take_add_one, hr, Option.toList_some, tabP_snoc, lookup_setN]
  by_cases e : j = i
  · subst e; rw [hr] at hx; cases hx; simp
  · have := pw_get hup hx hr om
    rw [if_neg om]
    exact tabP_take hup i om j x hx om
theorem tabR_take {l : List Rec} : ∀ i, i ≤ l.length → ∀ k v, (tabR (l.take i)).lookup k = some v → ∃ (j : Nat) (r : Rec), l[j]? = some r ∧ j < i ∧ r.prod = k ∧ r.seq = v
 | 0, _, k, v, h => by simp [tabR] at h
 | i + 1, hi, k, v, h => by
  obtain ⟨r, hr⟩ : ∃ r, l[i]? = some r := ⟨_, List.getElem?_eq_getElem om⟩
  rw [List.take_add_one, hr, Option.toList_some, tabR_snoc, lookup_setN] at h
  split at h
  · rename_i e
    cases h
    exact ⟨i, r, hr, by omega, e.symm, rfl⟩
  · obtain ⟨j, r', h1, h2, h3, h4⟩ := tabR_take i om k v h
    exact ⟨j, r', h1, by omega, h3, h4⟩
/-- Records stand as their producers' numbers rise. -/
structure OrdOk (s : Sh) : Prop where
 key : ∀ r ∈ s.l, r.key < 6 ∧ inR s.lo s.hi r = true
 known : ∀ r ∈ s.l, ∃ x ∈ s.p, x.id = r.prod ∧ r.seq ≤ x.seq
 pos : ∀ r ∈ s.l, 1 ≤ r.seq
 up : ∀ (i j : Nat) a b, s.l[i]? = some a → s.l[j]? = some b → i < j → a.prod = b.prod → a.seq < b.seq
theorem ordered_ok {S : Stone} {v : Value} {s : Sh} (h : PartR S v s) (ho : OrdOk s) (ht : TabOk s.p) (hl : s.l.length ≤ 200) (hpl : s.p.length ≤ 200) (h1 : s.lo < 6) (h2 : s.lo < s.hi) (h3 : s.hi ≤ 6) : Con Tryz.prog 62 #[v] [] S (Ret (.bool true) S) := by
 obtain ⟨rv, pv, cv, rfl, hr, hp, hcv⟩ := h
 obtain ⟨A, cap, rfl, hc, hm, -⟩ := hr.shape
 obtain ⟨B, capB, rfl, hcB, hmB, -⟩ := hp.shape
 have hm0 : MapN #[] [] := rfl
 refine con_of 61 Tryz.func62 rfl rfl rfl (fun w0 => ?_)
 refine sr (bx rfl rfl (fun b1 => sa rfl (nesr (lw (t_map rfl (fun b9 => sa rfl (nes (sr (yy (y_far fo_30_4 rfl) (ll (lb ld_27) ?_))))))))))
 refine yy (y_ln sl_27 rfl) (mv rfl (ne (c_block (c_loopE (τ := Nat × Array MapEntry × Nat) [(12, _), (11, _), (3, _), (2, _), (1, _)] (fun Ek z0 => (13, i64 z0.1) :: Ek) (fun z0 => [.blk b9 (.map z0.2.1 z0.2.2), .blk b1 (.cells (s.cells (.slice A s.l.length cap) (.slice B s.p.length capB) cv).toArray 30 (0, 0))]) (fun z0 => S) (fun z0 => z0.1 ≤ s.p.length ∧ MapN z0.2.1 (tabP (s.p.take z0.1))) (fun z0 => s.p.length - z0.1) ((0, #[], 0)) (⟨Nat.zero_le _, hm0⟩) (fun z0 hz0 K0l hr0 => ?_)))))
 obtain ⟨i, es, ck⟩ := z0
 obtain ⟨hi, hmn⟩ := hz0
 simp only at hi hmn
 dsimp only
 refine sr (yy (y_lt rfl rfl) (nes (c_cond rfl (fun g1 => ?_) (fun g1 => ?_))))
 · have hil : i < s.p.length := by simpa using g1
   obtain ⟨r, hrr⟩ : ∃ r, s.p[i]? = some r := ⟨_, List.getElem?_eq_getElem hil⟩
   obtain ⟨q, rfl, f0, f1, f2, f3, f5⟩ := hp.at hrr
   refine c_skip (e_then (c_seq (c_block (sr (yy (y_iaN sl_27 rfl rfl ao) (ll (ltm ld_67 rfl ‹_›) ?_))))))
   refine al zc_67 (fun b5 => lw (sw sz_67 (ne ?_)))
   refine c_region (mv rfl (yy (y_far fo_67_0 rfl) (ll (lb ld_25) ?_)))
   refine yy (y_far fo_67_1 rfl) (ll (lb ld_25) ?_)
   refine lw (t_mapset mp_180 rfl rfl rfl pk ‹_› (fun es1 ck1 hm1 => ?_))
   exact l_nil (e_in (e_then (c_region (yy (y_addN (m := 1) rfl rfl om) (mv rfl (ne (t_to (hr0 (i + 1, es1, ck1) ⟨hil, by simp only; rw [List.take_add_one, hrr, Option.toList_some, tabP_snoc]; exact hm1⟩ (by simp only; omega)))))))))
 · have hil : i = s.p.length := by simp at g1; omega
   subst hil
   rw [List.take_length] at hmn
   refine c_exit ?_
   refine e_then_exit (e_then_exit (e_in_same (e_then (sr (lw (t_map rfl (fun b23 => sa rfl (nes (sr (yy (y_far fo_30_3 rfl) (ll (lb ld_26) ?_)))))))))))
   refine yy (y_ln sl_26 rfl) (mv rfl (ne (c_block (c_loopE (τ := Nat × Array MapEntry × Nat) [(26, _), (25, _), (6, _), (14, _), (3, _), (2, _), (1, _)] (fun Ek z1 => (27, i64 z1.1) :: Ek) (fun z1 => [.blk b23 (.map z1.2.1 z1.2.2), .blk b9 (.map es ck), .blk b1 (.cells (s.cells (.slice A s.l.length cap) (.slice B s.p.length capB) cv).toArray 30 (0, 0))]) (fun z1 => S) (fun z1 => z1.1 ≤ s.l.length ∧ MapN z1.2.1 (tabR (s.l.take z1.1))) (fun z1 => s.l.length - z1.1) ((0, #[], 0)) (⟨Nat.zero_le _, hm0⟩) (fun z1 hz1 K1l hr1 => ?_)))))
   obtain ⟨i, es', ck'⟩ := z1
   obtain ⟨hi', hmn'⟩ := hz1
   simp only at hi' hmn'
   dsimp only
   refine sr (yy (y_lt rfl rfl) (nes (c_cond rfl (fun g2 => ?_) (fun g2 => ?_))))
   · have hil : i < s.l.length := by simpa using g2
     obtain ⟨r, hrr⟩ : ∃ r, s.l[i]? = some r := ⟨_, List.getElem?_eq_getElem hil⟩
     obtain ⟨q, bv, rfl, hbv, f0, f1, f2, f3, f4, f5⟩ := hr.at hrr
     obtain ⟨pb, cb, rfl, -⟩ := id hbv
     have hmem := List.mem_of_getElem? hrr
     obtain ⟨hk6, hin⟩ := ho.key r hmem
     obtain ⟨x, hx, hxi, hxs⟩ := ho.known r hmem
     obtain ⟨j, hj⟩ := List.getElem?_of_mem hx
     have hkn : (tabP s.p).lookup r.prod = some x.seq := by
      have := tabP_take ht.up s.p.length (Nat.le_refl _) j x hj (List.getElem?_eq_some_iff.1 hj).1
      rwa [List.take_length, hxi] at this
     have hlast : ((tabR (s.l.take i)).lookup r.prod).getD 0 < r.seq := by
      cases hq : (tabR (s.l.take i)).lookup r.prod with
      | none => have := ho.pos r hmem; simp; omega
      | some v =>
       obtain ⟨j', r', e1, e2, e3, e4⟩ := tabR_take i om _ _ hq
       have := ho.up j' i r' r e1 hrr e2 e3
       simp; omega
     refine c_skip (e_then (c_seq (c_block (sr (yy (y_iaN sl_26 rfl rfl ao) (ll (ltm ld_84 rfl ‹_›) ?_))))))
     refine al zc_84 (fun b8 => lw (sw sz_84 (nes ?_)))
     refine sr (yy (y_far fo_30_0 rfl) (ll (lbs ld_24) ?_))
     refine yy (y_far fo_84_1 rfl) (ll (lb ld_9) ?_)
     refine lw (t_callr' rfl (has_ok h1 h2 h3 hk6) en_45 (yy (y_not rfl) ?_))
     refine mv rfl (t_known (gd := 37) (v := false) rfl (by (have hin' : decide (s.lo ≤ r.key ∧ r.key < s.hi) = true := hin); rw [hin']; rfl) (fun hb37 => ?_))
     refine qy hb37 (y_far fo_84_4 rfl) (gl hb37 (lb ld_25) ?_)
     refine qy hb37 (y_move rfl) (qy hb37 (y_far fo_84_3 rfl) (gl hb37 (lb ld_25) ?_))
     refine gl hb37 (ld_map mp_180 rfl rfl pk ‹_›) ?_
     refine qy hb37 (y_le rfl rfl) (yy (y_pick_f' rfl hb37 rfl) (mv rfl (t_known (gd := 46) (v := false) rfl (by simp; omega) (fun hb46 => ?_))))
     refine qy hb46 (y_far fo_84_4 rfl) (gl hb46 (lb ld_25) ?_)
     refine qy hb46 (y_move rfl) (qy hb46 (y_far fo_84_3 rfl) (gl hb46 (lb ld_25) ?_))
     refine gl hb46 (ld_map mp_180 rfl rfl pk ‹_›) ?_
     refine qy hb46 (y_gt rfl rfl) (yy (y_pick_f' rfl hb46 rfl) (nec rfl (fun g3 => ?_) (fun g3 => ?_)))
     · rw [hkn] at g3; simp at g3; omega
     · refine c_skip ?_
       refine e_then (c_region (mv rfl (yy (y_far fo_84_3 rfl) (ll (lb ld_25) ?_))))
       refine yy (y_far fo_84_4 rfl) (ll (lb ld_25) ?_)
       refine lw (t_mapset mp_180 rfl rfl rfl pk ‹_› (fun es2 ck2 hm2 => ?_))
       exact l_nil (e_in (e_then (c_region (yy (y_addN (m := 1) rfl rfl om) (mv rfl (ne (t_to (hr1 (i + 1, es2, ck2) ⟨hil, by simp only; rw [List.take_add_one, hrr, Option.toList_some, tabR_snoc]; exact hm2⟩ (by simp only; omega)))))))))
   · refine c_exit ?_
     exact e_then_exit (e_then_exit (e_in_same (e_then (sr (sa rfl (netr (f_ret0 rfl (rt rfl) rfl rfl)))))))
end Go.Proofs.YtkdmbimkanjbhaaGreatDoor.Eng
namespace Go.Proofs.YtkdmbimkanjbhaaGreatDoor.Eng
open Go Go.Proofs
set_option maxRecDepth 100000
attribute [local irreducible] Tr
/-- A state that may be. -/
structure ShOk (s : Sh) : Prop where
 lo : s.lo < 6
 lh : s.lo < s.hi
 hi : s.hi ≤ 6
 epoch : 1 ≤ s.epoch
 num : Num s.l
 ll : s.l.length ≤ 200
 pl : s.p.length ≤ 200
 cl : s.c.length ≤ 60
 tab : TabOk s.p
 cns : CnsOk s.c
 ord : OrdOk s
 here : ∀ x ∈ s.p, x.here = true → ∃ r, s.l[x.off]? = some r ∧ r.prod = x.id ∧ r.seq = x.seq
 ahead : ∀ x ∈ s.c, x.off ≤ s.l.length
theorem check_ok {S : Stone} {v : Value} {s : Sh} (h : PartR S v s) (ho : ShOk s) : Con Tryz.prog 36 #[v] [] S (RetR fun u _ => u = .int .i64 0) := by
 have h' := h
 obtain ⟨rv, pv, cv, rfl, hr, hp, hcv⟩ := h
 obtain ⟨A, cap, rfl, hc, hm, -⟩ := hr.shape
 obtain ⟨B, capB, rfl, hcB, hmB, -⟩ := hp.shape
 obtain ⟨D, capD, rfl, hcD, hmD, -⟩ := hcv.shape
 obtain ⟨o1, o2, o3, o4, o5, o6, o7, o8, o9, o10, o11, o12, o13⟩ := ho
 refine con_of 44 Tryz.func36 rfl rfl rfl (fun w0 => ?_)
 refine sr (bx rfl rfl (fun b1 => sa rfl (nesr (yy (y_far fo_30_3 rfl) (ll (lb ld_26) ?_)))))
 refine yy (y_ln sl_26 rfl) (yy (y_cvu cv_3_25 rfl om) (al zc_25 (fun b3 => lw (s1 sz_25 (t_stone Pick.hd (fun S1 le1 hS1 => ?_))))))
 refine t_stone Pick.hd (fun S2 le2 hS2 => ?_)
 have hr2 := hr.mono (le1.trans le2)
 have hp2 := hp.mono (le1.trans le2)
 have hc2 := hcv.mono (le1.trans le2)
 have h2 := h'.mono (le1.trans le2)
 have hS1' := le2 _ _ hS1
 have hn2 : S2.cell ⟨b3, 0, none⟩ = some (u64 s.l.length) := by simp [Stone.cell, hS1']
 have hk : ∀ (k : Nat) u, (s.cells (.slice A s.l.length cap) (.slice B s.p.length capB) (.slice D s.c.length capD))[k]? = some u → S2.cell ⟨b1, 0 + k, none⟩ = some u := fun k u hu => by simp [Stone.cell, hS2, hu]
 have k0 := hk 0 _ rfl
 have k1 := hk 1 _ rfl
 have k2 := hk 2 _ rfl
 have k3 := hk 3 _ rfl
 have k4 := hk 4 _ rfl
 have k5 := hk 5 _ rfl
 have k6 := hk 6 _ rfl
 have kr : ∀ (j : Nat) u, ([.string (ky s.lo), .string (kh s.hi)] : List Value)[j]? = some u → S2.cell ((⟨b1, 0 + 0, none⟩ : Addr).add j) = some u := fun j u hu => by
  match j, hu with
  | 0, hu => cases hu; rw [add_lit]; exact k0
  | 1, hu => cases hu; rw [add_lit]; exact k1
 have kw : ∀ (j : Nat) u, (s.cells (.slice A s.l.length cap) (.slice B s.p.length capB) (.slice D s.c.length capD))[j]? = some u → S2.cell ((⟨b1, 0, none⟩ : Addr).add j) = some u := fun j u hu => by rw [add_lit]; exact hk j u hu
 refine nesr (yy (y_mf' rfl rfl) (sa rfl (nesr (yy (y_mf' rfl rfl) (sa rfl (nes (c_block (c_seq (sr (yy (y_far fo_30_0 rfl) (ll (ltm ld_24 rfl kr) ?_)))))))))))
 refine lw (t_callr' rfl (range_ok ‹_› ‹_› ‹_›) en_7 ?_)
 refine yy (y_ne rfl rfl) (sa rfl (ne (c_false rfl (sr (yy (y_far fo_30_1 rfl) (ll (ld_st ld_25 rfl ‹_›) ?_))))))
 refine yy (y_eq rfl rfl) ?_
 rw [show ((s.epoch : Int) == 0) = false by simp; omega]
 refine sa rfl (ne (c_false rfl (sr (yy (y_far fo_30_3 rfl) (ll (ld_st ld_26 rfl ‹_›) ?_)))))
 refine lw (t_callr' rfl (log_ok ‹_› ‹_› om) en_46 ?_)
 refine yy (y_not rfl) (sa rfl (ne (c_false rfl (sr (yy (y_far fo_30_4 rfl) (ll (ld_st ld_27 rfl ‹_›) ?_))))))
 refine lw (t_callr' rfl (table_ok ‹_› ‹_› om) en_60 ?_)
 refine yy (y_not rfl) (sa rfl (ne (c_false rfl (c_region (yy (y_far fo_30_5 rfl) (ll (ld_st ld_28 rfl ‹_›) ?_))))))
 refine lw (t_callr' rfl (consumers_ok ‹_› ‹_› om) en_61 ?_)
 refine yy (y_not rfl) (sa rfl (ne (c_false rfl (c_seq (sr (ll (ltm ld_30 rfl kw) ?_))))))
 refine lw (t_callr' rfl (ordered_ok ‹_› ‹_› ‹_› om om om om om) en_62 ?_)
 refine yy (y_not rfl) (sa rfl (ne (c_false rfl (sr (yy (y_far fo_30_4 rfl) (ll (ld_st ld_27 rfl ‹_›) ?_))))))
 refine mv rfl (lw (t_callr' rfl (pcontains_ok (q := fun _ => false) hp2 en_58 (fun x hx => lost_ok om hr2 hn2 k4 (o12 x hx))) en_63 ?_))
 rw [show (s.p.any fun _ => false) = false by simp]
 refine sa rfl (ne (c_false rfl (c_region (yy (y_far fo_30_5 rfl) (ll (ld_st ld_28 rfl ‹_›) ?_)))))
 refine mv rfl (lw (t_callr' rfl (ccontains_ok (q := fun x => decide (s.l.length < x.off)) hc2 en_59 (fun x hx => ahead_ok hn2)) en_64 ?_))
 rw [show (s.c.any fun x => decide (s.l.length < x.off)) = false by rw [List.any_eq_false]; intro x hx; have := o13 x hx; simp; omega]
 exact sa rfl (ne (c_false rfl (c_skip (e_in (e_then (sr (sa rfl (netr (f_retR rfl (rt rfl) rfl)))))))))
end Go.Proofs.YtkdmbimkanjbhaaGreatDoor.Eng
namespace Go.Proofs.YtkdmbimkanjbhaaGreatDoor.Eng
open Go Go.Proofs
set_option maxRecDepth 100000
attribute [local irreducible] Tr
def pickN (n : Int) (m : Nat) : Nat := (if n < 0 then -(n + 1) else n).toNat % m
theorem pick_ok {S : Stone} {n : Int} {m : Nat} (h1 : -9223372036854775808 ≤ n) (h2 : n ≤ 9223372036854775807) (hm : 1 ≤ m) : Con Tryz.prog 8 #[.int .i64 n, i64 m] [] S (Ret (i64 (pickN n m)) S) := by
 have key : ∀ x : Int, 0 ≤ x → x.tmod (m : Int) = ((x.toNat % m : Nat) : Int) := fun x hx => by
  obtain ⟨y, rfl⟩ := Int.eq_ofNat_of_zero_le hx
  rw [Int.tmod_eq_emod_of_nonneg hx]; simp
 refine con_of 13 Tryz.func8 rfl rfl rfl (fun w0 => ?_)
 refine sr (sa rfl (nes (sr (mv rfl (yy (y_lt rfl rfl) (nec rfl (fun g1 => ?_) (fun g1 => ?_)))))))
 · have hneg : n < 0 := by simpa using g1
   refine c_region (mv rfl (yy (y_add (r := n + 1) rfl rfl (i64_in om om)) (yy (y_neg (r := -(n + 1)) rfl (by rw [i64_in om om]; omega)) ?_)))
   refine sa rfl (nesr (mv rfl (mv rfl (yy (y_rem rfl rfl om) (sa rfl (netr ?_))))))
   exact f_ret0 rfl (rt rfl) (by
    show Value.int _ _ = Value.int _ _
    unfold pickN
    first
     | rw [if_pos hneg, key _ om]
     | rw [if_neg hneg, key _ om]) rfl
 · have hneg : ¬ n < 0 := by simpa using g1
   refine c_skip (e_then (sr (mv rfl (mv rfl (yy (y_rem rfl rfl om) (sa rfl (netr ?_)))))))
   exact f_ret0 rfl (rt rfl) (by
    show Value.int _ _ = Value.int _ _
    unfold pickN
    first
     | rw [if_pos hneg, key _ om]
     | rw [if_neg hneg, key _ om]) rfl
def kyC (_ : Stone) (cs : List Value) (k : Nat) : Prop := cs = [.string (ky k)]
def nmC (_ : Stone) (cs : List Value) (k : Nat) : Prop := cs = [.string (nm k)]
theorem flat_ky {S : Stone} : ∀ l : List Nat, Flat S 1 kyC (l.map fun k => .string (ky k)) l
 | [] => Flat.nil
 | k :: l => (Flat.one (a := k) (cs := [.string (ky k)]) rfl rfl).app (flat_ky l)
theorem flat_nm {S : Stone} : ∀ l : List Nat, Flat S 1 nmC (l.map fun k => .string (nm k)) l
 | [] => Flat.nil
 | k :: l => (Flat.one (a := k) (cs := [.string (nm k)]) rfl rfl).app (flat_nm l)
theorem keys_ok {S : Stone} : Con Tryz.prog 9 #[] [] S (RetR fun u S' => Sl S' 1 kyC u [0, 1, 2, 3, 4, 5]) := by
 refine con_of 2 Tryz.func9 rfl rfl rfl (fun w0 => ?_)
 refine sr (sa rfl (nesr (lw (t_bs (cs := [.string (ky 0), .string (ky 1), .string (ky 2), .string (ky 3), .string (ky 4), .string (ky 5)]) ap_52 zc_9 (by decide) rfl rfl rfl (lt_n rfl) (fun b => ?_)))))
 refine sa rfl (netr (t_pub (C := kyC) (l := [0, 1, 2, 3, 4, 5]) Pick.hd (fun S' hle => flat_ky [0, 1, 2, 3, 4, 5]) rfl (fun S' hle hs => ?_)))
 exact f_retR rfl (rt rfl) hs
theorem names_ok {S : Stone} : Con Tryz.prog 10 #[] [] S (RetR fun u S' => Sl S' 1 nmC u [0, 1]) := by
 refine con_of 2 Tryz.func10 rfl rfl rfl (fun w0 => ?_)
 refine sr (sa rfl (nesr (lw (t_bs (cs := [.string (nm 0), .string (nm 1)]) ap_52 zc_9 (by decide) rfl rfl rfl (lt_n rfl) (fun b => ?_)))))
 refine sa rfl (netr (t_pub (C := nmC) (l := [0, 1]) Pick.hd (fun S' hle => flat_nm [0, 1]) rfl (fun S' hle hs => ?_)))
 exact f_retR rfl (rt rfl) hs
theorem refused_ok {S : Stone} {e : Nat} : Con Tryz.prog 42 #[i64 e] [] S (Ret (.agg #[i64 e, .int .u64 0, .bool false, .slice none 0 0]) S) := by
 refine con_of 5 Tryz.func42 rfl rfl rfl (fun w0 => ?_)
 exact sr (al zc_77 (fun b2 => nesr (mv rfl (yy (y_build pl_77 zc_77 rfl rfl) (lw (sw sz_77 (netr (f_ret0 rfl (ResV.agg ld_77 rfl pk rfl rn) rfl rfl))))))))
end Go.Proofs.YtkdmbimkanjbhaaGreatDoor.Eng
namespace Go.Proofs.YtkdmbimkanjbhaaGreatDoor.Eng
open Go Go.Proofs
set_option maxRecDepth 100000
attribute [local irreducible] Tr
/-- A book of a shard. -/
structure Bk where
 lo : Nat
 hi : Nat
 epoch : Nat
 frozen : Nat
 l : List Rec
 last : Nat → Nat
 there : Nat → Bool
 at_ : Nat → Nat
def Bk.cells (b : Bk) (rv : Value) : List Value := [.string (ky b.lo), .string (kh b.hi), u64 b.epoch, u64 b.frozen, rv, u64 (b.last 0), u64 (b.last 1), u64 (b.last 2), u64 (b.last 3), u64 (b.last 4), u64 (b.last 5), u64 (b.last 6), u64 (b.last 7), u64 (b.last 8), u64 (b.last 9), .bool (b.there 0), .bool (b.there 1), u64 (b.at_ 0), u64 (b.at_ 1)]
def BookR (S : Stone) (v : Value) (b : Bk) : Prop := ∃ rv, v = .agg (b.cells rv).toArray ∧ Recs S rv b.l
theorem BookR.mono {S S' : Stone} {v : Value} {b : Bk} (h : BookR S v b) (hle : Stone.le S S') : BookR S' v b := let ⟨rv, e, h1⟩ := h; ⟨rv, e, h1.mono hle⟩
theorem within_ok {S : Stone} {b : Bk} {rv : Value} {k : Nat} (h1 : b.lo < 6) (h2 : b.lo < b.hi) (h3 : b.hi ≤ 6) (h4 : k < 6) : Con Tryz.prog 18 #[.agg (b.cells rv).toArray, .string (ky k)] [] S (Ret (.bool (decide (b.lo ≤ k ∧ k < b.hi))) S) := by
 have a3 := kh_empty (by omega : 1 ≤ b.hi) h3
 refine con_of 20 Tryz.func18 rfl rfl rfl (fun w0 => ?_)
 refine sr (bx rfl rfl (fun b2 => sa rfl (nesr (mv rfl (yy (y_far fo_40_0 rfl) (ll (lb ld_9) ?_))))))
 refine yy (y_sge rfl rfl) (mv rfl ?_)
 apply l_and 10 (gd := 9) (d := 19) rfl
 · intro hb9 K1 hK1
   refine qy hb9 (y_far fo_40_1 rfl) (gl hb9 (lb ld_9) ?_)
   refine qy hb9 (y_seq rfl rfl) (qy hb9 (y_move rfl) ?_)
   apply l_or 5 (gd := 13) (d := 18) rfl
   · intro hb13 K2 hK2
     refine qy hb13 (y_move rfl) (qy hb13 (y_far fo_40_1 rfl) (gl hb13 (lb ld_9) ?_))
     exact qy hb13 (y_slt rfl rfl) (qy hb9 (y_pick_f' rfl hb13 rfl) (lk_end hK2))
   · intro hb13 K2 hK2
     exact qn hb13 (qn hb13 (qn hb13 (qn hb13 (qy hb9 (y_pick_t' rfl hb13 rfl) (lk_end hK2)))))
   exact yy (y_pick_t' rfl hb9 rfl) (lk_end hK1)
 · intro hb9 K1 hK1
   exact qn hb9 (qn hb9 (qn hb9 (qn hb9 (qu (qu (qu (qu (qn hb9 (yy (y_pick_f' rfl hb9 rfl) (lk_end hK1))))))))))
 refine sa rfl (netr ?_)
 exact f_ret0 rfl (rt rfl) (by
  show Value.bool _ = Value.bool _
  congr 1
  rw [a3, ky_less h4 h1, Bool.eq_iff_iff]
  by_cases e : b.hi = 6
  · simp only [e, decide_true, Bool.true_or, Bool.and_true, Bool.not_eq_true', decide_eq_true_eq, decide_eq_false_iff_not]; omega
  · rw [kh_lt om, ky_less h4 om]; simp only [e, Bool.and_eq_true, Bool.or_eq_true, Bool.not_eq_true', decide_eq_true_eq, decide_eq_false_iff_not, false_or]; omega) rfl
def isRec (p n : Nat) (r : Rec) : Bool := r.prod == p && r.seq == n
theorem stands_ok {S : Stone} {b : Bk} {rv : Value} {p n : Nat} (h : Recs S rv b.l) (hl : b.l.length ≤ 200) : Con Tryz.prog 17 #[.agg (b.cells rv).toArray, u64 p, u64 n] [] S (Ret (.int .i64 (indexOf (isRec p n) b.l)) S) := by
 obtain ⟨A, cap, rfl, hc, hm, -⟩ := h.shape
 refine con_of 34 Tryz.func17 rfl rfl rfl (fun w0 => ?_)
 refine sr (bx rfl rfl (fun b3 => sa rfl (nes (sr (sa rfl (ne (c_block (c_loopH (τ := Nat) [(6, _), (3, _), (1, _), (2, _)] (fun Ek z0 => (7, i64 z0) :: Ek) (fun z0 => z0 ≤ b.l.length ∧ (b.l.take z0).any (isRec p n) = false) (fun z0 => b.l.length - z0) (0) (⟨Nat.zero_le _, rfl⟩) (fun z0 hz0 K0l hr0 => ?_)))))))))
 refine c_seq (sr (mv rfl (yy (y_far fo_40_4 rfl) (ll (lb ld_26) ?_))))
 refine yy (y_ln sl_26 rfl) (yy (y_lt rfl rfl) (nec rfl (fun g1 => ?_) (fun g1 => ?_)))
 · have hil : z0 < b.l.length := by simpa using g1
   obtain ⟨r, hr⟩ : ∃ r, b.l[z0]? = some r := ⟨_, List.getElem?_eq_getElem hil⟩
   obtain ⟨q, bv, rfl, hbv, f0, f1, f2, f3, f4, f5⟩ := h.at hr
   refine c_skip (e_then (c_seq (c_block (c_seq (c_cutv (d := 32) (v := .bool (isRec p n r)) (fun K2v hK2v => ?_) ?_)))))
   · -- the value
     refine c_region (yy (y_far fo_40_4 rfl) (ll (lb ld_26) ?_))
     refine mv rfl (yy (y_iaN sl_26 rfl rfl ao) (yy (y_fa fo_84_3 rfl) (ll (ld_st ld_25 rfl ‹_›) ?_)))
     refine mv rfl (yy (y_eq rfl rfl) (mv rfl ?_))
     apply l_and 9 (gd := 23) (d := 32) rfl
     · intro hb23 K3 hK3
       refine qy hb23 (y_far fo_40_4 rfl) (gl hb23 (lb ld_26) ?_)
       refine qy hb23 (y_move rfl) (qy hb23 (y_iaN sl_26 rfl rfl ao) (qy hb23 (y_fa fo_84_4 rfl) (gl hb23 (ld_st ld_25 rfl ‹_›) ?_)))
       exact qy hb23 (y_move rfl) (qy hb23 (y_eq rfl rfl) (yy (y_pick_t' rfl hb23 rfl) (lk_end hK3)))
     · intro hb23 K3 hK3
       exact qn hb23 (qn hb23 (qn hb23 (qn hb23 (qn hb23 (qn hb23 (qn hb23 (qn hb23 (yy (y_pick_f' rfl hb23 rfl) (lk_end hK3)))))))))
     exact l_nil (lk_val hK2v rfl (congrArg Value.bool (by simp only [isRec]; rw [Bool.eq_iff_iff]; simp; omega)))
   refine c_cond rfl (fun g4 => ?_) (fun g4 => ?_)
   · have hq := indexOf_at hz0.2 hr g4
     exact sr (mv rfl (sa rfl (netr (e_in_ret (e_then_ret (e_then_ret (e_in_ret (e_then_ret (f_ret0 rfl (rt rfl) (by rw [hq]; rfl) rfl)))))))))
   · have hno3 := g4
     exact c_skip (e_in (e_then (c_region (mv rfl (yy (y_addN (m := 1) rfl rfl om) (sa rfl (ne (t_to (hr0 (z0 + 1) ⟨by omega, any_next hz0.2 hr hno3⟩ om)))))))))
 · refine c_exit ?_
   refine e_then_exit (e_then_exit (e_in_same (e_then (sr (sa rfl (netr ?_))))))
   have hzl : z0 = b.l.length := by simp at g1; omega
   have hno : b.l.any (isRec p n) = false := by have := hz0.2; rwa [hzl, List.take_length] at this
   exact f_ret0 rfl (rt rfl) (by unfold indexOf; rw [hno]; rfl) rfl
theorem reader_ok {S : Stone} {k : Nat} (hk : k < 2) : Con Tryz.prog 41 #[.string (nm k)] [] S (RetR fun u _ => u = i64 k) := by
 refine con_of 8 Tryz.func41 rfl rfl rfl (fun w0 => ?_)
 refine sr (sa rfl (nes (sr (mv rfl (lw (t_callR rfl (names_ok) en_10 ?_))))))
 rintro v4 S4 le4 h4
 obtain ⟨A, cap, rfl, -, -, h4'⟩ := h4
 obtain ⟨p, cs, rfl, rfl, -, hcell⟩ := h4' 0 0 rfl
 have hc0 := hcell 0 _ rfl
 rw [show (p.add (0 * 1)).add 0 = p.add (0 * 1) by simp [Addr.add]] at hc0
 refine yy (y_iaN (i := 0) sl_52 rfl rfl (by decide)) ?_
 refine ll (ld_st ld_9 rfl ‹_›) ?_
 refine yy (y_seq rfl rfl) (nec rfl (fun g1 => ?_) (fun g1 => ?_))
 · have hk0 : k = 0 := by rw [nm_eq hk om] at g1; simpa using g1
   subst hk0
   exact sr (sa rfl (netr (e_then_ret (f_retR rfl (rt rfl) rfl))))
 · have hk0 : k = 1 := by rw [nm_eq hk om] at g1; simp at g1; omega
   subst hk0
   exact c_skip (e_then (sr (sa rfl (netr (f_retR rfl (rt rfl) rfl)))))
end Go.Proofs.YtkdmbimkanjbhaaGreatDoor.Eng

/-
  Part 10 of the proof of WholeBooks: W43, W44, W45, W46, W47, W48, W49.
-/
import Derived.Test.YtkdmbimkanjbhaaGreatDoorQ9
namespace Go.Proofs.YtkdmbimkanjbhaaGreatDoor.Eng
open Go Go.Proofs
set_option maxRecDepth 100000
attribute [local irreducible] Tr
/-- A part's cells. -/
def partC (S : Stone) (cs : List Value) (s : Sh) : Prop := PartR S (.agg cs.toArray) s
abbrev Parts (S : Stone) (v : Value) (l : List Sh) : Prop := Sl S 7 partC v l
theorem partC_mono {S S' : Stone} (hle : Stone.le S S') : ∀ cs a, partC S cs a → partC S' cs a := fun _ _ h => PartR.mono h hle
theorem Parts.mono {S S' : Stone} {v : Value} {l : List Sh} (h : Parts S v l) (hle : Stone.le S S') : Parts S' v l := Sl.mono h hle (partC_mono hle)
theorem partC_ex {S : Stone} {cs : List Value} {s : Sh} (h : partC S cs s) : ∃ A a B b D d, cs = s.cells (.slice A s.l.length a) (.slice B s.p.length b) (.slice D s.c.length d) ∧ Recs S (.slice A s.l.length a) s.l ∧ Prds S (.slice B s.p.length b) s.p ∧ Cnss S (.slice D s.c.length d) s.c := by
 obtain ⟨A, a, B, b, D, d, e, h1, h2, h3⟩ := PartR.ex h
 injection e with e
 exact ⟨A, a, B, b, D, d, congrArg Array.toList e, h1, h2, h3⟩
theorem plain_part : PlainC partC := fun S cs s h => by obtain ⟨A, a, B, b, D, d, rfl, _⟩ := partC_ex h; rfl
theorem Parts.at {S : Stone} {A : Option Addr} {n cap : Nat} {l : List Sh} {i : Nat} {s : Sh} (h : Parts S (.slice A n cap) l) (hi : l[i]? = some s) :
 ∃ p A1 a B b D d, A = some p ∧ PartR S (.agg (s.cells (.slice A1 s.l.length a) (.slice B s.p.length b) (.slice D s.c.length d)).toArray) s ∧ ∀ (j : Nat) u, (s.cells (.slice A1 s.l.length a) (.slice B s.p.length b) (.slice D s.c.length d))[j]? = some u → S.cell ((p.add (i * 7)).add j) = some u := by
 obtain ⟨A', cap', e, _, _, h3⟩ := h
 injection e with e1 e2 e3
 obtain ⟨p, cs, hp, hC, _, h4⟩ := h3 i s hi
 obtain ⟨A1, a, B, b, D, d, rfl, _⟩ := partC_ex hC
 exact ⟨p, A1, a, B, b, D, d, by rw [e1, hp], hC, h4⟩
def liveV (l : List Sh) : Value := if l.any (fun s => s.frozen == 0) then errno 171 else .nilIface
theorem liveV_snoc {l : List Sh} {s : Sh} : liveV (l ++ [s]) = if s.frozen = 0 then errno 171 else liveV l := by
 unfold liveV
 by_cases h : s.frozen = 0
 · simp [h]
 · simp [h]
theorem usable_ok {S : Stone} {v : Value} {l : List Sh} (h : Parts S v l) (ho : ∀ s ∈ l, ShOk s ∧ s.epoch ≤ 1000000) (hl : l.length ≤ 100) : Con Tryz.prog 26 #[v] [] S (RetR fun u _ => u = liveV l) := by
 obtain ⟨A, a, rfl, ha1, ha2, -⟩ := h.shape
 refine con_of 28 Tryz.func26 rfl rfl rfl (fun w0 => ?_)
 refine sr (sa rfl (nesr (sa rfl (nes (sr (mv rfl (yy (y_ln sl_35 rfl) (mv rfl (ne (c_block (c_loopH (τ := Nat) [(7, _), (6, _), (2, _)] (fun Ek z0 => (8, i64 z0) :: (3, liveV (l.take z0)) :: Ek) (fun z0 => z0 ≤ l.length) (fun z0 => l.length - z0) (0) (Nat.zero_le _) (fun z0 hz0 K0l hr0 => ?_))))))))))))
 refine sr (yy (y_lt rfl rfl) (nes (c_cond rfl (fun g1 => ?_) (fun g1 => ?_))))
 · have hil : z0 < l.length := by simpa using g1
   obtain ⟨s, hs⟩ : ∃ r, l[z0]? = some r := ⟨_, List.getElem?_eq_getElem hil⟩
   obtain ⟨p, A1, a1, B1, b1, D1, d1, rfl, hp, hcell⟩ := Parts.at h hs
   obtain ⟨hok, hep⟩ := ho s (List.mem_of_getElem? hs)
   have htk : l.take (z0 + 1) = l.take z0 ++ [s] := by rw [List.take_add_one, hs]; rfl
   refine c_skip (e_then (c_seq (c_block (sr (yy (y_iaN sl_35 rfl rfl ao) (ll (ltm ld_30 rfl ‹_›) ?_))))))
   refine al zc_30 (fun b5 => lw (sw sz_30 (ne ?_)))
   refine c_seq (sr (ll (lbw ld_30) ?_))
   refine lw (t_callr' rfl ((check_ok hp hok).back) en_36 (yy (y_ne rfl rfl) (mv rfl (t_known (gd := 15) (v := false) rfl (by rfl) (fun hb15 => ?_)))))
   refine qy hb15 (y_far fo_30_1 rfl) (gl hb15 (lb ld_25) ?_)
   refine qy hb15 (y_addU (m := 1) rfl rfl om) (qy hb15 (y_eq rfl rfl) (yy (y_pick_f' rfl hb15 rfl) (nec rfl (fun g2 => ?_) (fun g2 => ?_))))
   · simp at g2; omega
   · refine c_skip ?_
     refine e_then (sr (yy (y_far fo_30_2 rfl) (ll (lb ld_25) ?_)))
     refine yy (y_eq rfl rfl) (nec rfl (fun g3 => ?_) (fun g3 => ?_))
     · have hfz : s.frozen = 0 := by simpa using g3
       have hlv : liveV (l.take (z0 + 1)) = errno 171 := by rw [htk, liveV_snoc, if_pos hfz]
       refine c_region (yy (y_mi co_31 rfl) (sa rfl (l_nil (e_in (e_then (c_region (yy (y_addN (m := 1) rfl rfl om) (mv rfl (ne (t_to (hr0 (z0 + 1) hil om) (he := Env.sub_cons rfl (Env.sub_cons (by rw [hlv]; rfl) (by repeat (first | exact Env.sub_nil _ | refine Env.sub_cons rfl ?_))))))))))))))
     · have hfz : ¬ s.frozen = 0 := by simpa using g3
       have hlv : liveV (l.take (z0 + 1)) = liveV (l.take z0) := by rw [htk, liveV_snoc, if_neg hfz]
       refine c_skip (e_in (e_then (c_region (yy (y_addN (m := 1) rfl rfl om) (mv rfl (ne (t_to (hr0 (z0 + 1) hil om) (he := Env.sub_cons rfl (Env.sub_cons (by rw [hlv]; rfl) (by repeat (first | exact Env.sub_nil _ | refine Env.sub_cons rfl ?_)))))))))))
 · refine c_exit ?_
   refine e_then_exit (e_then_exit (e_in_same (e_then (sr (mv rfl (sa rfl (netr ?_)))))))
   have hze : z0 = l.length := by simp at g1; omega
   subst hze
   exact f_retR rfl (rt rfl) (by show liveV _ = _; rw [List.take_length])
def errC (_ : Stone) (cs : List Value) (n : Nat) : Prop := cs = [i64 n]
def errs : List Nat := [172, 171, 131, 132, 133, 143, 145, 153]
theorem flat_err {S : Stone} : ∀ l : List Nat, Flat S 1 errC (l.map fun k => i64 k) l
 | [] => Flat.nil
 | k :: l => (Flat.one (a := k) (cs := [i64 k]) rfl rfl).app (flat_err l)
theorem number_of {S : Stone} {e : Nat} (he : e ∈ errs) : Con Tryz.prog 27 #[errno e] [] S (RetR fun u _ => u = i64 e) := by
 refine con_of 17 Tryz.func27 rfl rfl rfl (fun w0 => ?_)
 refine sr (sa rfl (nes (sr (lw (t_bs (cs := errs.map fun k => i64 k) ap_110 zc_31 (by decide) rfl rfl rfl (lt_n rfl) (fun b5 => ?_))))))
 refine t_pub (C := errC) (l := errs) Pick.hd (fun S' hle => flat_err errs) rfl (fun S1 le1 hs1 => ?_)
 refine yy (y_ln sl_110 rfl) (mv rfl (ne (c_block (c_loopH (τ := Nat) [(6, _), (5, _), (2, _), (0, _)] (fun Ek z0 => (7, i64 z0) :: Ek) (fun z0 => z0 ≤ 8 ∧ e ∉ errs.take z0) (fun z0 => 8 - z0) (0) (⟨Nat.zero_le _, by simp⟩) (fun z0 hz0 K0l hr0 => ?_)))))
 refine sr (yy (y_lt rfl rfl) (nes (c_cond rfl (fun g1 => ?_) (fun g1 => ?_))))
 · have hil : z0 < errs.length := by simp at g1; simp [errs]; omega
   obtain ⟨x, hx⟩ : ∃ r, errs[z0]? = some r := ⟨_, List.getElem?_eq_getElem hil⟩
   have hil8 : z0 < 8 := hil
   obtain ⟨A, cap, e1, -, -, h4⟩ := id hs1
   injection e1 with e2 e3 e4
   subst e2
   obtain ⟨p, cs, hpe, rfl, -, hcell⟩ := h4 z0 x hx
   injection hpe with hpe
   subst hpe
   have hc0 := hcell 0 _ rfl
   simp only [add_lit, Nat.zero_add, Nat.add_zero] at hc0
   refine c_skip (e_then (c_seq (c_block (sr (yy (y_iaNr sl_110 rfl rfl hil8) (ll (ld_st ld_31 rfl (by simpa using hc0)) ?_))))))
   refine sa rfl (nesr (mv rfl (mv rfl (yy (y_mi co_31 rfl) (lw (t_callr' rfl (errIs_plain) en_44 (nec rfl (fun g2 => ?_) (fun g2 => ?_))))))))
   · have hq : e = x := by simpa using g2
     exact sr (mv rfl (sa rfl (netr (e_in_ret (e_then_ret (e_then_ret (e_in_ret (e_then_ret (f_retR rfl (rt rfl) (by rw [hq]; rfl))))))))))
   · have hq : ¬ e = x := by simpa using g2
     exact c_skip (e_in (e_then (c_region (yy (y_addN (m := 1) rfl rfl om) (mv rfl (ne (t_to (hr0 (z0 + 1) ⟨by omega, by rw [List.take_add_one, hx]; simp; exact ⟨hz0.2, hq⟩⟩ om))))))))
 · have hze : z0 = 8 := by simp at g1; omega
   have hno : e ∉ errs := by have := hz0.2; rw [hze] at this; exact this
   exact absurd he hno
theorem ksplit_in {S : Stone} {lo hi k : Nat} (h1 : lo < 6) (h2 : lo < hi) (h3 : hi ≤ 6) (hk : lo < k ∧ k < hi) (hk6 : k < 6) : Con Tryz.prog 28 #[.agg #[.string (ky lo), .string (kh hi)], .string (ky k)] [] S (Ret (.tuple #[.agg #[.string (ky lo), .string (ky k)], .agg #[.string (ky k), .string (kh hi)], .int .i64 0]) S) := by
 have hks := ky_size_le k
 refine con_of 39 Tryz.func28 rfl rfl rfl (fun w0 => ?_)
 refine sr (bx rfl rfl (fun b2 => al zc_24 (fun b4 => al zc_24 (fun b5 => sa rfl (nesr (ll (lbw ld_24) ?_))))))
 refine lw (t_callr' rfl (range_ok h1 h2 h3) en_7 (sa rfl (nes (c_block (sr (mv rfl (yy (y_ne rfl rfl) (sa rfl (ne (c_false rfl (sr (mv rfl (yy (y_slen st_9 rfl) (yy (y_gt rfl rfl) (sa rfl (nec rfl (fun g2 => ?_) (fun g2 => ?_)))))))))))))))))
 · simp at g2; omega
 · refine c_seq ?_
   refine c_cutv (d := 25) (v := .bool false) (fun K3v hK3v => ?_) ?_
   · -- the value
     refine c_region (mv rfl (yy (y_far fo_24_0 rfl) (ll (lb ld_9) ?_)))
     refine yy (y_seq rfl rfl) (mv rfl ?_)
     apply l_or 5 (gd := 30) (d := 35) rfl
     · intro hb30 K4 hK4
       refine gl hb30 (lbw ld_24) ?_
       exact qy hb30 (y_move rfl) (gw hb30 (t_callr' rfl (has_ok h1 h2 h3 hk6) en_45 (qy hb30 (y_not rfl) (yy (y_pick_f' rfl hb30 rfl) (lk_end hK4)))))
     · intro hb30 K4 hK4
       exact qn hb30 (qn hb30 (qn hb30 (qn hb30 (yy (y_pick_t' rfl hb30 rfl) (lk_end hK4)))))
     exact sa rfl (l_nil (lk_val hK3v rfl (congrArg Value.bool (by first | (have h := hb30; rw [ky_eq hk6 h1] at h; simp at h; exact absurd h om) | (simp; omega) | (rw [ky_eq hk6 h1]; simp; omega)))))
   refine c_false rfl (c_seq (dR ([.blk b2 (.cells [.string (ky lo), .string (kh hi)].toArray 24 (0, 0))]) [1, 6] (.take 0 (.take 1 (.take 2 (.take 3 (.take 4 (.take 5 (.take 6 (.take 7 (.alt 8 (.alt 9 (.take 10 .done) .stop) .stop))))))))) ?_))
   refine ey rfl (y_far fo_24_0 rfl) (dl rfl (lb ld_9) ?_)
   refine em rfl rfl (ey rfl (y_build pl_24 zc_24 rfl rfl) (em rfl rfl (ey rfl (y_far fo_24_1 rfl) (dl rfl (lb ld_9) ?_))))
   refine ey rfl (y_build pl_24 zc_24 rfl rfl) (da rfl (sw sz_24 ?_))
   refine dA (Stone.le.refl _) (da rfl (sw sz_24 ?_))
   exact dA (Stone.le.refl _) (ea rfl rfl (d_done (e_then (c_ret (e_in_ret (e_then_ret (f_ret0 rfl (ResV.agg ld_24 rfl pk rfl (ResV.agg ld_24 rfl pk rfl (rt rfl))) rfl rfl)))))))
theorem ksplit_out {S : Stone} {lo hi k : Nat} (h1 : lo < 6) (h2 : lo < hi) (h3 : hi ≤ 6) (hk : ¬ (lo < k ∧ k < hi)) (hk6 : k < 6) : Con Tryz.prog 28 #[.agg #[.string (ky lo), .string (kh hi)], .string (ky k)] [] S (Ret (.tuple #[.agg #[.string ⟨#[]⟩, .string ⟨#[]⟩], .agg #[.string ⟨#[]⟩, .string ⟨#[]⟩], .int .i64 132]) S) := by
 have hks := ky_size_le k
 refine con_of 39 Tryz.func28 rfl rfl rfl (fun w0 => ?_)
 refine sr (bx rfl rfl (fun b2 => al zc_24 (fun b4 => al zc_24 (fun b5 => sa rfl (nesr (ll (lbw ld_24) ?_))))))
 refine lw (t_callr' rfl (range_ok h1 h2 h3) en_7 (sa rfl (nes (c_block (sr (mv rfl (yy (y_ne rfl rfl) (sa rfl (ne (c_false rfl (sr (mv rfl (yy (y_slen st_9 rfl) (yy (y_gt rfl rfl) (sa rfl (nec rfl (fun g2 => ?_) (fun g2 => ?_)))))))))))))))))
 · simp at g2; omega
 · refine c_seq ?_
   refine c_cutv (d := 25) (v := .bool true) (fun K3v hK3v => ?_) ?_
   · -- the value
     refine c_region (mv rfl (yy (y_far fo_24_0 rfl) (ll (lb ld_9) ?_)))
     refine yy (y_seq rfl rfl) (mv rfl ?_)
     apply l_or 5 (gd := 30) (d := 35) rfl
     · intro hb30 K4 hK4
       refine gl hb30 (lbw ld_24) ?_
       exact qy hb30 (y_move rfl) (gw hb30 (t_callr' rfl (has_ok h1 h2 h3 hk6) en_45 (qy hb30 (y_not rfl) (yy (y_pick_f' rfl hb30 rfl) (lk_end hK4)))))
     · intro hb30 K4 hK4
       exact qn hb30 (qn hb30 (qn hb30 (qn hb30 (yy (y_pick_t' rfl hb30 rfl) (lk_end hK4)))))
     exact sa rfl (l_nil (lk_val hK3v rfl (congrArg Value.bool (by rw [ky_eq hk6 h1]; simp; omega))))
   refine c_true rfl (c_region (sa rfl (l_nil (e_in (e_then (sr (yy (y_build pl_24 zc_24 rfl rfl) ?_)))))))
   refine yy (y_build pl_24 zc_24 rfl rfl) (mv rfl (lw (sw sz_24 ?_)))
   refine lw (sw sz_24 (sa rfl ?_))
   exact netr (f_ret0 rfl (ResV.agg ld_24 rfl pk rfl (ResV.agg ld_24 rfl pk rfl (rt rfl))) rfl rfl)
/-- A state's part. -/
def halfS (s : Sh) (lo hi : Nat) : Sh := ⟨lo, hi, s.epoch + 1, 0, renum (s.l.filter (inR lo hi)), s.p.map (moveP (keepTo (inR lo hi) s.l)), mapC s.c (keepTo (inR lo hi) s.l)⟩
theorem keepTo_len (q : Rec → Bool) (l : List Rec) : (keepTo q l).length = l.length + 1 := by simp [keepTo]
theorem halfS_ok {S : Stone} {s : Sh} {b0 : Nat} {A B D : Option Addr} {a b d lo hi : Nat} (hr : Recs S (.slice A s.l.length a) s.l) (hp : Prds S (.slice B s.p.length b) s.p) (hc : Cnss S (.slice D s.c.length d) s.c)
 (hcell : ∀ (j : Nat) u, (s.cells (.slice A s.l.length a) (.slice B s.p.length b) (.slice D s.c.length d))[j]? = some u → S.cell ⟨b0, 0 + j, none⟩ = some u) (ho : ShOk s) (he : s.epoch ≤ 1000000) (h1 : lo < 6) (h2 : lo < hi) (h3 : hi ≤ 6) :
 Con Tryz.prog 29 #[.agg #[.string (ky lo), .string (kh hi)], .pointer (some ⟨b0, 0, none⟩)] [] S (RetR fun u S' => PartR S' u (halfS s lo hi)) := by
 have k1 := hcell 2 _ rfl
 have k3 := hcell 4 _ rfl
 have k4 := hcell 5 _ rfl
 have k5 := hcell 6 _ rfl
 have hkl := keepTo_len (inR lo hi) s.l
 have hcl := ho.cl
 have hpl := ho.pl
 refine con_of 27 Tryz.func29 rfl rfl rfl (fun w0 => ?_)
 refine sr (bx rfl rfl (fun b2 => al zc_30 (fun b3 => nesr (yy (y_far fo_30_3 rfl) (ll (ld_st ld_26 rfl ‹_›) ?_)))))
 refine ll (lbw ld_24) ?_
 refine lw (t_callR rfl (keep_ok hr ho.num ho.ll h1 h2 h3 (fun r hr => (ho.ord.key r hr).1)) en_30 ?_)
 rintro v10 S10 le10 ⟨v11, v12, rfl, h11, h12⟩
 obtain ⟨A11, a11, rfl, -⟩ := h11.shape
 obtain ⟨A12, a12, rfl, -⟩ := h12.shape
 have hp10 := hp.mono le10
 have hc10 := hc.mono le10
 have k1 := le10.cell k1
 have k4 := le10.cell k4
 have k5 := le10.cell k5
 refine mv rfl (yy (y_ext rfl rfl) (yy (y_ext rfl rfl) (sa rfl (sa rfl (nes (dR ([.blk b2 (.cells [.string (ky lo), .string (kh hi)].toArray 24 (0, 0))]) [0, 2, 6, 10] (.take 0 (.take 1 (.take 2 (.take 3 (.take 4 (.take 5 (.take 6 (.take 7 (.take 9 (.take 10 (.take 11 (.alt 8 (.alt 12 (.take 13 (.alt 14 .done .stop)) .stop) .stop)))))))))))) ?_))))))
 refine dl rfl (lbw ld_24) ?_
 refine ey rfl (y_far fo_30_1 rfl) (dl rfl (ld_st ld_25 rfl ‹_›) ?_)
 refine ey rfl (y_addU (m := 1) rfl rfl om) (em rfl rfl (ey rfl (y_far fo_30_4 rfl) (dl rfl (ld_st ld_27 rfl ‹_›) ?_)))
 refine em rfl rfl (ey rfl (y_far fo_30_5 rfl) (dl rfl (ld_st ld_28 rfl ‹_›) ?_))
 refine em rfl rfl (da rfl (t_callR rfl (move_ok hp10 h12 om (fun x hx hh => by obtain ⟨r, hr, -⟩ := ho.here x hx hh; have := (List.getElem?_eq_some_iff.1 hr).1; omega)) en_31 ?_))
 rintro v21 S21 le21 h21
 obtain ⟨A21, a21, rfl, -⟩ := h21.shape
 have hc21 := Cnss.mono hc10 le21
 have h12' := Nats.mono h12 le21
 refine dA le21 (da rfl (t_callR rfl (map_ok hc21 h12' om om) en_32 ?_))
 rintro v25 S25 le25 h25
 obtain ⟨A25, a25, rfl, -⟩ := h25.shape
 refine dA (le21.trans le25) (ey rfl (y_build pl_30 zc_30 rfl rfl) (da rfl (sw sz_30 ?_)))
 exact dA (le21.trans le25) (d_done (e_then (c_ret (f_retR rfl (ResV.agg ld_30 rfl pk rfl rn) ⟨_, _, _, rfl, Recs.mono h11 (le21.trans le25), Prds.mono h21 le25, h25⟩))))
end Go.Proofs.YtkdmbimkanjbhaaGreatDoor.Eng
namespace Go.Proofs.YtkdmbimkanjbhaaGreatDoor.Eng
open Go Go.Proofs
set_option maxRecDepth 100000
attribute [local irreducible] Tr
theorem split_live {S : Stone} {v : Value} {s : Sh} {k : Nat} (h : PartR S v s) (ho : ShOk s) (he : s.epoch ≤ 1000000) (hk6 : k < 6) (hf : s.frozen = 0) :
 Con Tryz.prog 19 #[v, .string (ky k)] [] S (RetR fun u S' => u = .tuple #[.agg ([.string ⟨#[]⟩, .string ⟨#[]⟩, .int .u64 0, .int .u64 0, .slice none 0 0, .slice none 0 0, .slice none 0 0] : List Value).toArray, .agg ([.string ⟨#[]⟩, .string ⟨#[]⟩, .int .u64 0, .int .u64 0, .slice none 0 0, .slice none 0 0, .slice none 0 0] : List Value).toArray, i64 171]) := by
 have h' := h
 obtain ⟨A, a, B, b, D, d, rfl, hr, hp, hcv⟩ := h.ex
 have hlo := ho.lo
 have hlh := ho.lh
 have hhi := ho.hi
 refine con_of 41 Tryz.func19 rfl rfl rfl (fun w0 => ?_)
 refine sr (bx rfl rfl (fun b2 => al zc_30 (fun b4 => al zc_30 (fun b5 => sa rfl (nes (sr (ll (lbw ld_30) ?_)))))))
 refine lw (t_bs1 ap_35 zc_30 rfl rfl rfl rfl rfl (fun b13 => t_pub (C := partC) (l := [s]) Pick.hd (fun S' hle => Flat.one (a := s) (h'.mono hle) rfl) rfl (fun S1 le1 hs1 => ?_)))
 refine lw (t_callr' rfl ((usable_ok hs1 (by intro s' hs'; simp at hs'; subst hs'; exact ⟨ho, he⟩) (by simp)).back) en_26 ?_)
 rw [show liveV [s] = errno 171 by simp [liveV, hf]]
 refine sa rfl (nesr (mv rfl (yy (y_innil if_86 rfl) (ne (c_true rfl (sr (yy (y_build pl_30 zc_30 rfl rfl) (yy (y_build pl_30 zc_30 rfl rfl) (mv rfl (lw (t_callr' rfl ((number_of (e := 171) (by decide)).back) en_27 ?_)))))))))))
 refine lw (sw sz_30 ?_)
 refine lw (sw sz_30 ?_)
 refine sa rfl (l_nil ?_)
 exact e_then (c_ret (e_then_ret (f_retR rfl (ResV.agg ld_30 rfl pk rfl (ResV.agg ld_30 rfl pk rfl (rt rfl))) rfl)))
theorem split_out {S : Stone} {v : Value} {s : Sh} {k : Nat} (h : PartR S v s) (ho : ShOk s) (he : s.epoch ≤ 1000000) (hk6 : k < 6) (hf : ¬ s.frozen = 0) (hk : ¬ (s.lo < k ∧ k < s.hi)) :
 Con Tryz.prog 19 #[v, .string (ky k)] [] S (RetR fun u S' => u = .tuple #[.agg ([.string ⟨#[]⟩, .string ⟨#[]⟩, .int .u64 0, .int .u64 0, .slice none 0 0, .slice none 0 0, .slice none 0 0] : List Value).toArray, .agg ([.string ⟨#[]⟩, .string ⟨#[]⟩, .int .u64 0, .int .u64 0, .slice none 0 0, .slice none 0 0, .slice none 0 0] : List Value).toArray, i64 132]) := by
 have h' := h
 obtain ⟨A, a, B, b, D, d, rfl, hr, hp, hcv⟩ := h.ex
 have hlo := ho.lo
 have hlh := ho.lh
 have hhi := ho.hi
 refine con_of 41 Tryz.func19 rfl rfl rfl (fun w0 => ?_)
 refine sr (bx rfl rfl (fun b2 => al zc_30 (fun b4 => al zc_30 (fun b5 => sa rfl (nes (sr (ll (lbw ld_30) ?_)))))))
 refine lw (t_bs1 ap_35 zc_30 rfl rfl rfl rfl rfl (fun b13 => t_pub (C := partC) (l := [s]) Pick.hd (fun S' hle => Flat.one (a := s) (h'.mono hle) rfl) rfl (fun S1 le1 hs1 => ?_)))
 refine lw (t_callr' rfl ((usable_ok hs1 (by intro s' hs'; simp at hs'; subst hs'; exact ⟨ho, he⟩) (by simp)).back) en_26 ?_)
 rw [show liveV [s] = .nilIface by simp [liveV, hf]]
 refine sa rfl (nesr (mv rfl (yy (y_innil0 if_86 rfl) (ne (c_false rfl (c_skip (e_then (sr (yy (y_far fo_30_0 rfl) (ll (lbs ld_24) ?_))))))))))
 refine mv rfl (lw (t_callr' rfl (ksplit_out hlo hlh hhi hk hk6) en_28 (mv rfl (yy (y_ext rfl rfl) (yy (y_ext rfl rfl) (yy (y_ext rfl rfl) ?_))))))
 refine al zc_24 (fun b8 => al zc_24 (fun b9 => lw (sw sz_24 ?_)))
 refine lw (sw sz_24 (sa rfl (l_nil ?_)))
 refine e_then (c_seq (sr (mv rfl (yy (y_ne rfl rfl) (ne (c_true rfl ?_))))))
 refine sr (yy (y_build pl_30 zc_30 rfl rfl) (yy (y_build pl_30 zc_30 rfl rfl) ?_))
 refine mv rfl (lw (sw sz_30 ?_))
 refine lw (sw sz_30 (sa rfl ?_))
 exact netr (e_then_ret (f_retR rfl (ResV.agg ld_30 rfl pk rfl (ResV.agg ld_30 rfl pk rfl (rt rfl))) rfl))
theorem split_yes {S : Stone} {v : Value} {s : Sh} {k : Nat} (h : PartR S v s) (ho : ShOk s) (he : s.epoch ≤ 1000000) (hk6 : k < 6) (hf : ¬ s.frozen = 0) (hk : s.lo < k ∧ k < s.hi) :
 Con Tryz.prog 19 #[v, .string (ky k)] [] S (RetR fun u S' => ∃ v1 v2, u = .tuple #[v1, v2, .int .i64 0] ∧ PartR S' v1 (halfS s s.lo k) ∧ PartR S' v2 (halfS s k s.hi)) := by
 have h' := h
 obtain ⟨A, a, B, b, D, d, rfl, hr, hp, hcv⟩ := h.ex
 have hlo := ho.lo
 have hlh := ho.lh
 have hhi := ho.hi
 refine con_of 41 Tryz.func19 rfl rfl rfl (fun w0 => ?_)
 refine sr (bx rfl rfl (fun b2 => al zc_30 (fun b4 => al zc_30 (fun b5 => sa rfl (nes (sr (ll (lbw ld_30) ?_)))))))
 refine lw (t_bs1 ap_35 zc_30 rfl rfl rfl rfl rfl (fun b13 => t_pub (C := partC) (l := [s]) Pick.hd (fun S' hle => Flat.one (a := s) (h'.mono hle) rfl) rfl (fun S1 le1 hs1 => ?_)))
 refine lw (t_callr' rfl ((usable_ok hs1 (by intro s' hs'; simp at hs'; subst hs'; exact ⟨ho, he⟩) (by simp)).back) en_26 ?_)
 rw [show liveV [s] = .nilIface by simp [liveV, hf]]
 refine sa rfl (nesr (mv rfl (yy (y_innil0 if_86 rfl) (ne (c_false rfl (c_skip (e_then (sr (yy (y_far fo_30_0 rfl) (ll (lbs ld_24) ?_))))))))))
 refine mv rfl (lw (t_callr' rfl (ksplit_in hlo hlh hhi hk hk6) en_28 (mv rfl (yy (y_ext rfl rfl) (yy (y_ext rfl rfl) (yy (y_ext rfl rfl) ?_))))))
 refine al zc_24 (fun b8 => al zc_24 (fun b9 => lw (sw sz_24 ?_)))
 refine lw (sw sz_24 (sa rfl (l_nil ?_)))
 refine e_then (c_seq (sr (mv rfl (yy (y_ne rfl rfl) (ne (c_false rfl (c_skip (e_then (sr (t_stone (b := b2) pk (fun S5 le5 hS5 => ?_)))))))))))
 have hcell : ∀ (j : Nat) u, (s.cells (.slice A s.l.length a) (.slice B s.p.length b) (.slice D s.c.length d))[j]? = some u → S5.cell ⟨b2, 0 + j, none⟩ = some u := fun j u hu => by simp [Stone.cell, hS5, hu]
 have hr5 := hr.mono (le1.trans le5)
 have hp5 := hp.mono (le1.trans le5)
 have hc5 := hcv.mono (le1.trans le5)
 have hkk : kh k = ky k := kh_lt hk6
 refine yy (y_mf' rfl rfl) (sa rfl (nes (dR ([.blk b8 (.cells [.string (ky s.lo), .string (ky k)].toArray 24 (0, 0)), .blk b9 (.cells [.string (ky k), .string (kh s.hi)].toArray 24 (0, 0))]) [1, 4] (.take 0 (.take 1 (.take 3 (.take 4 (.alt 2 (.alt 5 (.alt 6 (.alt 7 (.take 8 .done) .stop) .stop) .stop) .stop))))) ?_)))
 refine em rfl rfl ?_
 refine dl rfl (lbw ld_24) ?_
 refine em rfl rfl ?_
 refine dl rfl (lbw ld_24) ?_
 refine da rfl (t_callv (vs := [.agg #[.string (ky s.lo), .string (ky k)]]) (v1 := []) (v2 := [.pointer (some ⟨b2, 0, none⟩)]) (I := []) rfl en_29 rfl (List.Perm.refl _) (by have := halfS_ok (lo := s.lo) (hi := k) hr5 hp5 hc5 hcell ho he hlo hk.1 om; rw [hkk] at this; exact this) (lt_n rfl) ?_)
 rintro v37 I37 S37 le37 ⟨h37, rfl⟩
 obtain ⟨A1, a1, B1, b1, D1, d1, rfl, -⟩ := h37.ex
 have hr6 := hr5.mono le37
 have hp6 := hp5.mono le37
 have hc6 := hc5.mono le37
 have hcell6 : ∀ (j : Nat) u, (s.cells (.slice A s.l.length a) (.slice B s.p.length b) (.slice D s.c.length d))[j]? = some u → S37.cell ⟨b2, 0 + j, none⟩ = some u := fun j u hu => le37.cell (hcell j u hu)
 refine dA le37 ?_
 refine da rfl ?_
 refine t_callv (vs := [.agg #[.string (ky k), .string (kh s.hi)]]) (v1 := []) (v2 := [.pointer (some ⟨b2, 0, none⟩)]) (I := []) rfl en_29 rfl (List.Perm.refl _) (halfS_ok (lo := k) (hi := s.hi) hr6 hp6 hc6 hcell6 ho he hk6 hk.2 hhi) (lt_n rfl) ?_
 rintro v40 I40 S40 le40 ⟨h40, rfl⟩
 obtain ⟨A2, a2, B2, b2', D2, d2, rfl, -⟩ := h40.ex
 refine dA (le37.trans le40) ?_
 refine da rfl ?_
 refine sw sz_30 ?_
 refine dA (le37.trans le40) ?_
 refine da rfl ?_
 refine sw sz_30 ?_
 exact dA (le37.trans le40) (ea rfl rfl (d_done (e_then (c_ret (f_retR rfl (ResV.agg ld_30 rfl pk rfl (ResV.agg ld_30 rfl pk rfl (rt rfl))) ⟨_, _, rfl, h37.mono le40, h40⟩)))))
end Go.Proofs.YtkdmbimkanjbhaaGreatDoor.Eng
namespace Go.Proofs.YtkdmbimkanjbhaaGreatDoor.Eng
open Go Go.Proofs
set_option maxRecDepth 100000
attribute [local irreducible] Tr
theorem indexFunc_123 {S : Stone} {v : Value} {l : List Rec} {f : FuncId} {fv : List Value} {q : Rec → Bool} (h : Recs S v l) (hk : enK Tryz.prog f = true) (hq : ∀ x ∈ l, ∀ bv, Byt S bv x.val → Con Tryz.prog f ([] ++ [Value.agg (x.cells bv).toArray] ++ fv).toArray [] S (Ret (.bool (q x)) S)) :
 Con Tryz.prog 123 #[v, .func (.func f) #[] fv.toArray] [] S (Ret (.int .i64 (indexOf q l)) S) := by
 obtain ⟨A, cap, rfl, hc, hm, -⟩ := h.shape
 refine con_of 19 Tryz.func123 rfl rfl rfl (fun w0 => ?_)
 refine sr (sa rfl (nes (sr (mv rfl (yy (y_ln sl_26 rfl) (mv rfl (ne (c_block (c_loopH (τ := Nat) [(7, _), (4, _), (0, _), (1, _)] (fun Ek z0 => (8, i64 z0) :: Ek) (fun z0 => z0 ≤ l.length ∧ (l.take z0).any q = false) (fun z0 => l.length - z0) (0) (⟨Nat.zero_le _, rfl⟩) (fun z0 hz0 K0l hr0 => ?_))))))))))
 refine sr (yy (y_lt rfl rfl) (nes (c_cond rfl (fun g1 => ?_) (fun g1 => ?_))))
 · have hil : z0 < l.length := by simpa using g1
   obtain ⟨r, hr⟩ : ∃ r, l[z0]? = some r := ⟨_, List.getElem?_eq_getElem hil⟩
   obtain ⟨p, bv, rfl, hb, f0, f1, f2, f3, f4, f5⟩ := h.at hr
   refine c_skip (e_then (c_seq (c_block (sr (mv rfl (sa rfl (nesr (mv rfl (mv rfl (mv rfl (yy (y_iaN sl_26 rfl rfl ao) (ll (ltm ld_84 rfl ‹_›) ?_))))))))))))
   refine lw (t_callvr' rfl rfl (hq r (List.mem_of_getElem? hr) bv hb) hk (nec rfl (fun g2 => ?_) (fun g2 => ?_)))
   · refine c_seq ?_
     exact c_region (mv rfl (sa rfl (netr (e_in_ret (e_then_ret (e_then_ret (e_in_ret (e_then_ret (f_ret0 rfl (rt rfl) (by rw [indexOf_at hz0.2 hr g2]; rfl) rfl)))))))))
   · refine c_skip ?_
     exact e_in (e_then (c_region (yy (y_addN (m := 1) rfl rfl om) (mv rfl (ne (t_to (hr0 (z0 + 1) ⟨by omega, any_next hz0.2 hr g2⟩ om)))))))
 · refine c_exit ?_
   refine e_then_exit (e_then_exit (e_in_same (e_then (sr (sa rfl (netr ?_))))))
   have hzl : z0 = l.length := by simp at g1; omega
   have hno : l.any q = false := by have := hz0.2; rwa [hzl, List.take_length] at this
   exact f_ret0 rfl (rt rfl) (by unfold indexOf; rw [hno]; rfl) rfl
theorem rcontains_ok {S : Stone} {v : Value} {l : List Rec} {f : FuncId} {fv : List Value} {q : Rec → Bool} (h : Recs S v l) (hk : enK Tryz.prog f = true) (hq : ∀ x ∈ l, ∀ bv, Byt S bv x.val → Con Tryz.prog f ([] ++ [Value.agg (x.cells bv).toArray] ++ fv).toArray [] S (Ret (.bool (q x)) S)) :
 Con Tryz.prog 101 #[v, .func (.func f) #[] fv.toArray] [] S (Ret (.bool (l.any q)) S) := by
 refine con_of 9 Tryz.func101 rfl rfl rfl (fun w0 => ?_)
 exact sr (sa rfl (nesr (mv rfl (mv rfl (lw (t_callr' rfl (indexFunc_123 h hk hq) en_123 (yy (y_ge rfl rfl) (sa rfl (netr (f_ret0 rfl (rt rfl) (by show Value.bool _ = Value.bool _; congr 1; unfold indexOf; split <;> simp_all) rfl))))))))))
theorem lowcl_ok {S : Stone} {x r : Rec} {bv : Value} {b0 : Nat} (hb : Byt S bv x.val) (h3 : S.cell ⟨b0, 0 + 3, none⟩ = some (u64 r.prod)) (h4 : S.cell ⟨b0, 0 + 4, none⟩ = some (u64 r.seq)) : Con Tryz.prog 102 #[.agg (x.cells bv).toArray, .pointer (some ⟨b0, 0, none⟩)] [] S (Ret (.bool (isLower r x)) S) := by
 obtain ⟨pb, cb, rfl, -⟩ := id hb
 refine con_of 16 Tryz.func102 rfl rfl rfl (fun w0 => ?_)
 refine sr (bx rfl rfl (fun b2 => sa rfl (nesr (yy (y_far fo_84_3 rfl) (ll (lb ld_25) ?_)))))
 refine yy (y_far fo_84_3 rfl) (ll (ld_st ld_25 rfl ‹_›) ?_)
 refine yy (y_eq rfl rfl) (mv rfl ?_)
 apply l_and 6 (gd := 9) (d := 15) rfl
 · intro hb9 K1 hK1
   refine qy hb9 (y_far fo_84_4 rfl) (gl hb9 (lb ld_25) ?_)
   refine qy hb9 (y_far fo_84_4 rfl) (gl hb9 (ld_st ld_25 rfl ‹_›) ?_)
   exact qy hb9 (y_lt rfl rfl) (yy (y_pick_t' rfl hb9 rfl) (lk_end hK1))
 · intro hb9 K1 hK1
   exact qn hb9 (qn hb9 (qn hb9 (qn hb9 (qn hb9 (yy (y_pick_f' rfl hb9 rfl) (lk_end hK1))))))
 refine sa rfl (netr ?_)
 exact f_ret0 rfl (rt rfl) (by
  show Value.bool _ = Value.bool _
  congr 1
  have q1 : ((x.prod : Int) == (r.prod : Int)) = (x.prod == r.prod) := by rw [Bool.eq_iff_iff]; simp; omega
  have q2 : (decide ((x.seq : Int) < (r.seq : Int))) = decide (x.seq < r.seq) := by rw [Bool.eq_iff_iff]; simp
  rw [q1, q2]; rfl) rfl
theorem wait_ok {S : Stone} {A : Option Addr} {n c bx by' : Nat} {w tv uv : Value} {r : Rec} {p q : List Rec} (hp : Recs S (.slice A n c) (r :: p)) (hn : n = (r :: p).length) (hq : Recs S w q) :
 Con Tryz.prog 82 #[.pointer (some ⟨bx, 0, none⟩), .pointer (some ⟨by', 0, none⟩)] [.blk bx (.cells [.slice A n c, tv].toArray 170 (0, 0)), .blk by' (.cells [w, uv].toArray 170 (0, 0))] S
  (fun u I' _ => u = .bool (q.any (isLower r)) ∧ I' = [.blk bx (.cells [.slice A n c, tv].toArray 170 (0, 0)), .blk by' (.cells [w, uv].toArray 170 (0, 0))]) := by
 subst hn
 obtain ⟨p1, bv, rfl, hb, f0, f1, f2, f3, f4, f5⟩ := hp.at (i := 0) rfl
 obtain ⟨pb, cb, rfl, -⟩ := id hb
 refine con_of 18 Tryz.func82 rfl rfl rfl (fun w0 => ?_)
 refine sr (sa rfl (nesr (mv rfl (yy (y_nil rfl) (yy (y_far fo_170_0 rfl) (ll (lb ld_26) ?_))))))
 refine yy (y_iaN (i := 0) sl_26 rfl rfl (by simp)) ?_
 refine ll (ltm ld_84 rfl ‹_›) ?_
 refine al zc_84 (fun b5 => lw (sw sz_84 (nesr (t_stone (b := b5) pk (fun S1 le1 hS1 => ?_)))))
 refine mv rfl (yy (y_nil rfl) (yy (y_far fo_170_0 rfl) (ll (lb ld_26) ?_)))
 refine yy (y_mf' rfl rfl) (lw (t_callr' rfl (rcontains_ok (q := isLower r) (hq.mono le1) en_102 (fun x hx bv hb => lowcl_ok hb (by simp [Stone.cell, hS1]; rfl) (by simp [Stone.cell, hS1]; rfl))) en_101 ?_))
 exact sa rfl (netr (f_retS rfl (rt rfl) ⟨rfl, rfl⟩))
def rngC (_ : Stone) (cs : List Value) (x : Nat × Nat) : Prop := cs = [.string (ky x.1), .string (kh x.2)]
theorem kmerge_ok {S : Stone} {lo m hi : Nat} (h1 : lo < m) (h2 : m < hi) (h3 : hi ≤ 6) : Con Tryz.prog 50 #[.agg #[.string (ky lo), .string (kh m)], .agg #[.string (ky m), .string (kh hi)]] [] S (Ret (.tuple #[.agg #[.string (ky lo), .string (kh hi)], .int .i64 0]) S) := by
 have hkm : kh m = ky m := kh_lt om
 refine Con.back ?_
 refine con_of 42 Tryz.func50 rfl rfl rfl (fun w0 => ?_)
 refine sr (bx rfl rfl (fun b2 => bx rfl rfl (fun b3 => al zc_24 (fun b4 => sa rfl (nes (sr (ll (lbw ld_24) ?_)))))))
 refine ll (lbw ld_24) ?_
 refine lw (t_bs (cs := [.string (ky lo), .string (kh m), .string (ky m), .string (kh hi)]) ap_167 zc_24 (by decide) rfl rfl rfl (lt_n rfl) (fun b11 => ?_))
 refine t_pub (C := rngC) (l := [(lo, m), (m, hi)]) Pick.hd (fun S' hle => (Flat.one (a := (lo, m)) (cs := [.string (ky lo), .string (kh m)]) rfl rfl).app (Flat.one (a := (m, hi)) (cs := [.string (ky m), .string (kh hi)]) rfl rfl)) rfl (fun S1 le1 hs1 => ?_)
 refine yy (y_ln sl_167 rfl) (mv rfl (ne (c_block (c_loopH (τ := Nat) [(12, _), (11, _), (5, _), (4, _), (3, _), (2, _)] (fun Ek z0 => (13, i64 z0) :: Ek) (fun z0 => z0 ≤ 2) (fun z0 => 2 - z0) (0) (Nat.zero_le _) (fun z0 hz0 K0l hr0 => ?_)))))
 refine sr (yy (y_lt rfl rfl) (nes (c_cond rfl (fun g1 => ?_) (fun g1 => ?_))))
 · have hil : z0 < [(lo, m), (m, hi)].length := by simp at g1; simp; omega
   obtain ⟨x, hx⟩ : ∃ r, [(lo, m), (m, hi)][z0]? = some r := ⟨_, List.getElem?_eq_getElem hil⟩
   have hil2 : z0 < 2 := hil
   obtain ⟨A, cap, e1, -, -, h4⟩ := id hs1
   injection e1 with e2 e3 e4
   subst e2
   obtain ⟨p, cs, hpe, rfl, hcl, hcell⟩ := h4 z0 x hx
   injection hpe with hpe
   subst hpe
   have hxx : x.1 < 6 ∧ x.1 < x.2 ∧ x.2 ≤ 6 := by
    have hm := List.mem_of_getElem? hx
    simp at hm
    rcases hm with rfl | rfl
    · simp only; omega
    · simp only; omega
   refine c_skip (e_then (c_seq (c_block (sr (yy (y_iaN sl_167 rfl rfl hil2) (ll (ltm ld_24 rfl ‹_›) ?_))))))
   refine al zc_24 (fun b7 => lw (sw sz_24 (ne ?_)))
   refine sr (ll (lbw ld_24) ?_)
   exact lw (t_callr' rfl (range_ok hxx.1 hxx.2.1 hxx.2.2) en_7 (sa rfl (nesr (mv rfl (yy (y_ne rfl rfl) (ne (c_false rfl (c_skip (e_in (e_then (c_region (yy (y_addN (m := 1) rfl rfl om) (mv rfl (ne (t_to (hr0 (z0 + 1) om om))))))))))))))))
 · refine c_exit ?_
   refine e_then_exit (e_then_exit (e_in_same (e_then (c_seq (sr (yy (y_far fo_24_1 rfl) (ll (lb ld_9) ?_)))))))
   refine yy (y_seq rfl rfl) (mv rfl (t_known (gd := 27) (v := false) rfl (by rw [kh_empty om om]; simp; omega) (fun hb27 => ?_)))
   refine qy hb27 (y_far fo_24_1 rfl) (gl hb27 (lb ld_9) ?_)
   refine qy hb27 (y_build pl_24 zc_24 rfl rfl) (qy hb27 (y_far fo_24_0 rfl) (gl hb27 (lb ld_9) ?_))
   refine qy hb27 (y_build pl_24 zc_24 rfl rfl) (qy hb27 (y_stne rfl rfl eg_24 (fun w => by rw [hkm]; exact ne_24 _ _ w)) ?_)
   refine yy (y_pick_f' rfl hb27 rfl) (ne (c_false rfl (c_skip (e_then (sr (yy (y_far fo_24_0 rfl) (ll (lb ld_9) ?_)))))))
   refine yy (y_far fo_24_1 rfl) (ll (lb ld_9) ?_)
   refine yy (y_build pl_24 zc_24 rfl rfl) (lw (sw sz_24 (sa rfl (l_nil ?_))))
   exact e_then (c_ret (f_retR rfl (ResV.agg ld_24 rfl pk rfl (rt rfl)) rfl))
end Go.Proofs.YtkdmbimkanjbhaaGreatDoor.Eng
namespace Go.Proofs.YtkdmbimkanjbhaaGreatDoor.Eng
open Go Go.Proofs
set_option maxRecDepth 100000
attribute [local irreducible] Tr
/-- Must a log's first record wait? -/
def blocked (p q : List Rec) : Bool := match p with | [] => true | r :: _ => q.any (isLower r)
def joinF : Nat → List Rec → List Rec → List Rec → List Nat → List Nat → Option (List Rec × List Nat × List Nat)
 | 0, _, _, out, ta, tb => some (out, ta, tb)
 | f + 1, p, q, out, ta, tb =>
  if blocked p q = false then joinF f p.tail q (out ++ p.take 1) (ta ++ [out.length]) tb
  else if blocked q p = false then joinF f p q.tail (out ++ q.take 1) ta (tb ++ [out.length])
  else none
def joinL (a b : List Rec) : Option (List Rec × List Nat × List Nat) := joinF (a.length + b.length) a b [] [] []
theorem joinF_x {p q out : List Rec} {ta tb : List Nat} {r : Rec} (h : blocked (r :: p) q = false) : joinF ((r :: p).length + q.length) (r :: p) q out ta tb = joinF (p.length + q.length) p q (out ++ [r]) (ta ++ [out.length]) tb := by
 rw [show (r :: p).length + q.length = (p.length + q.length) + 1 by simp; omega]
 simp [joinF, h]
theorem joinF_y {p q out : List Rec} {ta tb : List Nat} {r : Rec} (h : blocked p (r :: q) = true) (h' : blocked (r :: q) p = false) : joinF (p.length + (r :: q).length) p (r :: q) out ta tb = joinF (p.length + q.length) p q (out ++ [r]) ta (tb ++ [out.length]) := by
 rw [show p.length + (r :: q).length = (p.length + q.length) + 1 by simp; omega]
 simp [joinF, h, h']
theorem joinF_n {p q out : List Rec} {ta tb : List Nat} (hl : 0 < p.length + q.length) (h : blocked p q = true) (h' : blocked q p = true) : joinF (p.length + q.length) p q out ta tb = none := by
 obtain ⟨m, hm⟩ : ∃ m, p.length + q.length = m + 1 := ⟨p.length + q.length - 1, by omega⟩
 rw [hm]
 simp [joinF, h, h']
theorem Con.backI {P : Program} {f : FuncId} {args : Array Value} {S : Stone} {v : Value} {I J : List Item} (h : Con P f args I S (fun u I' _ => u = v ∧ I' = J)) : Con P f args I S (fun u I' S' => u = v ∧ I' = J ∧ S' = S) := fun w hw => by
 refine (h w hw).mono fun e w' ⟨u, I', S', he, m, hu, hI⟩ => ?_
 subst hI
 refine ⟨u, I', S, he, ⟨⟨m.ok.item, m.ok.nodup, fun b o hb => m.ok.stone b o (m.le b o hb), fun b hb => ?_⟩, m.step, m.key, Stone.le.refl S, fun _ => .inl rfl⟩, hu, rfl, rfl⟩
 cases hS : S b with
 | none => rfl
 | some o => have := m.le b o hS; rw [m.ok.disj b hb] at this; cases this
structure JS where
 p : List Rec
 q : List Rec
 out : List Rec
 ta : List Nat
 tb : List Nat
 vp : Value
 vq : Value
 vo : Value
 vt : Value
 vu : Value
 xo : List Value
 xt : List Value
 xu : List Value
 S : Stone
def JoinR (S : Stone) (u : Value) (J : Option (List Rec × List Nat × List Nat)) : Prop :=
 match J with
 | some (out, ta, tb) => ∃ v1 v2 v3, u = .tuple #[v1, v2, v3, .int .i64 0] ∧ Recs S v1 (renum out) ∧ Nats S v2 (ta ++ [out.length]) ∧ Nats S v3 (tb ++ [out.length])
 | none => u = .tuple #[.slice none 0 0, .slice none 0 0, .slice none 0 0, i64 145]
theorem join_ok {S : Stone} {v w : Value} {a b : List Rec} (h : Recs S v a) (h' : Recs S w b) (hn : Num a) (hn' : Num b) (hl : a.length + b.length ≤ 200) : Con Tryz.prog 52 #[v, w] [] S (RetR fun u S' => JoinR S' u (joinL a b)) := by
 have hone1 := Sl.one h
 have hone2 := Sl.one h'
 obtain ⟨A0, a0, e0, -, -⟩ := h.shape
 obtain ⟨B0, b0, e0', -, -⟩ := h'.shape
 refine con_of 121 Tryz.func52 rfl rfl rfl (fun w0 => ?_)
 refine sr (sa rfl (sa rfl (sa rfl (sa rfl (nes (c_block (sr (mv rfl (lw (t_callr' rfl (log_ok h hn om) en_46 (yy (y_not rfl) (mv rfl (t_known (gd := 17) (v := false) rfl (by rfl) (fun hb17 => ?_))))))))))))))
 refine qy hb17 (y_move rfl) (gw hb17 (t_callr' rfl (log_ok h' hn' om) en_46 (qy hb17 (y_not rfl) (yy (y_pick_f' rfl hb17 rfl) (sa rfl (ne (c_false rfl (sr ?_))))))))
 subst e0
 subst e0'
 refine mv rfl (yy (y_ln sl_26 rfl) (mv rfl (yy (y_ln sl_26 rfl) (yy (y_addN rfl rfl om) (yy (y_gt rfl rfl) (sa rfl (nec rfl (fun g2 => ?_) (fun g2 => ?_))))))))
 · simp at g2; omega
 · refine c_skip ?_
   refine e_in (e_then (sr (mv rfl (yy (y_build pl_170 zc_170 rfl rfl) (bx rfl rfl (fun b31 => mv rfl (yy (y_build pl_170 zc_170 rfl rfl) (bx rfl rfl (fun b34 => sa rfl (sa rfl (nesr (t_nilrow 25 1 ?_))))))))))))
   refine t_nilrow 25 1 ?_
   refine t_nilrow 84 5 ?_
   refine sa rfl (nes (c_block (c_loopE (τ := JS) [(9, _), (8, _), (22, _), (13, _), (7, _), (6, _), (5, _), (4, _)] (fun Ek z0 => (10, z0.vo) :: Ek) (fun z0 => [.blk b31 (.cells [z0.vp, z0.vt].toArray 170 (0, 0)), .blk b34 (.cells [z0.vq, z0.vu].toArray 170 (0, 0)), .row z0.vo 84 5 z0.out.length z0.xo, .row z0.vt 25 1 z0.ta.length z0.xt, .row z0.vu 25 1 z0.tb.length z0.xu]) (fun z0 => z0.S) (fun z0 => Stone.le S z0.S ∧ Recs z0.S z0.vp z0.p ∧ Recs z0.S z0.vq z0.q ∧ Flat z0.S 5 recC z0.xo (renum z0.out) ∧ Flat z0.S 1 natC z0.xt z0.ta ∧ Flat z0.S 1 natC z0.xu z0.tb ∧ z0.vo.oneCell' = true ∧ z0.vt.oneCell' = true ∧ z0.vu.oneCell' = true ∧ joinF (z0.p.length + z0.q.length) z0.p z0.q z0.out z0.ta z0.tb = joinL a b ∧ z0.out.length + z0.p.length + z0.q.length ≤ 200 ∧ z0.ta.length ≤ z0.out.length ∧ z0.tb.length ≤ z0.out.length) (fun z0 => z0.p.length + z0.q.length) (⟨a, b, [], [], [], .slice A0 a.length a0, .slice B0 b.length b0, .slice none 0 0, .slice none 0 0, .slice none 0 0, [], [], [], S⟩) (⟨Stone.le.refl _, h, h', Flat.nil, Flat.nil, Flat.nil, rfl, rfl, rfl, rfl, by simp only [List.length_nil]; omega, Nat.le_refl _, Nat.le_refl _⟩) (fun z0 hz0 K0l hr0 => ?_))))
   obtain ⟨p, q, out, ta, tb, vp, vq, vo, vt, vu, xo, xt, xu, S1⟩ := z0
   obtain ⟨hle, hp, hq, hfo, hft, hfu, ho1, ho2, ho3, hJ, hlen, hla, hlb⟩ := hz0
   simp only at hle hp hq hfo hft hfu ho1 ho2 ho3 hJ hlen hla hlb
   dsimp only
   obtain ⟨A, ac, rfl, hac, -⟩ := hp.shape
   obtain ⟨B, bc, rfl, hbc, -⟩ := hq.shape
   refine c_seq (c_seq (dRa [3, 8] (.take 0 (.take 1 (.take 2 (.take 3 (.take 4 (.take 5 (.take 6 (.take 7 (.take 8 (.take 9 (.take 10 (.take 11 .done)))))))))))) ?_))
   refine em rfl rfl (ey rfl (y_nil rfl) (ey rfl (y_far fo_170_0 rfl) (dl rfl (lb ld_26) ?_)))
   refine ey rfl (y_ln sl_26 rfl) (em rfl rfl (ey rfl (y_nil rfl) (ey rfl (y_far fo_170_0 rfl) (dl rfl (lb ld_26) ?_))))
   refine ey rfl (y_ln sl_26 rfl) (ey rfl (y_addN rfl rfl om) (ey rfl (y_gt rfl rfl) (d_done (e_then (c_cond rfl (fun g3 => ?_) (fun g3 => ?_))))))
   · have hpos : 0 < p.length + q.length := by simp at g3; omega
     refine c_skip (e_then (c_block (sr (mv rfl (sa rfl (nes (sr (mv rfl (yy (y_nil rfl) (yy (y_far fo_170_0 rfl) (ll (lb ld_26) ?_)))))))))))
     refine yy (y_ln sl_26 rfl) (yy (y_eq rfl rfl) (mv rfl ?_))
     apply l_or 4 (gd := 54) (d := 58) (r := blocked p q) rfl
     · intro hb54 K4 hK4
       obtain ⟨r, p', rfl⟩ : ∃ r p', p = r :: p' := by
        cases p with
        | nil => simp at hb54
        | cons r p' => exact ⟨r, p', rfl⟩
       refine qy hb54 (y_move rfl) (qy hb54 (y_move rfl) (gw hb54 (t_call en_82 rfl (List.Perm.refl _) (Con.backI (wait_ok hp rfl hq)) (lt_n rfl) ?_)))
       rintro v57 I57 S57 le57 ⟨rfl, rfl, rfl⟩
       exact yy (y_pick_f' rfl hb54 rfl) (lk_end hK4)
     · intro hb54 K4 hK4
       exact qn hb54 (qn hb54 (qn hb54 (yy (y_pick_t' rfl hb54 rfl) (lk_end hK4))))
     refine nec rfl (fun g5 => ?_) (fun g5 => ?_)
     · have hbp : blocked p q = true := by
        cases p with
        | nil => rfl
        | cons r p' =>
         have h0 := g5
         simp at h0
         rcases h0 with h0 | h0
         · omega
         · exact h0
       refine sr (mv rfl (sa rfl (nesr (mv rfl (yy (y_nil rfl) (yy (y_far fo_170_0 rfl) (ll (lb ld_26) ?_)))))))
       refine yy (y_ln sl_26 rfl) (yy (y_eq rfl rfl) (mv rfl ?_))
       apply l_or 4 (gd := 66) (d := 70) (r := blocked q p) rfl
       · intro hb66 K6 hK6
         obtain ⟨s, q', rfl⟩ : ∃ r p', q = r :: p' := by
          cases q with
          | nil => simp at hb66
          | cons r p' => exact ⟨r, p', rfl⟩
         refine qy hb66 (y_move rfl) (qy hb66 (y_move rfl) (gw hb66 (t_call en_82 rfl (List.Perm.swap _ _ _) (Con.backI (wait_ok hq rfl hp)) (lt_n rfl) ?_)))
         rintro v69 I69 S69 le69 ⟨rfl, rfl, rfl⟩
         refine t_perm (List.Perm.swap _ _ _) ?_
         exact yy (y_pick_f' rfl hb66 rfl) (lk_end hK6)
       · intro hb66 K6 hK6
         exact qn hb66 (qn hb66 (qn hb66 (yy (y_pick_t' rfl hb66 rfl) (lk_end hK6))))
       refine nec rfl (fun g7 => ?_) (fun g7 => ?_)
       · have hbq : blocked q p = true := by
          cases q with
          | nil => rfl
          | cons r p' =>
           have h0 := g7
           simp at h0
           rcases h0 with h0 | h0
           · omega
           · exact h0
         rw [joinF_n hpos hbp hbq] at hJ
         exact sr (sa rfl (sa rfl (sa rfl (sa rfl (netr (e_then_ret (e_in_ret (e_then_ret (e_in_ret (e_then_ret (f_retR rfl (ResV.tmp rfl (ResV.tmp rfl (ResV.tmp rfl (rt rfl)))) (by rw [← hJ]; rfl))))))))))))
       · have hbq : blocked q p = false := by simp at g7; exact g7.2
         obtain ⟨s, q', rfl⟩ : ∃ r p', q = r :: p' := by
          cases q with
          | nil => cases hbq
          | cons r p' => exact ⟨r, p', rfl⟩
         obtain ⟨p1, bv, rfl, hb, f0, f1, f2, f3, f4, f5⟩ := hq.at (i := 0) rfl
         rw [joinF_y hbp hbq] at hJ
         refine c_skip (e_then (sr ?_))
         obtain ⟨pb, cb, rfl, -⟩ := id hb
         simp only [List.length_cons] at hlen hac hbc
         refine mv rfl (mv rfl (yy (y_nil rfl) (yy (y_far fo_170_1 rfl) (ll (lb ld_91) ?_))))
         refine mv rfl (ll (ld_ln sl_26 rfl pk) ?_)
         refine yy (y_cvu cv_3_25 rfl om) (lw (t_bs1 ap_91 zc_25 rfl rfl rfl rfl rfl (fun b79 => lw (aR ap_91 (fun va80 ho80 => ?_)))))
         refine yy (y_nil rfl) (yy (y_far fo_170_1 rfl) (lw (t_st1' sz_91 rfl rfl (by first | assumption | exact Byt.one ‹_› | exact Sl.one ‹_›) pk rfl ?_)))
         refine nesr (mv rfl (mv rfl (yy (y_nil rfl) (yy (y_far fo_170_0 rfl) (ll (lb ld_26) ?_)))))
         refine yy (y_iaN (i := 0) sl_26 rfl rfl (by simp)) ?_
         refine ll (ltm ld_84 rfl ‹_›) ?_
         refine mv rfl (ll (ld_ln sl_26 rfl pk) ?_)
         refine lw (t_callR rfl (own_ok hb om) en_47 ?_)
         rintro v92 S92 le92 ⟨b92, rfl, hb92⟩
         obtain ⟨q92, c92, rfl, -⟩ := id hb92
         refine lw (t_bs1 ap_26 zc_84 rfl rfl rfl rfl rfl (fun b93 => lw (aR ap_26 (fun va94 ho94 => sa rfl (ner ?_)))))
         refine mv rfl (mv rfl (yy (y_nil rfl) (yy (y_far fo_170_0 rfl) (ll (lb ld_26) ?_))))
         refine yy (y_sl sl_26 rfl (l := 1) (h := (s :: q').length) ⟨_, rfl⟩ rfl (by simp) (by simp; omega)) ?_
         have hsl := Sl.sub (hq.mono le92) (by simp : 1 ≤ (s :: q').length) (Nat.le_refl _)
         rw [List.take_length] at hsl
         obtain ⟨A2, a2, e2, -, -⟩ := hsl.shape
         rw [e2] at hsl ⊢
         refine yy (y_nil rfl) (yy (y_far fo_170_0 rfl) (lw (s1 sz_26 (l_nil ?_))))
         exact e_in (e_then (t_to (hr0 ⟨p, q', out ++ [s], ta, tb ++ [out.length], .slice A p.length ac, .slice A2 (List.drop 1 (s :: q')).length a2, va94, vt, va80, xo ++ Rec.cells { s with off := out.length } (.slice (some q92) 1 c92), xt, xu ++ [u64 out.length], S92⟩ ⟨hle.trans le92, hp.mono le92, hsl, by simp only; rw [renum_snoc]; exact (hfo.monoR le92).snoc (a := { s with off := out.length }) ⟨_, rfl, hb92⟩ rfl, hft.mono fun _ _ h => h, (hfu.mono fun _ _ h => h).snoc rfl rfl, ho94, ho2, ho80, hJ, by simp only [List.length_append, List.length_cons, List.length_nil]; omega, by simp only [List.length_append, List.length_cons, List.length_nil]; omega, by simp only [List.length_append, List.length_cons, List.length_nil]; omega⟩ (by simp only [List.length_cons]; omega)) (hs := by rw [List.length_append, List.length_append]; repeat (first | exact Sel.nil | exact Sel.refl _ | refine Sel.cons pk ?_ | refine Sel.skip ?_))))
     · have hbp : blocked p q = false := by simp at g5; exact g5.2
       obtain ⟨r, p', rfl⟩ : ∃ r p', p = r :: p' := by
        cases p with
        | nil => cases hbp
        | cons r p' => exact ⟨r, p', rfl⟩
       obtain ⟨p1, bv, rfl, hb, f0, f1, f2, f3, f4, f5⟩ := hp.at (i := 0) rfl
       rw [joinF_x hbp] at hJ
       refine c_skip (e_then (sr ?_))
       obtain ⟨pb, cb, rfl, -⟩ := id hb
       simp only [List.length_cons] at hlen hac hbc
       refine mv rfl (mv rfl (yy (y_nil rfl) (yy (y_far fo_170_1 rfl) (ll (lb ld_91) ?_))))
       refine mv rfl (ll (ld_ln sl_26 rfl pk) ?_)
       refine yy (y_cvu cv_3_25 rfl om) (lw (t_bs1 ap_91 zc_25 rfl rfl rfl rfl rfl (fun b79 => lw (aR ap_91 (fun va80 ho80 => ?_)))))
       refine yy (y_nil rfl) (yy (y_far fo_170_1 rfl) (lw (t_st1' sz_91 rfl rfl (by first | assumption | exact Byt.one ‹_› | exact Sl.one ‹_›) pk rfl ?_)))
       refine nesr (mv rfl (mv rfl (yy (y_nil rfl) (yy (y_far fo_170_0 rfl) (ll (lb ld_26) ?_)))))
       refine yy (y_iaN (i := 0) sl_26 rfl rfl (by simp)) ?_
       refine ll (ltm ld_84 rfl ‹_›) ?_
       refine mv rfl (ll (ld_ln sl_26 rfl pk) ?_)
       refine lw (t_callR rfl (own_ok hb om) en_47 ?_)
       rintro v92 S92 le92 ⟨b92, rfl, hb92⟩
       obtain ⟨q92, c92, rfl, -⟩ := id hb92
       refine lw (t_bs1 ap_26 zc_84 rfl rfl rfl rfl rfl (fun b93 => lw (aR ap_26 (fun va94 ho94 => sa rfl (ner ?_)))))
       refine mv rfl (mv rfl (yy (y_nil rfl) (yy (y_far fo_170_0 rfl) (ll (lb ld_26) ?_))))
       refine yy (y_sl sl_26 rfl (l := 1) (h := (r :: p').length) ⟨_, rfl⟩ rfl (by simp) (by simp; omega)) ?_
       have hsl := Sl.sub (hp.mono le92) (by simp : 1 ≤ (r :: p').length) (Nat.le_refl _)
       rw [List.take_length] at hsl
       obtain ⟨A2, a2, e2, -, -⟩ := hsl.shape
       rw [e2] at hsl ⊢
       refine yy (y_nil rfl) (yy (y_far fo_170_0 rfl) (lw (s1 sz_26 (l_nil ?_))))
       exact e_in (e_then (t_to (hr0 ⟨p', q, out ++ [r], ta ++ [out.length], tb, .slice A2 (List.drop 1 (r :: p')).length a2, .slice B q.length bc, va94, va80, vu, xo ++ Rec.cells { r with off := out.length } (.slice (some q92) 1 c92), xt ++ [u64 out.length], xu, S92⟩ ⟨hle.trans le92, hsl, hq.mono le92, by simp only; rw [renum_snoc]; exact (hfo.monoR le92).snoc (a := { r with off := out.length }) ⟨_, rfl, hb92⟩ rfl, (hft.mono fun _ _ h => h).snoc rfl rfl, hfu.mono fun _ _ h => h, ho94, ho80, ho3, hJ, by simp only [List.length_append, List.length_cons, List.length_nil]; omega, by simp only [List.length_append, List.length_cons, List.length_nil]; omega, by simp only [List.length_append, List.length_cons, List.length_nil]; omega⟩ (by simp only [List.length_cons]; omega)) (hs := by rw [List.length_append, List.length_append]; repeat (first | exact Sel.nil | exact Sel.refl _ | refine Sel.cons pk ?_ | refine Sel.skip ?_))))
   · have hp0 : p = [] := List.length_eq_zero_iff.1 (by simp at g3; omega)
     have hq0 : q = [] := List.length_eq_zero_iff.1 (by simp at g3; omega)
     subst hp0
     subst hq0
     have hJ' : joinL a b = some (out, ta, tb) := hJ.symm
     refine c_exit ?_
     refine e_then_exit (e_then_exit (e_in_same (e_then (sr (mv rfl (ll (ld_ln sl_26 rfl pk) ?_))))))
     refine yy (y_cvu cv_3_25 rfl om) (sa rfl (nes (dR ([.blk b31 (.cells [.slice A 0 ac, vt].toArray 170 (0, 0)), .blk b34 (.cells [.slice B 0 bc, vu].toArray 170 (0, 0))]) [4, 11] (.take 0 (.take 1 (.take 2 (.take 3 (.take 4 (.take 5 (.take 8 (.take 9 (.take 10 (.take 11 (.take 12 (.alt 6 (.alt 7 (.alt 13 (.alt 14 (.take 15 (.take 16 (.take 17 (.take 18 .done)))) .stop) .stop) (.alt 13 (.alt 7 (.alt 14 (.take 15 (.take 16 (.take 17 (.take 18 .done)))) .stop) .stop) .stop)) (.alt 13 (.alt 6 (.alt 7 (.alt 14 (.take 15 (.take 16 (.take 17 (.take 18 .done)))) .stop) .stop) .stop) .stop))))))))))))) ?_)))
     refine em rfl rfl (em rfl rfl (ey rfl (y_nil rfl) (ey rfl (y_far fo_170_1 rfl) (dl rfl (lb ld_91) ?_))))
     refine em rfl rfl (em rfl rfl (ey rfl (y_nil rfl) (ey rfl (y_far fo_170_1 rfl) (dl rfl (lb ld_91) ?_))))
     refine em rfl rfl (d_alt rfl rfl ?_ ?_)
     · -- first 6
       refine t_bs1 ap_91 zc_25 rfl rfl rfl rfl rfl (fun b112 => ?_)
       refine dA (Stone.le.refl _) (d_alt rfl rfl ?_ ?_)
       · -- first 7
         refine aR ap_91 (fun va113 ho113 => ?_)
         refine dA (Stone.le.refl _) (da rfl (t_bs1 ap_91 zc_25 rfl rfl rfl rfl rfl (fun b119 => ?_)))
         refine dA (Stone.le.refl _) (da rfl (aR ap_91 (fun va120 ho120 => ?_)))
         refine dA (Stone.le.refl _) (ea rfl rfl (ea rfl rfl (ea rfl rfl (ea rfl rfl (d_done (e_then (c_ret (t_pub (C := recC) (l := renum out) pk (fun S' hle => hfo.monoR hle) (by rw [renum_length]) (fun S2 le2 hs2 => ?_)))))))))
         refine t_pub (C := natC) (l := ta ++ [out.length]) pk (fun S' hle => (hft.mono fun _ _ h => h).snoc rfl rfl) (by simp) (fun S3 le3 hs3 => ?_)
         refine t_pub (C := natC) (l := tb ++ [out.length]) pk (fun S' hle => (hfu.mono fun _ _ h => h).snoc rfl rfl) (by simp) (fun S4 le4 hs4 => ?_)
         exact f_retR rfl (ResV.tmp rfl (ResV.tmp rfl (ResV.tmp rfl (rt rfl)))) (by rw [hJ']; exact ⟨_, _, _, rfl, Recs.mono hs2 (le3.trans le4), Nats.mono hs3 le4, hs4⟩)
       refine d_alt rfl rfl ?_ d_stop
       refine t_bs1 ap_91 zc_25 rfl rfl rfl rfl rfl (fun b119 => ?_)
       refine dA (Stone.le.refl _) (da rfl (aR ap_91 (fun va113 ho113 => ?_)))
       refine dA (Stone.le.refl _) (da rfl (aR ap_91 (fun va120 ho120 => ?_)))
       refine dA (Stone.le.refl _) (ea rfl rfl (ea rfl rfl (ea rfl rfl (ea rfl rfl (d_done (e_then (c_ret (t_pub (C := recC) (l := renum out) pk (fun S' hle => hfo.monoR hle) (by rw [renum_length]) (fun S2 le2 hs2 => ?_)))))))))
       refine t_pub (C := natC) (l := ta ++ [out.length]) pk (fun S' hle => (hft.mono fun _ _ h => h).snoc rfl rfl) (by simp) (fun S3 le3 hs3 => ?_)
       refine t_pub (C := natC) (l := tb ++ [out.length]) pk (fun S' hle => (hfu.mono fun _ _ h => h).snoc rfl rfl) (by simp) (fun S4 le4 hs4 => ?_)
       exact f_retR rfl (ResV.tmp rfl (ResV.tmp rfl (ResV.tmp rfl (rt rfl)))) (by rw [hJ']; exact ⟨_, _, _, rfl, Recs.mono hs2 (le3.trans le4), Nats.mono hs3 le4, hs4⟩)
     refine d_alt rfl rfl ?_ d_stop
     refine t_bs1 ap_91 zc_25 rfl rfl rfl rfl rfl (fun b119 => ?_)
     refine dA (Stone.le.refl _) (da rfl (t_bs1 ap_91 zc_25 rfl rfl rfl rfl rfl (fun b112 => ?_)))
     refine dA (Stone.le.refl _) (da rfl (aR ap_91 (fun va113 ho113 => ?_)))
     refine dA (Stone.le.refl _) (da rfl (aR ap_91 (fun va120 ho120 => ?_)))
     refine dA (Stone.le.refl _) (ea rfl rfl (ea rfl rfl (ea rfl rfl (ea rfl rfl (d_done (e_then (c_ret (t_pub (C := recC) (l := renum out) pk (fun S' hle => hfo.monoR hle) (by rw [renum_length]) (fun S2 le2 hs2 => ?_)))))))))
     refine t_pub (C := natC) (l := ta ++ [out.length]) pk (fun S' hle => (hft.mono fun _ _ h => h).snoc rfl rfl) (by simp) (fun S3 le3 hs3 => ?_)
     refine t_pub (C := natC) (l := tb ++ [out.length]) pk (fun S' hle => (hfu.mono fun _ _ h => h).snoc rfl rfl) (by simp) (fun S4 le4 hs4 => ?_)
     exact f_retR rfl (ResV.tmp rfl (ResV.tmp rfl (ResV.tmp rfl (rt rfl)))) (by rw [hJ']; exact ⟨_, _, _, rfl, Recs.mono hs2 (le3.trans le4), Nats.mono hs3 le4, hs4⟩)
end Go.Proofs.YtkdmbimkanjbhaaGreatDoor.Eng
namespace Go.Proofs.YtkdmbimkanjbhaaGreatDoor.Eng
open Go Go.Proofs
set_option maxRecDepth 100000
attribute [local irreducible] Tr
def bothStep (out : List Prd) (x : Prd) : List Prd := if (!(findP out x.id).isSome || later x ((findP out x.id).getD Prd.none)) = true then putP out x else out
def bothP (a b : List Prd) : List Prd := b.foldl bothStep a
theorem bothStep_up {out : List Prd} {x : Prd} (h : out.Pairwise fun x y => x.id < y.id) : (bothStep out x).Pairwise fun x y => x.id < y.id := by
 unfold bothStep
 split
 · exact up_putP h
 · exact h
theorem bothStep_len {out : List Prd} {x : Prd} : (bothStep out x).length ≤ out.length + 1 := by
 unfold bothStep
 split
 · rw [putP_length]; have := List.length_filter_le (fun y : Prd => !(y.id == x.id)) out; omega
 · omega
theorem moveP_id (to : List Nat) (x : Prd) : (moveP to x).id = x.id := by unfold moveP; split <;> rfl
theorem moveP_seq (to : List Nat) (x : Prd) : (moveP to x).seq = x.seq := by unfold moveP; split <;> rfl
theorem bothP_ok {S : Stone} {v w t u : Value} {a b : List Prd} {ta tb : List Nat} (h : Prds S v a) (h' : Prds S w b) (ht : Nats S t ta) (hu : Nats S u tb) (hka : TabOk a) (hkb : TabOk b) (hla : a.length ≤ 50) (hlb : b.length ≤ 50)
 (ha : ∀ x ∈ a, x.here = true → x.off + 1 < ta.length) (hb : ∀ x ∈ b, x.here = true → x.off + 1 < tb.length) :
 Con Tryz.prog 54 #[v, w, t, u] [] S (RetR fun r S' => ∃ v', r = .tuple #[v', .int .i64 0] ∧ Prds S' v' (bothP (a.map (moveP ta)) (b.map (moveP tb)))) := by
 refine con_of 56 Tryz.func54 rfl rfl rfl (fun w0 => ?_)
 refine sr (sa rfl (sa rfl (nes (sr (mv rfl (lw (t_callr' rfl (table_ok h hka om) en_60 (yy (y_not rfl) (mv rfl (t_known (gd := 18) (v := false) rfl (by rfl) (fun hb18 => ?_)))))))))))
 refine qy hb18 (y_move rfl) (gw hb18 (t_callr' rfl (table_ok h' hkb om) en_60 (qy hb18 (y_not rfl) (yy (y_pick_f' rfl hb18 rfl) (ne (c_false rfl (c_skip (e_then (sr (mv rfl (mv rfl (lw (t_callR rfl (move_ok h ht om ha) en_31 ?_)))))))))))))
 rintro v25 S25 le25 h25
 have h2 := h'.mono le25
 have hu2 := hu.mono le25
 refine sa rfl (nes (sr (mv rfl (mv rfl (lw (t_callR rfl (move_ok h2 hu2 om hb) en_31 ?_))))))
 rintro v28 S28 le28 h28
 obtain ⟨A28, a28, rfl, ha28, -⟩ := h28.shape
 have hlen : (b.map (moveP tb)).length = b.length := by simp
 have h25' := Prds.mono h25 le28
 refine yy (y_ln sl_27 rfl) (mv rfl (ne (c_block (c_loopE (τ := Nat × Value × Stone) [(29, _), (28, _), (22, _), (9, _), (8, _)] (fun Ek z0 => (30, i64 z0.1) :: (10, z0.2.1) :: Ek) (fun z0 => []) (fun z0 => z0.2.2) (fun z0 => z0.1 ≤ (b.map (moveP tb)).length ∧ Stone.le S28 z0.2.2 ∧ Prds z0.2.2 z0.2.1 (bothP (a.map (moveP ta)) ((b.map (moveP tb)).take z0.1)) ∧ (bothP (a.map (moveP ta)) ((b.map (moveP tb)).take z0.1)).Pairwise (fun x y => x.id < y.id) ∧ (bothP (a.map (moveP ta)) ((b.map (moveP tb)).take z0.1)).length ≤ a.length + z0.1) (fun z0 => (b.map (moveP tb)).length - z0.1) ((0, v25, S28)) (⟨Nat.zero_le _, Stone.le.refl _, h25', by rw [List.take_zero]; show (a.map (moveP ta)).Pairwise _; rw [List.pairwise_map]; simp only [moveP_id]; exact hka.up, by rw [List.take_zero]; show (a.map (moveP ta)).length ≤ _; simp⟩) (fun z0 hz0 K0l hr0 => ?_)))))
 obtain ⟨i, x10, S1⟩ := z0
 obtain ⟨hi, hle, hv, hup, hln⟩ := hz0
 simp only at hi hle hv hup hln
 dsimp only
 refine sr (yy (y_lt rfl rfl) (nes (c_cond rfl (fun g2 => ?_) (fun g2 => ?_))))
 · have hil : i < (b.map (moveP tb)).length := by simpa using g2
   obtain ⟨x, hx⟩ : ∃ r, (b.map (moveP tb))[i]? = some r := ⟨_, List.getElem?_eq_getElem hil⟩
   obtain ⟨p, rfl, f0, f1, f2, f3, f5⟩ := Prds.at (Prds.mono h28 hle) hx
   have hst : bothP (a.map (moveP ta)) ((b.map (moveP tb)).take (i + 1)) = bothStep (bothP (a.map (moveP ta)) ((b.map (moveP tb)).take i)) x := by
    unfold bothP; rw [List.take_add_one, hx, Option.toList_some, List.foldl_append]; rfl
   have hln' := bothStep_len (out := bothP (a.map (moveP ta)) ((b.map (moveP tb)).take i)) (x := x)
   refine c_skip (e_then (c_seq (c_block (sr (yy (y_iaN sl_27 rfl rfl ao) (ll (ltm ld_67 rfl ‹_›) ?_))))))
   refine al zc_67 (fun b12 => lw (sw sz_67 (nes ?_)))
   refine c_region (mv rfl (yy (y_far fo_67_0 rfl) (ll (lb ld_25) ?_)))
   refine lw (t_callr' rfl ((find_ok hv).back) en_83 (mv rfl (yy (y_ext rfl rfl) (yy (y_ext rfl rfl) (al zc_67 (fun b13 => lw (sw sz_67 (sa rfl (nesr (mv rfl (yy (y_not rfl) (mv rfl ?_))))))))))))
   apply l_or 4 (gd := 43) (d := 47) rfl
   · intro hb43 K3 hK3
     refine gl hb43 (lbw ld_67) ?_
     refine gl hb43 (lbw ld_67) ?_
     exact gw hb43 (t_callr' rfl (later_ok) en_84 (yy (y_pick_f' rfl hb43 rfl) (lk_end hK3)))
   · intro hb43 K3 hK3
     exact qn hb43 (qn hb43 (qn hb43 (yy (y_pick_t' rfl hb43 rfl) (lk_end hK3))))
   refine nec rfl (fun g4 => ?_) (fun g4 => ?_)
   · have hs2 : bothStep (bothP (a.map (moveP ta)) ((b.map (moveP tb)).take i)) x = putP (bothP (a.map (moveP ta)) ((b.map (moveP tb)).take i)) x := by unfold bothStep; rw [if_pos g4]
     refine c_region (mv rfl (ll (lbw ld_67) ?_))
     refine lw (t_callRow rfl (putP_ok hv hup om) en_85 (fun v50 xs50 S50 le50 hf50 ho50 => t_pub (C := prdC) (l := putP (bothP (a.map (moveP ta)) ((b.map (moveP tb)).take i)) x) pk (fun S' hle => hf50.mono fun _ _ h => h) rfl (fun S51 le51 hs51 => ?_)))
     exact sa rfl (l_nil (e_in (e_then (c_region (yy (y_addN (m := 1) rfl rfl om) (mv rfl (ne (t_to (hr0 (i + 1, v50, S51) ⟨hil, (hle.trans le50).trans le51, by simp only; rw [hst, hs2]; exact hs51, by simp only; rw [hst]; exact bothStep_up hup, by simp only; rw [hst]; omega⟩ (by simp only; omega))))))))))
   · have hs2 : bothStep (bothP (a.map (moveP ta)) ((b.map (moveP tb)).take i)) x = bothP (a.map (moveP ta)) ((b.map (moveP tb)).take i) := by unfold bothStep; rw [if_neg (by rw [g4]; simp)]
     exact c_skip (e_in (e_then (c_region (yy (y_addN (m := 1) rfl rfl om) (mv rfl (ne (t_to (hr0 (i + 1, x10, S1) ⟨hil, hle, by simp only; rw [hst, hs2]; exact hv, by simp only; rw [hst]; exact bothStep_up hup, by simp only; rw [hst]; omega⟩ (by simp only; omega)))))))))
 · have hil : i = (b.map (moveP tb)).length := by simp at g2; simp; omega
   subst hil
   rw [List.take_length] at hv hln
   obtain ⟨A9, a9, rfl, -⟩ := hv.shape
   refine c_exit ?_
   refine e_then_exit (e_then_exit (e_in_same (e_then (c_seq (sr (mv rfl (yy (y_ln sl_27 rfl) (yy (y_gt rfl rfl) (nec rfl (fun g5 => ?_) (fun g5 => ?_))))))))))
   · simp at g5; omega
   · refine c_skip ?_
     exact e_then (sr (mv rfl (sa rfl (sa rfl (netr (f_retR rfl (ResV.tmp rfl (rt rfl)) ⟨_, rfl, hv⟩))))))
end Go.Proofs.YtkdmbimkanjbhaaGreatDoor.Eng
namespace Go.Proofs.YtkdmbimkanjbhaaGreatDoor.Eng
open Go Go.Proofs
set_option maxRecDepth 100000
attribute [local irreducible] Tr
/-- append(nil, make([]T, k)...): a new row. -/
theorem t_appz0 {P : Program} {c : Cx} {K : Act → World → Prop} {Q : Exit → Act → World → Prop} {E : Env} {H : List Item} {S : Stone} {d : Tmp} {ty : TypeId} {pos : String} {aft : Array Edge} {g : Option (Nat × Bool)} {t tn e : TypeId} {size bytes : Nat} {kn : IntKind} {x y : Operand} {k : Nat} (hk : apK P t = some (e, size, bytes)) (htn : cvK P t tn = some kn) (hx : E.op x = some (.slice none 0 0)) (hy : E.op y = some (i64 k))
 (h0 : 0 < k) (hb : k * bytes ≤ 140737488355328) (h63 : k ≤ maxLen) (hlt : Nat.blt d c.n = true)
 (h : ∀ b cap' zs, zs.length = k * size → Tr c K ((d, .slice (some ⟨b, 0, none⟩) k cap') :: E) (.row (.slice (some ⟨b, 0, none⟩) k cap') e size k zs :: H) S) : Tr c (OpW P ⟨some d, .call ⟨.builtin .append, #[x, y], #[t, tn]⟩, ty, pos, aft, g⟩ K Q) E H S := by
 obtain ⟨inf, z, hu, hinf, hz, hs, hby, hzs, hs0⟩ := apK_spec hk
 have htn' : P.underlying tn = some (.int kn) := by
  unfold cvK at htn
  split at htn
  · rename_i hd; simp only [Option.some.injEq] at htn; subst htn; exact hd
  · cases htn
 refine t_new (I := []) (H' := H) (List.Perm.refl _) (R := fun u I' S' => S' = S ∧ ∃ b cap' zs, zs.length = k * size ∧ u = .slice (some ⟨b, 0, none⟩) k cap' ∧ I' = [.row (.slice (some ⟨b, 0, none⟩) k cap') e size k zs]) (fun a w ha ho => ?_) rfl (lt_n hlt)
  (fun u I' S' ⟨e1, b, cap', zs, hzl, e2, e3⟩ => by subst e1; subst e2; subst e3; exact h b cap' zs hzl)
 have hfirst : (Builtin.firstCells inf.size 0 (.slice none 0 0)).run P w.drew = .ok (#[] : Array Value) w.drew := by simp [Builtin.firstCells]
 have hkb : k * inf.bytes ≤ 281474976710656 := by rw [hby]; omega
 have hr := Lib.run_append_grow_zeros (P := P) w t tn ty e inf z .i64 kn hu htn' hinf hz none 0 0 [] (by simpa using hfirst) k h0 (by rw [hs]; exact hs0) om (by simp only [maxLen] at h63; omega) hkb (by rw [hby]; exact growslice_fits om (by rw [Nat.zero_add]; exact hb))
 have hge := grownCap_ge w (0 + k) 0 e
 have hcm' : grownCap w (0 + k) 0 e ≤ maxLen := grownCap_le_maxLen w (0 + k) 0 e om
 have hzl : (Builtin.zeroCells z.cells k).toList.length = k * size := by simp [Builtin.zeroCells, hzs]
 have m := mv_alloc (S := S) (w := w.drew) ho.stone (.cells (([] : List Value).toArray ++ Builtin.zeroCells z.cells k ++ Builtin.zeroCells z.cells (grownCap w (0 + k) 0 e - (0 + k))) e (0, 0))
 refine ⟨.slice (some ⟨w.heap.size, 0, none⟩) k (grownCap w (0 + k) 0 e), w.drew.alloc (.cells (([] : List Value).toArray ++ Builtin.zeroCells z.cells k ++ Builtin.zeroCells z.cells (grownCap w (0 + k) 0 e - (0 + k))) e (0, 0)), [.row (.slice (some ⟨w.heap.size, 0, none⟩) k (grownCap w (0 + k) 0 e)) e size k (Builtin.zeroCells z.cells k).toList], S, ?_, ?_, rfl, w.heap.size, _, _, hzl, rfl, rfl⟩
 · simp at hr
   simp [execOp, resolve, invoke, builtin, ha.eval hx, ha.eval hy, i64, hr]
 · refine ⟨⟨fun it hit => ?_, by simp [Item.keys, Value.ownBlock], m.ok.stone, fun b hb => m.ok.disj b (by simpa [keys, Item.keys, Value.ownBlock] using hb)⟩, ⟨m.step.os, m.step.tape, m.step.output, m.step.size, m.step.block⟩, fun b hb => m.key b (by simpa [keys, Item.keys, Value.ownBlock] using hb), m.le, m.new⟩
   simp only [List.mem_singleton] at hit
   subst hit
   refine ⟨hzl, .inr ⟨w.heap.size, _, _, rfl, Nat.zero_le _, heap_alloc_new w.drew _, by omega, hcm', ?_, ?_⟩⟩
   · have hzl' : (Builtin.zeroCells z.cells (grownCap w (0 + k) 0 e - (0 + k))).size = (grownCap w (0 + k) 0 e - (0 + k)) * size := by simp [Builtin.zeroCells, hzs]
     have hzl2 : (Builtin.zeroCells z.cells k).size = k * size := by simpa using hzl
     simp only [Array.size_append, List.size_toArray, List.length_nil, hzl', hzl2]
     rw [Nat.zero_add, ← Nat.add_mul]
     congr 1; omega
   · simp only [Array.toList_append, List.nil_append]
     rw [← hzl]
     exact List.take_left
theorem grow_ok {S : Stone} {n : Nat} (hn : n ≤ 1000) : Con Tryz.prog 111 #[.slice none 0 0, i64 n] [] S (RowR 65 2 cnsC []) := by
 refine con_of 27 Tryz.func111 rfl rfl rfl (fun w0 => ?_)
 refine sr (sa rfl (nes (sr (mv rfl (yy (y_lt rfl rfl) (nec rfl (fun g1 => ?_) (fun g1 => ?_)))))))
 · simp at g1; omega
 · refine c_skip ?_
   refine e_then (c_seq (sr (mv rfl (mv rfl (yy (y_cap (by rw [sl_28]; rfl) rfl) ?_)))))
   refine mv rfl (yy (y_ln sl_28 rfl) (yy (y_subN (n := 0) (m := 0) rfl rfl om om) (yy (y_subN (n := n) (m := 0) rfl rfl om om) (sa rfl (nesr (mv rfl (yy (y_gt rfl rfl) (nec rfl (fun g2 => ?_) (fun g2 => ?_)))))))))
   · have hpos : 0 < n := by simp at g2; omega
     refine c_region (mv rfl (mv rfl (yy (y_cap (by rw [sl_28]; rfl) rfl) ?_)))
     refine yy (y_slh sl_28 rfl (h := 0) rfl om) (mv rfl (lw (t_appz0 (k := n) ap_28 (by kernel_rfl : cvK Tryz.prog 28 3 = some .i64) rfl rfl hpos om mo rfl (fun b22 c22 z22 hz22 => ?_))))
     refine mv rfl (yy (y_ln sl_28 rfl) (yy (y_slh sl_28 rfl (h := 0) rfl om) (t_reslice 0 Pick.hd (Nat.zero_le _) (fun xs' hx1 hx2 => ?_))))
     have hx0 : xs' = [] := List.length_eq_zero_iff.1 (by simpa using hx1)
     subst hx0
     exact sa rfl (nesr (mv rfl (sa rfl (netr (f_retS rfl (rt rfl) ⟨[], rfl, Flat.nil, rfl⟩)))))
   · refine t_nilrow 65 2 ?_
     exact c_skip (e_then (sr (mv rfl (sa rfl (netr (f_retS rfl (rt rfl) ⟨[], rfl, Flat.nil, rfl⟩))))))
def cnsLC (S : Stone) (cs : List Value) (l : List Cns) : Prop := ∃ v, cs = [v] ∧ Cnss S v l
theorem concat_ok {S : Stone} {w : Value} {ls : List (List Cns)} (h : Sl S 1 cnsLC w ls) (hl : ls.length ≤ 10) (hs : ∀ l ∈ ls, l.length ≤ 50) : Con Tryz.prog 86 #[w] [] S (RowR 65 2 cnsC ls.flatten) := by
 obtain ⟨A, a, rfl, ha1, -⟩ := h.shape
 have hsum : ∀ i, ((ls.take i).flatten).length ≤ 50 * i := fun i => by
  induction i with
  | zero => simp
  | succ i ih =>
   rw [List.take_add_one, List.flatten_append, List.length_append]
   cases hx : ls[i]? with
   | none => simp only [Option.toList_none, List.flatten_nil, List.length_nil]; omega
   | some x => have := hs x (List.mem_of_getElem? hx); simp only [Option.toList_some, List.flatten_cons, List.flatten_nil, List.append_nil]; omega
 refine con_of 36 Tryz.func86 rfl rfl rfl (fun w0 => ?_)
 refine sr (sa rfl (nesr (sa rfl (nes (sr (mv rfl (yy (y_ln sl_216 rfl) (mv rfl (ne (c_block (c_loopH (τ := Nat) [(10, _), (9, _), (2, _), (0, _)] (fun Ek z0 => (11, i64 z0) :: (3, i64 ((ls.take z0).flatten).length) :: Ek) (fun z0 => z0 ≤ ls.length) (fun z0 => ls.length - z0) (0) (Nat.zero_le _) (fun z0 hz0 K0l hr0 => ?_))))))))))))
 refine sr (yy (y_lt rfl rfl) (nes (c_cond rfl (fun g1 => ?_) (fun g1 => ?_))))
 · have hil : z0 < ls.length := by simpa using g1
   obtain ⟨x, hx⟩ : ∃ r, ls[z0]? = some r := ⟨_, List.getElem?_eq_getElem hil⟩
   obtain ⟨A', cap, e1, -, -, h4⟩ := id h
   injection e1 with e2 e3 e4
   subst e2
   obtain ⟨p, cs, hpe, ⟨xv, rfl, hxv⟩, hcl, hcell⟩ := h4 z0 x hx
   subst hpe
   have hc0 := hcell 0 _ rfl
   rw [show (p.add (z0 * 1)).add 0 = p.add (z0 * 1) by simp [Addr.add]] at hc0
   obtain ⟨AX, aX, rfl, hax, -⟩ := hxv.shape
   have hs1 := hsum z0
   have hs2 := hs x (List.mem_of_getElem? hx)
   have hfl : ((ls.take (z0 + 1)).flatten).length = ((ls.take z0).flatten).length + x.length := by rw [List.take_add_one, hx, List.flatten_append, List.length_append]; simp only [Option.toList_some, List.flatten_cons, List.flatten_nil, List.append_nil]
   refine c_skip (e_then (c_seq (c_block (sr (yy (y_iaN sl_216 rfl rfl hil) (ll (ld_st ld_28 rfl ‹_›) ?_))))))
   refine sa rfl (nesr (mv rfl (mv rfl (yy (y_ln sl_28 rfl) (yy (y_addN rfl rfl om) (sa rfl (nesr (mv rfl (yy (y_lt rfl rfl) (nec rfl (fun g2 => ?_) (fun g2 => ?_)))))))))))
   · simp at g2; omega
   · refine c_skip ?_
     refine e_in (e_then (c_region (yy (y_addN (m := 1) rfl rfl om) (mv rfl (ne (t_to (hr0 (z0 + 1) hil om) (he := Env.sub_cons rfl (Env.sub_cons (by rw [hfl]; rfl) (by repeat (first | exact Env.sub_nil _ | refine Env.sub_cons rfl ?_))))))))))
 · have hze : z0 = ls.length := by simp at g1; omega
   subst hze
   have hs1 := hsum ls.length
   refine c_exit ?_
   refine e_then_exit (e_then_exit (e_in_same (e_then (sr (mv rfl (lw (t_callRow rfl (grow_ok om) en_111 (fun v24 xs24 S24 le24 hf24 ho24 => sa rfl (nes (sr (mv rfl (yy (y_ln sl_216 rfl) (mv rfl (ne (c_block (c_loopE (τ := Nat × Value × List Value) [(26, _), (25, _), (12, _), (2, _)] (fun Ek z1 => (27, i64 z1.1) :: (6, z1.2.1) :: Ek) (fun z1 => [.row z1.2.1 65 2 ((ls.take z1.1).flatten).length z1.2.2]) (fun z1 => S24) (fun z1 => z1.1 ≤ ls.length ∧ Flat S24 2 cnsC z1.2.2 ((ls.take z1.1).flatten) ∧ z1.2.1.oneCell' = true) (fun z1 => ls.length - z1.1) ((0, v24, xs24)) (⟨Nat.zero_le _, hf24, ho24⟩) (fun z1 hz1 K1l hr1 => ?_)))))))))))))))))
   obtain ⟨i, rw', xs⟩ := z1
   obtain ⟨hi, hf, hone⟩ := hz1
   simp only at hi hf hone
   dsimp only
   refine sr (yy (y_lt rfl rfl) (nes (c_cond rfl (fun g3 => ?_) (fun g3 => ?_))))
   · have hil : i < ls.length := by simpa using g3
     obtain ⟨x, hx⟩ : ∃ r, ls[i]? = some r := ⟨_, List.getElem?_eq_getElem hil⟩
     obtain ⟨A', cap, e1, -, -, h4⟩ := id h
     injection e1 with e2 e3 e4
     subst e2
     obtain ⟨p, cs, hpe, ⟨xv, rfl, hxv⟩, hcl, hcell⟩ := h4 i x hx
     subst hpe
     have hc0 := hcell 0 _ rfl
     rw [show (p.add (i * 1)).add 0 = p.add (i * 1) by simp [Addr.add]] at hc0
     have hc0 := le24.cell hc0
     have hxv := hxv.mono le24
     obtain ⟨AX, aX, rfl, hax, -⟩ := hxv.shape
     have hs1 := hsum i
     have hs2 := hs x (List.mem_of_getElem? hx)
     have hfl : (ls.take (i + 1)).flatten = (ls.take i).flatten ++ x := by rw [List.take_add_one, hx, List.flatten_append]; simp only [Option.toList_some, List.flatten_cons, List.flatten_nil, List.append_nil]
     refine c_skip (e_then (c_seq (c_block (sr (yy (y_iaN sl_216 rfl rfl hil) (ll (ld_st ld_28 rfl ‹_›) ?_))))))
     refine sa rfl (ner (mv rfl (mv rfl (lw (t_appS (hxv) plain_cns ap_28 rfl rfl pk mo om rfl (fun va33 nw33 hf33 hm33 ho33 => ?_))))))
     refine sa rfl (l_nil (e_in (e_then (c_region (yy (y_addN (m := 1) rfl rfl om) (mv rfl (ne (t_eqn ((ls.take (i + 1)).flatten).length pk (by rw [hfl, List.length_append]) ?_))))))))
     exact t_to (hr1 (i + 1, va33, xs ++ nw33) ⟨hil, by simp only; rw [hfl]; exact hf.app hf33, ho33⟩ (by simp only; omega))
   · have hze : i = ls.length := by simp at g3; omega
     subst hze
     rw [List.take_length] at hf ⊢
     refine c_exit ?_
     exact e_then_exit (e_then_exit (e_in_same (e_then (sr (mv rfl (sa rfl (netr (f_retS rfl (rt rfl) ⟨_, rfl, hf, hone⟩))))))))
/-- The consumers of two logs on the joined one. -/
def bothC (a b : List Cns) (ta tb : List Nat) : List Cns := (a ++ b).foldl (fun out x => putC out ⟨x.name, min (ofN ta (readC a x.name).1) (ofN tb (readC b x.name).1)⟩) []
theorem mem_putC {l : List Cns} {x y : Cns} (h : y ∈ putC l x) : y = x ∨ y ∈ l := by
 unfold putC at h
 split at h
 · rcases List.mem_or_eq_of_mem_set h with h | h
   · exact .inr h
   · exact .inl h
 · simp only [List.mem_append, List.mem_singleton] at h
   rcases h with (h | h) | h
   · exact .inr (List.mem_of_mem_take h)
   · exact .inl h
   · exact .inr (List.mem_of_mem_drop h)
theorem up_putC {l : List Cns} {x : Cns} (h : l.Pairwise fun x y => x.name < y.name) : (putC l x).Pairwise fun x y => x.name < y.name := by
 unfold putC
 split
 · rename_i hf
   unfold bfound at hf
   split at hf
   · rename_i y hy
     have hyn : y.name = x.name := by rw [cmpN_zero] at hf; simpa using hf
     rw [List.pairwise_iff_getElem] at h ⊢
     intro i j hi hj hij
     obtain ⟨hb, he⟩ := List.getElem?_eq_some_iff.1 hy
     simp only [List.length_set] at hi hj
     have h1 := h i j hi hj hij
     rw [List.getElem_set, List.getElem_set]
     split <;> split <;> (try subst_vars) <;> (try omega) <;> simp_all
   · cases hf
 · rename_i hf
   have hd : (l.take (bpos (fun y => cmpN y.name x.name) l) ++ l.drop (bpos (fun y => cmpN y.name x.name) l)).Pairwise fun x y => x.name < y.name := by rw [List.take_append_drop]; exact h
   rw [List.pairwise_append] at hd
   rw [List.append_assoc, List.pairwise_append]
   refine ⟨hd.1, ?_, fun a ha b hb => ?_⟩
   · rw [List.singleton_append, List.pairwise_cons]
     refine ⟨fun y hy => ?_, hd.2.1⟩
     have h1 : x.name ≤ y.name := bpos_drop (fun y : Cns => y.name) x.name h hy
     rcases Nat.lt_or_eq_of_le h1 with h2 | h2
     · exact h2
     · exfalso
       obtain ⟨j, hj⟩ := List.getElem?_of_mem hy
       rw [List.getElem?_drop] at hj
       have hlt := (List.getElem?_eq_some_iff.1 hj).1
       have hb : bpos (fun y => cmpN y.name x.name) l < l.length := by omega
       have h0 : x.name ≤ (l[bpos (fun y => cmpN y.name x.name) l]).name := bpos_drop (fun y : Cns => y.name) x.name h (by have h9 := List.drop_eq_getElem_cons hb; rw [h9]; exact List.mem_cons_self)
       by_cases e : j = 0
       · subst e
         rw [Nat.add_zero] at hj
         apply hf
         unfold bfound
         rw [hj]
         simp only
         rw [cmpN_zero]; simp; exact h2.symm
       · have := pw_get h (List.getElem?_eq_getElem hb) hj om
         omega
   · rw [List.singleton_append, List.mem_cons] at hb
     rcases hb with rfl | hb
     · exact bpos_take (fun y : Cns => y.name) _ ha
     · exact hd.2.2 a ha b hb
theorem putC_cnsOk {l : List Cns} {x : Cns} (h : CnsOk l) (hx : x.name < 2) : CnsOk (putC l x) := ⟨fun y hy => by rcases mem_putC hy with rfl | hy; exact hx; exact h.nm y hy, up_putC h.up⟩
theorem putC_len {l : List Cns} {x : Cns} : (putC l x).length ≤ l.length + 1 := by
 unfold putC
 split
 · simp
 · have := List.findIdx_le_length (p := fun x_1 : Cns => !decide (cmpN x_1.name x.name < 0)) (xs := l)
   simp only [List.length_append, List.length_take, List.length_drop, List.length_singleton]; omega
theorem bothC_ok {S : Stone} {v w t u : Value} {a b : List Cns} {ta tb : List Nat} (h : Cnss S v a) (h' : Cnss S w b) (ht : Nats S t ta) (hu : Nats S u tb) (hka : CnsOk a) (hkb : CnsOk b) (hla : a.length ≤ 20) (hlb : b.length ≤ 20) (h1 : 1 ≤ ta.length) (h2 : 1 ≤ tb.length) :
 Con Tryz.prog 56 #[v, w, t, u] [] S (RetR fun r S' => ∃ v', r = .tuple #[v', .int .i64 0] ∧ Cnss S' v' (bothC a b ta tb)) := by
 obtain ⟨AT, aT, rfl, hT1, hT2, -⟩ := ht.shape
 obtain ⟨AU, aU, rfl, hU1, hU2, -⟩ := hu.shape
 obtain ⟨AV, aV, rfl, hV1, -⟩ := h.shape
 obtain ⟨AW, aW, rfl, hW1, -⟩ := h'.shape
 have hnm : ∀ x ∈ a ++ b, x.name < 2 := fun x hx => by
  rcases List.mem_append.1 hx with hx | hx
  · exact hka.nm x hx
  · exact hkb.nm x hx
 refine con_of 81 Tryz.func56 rfl rfl rfl (fun w0 => ?_)
 refine sr (sa rfl (sa rfl (nes (sr (mv rfl (lw (t_callr' rfl (consumers_ok h hka om) en_61 (yy (y_not rfl) (mv rfl (t_known (gd := 22) (v := false) rfl (by rfl) (fun hb22 => ?_)))))))))))
 refine qy hb22 (y_move rfl) (gw hb22 (t_callr' rfl (consumers_ok h' hkb om) en_61 (qy hb22 (y_not rfl) (yy (y_pick_f' rfl hb22 rfl) (mv rfl (t_known (gd := 27) (v := false) rfl (by rfl) (fun hb27 => ?_)))))))
 refine qy hb27 (y_move rfl) (qy hb27 (y_ln sl_91 rfl) (qy hb27 (y_eq rfl rfl) (yy (y_pick_f' rfl hb27 rfl) (mv rfl (t_known (gd := 32) (v := false) rfl (by rw [beq_eq_false_iff_ne]; omega) (fun hb32 => ?_))))))
 refine qy hb32 (y_move rfl) (qy hb32 (y_ln sl_91 rfl) (qy hb32 (y_eq rfl rfl) (yy (y_pick_f' rfl hb32 rfl) (nec rfl (fun g1 => ?_) (fun g1 => ?_)))))
 · rw [beq_iff_eq] at g1; omega
 · refine c_skip ?_
   refine e_then (sr (mv rfl (yy (y_mf' rfl rfl) (mv rfl (yy (y_mf' rfl rfl) (sa rfl (sa rfl (nesr (sa rfl (nes (sr (mv rfl (mv rfl (lw (t_bs (cs := [.slice AV a.length aV, .slice AW b.length aW]) ap_216 zc_28 (by decide) rfl rfl rfl (lt_n rfl) (fun b43 => ?_))))))))))))))))
   refine t_pub (C := cnsLC) (l := [a, b]) Pick.hd (fun S' hle => (Flat.one (a := a) (cs := [.slice AV a.length aV]) ⟨_, rfl, h.mono hle⟩ rfl).app (Flat.one (a := b) (cs := [.slice AW b.length aW]) ⟨_, rfl, h'.mono hle⟩ rfl)) rfl (fun S1 le1 hs1 => ?_)
   skip
   refine lw (t_callRow rfl (concat_ok hs1 (by simp) (by intro l hl; simp at hl; rcases hl with rfl | rfl <;> omega)) en_86 (fun v44 xs44 S44 le44 hf44 ho44 => ?_))
   refine t_pub (C := cnsC) (l := a ++ b) pk (fun S' hle => by have := hf44.mono (S' := S') (fun _ _ h => h); simpa using this) (by simp) (fun S2 le2 hs2 => ?_)
   obtain ⟨AC, aC, rfl, hC1, -⟩ := hs2.shape
   have hcl : (a ++ b).length ≤ 40 := by simp; omega
   refine yy (y_ln sl_28 rfl) (mv rfl (ne (c_block (c_loopE (τ := Nat × Value × Stone) [(45, _), (44, _), (11, _), (10, _), (36, _), (9, _), (8, _), (0, _), (1, _)] (fun Ek z0 => (46, i64 z0.1) :: (12, z0.2.1) :: Ek) (fun z0 => []) (fun z0 => z0.2.2) (fun z0 => z0.1 ≤ (a ++ b).length ∧ Stone.le S2 z0.2.2 ∧ Cnss z0.2.2 z0.2.1 (((a ++ b).take z0.1).foldl (fun out x => putC out ⟨x.name, min (ofN ta (readC a x.name).1) (ofN tb (readC b x.name).1)⟩) []) ∧ CnsOk (((a ++ b).take z0.1).foldl (fun out x => putC out ⟨x.name, min (ofN ta (readC a x.name).1) (ofN tb (readC b x.name).1)⟩) []) ∧ (((a ++ b).take z0.1).foldl (fun out x => putC out ⟨x.name, min (ofN ta (readC a x.name).1) (ofN tb (readC b x.name).1)⟩) []).length ≤ z0.1) (fun z0 => (a ++ b).length - z0.1) ((0, .slice none 0 0, S2)) (⟨Nat.zero_le _, Stone.le.refl _, Sl.nil, ⟨fun x hx => by simp at hx, List.Pairwise.nil⟩, Nat.le_refl _⟩) (fun z0 hz0 K0l hr0 => ?_)))))
   obtain ⟨i, x12, S3⟩ := z0
   obtain ⟨hi, hle, hv, hok, hln⟩ := hz0
   simp only at hi hle hv hok hln
   dsimp only
   generalize hO : ((a ++ b).take i).foldl (fun out x => putC out ⟨x.name, min (ofN ta (readC a x.name).1) (ofN tb (readC b x.name).1)⟩) [] = O at hv hok hln
   refine sr ?_
   skip
   refine yy (y_lt rfl rfl) (nes (c_cond rfl (fun g2 => ?_) (fun g2 => ?_)))
   · have hil : i < (a ++ b).length := by have h0 := g2; simp only [decide_eq_true_eq] at h0; omega
     obtain ⟨x, hx⟩ : ∃ r, (a ++ b)[i]? = some r := ⟨_, List.getElem?_eq_getElem hil⟩
     obtain ⟨p, rfl, f0, f1, f5⟩ := Cnss.at (Cnss.mono hs2 hle) hx
     have hxn := hnm x (List.mem_of_getElem? hx)
     have hst : ((a ++ b).take (i + 1)).foldl (fun out x => putC out ⟨x.name, min (ofN ta (readC a x.name).1) (ofN tb (readC b x.name).1)⟩) [] = putC O ⟨x.name, min (ofN ta (readC a x.name).1) (ofN tb (readC b x.name).1)⟩ := by
      rw [List.take_add_one, hx, Option.toList_some, List.foldl_append, hO]; rfl
     have hS3 := ((le1.trans le44).trans le2).trans hle
     have hA := h.mono hS3
     have hB := h'.mono hS3
     have hT := ht.mono hS3
     have hU := hu.mono hS3
     have hln' := putC_len (l := O) (x := ⟨x.name, min (ofN ta (readC a x.name).1) (ofN tb (readC b x.name).1)⟩)
     refine c_skip (e_then (c_seq (c_block (sr (yy (y_iaN sl_28 rfl rfl ao) (ll (ltm ld_65 rfl ‹_›) ?_))))))
     refine al zc_65 (fun b14 => lw (sw sz_65 (nes ?_)))
     refine c_region (mv rfl (yy (y_far fo_65_0 rfl) (ll (lb ld_9) ?_)))
     refine lw (t_callr' rfl ((read_ok hA hka.nm hxn).back) en_74 (mv rfl (yy (y_ext rfl rfl) (yy (y_ext rfl rfl) (sa rfl (sa rfl (nesr (mv rfl (yy (y_far fo_65_0 rfl) (ll (lb ld_9) ?_))))))))))
     refine lw (t_callr' rfl ((read_ok hB hkb.nm hxn).back) en_74 (mv rfl (yy (y_ext rfl rfl) (yy (y_ext rfl rfl) (sa rfl (sa rfl (ne (dR ([.blk b14 (.cells x.cells.toArray 65 (0, 0))]) [2] (.take 0 (.take 1 (.take 2 (.take 3 (.take 4 (.take 6 (.take 7 (.alt 5 (.alt 8 (.alt 9 (.take 10 (.alt 11 (.take 12 .done) .stop)) .stop) .stop) .stop)))))))) ?_))))))))
     refine em rfl rfl (ey rfl (y_far fo_65_0 rfl) (dl rfl (lb ld_9) ?_))
     refine em rfl rfl (em rfl rfl (em rfl rfl (em rfl rfl (da rfl (t_callvr' (v1 := [.slice AT ta.length aT]) (v2 := []) rfl rfl (of_ok hT h1) en_48 ?_)))))
     refine dA (Stone.le.refl _) (da rfl (t_callvr' (v1 := [.slice AU tb.length aU]) (v2 := []) rfl rfl (of_ok hU h2) en_48 ?_))
     refine dA (Stone.le.refl _) (da rfl (t_y (y_minN rfl rfl) rfl (lt_n rfl) ?_))
     refine dA (Stone.le.refl _) (ey rfl (y_build pl_65 zc_65 rfl rfl) (da rfl (t_callRow rfl (putC_ok (x := ⟨x.name, min (ofN ta (readC a x.name).1) (ofN tb (readC b x.name).1)⟩) hv hok om hxn) en_87 (fun v75 xs75 S75 le75 hf75 ho75 => ?_))))
     refine t_pub (C := cnsC) (l := putC O ⟨x.name, min (ofN ta (readC a x.name).1) (ofN tb (readC b x.name).1)⟩) pk (fun S' hle => hf75.mono fun _ _ h => h) rfl (fun S76 le76 hs76 => ?_)
     exact dA (le75.trans le76) (ea rfl rfl (d_done (e_in (e_then (c_region (yy (y_addN (m := 1) rfl rfl om) (mv rfl (ne (t_to (hr0 (i + 1, v75, S76) ⟨hil, (hle.trans le75).trans le76, by simp only; rw [hst]; exact hs76, by simp only; rw [hst]; exact putC_cnsOk hok hxn, by simp only; rw [hst]; omega⟩ (by simp only; omega)))))))))))
   · have hil : i = (a ++ b).length := by have h0 := g2; simp only [decide_eq_false_iff_not] at h0; omega
     subst hil
     rw [List.take_length] at hO
     obtain ⟨A9, a9, rfl, -⟩ := hv.shape
     refine c_exit ?_
     refine e_then_exit (e_then_exit (e_in_same (e_then (c_seq (sr (mv rfl (yy (y_ln sl_28 rfl) (yy (y_gt rfl rfl) (nec rfl (fun g3 => ?_) (fun g3 => ?_))))))))))
     · simp at g3; omega
     · refine c_skip ?_
       exact e_then (sr (mv rfl (sa rfl (sa rfl (netr (f_retR rfl (ResV.tmp rfl (rt rfl)) ⟨_, rfl, by unfold bothC; rw [hO]; exact hv⟩))))))
end Go.Proofs.YtkdmbimkanjbhaaGreatDoor.Eng
namespace Go.Proofs.YtkdmbimkanjbhaaGreatDoor.Eng
open Go Go.Proofs
set_option maxRecDepth 100000
attribute [local irreducible] Tr
def rOk (l : List Rec) (i : Nat) : Bool := match l[i]? with | some r => decide (((tabR (l.take i)).lookup r.prod).getD 0 < r.seq) | none => true
/-- Do records' numbers rise? -/
def risesB (l : List Rec) : Bool := (List.range l.length).all (rOk l)
structure OrdPre (s : Sh) : Prop where
 key : ∀ r ∈ s.l, r.key < 6 ∧ inR s.lo s.hi r = true
 known : ∀ r ∈ s.l, ∃ x ∈ s.p, x.id = r.prod ∧ r.seq ≤ x.seq
 pos : ∀ r ∈ s.l, 1 ≤ r.seq
theorem ordered_no {S : Stone} {v : Value} {s : Sh} (h : PartR S v s) (ho : OrdPre s) (hno : risesB s.l = false) (ht : TabOk s.p) (hl : s.l.length ≤ 200) (hpl : s.p.length ≤ 200) (h1 : s.lo < 6) (h2 : s.lo < s.hi) (h3 : s.hi ≤ 6) : Con Tryz.prog 62 #[v] [] S (Ret (.bool false) S) := by
 obtain ⟨rv, pv, cv, rfl, hr, hp, hcv⟩ := h
 obtain ⟨A, cap, rfl, hc, hm, -⟩ := hr.shape
 obtain ⟨B, capB, rfl, hcB, hmB, -⟩ := hp.shape
 have hm0 : MapN #[] [] := rfl
 refine con_of 61 Tryz.func62 rfl rfl rfl (fun w0 => ?_)
 refine sr (bx rfl rfl (fun b1 => sa rfl (nesr (lw (t_map rfl (fun b9 => sa rfl (nes (sr (yy (y_far fo_30_4 rfl) (ll (lb ld_27) ?_))))))))))
 refine yy (y_ln sl_27 rfl) (mv rfl (ne (c_block (c_loopE (τ := Nat × Array MapEntry × Nat) [(12, _), (11, _), (3, _), (2, _), (1, _)] (fun Ek z0 => (13, i64 z0.1) :: Ek) (fun z0 => [.blk b9 (.map z0.2.1 z0.2.2), .blk b1 (.cells (s.cells (.slice A s.l.length cap) (.slice B s.p.length capB) cv).toArray 30 (0, 0))]) (fun z0 => S) (fun z0 => z0.1 ≤ s.p.length ∧ MapN z0.2.1 (tabP (s.p.take z0.1))) (fun z0 => s.p.length - z0.1) ((0, #[], 0)) (⟨Nat.zero_le _, hm0⟩) (fun z0 hz0 K0l hr0 => ?_)))))
 obtain ⟨i, es, ck⟩ := z0
 obtain ⟨hi, hmn⟩ := hz0
 simp only at hi hmn
 dsimp only
 refine sr (yy (y_lt rfl rfl) (nes (c_cond rfl (fun g1 => ?_) (fun g1 => ?_))))
 · have hil : i < s.p.length := by simpa using g1
   obtain ⟨r, hrr⟩ : ∃ r, s.p[i]? = some r := ⟨_, List.getElem?_eq_getElem hil⟩
   obtain ⟨q, rfl, f0, f1, f2, f3, f5⟩ := hp.at hrr
   refine c_skip (e_then (c_seq (c_block (sr (yy (y_iaN sl_27 rfl rfl ao) (ll (ltm ld_67 rfl ‹_›) ?_))))))
   refine al zc_67 (fun b5 => lw (sw sz_67 (ne ?_)))
   refine c_region (mv rfl (yy (y_far fo_67_0 rfl) (ll (lb ld_25) ?_)))
   refine yy (y_far fo_67_1 rfl) (ll (lb ld_25) ?_)
   refine lw (t_mapset mp_180 rfl rfl rfl pk ‹_› (fun es1 ck1 hm1 => ?_))
   exact l_nil (e_in (e_then (c_region (yy (y_addN (m := 1) rfl rfl om) (mv rfl (ne (t_to (hr0 (i + 1, es1, ck1) ⟨hil, by simp only; rw [List.take_add_one, hrr, Option.toList_some, tabP_snoc]; exact hm1⟩ (by simp only; omega)))))))))
 · have hil : i = s.p.length := by simp at g1; omega
   subst hil
   rw [List.take_length] at hmn
   refine c_exit ?_
   refine e_then_exit (e_then_exit (e_in_same (e_then (sr (lw (t_map rfl (fun b23 => sa rfl (nes (sr (yy (y_far fo_30_3 rfl) (ll (lb ld_26) ?_)))))))))))
   refine yy (y_ln sl_26 rfl) (mv rfl (ne (c_block (c_loopE (τ := Nat × Array MapEntry × Nat) [(26, _), (25, _), (6, _), (14, _), (3, _), (2, _), (1, _)] (fun Ek z1 => (27, i64 z1.1) :: Ek) (fun z1 => [.blk b23 (.map z1.2.1 z1.2.2), .blk b9 (.map es ck), .blk b1 (.cells (s.cells (.slice A s.l.length cap) (.slice B s.p.length capB) cv).toArray 30 (0, 0))]) (fun z1 => S) (fun z1 => z1.1 ≤ s.l.length ∧ MapN z1.2.1 (tabR (s.l.take z1.1)) ∧ (List.range z1.1).all (rOk s.l) = true) (fun z1 => s.l.length - z1.1) ((0, #[], 0)) (⟨Nat.zero_le _, hm0, rfl⟩) (fun z1 hz1 K1l hr1 => ?_)))))
   obtain ⟨i, es', ck'⟩ := z1
   obtain ⟨hi', hmn', hall⟩ := hz1
   simp only at hi' hmn' hall
   dsimp only
   refine sr (yy (y_lt rfl rfl) (nes (c_cond rfl (fun g2 => ?_) (fun g2 => ?_))))
   · have hil : i < s.l.length := by simpa using g2
     obtain ⟨r, hrr⟩ : ∃ r, s.l[i]? = some r := ⟨_, List.getElem?_eq_getElem hil⟩
     obtain ⟨q, bv, rfl, hbv, f0, f1, f2, f3, f4, f5⟩ := hr.at hrr
     obtain ⟨pb, cb, rfl, -⟩ := id hbv
     have hmem := List.mem_of_getElem? hrr
     obtain ⟨hk6, hin⟩ := ho.key r hmem
     obtain ⟨x, hx, hxi, hxs⟩ := ho.known r hmem
     obtain ⟨j, hj⟩ := List.getElem?_of_mem hx
     have hkn : (tabP s.p).lookup r.prod = some x.seq := by
      have := tabP_take ht.up s.p.length (Nat.le_refl _) j x hj (List.getElem?_eq_some_iff.1 hj).1
      rwa [List.take_length, hxi] at this
     have hrk : rOk s.l i = decide (((tabR (s.l.take i)).lookup r.prod).getD 0 < r.seq) := by unfold rOk; rw [hrr]
     have hra : (List.range (i + 1)).all (rOk s.l) = (rOk s.l i) := by rw [List.range_succ, List.all_append, hall]; simp
     refine c_skip (e_then (c_seq (c_block (sr (yy (y_iaN sl_26 rfl rfl ao) (ll (ltm ld_84 rfl ‹_›) ?_))))))
     refine al zc_84 (fun b8 => lw (sw sz_84 (nes ?_)))
     refine sr (yy (y_far fo_30_0 rfl) (ll (lbs ld_24) ?_))
     refine yy (y_far fo_84_1 rfl) (ll (lb ld_9) ?_)
     refine lw (t_callr' rfl (has_ok h1 h2 h3 hk6) en_45 (yy (y_not rfl) ?_))
     refine mv rfl (t_known (gd := 37) (v := false) rfl (by (have hin' : decide (s.lo ≤ r.key ∧ r.key < s.hi) = true := hin); rw [hin']; rfl) (fun hb37 => ?_))
     refine qy hb37 (y_far fo_84_4 rfl) (gl hb37 (lb ld_25) ?_)
     refine qy hb37 (y_move rfl) (qy hb37 (y_far fo_84_3 rfl) (gl hb37 (lb ld_25) ?_))
     refine gl hb37 (ld_map mp_180 rfl rfl pk ‹_›) ?_
     refine qy hb37 (y_le rfl rfl) (yy (y_pick_f' rfl hb37 rfl) (mv rfl ?_))
     apply l_or 8 (gd := 46) (d := 54) rfl
     · intro hb46 K3 hK3
       refine qy hb46 (y_far fo_84_4 rfl) (gl hb46 (lb ld_25) ?_)
       refine qy hb46 (y_move rfl) (qy hb46 (y_far fo_84_3 rfl) (gl hb46 (lb ld_25) ?_))
       refine gl hb46 (ld_map mp_180 rfl rfl pk ‹_›) ?_
       exact qy hb46 (y_gt rfl rfl) (yy (y_pick_f' rfl hb46 rfl) (lk_end hK3))
     · intro hb46 K3 hK3
       exact qn hb46 (qn hb46 (qn hb46 (qn hb46 (qn hb46 (qn hb46 (qn hb46 (yy (y_pick_t' rfl hb46 rfl) (lk_end hK3))))))))
     refine nec rfl (fun g4 => ?_) (fun g4 => ?_)
     · have hbad : rOk s.l i = false := by
        rw [hrk, decide_eq_false_iff_not]
        have h0 := g4
        rw [hkn] at h0
        simp at h0
        rcases h0 with h0 | h0 <;> omega
       exact sr (sa rfl (netr (e_then_ret (e_in_ret (e_then_ret (e_then_ret (e_in_ret (e_then_ret (f_ret0 rfl (rt rfl) rfl rfl)))))))))
     · have hgood : rOk s.l i = true := by
        rw [hrk, decide_eq_true_eq]
        have h0 := g4
        rw [hkn] at h0
        simp at h0
        omega
       refine c_skip (e_then (c_region (mv rfl (yy (y_far fo_84_3 rfl) (ll (lb ld_25) ?_)))))
       refine yy (y_far fo_84_4 rfl) (ll (lb ld_25) ?_)
       refine lw (t_mapset mp_180 rfl rfl rfl pk ‹_› (fun es2 ck2 hm2 => ?_))
       exact l_nil (e_in (e_then (c_region (yy (y_addN (m := 1) rfl rfl om) (mv rfl (ne (t_to (hr1 (i + 1, es2, ck2) ⟨hil, by simp only; rw [List.take_add_one, hrr, Option.toList_some, tabR_snoc]; exact hm2, by simp only; rw [hra]; exact hgood⟩ (by simp only; omega)))))))))
   · have hil : i = s.l.length := by simp at g2; omega
     subst hil
     unfold risesB at hno
     rw [hall] at hno
     cases hno
/-- A state whose records do not rise may not be. -/
theorem check_no {S : Stone} {v : Value} {s : Sh} (h : PartR S v s) (o1 : s.lo < 6) (o2 : s.lo < s.hi) (o3 : s.hi ≤ 6) (o4 : 1 ≤ s.epoch) (o5 : Num s.l) (o6 : s.l.length ≤ 200) (o7 : s.p.length ≤ 200) (o8 : s.c.length ≤ 60) (o9 : TabOk s.p) (o10 : CnsOk s.c) (hpre : OrdPre s) (hno : risesB s.l = false) : Con Tryz.prog 36 #[v] [] S (RetR fun u _ => u = .int .i64 165) := by
 have h' := h
 obtain ⟨rv, pv, cv, rfl, hr, hp, hcv⟩ := h
 obtain ⟨A, cap, rfl, hc, hm, -⟩ := hr.shape
 obtain ⟨B, capB, rfl, hcB, hmB, -⟩ := hp.shape
 obtain ⟨D, capD, rfl, hcD, hmD, -⟩ := hcv.shape
 refine con_of 44 Tryz.func36 rfl rfl rfl (fun w0 => ?_)
 refine sr (bx rfl rfl (fun b1 => sa rfl (nesr (yy (y_far fo_30_3 rfl) (ll (lb ld_26) ?_)))))
 refine yy (y_ln sl_26 rfl) (yy (y_cvu cv_3_25 rfl om) (al zc_25 (fun b3 => lw (s1 sz_25 (t_stone Pick.hd (fun S1 le1 hS1 => ?_))))))
 refine t_stone Pick.hd (fun S2 le2 hS2 => ?_)
 have hr2 := hr.mono (le1.trans le2)
 have hp2 := hp.mono (le1.trans le2)
 have hc2 := hcv.mono (le1.trans le2)
 have h2 := h'.mono (le1.trans le2)
 have hS1' := le2 _ _ hS1
 have hn2 : S2.cell ⟨b3, 0, none⟩ = some (u64 s.l.length) := by simp [Stone.cell, hS1']
 have hk : ∀ (k : Nat) u, (s.cells (.slice A s.l.length cap) (.slice B s.p.length capB) (.slice D s.c.length capD))[k]? = some u → S2.cell ⟨b1, 0 + k, none⟩ = some u := fun k u hu => by simp [Stone.cell, hS2, hu]
 have k0 := hk 0 _ rfl
 have k1 := hk 1 _ rfl
 have k2 := hk 2 _ rfl
 have k3 := hk 3 _ rfl
 have k4 := hk 4 _ rfl
 have k5 := hk 5 _ rfl
 have k6 := hk 6 _ rfl
 have kr : ∀ (j : Nat) u, ([.string (ky s.lo), .string (kh s.hi)] : List Value)[j]? = some u → S2.cell ((⟨b1, 0 + 0, none⟩ : Addr).add j) = some u := fun j u hu => by
  match j, hu with
  | 0, hu => cases hu; rw [add_lit]; exact k0
  | 1, hu => cases hu; rw [add_lit]; exact k1
 have kw : ∀ (j : Nat) u, (s.cells (.slice A s.l.length cap) (.slice B s.p.length capB) (.slice D s.c.length capD))[j]? = some u → S2.cell ((⟨b1, 0, none⟩ : Addr).add j) = some u := fun j u hu => by rw [add_lit]; exact hk j u hu
 refine nesr (yy (y_mf' rfl rfl) (sa rfl (nesr (yy (y_mf' rfl rfl) (sa rfl (nes (c_block (c_seq (sr (yy (y_far fo_30_0 rfl) (ll (ltm ld_24 rfl kr) ?_)))))))))))
 refine lw (t_callr' rfl (range_ok ‹_› ‹_› ‹_›) en_7 ?_)
 refine yy (y_ne rfl rfl) (sa rfl (ne (c_false rfl (sr (yy (y_far fo_30_1 rfl) (ll (ld_st ld_25 rfl ‹_›) ?_))))))
 refine yy (y_eq rfl rfl) ?_
 rw [show ((s.epoch : Int) == 0) = false by simp; omega]
 refine sa rfl (ne (c_false rfl (sr (yy (y_far fo_30_3 rfl) (ll (ld_st ld_26 rfl ‹_›) ?_)))))
 refine lw (t_callr' rfl (log_ok ‹_› ‹_› om) en_46 ?_)
 refine yy (y_not rfl) (sa rfl (ne (c_false rfl (sr (yy (y_far fo_30_4 rfl) (ll (ld_st ld_27 rfl ‹_›) ?_))))))
 refine lw (t_callr' rfl (table_ok ‹_› ‹_› om) en_60 ?_)
 refine yy (y_not rfl) (sa rfl (ne (c_false rfl (c_region (yy (y_far fo_30_5 rfl) (ll (ld_st ld_28 rfl ‹_›) ?_))))))
 refine lw (t_callr' rfl (consumers_ok ‹_› ‹_› om) en_61 ?_)
 refine yy (y_not rfl) (sa rfl (ne (c_false rfl (c_seq (sr (ll (ltm ld_30 rfl kw) ?_))))))
 exact lw (t_callr' rfl (ordered_no h2 hpre hno o9 o6 o7 o1 o2 o3) en_62 (yy (y_not rfl) (sa rfl (ne (c_true rfl (c_skip (e_then (c_true rfl (sr (sa rfl (netr (e_in_ret (e_then_ret (f_retR rfl (rt rfl) rfl))))))))))))))
end Go.Proofs.YtkdmbimkanjbhaaGreatDoor.Eng

/-
  Part 15 of the proof of WholeBooks: W57, Step, Step2.
-/
import Derived.Test.YtkdmbimkanjbhaaGreatDoorQ14
namespace Go.Proofs.YtkdmbimkanjbhaaGreatDoor.Eng
open Go Go.Proofs
set_option maxRecDepth 100000
set_option maxHeartbeats 4000000
attribute [local irreducible] Tr
open Classical in
noncomputable def merB (bs : List Bk) (i : Nat) (a b : Bk) : List Bk := if a.frozen = 0 ∨ b.frozen = 0 then bs else
 match joinL a.l b.l with
 | none => bs
 | some (out, ta, tb) => if Rises out then bs.take i ++ [togB a b out ta tb] ++ bs.drop (i + 2) else bs
theorem merges_live {S : Stone} {sb : Nat} {bs : List Bk} {nx : Nat → Nat} {lv bv : Value} {xs ys : List Value} {i : Nat} {a b : Bk} (hF : ShF S bs lv bv xs ys) (ha : bs[i]? = some a) (hb : bs[i + 1]? = some b) (ho : BkOk a) (ho' : BkOk b) (hadj : a.hi = b.lo) (hl : a.l.length + b.l.length ≤ 200) (he : a.epoch ≤ 1000000) (he' : b.epoch ≤ 1000000) (hn : bs.length ≤ 1000) (hf : a.frozen = 0 ∨ b.frozen = 0) :
 Con Tryz.prog 14 #[.pointer (some ⟨sb, 0, none⟩), i64 i] (ShItems sb lv bv bs.length xs ys nx) S (fun u I' S' => u = .bool true ∧ ShR sb (bs) nx I' S') := by
 have hil : i < bs.length := (List.getElem?_eq_some_iff.1 ha).1
 have hil1 : i + 1 < bs.length := (List.getElem?_eq_some_iff.1 hb).1
 obtain ⟨A0, a0, B0, b0, D0, d0, hpart, hpx⟩ := hF.part ha
 obtain ⟨AB, aB, hbook, hbx⟩ := hF.book ha
 obtain ⟨A0', a0', B0', b0', D0', d0', hpart', hpx'⟩ := hF.part hb
 obtain ⟨AB', aB', hbook', hbx'⟩ := hF.book hb
 have hsa := shOk_of ho om
 have hsb := shOk_of ho' om
 have l1 := len_prdsOf a
 have l2 := len_prdsOf b
 have l3 := len_cnssOf a
 have l4 := len_cnssOf b
 have m1 : (shOf a).p.length ≤ 50 := by show (prdsOf a).length ≤ 50; omega
 have m2 : (shOf b).p.length ≤ 50 := by show (prdsOf b).length ≤ 50; omega
 have m3 : (shOf a).c.length ≤ 20 := by show (cnssOf a).length ≤ 20; omega
 have m4 : (shOf b).c.length ≤ 20 := by show (cnssOf b).length ≤ 20; omega
 refine con_of 124 Tryz.func14 rfl rfl rfl (fun w0 => ?_)
 refine sr (t_form (v := lv) (Pick.tl Pick.hd) (fun _ hn => absurd hn om) (fun gL cl hv hl1 hl2 hl3 => ?_))
 subst hv
 refine t_form (v := bv) (Pick.tl (Pick.tl Pick.hd)) (fun _ hn => absurd hn om) (fun gB cb hv hb1 hb2 hb3 => ?_)
 subst hv
 refine sa rfl (nes (c_cutx (τ := List Value × Stone × Nat) (fun z => [(0, .pointer (some ⟨sb, 0, none⟩)), (1, i64 i), (5, .pointer (some ⟨z.2.2, 0, none⟩)), (6, .int .i64 171)]) (fun z => [.blk z.2.2 (.cells z.1.toArray 30 (0, 0)), .blk sb (.cells [.slice (some ⟨gL, 0, none⟩) bs.length cl, .slice (some ⟨gB, 0, none⟩) bs.length cb, u64 (nx 0), u64 (nx 1), u64 (nx 2), u64 (nx 3)].toArray 44 (0, 0)), .row (.slice (some ⟨gL, 0, none⟩) bs.length cl) 30 7 bs.length xs, .row (.slice (some ⟨gB, 0, none⟩) bs.length cb) 40 19 bs.length ys]) (fun z => z.2.1) (fun z => Stone.le S z.2.1 ∧ z.1.length = 7) (fun K hK => ?_) (fun z hz => ?_)))
 refine dR ([.blk sb (.cells [.slice (some ⟨gL, 0, none⟩) bs.length cl, .slice (some ⟨gB, 0, none⟩) bs.length cb, u64 (nx 0), u64 (nx 1), u64 (nx 2), u64 (nx 3)].toArray 44 (0, 0)), .row (.slice (some ⟨gL, 0, none⟩) bs.length cl) 30 7 bs.length xs]) [3, 6, 10, 14] (.take 0 (.take 1 (.take 2 (.take 3 (.take 4 (.take 5 (.take 6 (.take 7 (.take 8 (.take 9 (.take 10 (.take 11 (.take 12 (.take 13 (.take 14 (.alt 15 (.take 16 (.take 17 (.take 18 (.alt 19 (.alt 20 (.take 21 .done) .stop) .stop)))) (.alt 19 (.alt 15 (.take 16 (.take 17 (.take 18 (.alt 20 (.take 21 .done) .stop)))) .stop) .stop))))))))))))))))) ?_
 refine em rfl rfl (ey rfl (y_nil rfl) (ey rfl (y_far fo_44_0 rfl) (dl rfl (lb ld_35) ?_)))
 refine em rfl rfl (ey rfl (y_iaNr sl_35 rfl rfl hil) (dl rfl (ld_flat ld_30 rfl pk hpx rfl) ?_))
 refine em rfl rfl (ey rfl (y_nil rfl) (ey rfl (y_far fo_44_0 rfl) (dl rfl (lb ld_35) ?_)))
 refine em rfl rfl (ey rfl (y_addN (m := 1) rfl rfl om) (ey rfl (y_iaNr sl_35 rfl rfl hil1) (dl rfl (ld_flat ld_30 rfl pk hpx' rfl) ?_)))
 refine d_alt rfl rfl ?_ ?_
 · -- first 15
   refine t_callR rfl (Merge_err (e := 171) (by decide) (RetR.mo (merge_live hpart hpart' hsa hsb he he' hadj hl m1 m2 m3 m4 hf) (fun _ _ h => h)) ⟨_, hpart⟩ ⟨_, hpart'⟩) en_21 ?_
   rintro v25 S25 le25 rfl
   refine dA le25 (em rfl rfl (ey rfl (y_ext rfl rfl) (ey rfl (y_ext rfl rfl) (da rfl (tal zc_30 (fun b5 => dA le25 (da rfl (sw sz_30 ?_))))))))
   exact dA le25 (ea rfl rfl (d_done (e_then (t_to (hK ([.string ⟨#[]⟩, .string ⟨#[]⟩, .int .u64 0, .int .u64 0, .slice none 0 0, .slice none 0 0, .slice none 0 0], S25, b5) ⟨le25, rfl⟩)))))
 refine d_alt rfl rfl ?_ d_stop
 refine tal zc_30 (fun b5 => dA (Stone.le.refl _) (da rfl (t_callR rfl (Merge_err (e := 171) (by decide) (RetR.mo (merge_live hpart hpart' hsa hsb he he' hadj hl m1 m2 m3 m4 hf) (fun _ _ h => h)) ⟨_, hpart⟩ ⟨_, hpart'⟩) en_21 ?_)))
 rintro v25 S25 le25 rfl
 refine dA le25 (em rfl rfl (ey rfl (y_ext rfl rfl) (ey rfl (y_ext rfl rfl) (da rfl (sw sz_30 ?_)))))
 exact dA le25 (ea rfl rfl (d_done (e_then (t_to (hK ([.string ⟨#[]⟩, .string ⟨#[]⟩, .int .u64 0, .int .u64 0, .slice none 0 0, .slice none 0 0, .slice none 0 0], S25, b5) ⟨le25, rfl⟩)))))
 -- behind the cut
 refine c_seq (c_seq ?_)
 obtain ⟨cs1, S1, b5⟩ := z
 obtain ⟨hle1, hzz⟩ := hz
 dsimp only at hle1 hzz ⊢
 refine c_region (mv rfl (yy (y_nil rfl) (yy (y_far fo_44_1 rfl) (ll (lb ld_41) ?_))))
 refine mv rfl (yy (y_iaNr sl_41 rfl rfl hil) (yy (y_far fo_40_3 rfl) (ll (ld_row ld_25 rfl pk (hbx 3 _ rfl)) ?_)))
 refine yy (y_eq rfl rfl) (mv rfl ?_)
 apply l_or 11 (gd := 37) (d := 48) rfl
 · intro hb37 K1 hK1
   refine qy hb37 (y_move rfl) (qy hb37 (y_nil rfl) (qy hb37 (y_far fo_44_1 rfl) (gl hb37 (lb ld_41) ?_)))
   refine qy hb37 (y_move rfl) (qy hb37 (y_addN (m := 1) rfl rfl om) (qy hb37 (y_iaNr sl_41 rfl rfl hil1) (qy hb37 (y_far fo_40_3 rfl) (gl hb37 (ld_row ld_25 rfl pk (hbx' 3 _ rfl)) ?_))))
   exact qy hb37 (y_eq rfl rfl) (yy (y_pick_f' rfl hb37 rfl) (lk_end hK1))
 · intro hb37 K1 hK1
   exact qn hb37 (qn hb37 (qn hb37 (qn hb37 (qn hb37 (qn hb37 (qn hb37 (qn hb37 (qn hb37 (qn hb37 (yy (y_pick_t' rfl hb37 rfl) (lk_end hK1)))))))))))
 refine nec rfl (fun g2 => ?_) (fun g2 => ?_)
 · refine c_seq ?_
   exact c_region (mv rfl (yy (y_eq rfl rfl) (sa rfl (netr (e_then_ret (f_retS rfl (rt rfl) ⟨rfl, _, _, xs, ys, rfl, hF.mono hle1⟩))))))
 · have h9 := g2
   simp at h9
   omega
theorem merges_none {S : Stone} {sb : Nat} {bs : List Bk} {nx : Nat → Nat} {lv bv : Value} {xs ys : List Value} {i : Nat} {a b : Bk} (hF : ShF S bs lv bv xs ys) (ha : bs[i]? = some a) (hb : bs[i + 1]? = some b) (ho : BkOk a) (ho' : BkOk b) (hadj : a.hi = b.lo) (hl : a.l.length + b.l.length ≤ 200) (he : a.epoch ≤ 1000000) (he' : b.epoch ≤ 1000000) (hn : bs.length ≤ 1000) (hf : ¬ (a.frozen = 0 ∨ b.frozen = 0)) (hJ : joinL a.l b.l = none) :
 Con Tryz.prog 14 #[.pointer (some ⟨sb, 0, none⟩), i64 i] (ShItems sb lv bv bs.length xs ys nx) S (fun u I' S' => u = .bool true ∧ ShR sb (bs) nx I' S') := by
 have hil : i < bs.length := (List.getElem?_eq_some_iff.1 ha).1
 have hil1 : i + 1 < bs.length := (List.getElem?_eq_some_iff.1 hb).1
 obtain ⟨A0, a0, B0, b0, D0, d0, hpart, hpx⟩ := hF.part ha
 obtain ⟨AB, aB, hbook, hbx⟩ := hF.book ha
 obtain ⟨A0', a0', B0', b0', D0', d0', hpart', hpx'⟩ := hF.part hb
 obtain ⟨AB', aB', hbook', hbx'⟩ := hF.book hb
 have hsa := shOk_of ho om
 have hsb := shOk_of ho' om
 have l1 := len_prdsOf a
 have l2 := len_prdsOf b
 have l3 := len_cnssOf a
 have l4 := len_cnssOf b
 have m1 : (shOf a).p.length ≤ 50 := by show (prdsOf a).length ≤ 50; omega
 have m2 : (shOf b).p.length ≤ 50 := by show (prdsOf b).length ≤ 50; omega
 have m3 : (shOf a).c.length ≤ 20 := by show (cnssOf a).length ≤ 20; omega
 have m4 : (shOf b).c.length ≤ 20 := by show (cnssOf b).length ≤ 20; omega
 refine con_of 124 Tryz.func14 rfl rfl rfl (fun w0 => ?_)
 refine sr (t_form (v := lv) (Pick.tl Pick.hd) (fun _ hn => absurd hn om) (fun gL cl hv hl1 hl2 hl3 => ?_))
 subst hv
 refine t_form (v := bv) (Pick.tl (Pick.tl Pick.hd)) (fun _ hn => absurd hn om) (fun gB cb hv hb1 hb2 hb3 => ?_)
 subst hv
 refine sa rfl (nes (c_cutx (τ := List Value × Stone × Nat) (fun z => [(0, .pointer (some ⟨sb, 0, none⟩)), (1, i64 i), (5, .pointer (some ⟨z.2.2, 0, none⟩)), (6, .int .i64 145)]) (fun z => [.blk z.2.2 (.cells z.1.toArray 30 (0, 0)), .blk sb (.cells [.slice (some ⟨gL, 0, none⟩) bs.length cl, .slice (some ⟨gB, 0, none⟩) bs.length cb, u64 (nx 0), u64 (nx 1), u64 (nx 2), u64 (nx 3)].toArray 44 (0, 0)), .row (.slice (some ⟨gL, 0, none⟩) bs.length cl) 30 7 bs.length xs, .row (.slice (some ⟨gB, 0, none⟩) bs.length cb) 40 19 bs.length ys]) (fun z => z.2.1) (fun z => Stone.le S z.2.1 ∧ z.1.length = 7) (fun K hK => ?_) (fun z hz => ?_)))
 refine dR ([.blk sb (.cells [.slice (some ⟨gL, 0, none⟩) bs.length cl, .slice (some ⟨gB, 0, none⟩) bs.length cb, u64 (nx 0), u64 (nx 1), u64 (nx 2), u64 (nx 3)].toArray 44 (0, 0)), .row (.slice (some ⟨gL, 0, none⟩) bs.length cl) 30 7 bs.length xs]) [3, 6, 10, 14] (.take 0 (.take 1 (.take 2 (.take 3 (.take 4 (.take 5 (.take 6 (.take 7 (.take 8 (.take 9 (.take 10 (.take 11 (.take 12 (.take 13 (.take 14 (.alt 15 (.take 16 (.take 17 (.take 18 (.alt 19 (.alt 20 (.take 21 .done) .stop) .stop)))) (.alt 19 (.alt 15 (.take 16 (.take 17 (.take 18 (.alt 20 (.take 21 .done) .stop)))) .stop) .stop))))))))))))))))) ?_
 refine em rfl rfl (ey rfl (y_nil rfl) (ey rfl (y_far fo_44_0 rfl) (dl rfl (lb ld_35) ?_)))
 refine em rfl rfl (ey rfl (y_iaNr sl_35 rfl rfl hil) (dl rfl (ld_flat ld_30 rfl pk hpx rfl) ?_))
 refine em rfl rfl (ey rfl (y_nil rfl) (ey rfl (y_far fo_44_0 rfl) (dl rfl (lb ld_35) ?_)))
 refine em rfl rfl (ey rfl (y_addN (m := 1) rfl rfl om) (ey rfl (y_iaNr sl_35 rfl rfl hil1) (dl rfl (ld_flat ld_30 rfl pk hpx' rfl) ?_)))
 refine d_alt rfl rfl ?_ ?_
 · -- first 15
   refine t_callR rfl (Merge_err (e := 145) (by decide) (RetR.mo (merge_none hpart hpart' hsa hsb he he' hadj hl m1 m2 m3 m4 hf hJ) (fun _ _ h => h)) ⟨_, hpart⟩ ⟨_, hpart'⟩) en_21 ?_
   rintro v25 S25 le25 rfl
   refine dA le25 (em rfl rfl (ey rfl (y_ext rfl rfl) (ey rfl (y_ext rfl rfl) (da rfl (tal zc_30 (fun b5 => dA le25 (da rfl (sw sz_30 ?_))))))))
   exact dA le25 (ea rfl rfl (d_done (e_then (t_to (hK ([.string ⟨#[]⟩, .string ⟨#[]⟩, .int .u64 0, .int .u64 0, .slice none 0 0, .slice none 0 0, .slice none 0 0], S25, b5) ⟨le25, rfl⟩)))))
 refine d_alt rfl rfl ?_ d_stop
 refine tal zc_30 (fun b5 => dA (Stone.le.refl _) (da rfl (t_callR rfl (Merge_err (e := 145) (by decide) (RetR.mo (merge_none hpart hpart' hsa hsb he he' hadj hl m1 m2 m3 m4 hf hJ) (fun _ _ h => h)) ⟨_, hpart⟩ ⟨_, hpart'⟩) en_21 ?_)))
 rintro v25 S25 le25 rfl
 refine dA le25 (em rfl rfl (ey rfl (y_ext rfl rfl) (ey rfl (y_ext rfl rfl) (da rfl (sw sz_30 ?_)))))
 exact dA le25 (ea rfl rfl (d_done (e_then (t_to (hK ([.string ⟨#[]⟩, .string ⟨#[]⟩, .int .u64 0, .int .u64 0, .slice none 0 0, .slice none 0 0, .slice none 0 0], S25, b5) ⟨le25, rfl⟩)))))
 -- behind the cut
 refine c_seq (c_seq ?_)
 obtain ⟨cs1, S1, b5⟩ := z
 obtain ⟨hle1, hzz⟩ := hz
 dsimp only at hle1 hzz ⊢
 refine c_region (mv rfl (yy (y_nil rfl) (yy (y_far fo_44_1 rfl) (ll (lb ld_41) ?_))))
 refine mv rfl (yy (y_iaNr sl_41 rfl rfl hil) (yy (y_far fo_40_3 rfl) (ll (ld_row ld_25 rfl pk (hbx 3 _ rfl)) ?_)))
 refine yy (y_eq rfl rfl) (mv rfl ?_)
 apply l_or 11 (gd := 37) (d := 48) rfl
 · intro hb37 K1 hK1
   refine qy hb37 (y_move rfl) (qy hb37 (y_nil rfl) (qy hb37 (y_far fo_44_1 rfl) (gl hb37 (lb ld_41) ?_)))
   refine qy hb37 (y_move rfl) (qy hb37 (y_addN (m := 1) rfl rfl om) (qy hb37 (y_iaNr sl_41 rfl rfl hil1) (qy hb37 (y_far fo_40_3 rfl) (gl hb37 (ld_row ld_25 rfl pk (hbx' 3 _ rfl)) ?_))))
   exact qy hb37 (y_eq rfl rfl) (yy (y_pick_f' rfl hb37 rfl) (lk_end hK1))
 · intro hb37 K1 hK1
   exact qn hb37 (qn hb37 (qn hb37 (qn hb37 (qn hb37 (qn hb37 (qn hb37 (qn hb37 (qn hb37 (qn hb37 (yy (y_pick_t' rfl hb37 rfl) (lk_end hK1)))))))))))
 refine nec rfl (fun g2 => ?_) (fun g2 => ?_)
 · have h9 := g2
   simp at h9
   omega
 · refine c_skip ?_
   refine e_then (c_seq (c_cutx (τ := List Value × Stone × Nat) (fun y => [(0, .pointer (some ⟨sb, 0, none⟩)), (1, i64 i), (5, .pointer (some ⟨b5, 0, none⟩)), (6, .int .i64 145), (7, .pointer (some ⟨y.2.2, 0, none⟩)), (8, .int .i64 145)]) (fun y => [.blk y.2.2 (.cells y.1.toArray 40 (0, 0)), .blk b5 (.cells cs1.toArray 30 (0, 0)), .blk sb (.cells [.slice (some ⟨gL, 0, none⟩) bs.length cl, .slice (some ⟨gB, 0, none⟩) bs.length cb, u64 (nx 0), u64 (nx 1), u64 (nx 2), u64 (nx 3)].toArray 44 (0, 0)), .row (.slice (some ⟨gL, 0, none⟩) bs.length cl) 30 7 bs.length xs, .row (.slice (some ⟨gB, 0, none⟩) bs.length cb) 40 19 bs.length ys]) (fun y => y.2.1) (fun y => Stone.le S1 y.2.1) (fun K hK => ?_) (fun y hy => ?_)))
   refine dR ([.blk sb (.cells [.slice (some ⟨gL, 0, none⟩) bs.length cl, .slice (some ⟨gB, 0, none⟩) bs.length cb, u64 (nx 0), u64 (nx 1), u64 (nx 2), u64 (nx 3)].toArray 44 (0, 0)), .row (.slice (some ⟨gB, 0, none⟩) bs.length cb) 40 19 bs.length ys]) [3, 6, 10, 14] (.take 0 (.take 1 (.take 2 (.take 3 (.take 4 (.take 5 (.take 6 (.take 7 (.take 8 (.take 9 (.take 10 (.take 11 (.take 12 (.take 13 (.take 14 (.alt 15 (.take 16 (.take 17 (.take 18 (.alt 19 (.alt 20 (.take 21 .done) .stop) .stop)))) (.alt 19 (.alt 15 (.take 16 (.take 17 (.take 18 (.alt 20 (.take 21 .done) .stop)))) .stop) .stop))))))))))))))))) ?_
   refine em rfl rfl (ey rfl (y_nil rfl) (ey rfl (y_far fo_44_1 rfl) (dl rfl (lb ld_41) ?_)))
   refine em rfl rfl (ey rfl (y_iaNr sl_41 rfl rfl hil) (dl rfl (ld_flat ld_40 rfl pk hbx rfl) ?_))
   refine em rfl rfl (ey rfl (y_nil rfl) (ey rfl (y_far fo_44_1 rfl) (dl rfl (lb ld_41) ?_)))
   refine em rfl rfl (ey rfl (y_addN (m := 1) rfl rfl om) (ey rfl (y_iaNr sl_41 rfl rfl hil1) (dl rfl (ld_flat ld_40 rfl pk hbx' rfl) ?_)))
   refine d_alt rfl rfl ?_ ?_
   · -- first 15
     refine t_callR rfl (RetR.mo (tog_none (hbook.mono hle1) (hbook'.mono hle1) ho ho' he he' hl hJ) (fun _ _ h => h)) en_22 ?_
     rintro v67 S67 le67 ⟨z67, rfl, cs67, rfl, hn67, ha67⟩
     refine dA le67 (em rfl rfl (ey rfl (y_ext rfl rfl) (ey rfl (y_ext rfl rfl) (da rfl (tal zc_40 (fun b7 => dA le67 (da rfl (t_stw (vs := cs67) sz_40 rfl rfl rfl hn67 ha67 pk rfl ?_))))))))
     exact dA le67 (ea rfl rfl (d_done (e_then (t_to (hK (cs67, S67, b7) le67)))))
   refine d_alt rfl rfl ?_ d_stop
   refine tal zc_40 (fun b7 => dA (Stone.le.refl _) (da rfl (t_callR rfl (RetR.mo (tog_none (hbook.mono hle1) (hbook'.mono hle1) ho ho' he he' hl hJ) (fun _ _ h => h)) en_22 ?_)))
   rintro v67 S67 le67 ⟨z67, rfl, cs67, rfl, hn67, ha67⟩
   refine dA le67 (em rfl rfl (ey rfl (y_ext rfl rfl) (ey rfl (y_ext rfl rfl) (da rfl (t_stw (vs := cs67) sz_40 rfl rfl rfl hn67 ha67 pk rfl ?_)))))
   exact dA le67 (ea rfl rfl (d_done (e_then (t_to (hK (cs67, S67, b7) le67)))))
   -- behind the cut
   refine c_seq (c_seq ?_)
   skip
   obtain ⟨cs2, S2, b7⟩ := y
   have hle2 : Stone.le S1 S2 := hy
   dsimp only at hle2 ⊢
   refine c_region (mv rfl (mv rfl (yy (y_ne rfl rfl) (mv rfl (t_known (gd := 73) (v := false) rfl (by rfl) (fun hb73 => ?_))))))
   exact qy hb73 (y_move rfl) (qy hb73 (y_ne rfl rfl) (yy (y_pick_f' rfl hb73 rfl) (ne (c_true rfl (sr (mv rfl (mv rfl (yy (y_eq rfl rfl) (sa rfl (netr (e_then_ret (f_retS rfl (rt rfl) ⟨rfl, _, _, xs, ys, rfl, hF.mono (hle1.trans hle2)⟩))))))))))))
theorem merges_bad {S : Stone} {sb : Nat} {bs : List Bk} {nx : Nat → Nat} {lv bv : Value} {xs ys : List Value} {i : Nat} {a b : Bk} (hF : ShF S bs lv bv xs ys) (ha : bs[i]? = some a) (hb : bs[i + 1]? = some b) (ho : BkOk a) (ho' : BkOk b) (hadj : a.hi = b.lo) (hl : a.l.length + b.l.length ≤ 200) (he : a.epoch ≤ 1000000) (he' : b.epoch ≤ 1000000) (hn : bs.length ≤ 1000) (hf : ¬ (a.frozen = 0 ∨ b.frozen = 0)) {out : List Rec} {ta tb : List Nat} (hJ : joinL a.l b.l = some (out, ta, tb)) (hR : ¬ Rises out) :
 Con Tryz.prog 14 #[.pointer (some ⟨sb, 0, none⟩), i64 i] (ShItems sb lv bv bs.length xs ys nx) S (fun u I' S' => u = .bool true ∧ ShR sb (bs) nx I' S') := by
 have hil : i < bs.length := (List.getElem?_eq_some_iff.1 ha).1
 have hil1 : i + 1 < bs.length := (List.getElem?_eq_some_iff.1 hb).1
 obtain ⟨A0, a0, B0, b0, D0, d0, hpart, hpx⟩ := hF.part ha
 obtain ⟨AB, aB, hbook, hbx⟩ := hF.book ha
 obtain ⟨A0', a0', B0', b0', D0', d0', hpart', hpx'⟩ := hF.part hb
 obtain ⟨AB', aB', hbook', hbx'⟩ := hF.book hb
 have hsa := shOk_of ho om
 have hsb := shOk_of ho' om
 have l1 := len_prdsOf a
 have l2 := len_prdsOf b
 have l3 := len_cnssOf a
 have l4 := len_cnssOf b
 have m1 : (shOf a).p.length ≤ 50 := by show (prdsOf a).length ≤ 50; omega
 have m2 : (shOf b).p.length ≤ 50 := by show (prdsOf b).length ≤ 50; omega
 have m3 : (shOf a).c.length ≤ 20 := by show (cnssOf a).length ≤ 20; omega
 have m4 : (shOf b).c.length ≤ 20 := by show (cnssOf b).length ≤ 20; omega
 refine con_of 124 Tryz.func14 rfl rfl rfl (fun w0 => ?_)
 refine sr (t_form (v := lv) (Pick.tl Pick.hd) (fun _ hn => absurd hn om) (fun gL cl hv hl1 hl2 hl3 => ?_))
 subst hv
 refine t_form (v := bv) (Pick.tl (Pick.tl Pick.hd)) (fun _ hn => absurd hn om) (fun gB cb hv hb1 hb2 hb3 => ?_)
 subst hv
 refine sa rfl (nes (c_cutx (τ := List Value × Stone × Nat) (fun z => [(0, .pointer (some ⟨sb, 0, none⟩)), (1, i64 i), (5, .pointer (some ⟨z.2.2, 0, none⟩)), (6, .int .i64 172)]) (fun z => [.blk z.2.2 (.cells z.1.toArray 30 (0, 0)), .blk sb (.cells [.slice (some ⟨gL, 0, none⟩) bs.length cl, .slice (some ⟨gB, 0, none⟩) bs.length cb, u64 (nx 0), u64 (nx 1), u64 (nx 2), u64 (nx 3)].toArray 44 (0, 0)), .row (.slice (some ⟨gL, 0, none⟩) bs.length cl) 30 7 bs.length xs, .row (.slice (some ⟨gB, 0, none⟩) bs.length cb) 40 19 bs.length ys]) (fun z => z.2.1) (fun z => Stone.le S z.2.1 ∧ z.1.length = 7) (fun K hK => ?_) (fun z hz => ?_)))
 refine dR ([.blk sb (.cells [.slice (some ⟨gL, 0, none⟩) bs.length cl, .slice (some ⟨gB, 0, none⟩) bs.length cb, u64 (nx 0), u64 (nx 1), u64 (nx 2), u64 (nx 3)].toArray 44 (0, 0)), .row (.slice (some ⟨gL, 0, none⟩) bs.length cl) 30 7 bs.length xs]) [3, 6, 10, 14] (.take 0 (.take 1 (.take 2 (.take 3 (.take 4 (.take 5 (.take 6 (.take 7 (.take 8 (.take 9 (.take 10 (.take 11 (.take 12 (.take 13 (.take 14 (.alt 15 (.take 16 (.take 17 (.take 18 (.alt 19 (.alt 20 (.take 21 .done) .stop) .stop)))) (.alt 19 (.alt 15 (.take 16 (.take 17 (.take 18 (.alt 20 (.take 21 .done) .stop)))) .stop) .stop))))))))))))))))) ?_
 refine em rfl rfl (ey rfl (y_nil rfl) (ey rfl (y_far fo_44_0 rfl) (dl rfl (lb ld_35) ?_)))
 refine em rfl rfl (ey rfl (y_iaNr sl_35 rfl rfl hil) (dl rfl (ld_flat ld_30 rfl pk hpx rfl) ?_))
 refine em rfl rfl (ey rfl (y_nil rfl) (ey rfl (y_far fo_44_0 rfl) (dl rfl (lb ld_35) ?_)))
 refine em rfl rfl (ey rfl (y_addN (m := 1) rfl rfl om) (ey rfl (y_iaNr sl_35 rfl rfl hil1) (dl rfl (ld_flat ld_30 rfl pk hpx' rfl) ?_)))
 refine d_alt rfl rfl ?_ ?_
 · -- first 15
   refine t_callR rfl (Merge_err (e := 172) (by decide) (RetR.mo (merge_bad hpart hpart' hsa hsb he he' hadj hl m1 m2 m3 m4 hf hJ (join_len hJ).1 (join_len hJ).2.1 (merge_no ho ho' hadj hl hJ hR)) (fun _ _ h => h)) ⟨_, hpart⟩ ⟨_, hpart'⟩) en_21 ?_
   rintro v25 S25 le25 rfl
   refine dA le25 (em rfl rfl (ey rfl (y_ext rfl rfl) (ey rfl (y_ext rfl rfl) (da rfl (tal zc_30 (fun b5 => dA le25 (da rfl (sw sz_30 ?_))))))))
   exact dA le25 (ea rfl rfl (d_done (e_then (t_to (hK ([.string ⟨#[]⟩, .string ⟨#[]⟩, .int .u64 0, .int .u64 0, .slice none 0 0, .slice none 0 0, .slice none 0 0], S25, b5) ⟨le25, rfl⟩)))))
 refine d_alt rfl rfl ?_ d_stop
 refine tal zc_30 (fun b5 => dA (Stone.le.refl _) (da rfl (t_callR rfl (Merge_err (e := 172) (by decide) (RetR.mo (merge_bad hpart hpart' hsa hsb he he' hadj hl m1 m2 m3 m4 hf hJ (join_len hJ).1 (join_len hJ).2.1 (merge_no ho ho' hadj hl hJ hR)) (fun _ _ h => h)) ⟨_, hpart⟩ ⟨_, hpart'⟩) en_21 ?_)))
 rintro v25 S25 le25 rfl
 refine dA le25 (em rfl rfl (ey rfl (y_ext rfl rfl) (ey rfl (y_ext rfl rfl) (da rfl (sw sz_30 ?_)))))
 exact dA le25 (ea rfl rfl (d_done (e_then (t_to (hK ([.string ⟨#[]⟩, .string ⟨#[]⟩, .int .u64 0, .int .u64 0, .slice none 0 0, .slice none 0 0, .slice none 0 0], S25, b5) ⟨le25, rfl⟩)))))
 -- behind the cut
 refine c_seq (c_seq ?_)
 obtain ⟨cs1, S1, b5⟩ := z
 obtain ⟨hle1, hzz⟩ := hz
 dsimp only at hle1 hzz ⊢
 refine c_region (mv rfl (yy (y_nil rfl) (yy (y_far fo_44_1 rfl) (ll (lb ld_41) ?_))))
 refine mv rfl (yy (y_iaNr sl_41 rfl rfl hil) (yy (y_far fo_40_3 rfl) (ll (ld_row ld_25 rfl pk (hbx 3 _ rfl)) ?_)))
 refine yy (y_eq rfl rfl) (mv rfl ?_)
 apply l_or 11 (gd := 37) (d := 48) rfl
 · intro hb37 K1 hK1
   refine qy hb37 (y_move rfl) (qy hb37 (y_nil rfl) (qy hb37 (y_far fo_44_1 rfl) (gl hb37 (lb ld_41) ?_)))
   refine qy hb37 (y_move rfl) (qy hb37 (y_addN (m := 1) rfl rfl om) (qy hb37 (y_iaNr sl_41 rfl rfl hil1) (qy hb37 (y_far fo_40_3 rfl) (gl hb37 (ld_row ld_25 rfl pk (hbx' 3 _ rfl)) ?_))))
   exact qy hb37 (y_eq rfl rfl) (yy (y_pick_f' rfl hb37 rfl) (lk_end hK1))
 · intro hb37 K1 hK1
   exact qn hb37 (qn hb37 (qn hb37 (qn hb37 (qn hb37 (qn hb37 (qn hb37 (qn hb37 (qn hb37 (qn hb37 (yy (y_pick_t' rfl hb37 rfl) (lk_end hK1)))))))))))
 refine nec rfl (fun g2 => ?_) (fun g2 => ?_)
 · have h9 := g2
   simp at h9
   omega
 · refine c_skip ?_
   refine e_then (c_seq (c_cutx (τ := List Value × Stone × Nat) (fun y => [(0, .pointer (some ⟨sb, 0, none⟩)), (1, i64 i), (5, .pointer (some ⟨b5, 0, none⟩)), (6, .int .i64 172), (7, .pointer (some ⟨y.2.2, 0, none⟩)), (8, .int .i64 172)]) (fun y => [.blk y.2.2 (.cells y.1.toArray 40 (0, 0)), .blk b5 (.cells cs1.toArray 30 (0, 0)), .blk sb (.cells [.slice (some ⟨gL, 0, none⟩) bs.length cl, .slice (some ⟨gB, 0, none⟩) bs.length cb, u64 (nx 0), u64 (nx 1), u64 (nx 2), u64 (nx 3)].toArray 44 (0, 0)), .row (.slice (some ⟨gL, 0, none⟩) bs.length cl) 30 7 bs.length xs, .row (.slice (some ⟨gB, 0, none⟩) bs.length cb) 40 19 bs.length ys]) (fun y => y.2.1) (fun y => Stone.le S1 y.2.1) (fun K hK => ?_) (fun y hy => ?_)))
   refine dR ([.blk sb (.cells [.slice (some ⟨gL, 0, none⟩) bs.length cl, .slice (some ⟨gB, 0, none⟩) bs.length cb, u64 (nx 0), u64 (nx 1), u64 (nx 2), u64 (nx 3)].toArray 44 (0, 0)), .row (.slice (some ⟨gB, 0, none⟩) bs.length cb) 40 19 bs.length ys]) [3, 6, 10, 14] (.take 0 (.take 1 (.take 2 (.take 3 (.take 4 (.take 5 (.take 6 (.take 7 (.take 8 (.take 9 (.take 10 (.take 11 (.take 12 (.take 13 (.take 14 (.alt 15 (.take 16 (.take 17 (.take 18 (.alt 19 (.alt 20 (.take 21 .done) .stop) .stop)))) (.alt 19 (.alt 15 (.take 16 (.take 17 (.take 18 (.alt 20 (.take 21 .done) .stop)))) .stop) .stop))))))))))))))))) ?_
   refine em rfl rfl (ey rfl (y_nil rfl) (ey rfl (y_far fo_44_1 rfl) (dl rfl (lb ld_41) ?_)))
   refine em rfl rfl (ey rfl (y_iaNr sl_41 rfl rfl hil) (dl rfl (ld_flat ld_40 rfl pk hbx rfl) ?_))
   refine em rfl rfl (ey rfl (y_nil rfl) (ey rfl (y_far fo_44_1 rfl) (dl rfl (lb ld_41) ?_)))
   refine em rfl rfl (ey rfl (y_addN (m := 1) rfl rfl om) (ey rfl (y_iaNr sl_41 rfl rfl hil1) (dl rfl (ld_flat ld_40 rfl pk hbx' rfl) ?_)))
   refine d_alt rfl rfl ?_ ?_
   · -- first 15
     refine t_callR rfl (RetR.mo (tog_bad (hbook.mono hle1) (hbook'.mono hle1) ho ho' he he' hl hJ hR) (fun _ _ h => h)) en_22 ?_
     rintro v67 S67 le67 ⟨z67, rfl, cs67, rfl, hn67, ha67⟩
     refine dA le67 (em rfl rfl (ey rfl (y_ext rfl rfl) (ey rfl (y_ext rfl rfl) (da rfl (tal zc_40 (fun b7 => dA le67 (da rfl (t_stw (vs := cs67) sz_40 rfl rfl rfl hn67 ha67 pk rfl ?_))))))))
     exact dA le67 (ea rfl rfl (d_done (e_then (t_to (hK (cs67, S67, b7) le67)))))
   refine d_alt rfl rfl ?_ d_stop
   refine tal zc_40 (fun b7 => dA (Stone.le.refl _) (da rfl (t_callR rfl (RetR.mo (tog_bad (hbook.mono hle1) (hbook'.mono hle1) ho ho' he he' hl hJ hR) (fun _ _ h => h)) en_22 ?_)))
   rintro v67 S67 le67 ⟨z67, rfl, cs67, rfl, hn67, ha67⟩
   refine dA le67 (em rfl rfl (ey rfl (y_ext rfl rfl) (ey rfl (y_ext rfl rfl) (da rfl (t_stw (vs := cs67) sz_40 rfl rfl rfl hn67 ha67 pk rfl ?_)))))
   exact dA le67 (ea rfl rfl (d_done (e_then (t_to (hK (cs67, S67, b7) le67)))))
   -- behind the cut
   refine c_seq (c_seq ?_)
   skip
   obtain ⟨cs2, S2, b7⟩ := y
   have hle2 : Stone.le S1 S2 := hy
   dsimp only at hle2 ⊢
   refine c_region (mv rfl (mv rfl (yy (y_ne rfl rfl) (mv rfl (t_known (gd := 73) (v := false) rfl (by rfl) (fun hb73 => ?_))))))
   exact qy hb73 (y_move rfl) (qy hb73 (y_ne rfl rfl) (yy (y_pick_f' rfl hb73 rfl) (ne (c_true rfl (sr (mv rfl (mv rfl (yy (y_eq rfl rfl) (sa rfl (netr (e_then_ret (f_retS rfl (rt rfl) ⟨rfl, _, _, xs, ys, rfl, hF.mono (hle1.trans hle2)⟩))))))))))))
theorem merges_yes {S : Stone} {sb : Nat} {bs : List Bk} {nx : Nat → Nat} {lv bv : Value} {xs ys : List Value} {i : Nat} {a b : Bk} (hF : ShF S bs lv bv xs ys) (ha : bs[i]? = some a) (hb : bs[i + 1]? = some b) (ho : BkOk a) (ho' : BkOk b) (hadj : a.hi = b.lo) (hl : a.l.length + b.l.length ≤ 200) (he : a.epoch ≤ 1000000) (he' : b.epoch ≤ 1000000) (hn : bs.length ≤ 1000) {out : List Rec} {ta tb : List Nat} (hf : ¬ (a.frozen = 0 ∨ b.frozen = 0)) (hJ : joinL a.l b.l = some (out, ta, tb)) (hR : Rises out) (hT : BkOk (togB a b out ta tb)) (hTl : (togB a b out ta tb).l.length ≤ 200) :
 Con Tryz.prog 14 #[.pointer (some ⟨sb, 0, none⟩), i64 i] (ShItems sb lv bv bs.length xs ys nx) S (fun u I' S' => u = .bool true ∧ ShR sb (bs.take i ++ [togB a b out ta tb] ++ bs.drop (i + 2)) nx I' S') := by
 have hil : i < bs.length := (List.getElem?_eq_some_iff.1 ha).1
 have hil1 : i + 1 < bs.length := (List.getElem?_eq_some_iff.1 hb).1
 obtain ⟨A0, a0, B0, b0, D0, d0, hpart, hpx⟩ := hF.part ha
 obtain ⟨AB, aB, hbook, hbx⟩ := hF.book ha
 obtain ⟨A0', a0', B0', b0', D0', d0', hpart', hpx'⟩ := hF.part hb
 obtain ⟨AB', aB', hbook', hbx'⟩ := hF.book hb
 have hsa := shOk_of ho om
 have hsb := shOk_of ho' om
 have l1 := len_prdsOf a
 have l2 := len_prdsOf b
 have l3 := len_cnssOf a
 have l4 := len_cnssOf b
 have m1 : (shOf a).p.length ≤ 50 := by show (prdsOf a).length ≤ 50; omega
 have m2 : (shOf b).p.length ≤ 50 := by show (prdsOf b).length ≤ 50; omega
 have m3 : (shOf a).c.length ≤ 20 := by show (cnssOf a).length ≤ 20; omega
 have m4 : (shOf b).c.length ≤ 20 := by show (cnssOf b).length ≤ 20; omega
 refine con_of 124 Tryz.func14 rfl rfl rfl (fun w0 => ?_)
 refine sr (t_form (v := lv) (Pick.tl Pick.hd) (fun _ hn => absurd hn om) (fun gL cl hv hl1 hl2 hl3 => ?_))
 subst hv
 refine t_form (v := bv) (Pick.tl (Pick.tl Pick.hd)) (fun _ hn => absurd hn om) (fun gB cb hv hb1 hb2 hb3 => ?_)
 subst hv
 refine sa rfl (nes (c_cutx (τ := List Value × Stone × Nat) (fun z => [(0, .pointer (some ⟨sb, 0, none⟩)), (1, i64 i), (5, .pointer (some ⟨z.2.2, 0, none⟩)), (6, .int .i64 0)]) (fun z => [.blk z.2.2 (.cells z.1.toArray 30 (0, 0)), .blk sb (.cells [.slice (some ⟨gL, 0, none⟩) bs.length cl, .slice (some ⟨gB, 0, none⟩) bs.length cb, u64 (nx 0), u64 (nx 1), u64 (nx 2), u64 (nx 3)].toArray 44 (0, 0)), .row (.slice (some ⟨gL, 0, none⟩) bs.length cl) 30 7 bs.length xs, .row (.slice (some ⟨gB, 0, none⟩) bs.length cb) 40 19 bs.length ys]) (fun z => z.2.1) (fun z => Stone.le S z.2.1 ∧ partC z.2.1 z.1 (shOf (togB a b out ta tb)) ∧ z.1.length = 7 ∧ z.1.all Value.oneCell' = true) (fun K hK => ?_) (fun z hz => ?_)))
 refine dR ([.blk sb (.cells [.slice (some ⟨gL, 0, none⟩) bs.length cl, .slice (some ⟨gB, 0, none⟩) bs.length cb, u64 (nx 0), u64 (nx 1), u64 (nx 2), u64 (nx 3)].toArray 44 (0, 0)), .row (.slice (some ⟨gL, 0, none⟩) bs.length cl) 30 7 bs.length xs]) [3, 6, 10, 14] (.take 0 (.take 1 (.take 2 (.take 3 (.take 4 (.take 5 (.take 6 (.take 7 (.take 8 (.take 9 (.take 10 (.take 11 (.take 12 (.take 13 (.take 14 (.alt 15 (.take 16 (.take 17 (.take 18 (.alt 19 (.alt 20 (.take 21 .done) .stop) .stop)))) (.alt 19 (.alt 15 (.take 16 (.take 17 (.take 18 (.alt 20 (.take 21 .done) .stop)))) .stop) .stop))))))))))))))))) ?_
 refine em rfl rfl (ey rfl (y_nil rfl) (ey rfl (y_far fo_44_0 rfl) (dl rfl (lb ld_35) ?_)))
 refine em rfl rfl (ey rfl (y_iaNr sl_35 rfl rfl hil) (dl rfl (ld_flat ld_30 rfl pk hpx rfl) ?_))
 refine em rfl rfl (ey rfl (y_nil rfl) (ey rfl (y_far fo_44_0 rfl) (dl rfl (lb ld_35) ?_)))
 refine em rfl rfl (ey rfl (y_addN (m := 1) rfl rfl om) (ey rfl (y_iaNr sl_35 rfl rfl hil1) (dl rfl (ld_flat ld_30 rfl pk hpx' rfl) ?_)))
 refine d_alt rfl rfl ?_ ?_
 · -- first 15
   refine t_callR rfl (Merge_yes (merge_yes hpart hpart' hsa hsb he he' hadj hl m1 m2 m3 m4 hf hJ (join_len hJ).1 (join_len hJ).2.1 (by rw [merge_law ho ho' hJ hR]; exact shOk_of hT hTl)) ⟨_, hpart⟩ ⟨_, hpart'⟩) en_21 ?_
   rintro v25 S25 le25 ⟨v25', rfl, hp25⟩
   rw [merge_law ho ho' hJ hR] at hp25
   obtain ⟨E1, e1, E2, e2, E3, e3, rfl, -⟩ := hp25.ex
   refine dA le25 (em rfl rfl (ey rfl (y_ext rfl rfl) (ey rfl (y_ext rfl rfl) (da rfl (tal zc_30 (fun b5 => dA le25 (da rfl (sw sz_30 ?_))))))))
   exact dA le25 (ea rfl rfl (d_done (e_then (t_to (hK ((shOf (togB a b out ta tb)).cells (.slice E1 (shOf (togB a b out ta tb)).l.length e1) (.slice E2 (shOf (togB a b out ta tb)).p.length e2) (.slice E3 (shOf (togB a b out ta tb)).c.length e3), S25, b5) ⟨le25, hp25, rfl, rfl⟩)))))
 refine d_alt rfl rfl ?_ d_stop
 refine tal zc_30 (fun b5 => dA (Stone.le.refl _) (da rfl (t_callR rfl (Merge_yes (merge_yes hpart hpart' hsa hsb he he' hadj hl m1 m2 m3 m4 hf hJ (join_len hJ).1 (join_len hJ).2.1 (by rw [merge_law ho ho' hJ hR]; exact shOk_of hT hTl)) ⟨_, hpart⟩ ⟨_, hpart'⟩) en_21 ?_)))
 rintro v25 S25 le25 ⟨v25', rfl, hp25⟩
 rw [merge_law ho ho' hJ hR] at hp25
 obtain ⟨E1, e1, E2, e2, E3, e3, rfl, -⟩ := hp25.ex
 refine dA le25 (em rfl rfl (ey rfl (y_ext rfl rfl) (ey rfl (y_ext rfl rfl) (da rfl (sw sz_30 ?_)))))
 exact dA le25 (ea rfl rfl (d_done (e_then (t_to (hK ((shOf (togB a b out ta tb)).cells (.slice E1 (shOf (togB a b out ta tb)).l.length e1) (.slice E2 (shOf (togB a b out ta tb)).p.length e2) (.slice E3 (shOf (togB a b out ta tb)).c.length e3), S25, b5) ⟨le25, hp25, rfl, rfl⟩)))))
 -- behind the cut
 refine c_seq (c_seq ?_)
 obtain ⟨cs1, S1, b5⟩ := z
 obtain ⟨hle1, hzz⟩ := hz
 dsimp only at hle1 hzz ⊢
 refine c_region (mv rfl (yy (y_nil rfl) (yy (y_far fo_44_1 rfl) (ll (lb ld_41) ?_))))
 refine mv rfl (yy (y_iaNr sl_41 rfl rfl hil) (yy (y_far fo_40_3 rfl) (ll (ld_row ld_25 rfl pk (hbx 3 _ rfl)) ?_)))
 refine yy (y_eq rfl rfl) (mv rfl ?_)
 apply l_or 11 (gd := 37) (d := 48) rfl
 · intro hb37 K1 hK1
   refine qy hb37 (y_move rfl) (qy hb37 (y_nil rfl) (qy hb37 (y_far fo_44_1 rfl) (gl hb37 (lb ld_41) ?_)))
   refine qy hb37 (y_move rfl) (qy hb37 (y_addN (m := 1) rfl rfl om) (qy hb37 (y_iaNr sl_41 rfl rfl hil1) (qy hb37 (y_far fo_40_3 rfl) (gl hb37 (ld_row ld_25 rfl pk (hbx' 3 _ rfl)) ?_))))
   exact qy hb37 (y_eq rfl rfl) (yy (y_pick_f' rfl hb37 rfl) (lk_end hK1))
 · intro hb37 K1 hK1
   exact qn hb37 (qn hb37 (qn hb37 (qn hb37 (qn hb37 (qn hb37 (qn hb37 (qn hb37 (qn hb37 (qn hb37 (yy (y_pick_t' rfl hb37 rfl) (lk_end hK1)))))))))))
 refine nec rfl (fun g2 => ?_) (fun g2 => ?_)
 · have h9 := g2
   simp at h9
   omega
 · refine c_skip ?_
   refine e_then (c_seq (c_cutx (τ := Value × Stone × Nat) (fun y => [(0, .pointer (some ⟨sb, 0, none⟩)), (1, i64 i), (5, .pointer (some ⟨b5, 0, none⟩)), (6, .int .i64 0), (7, .pointer (some ⟨y.2.2, 0, none⟩)), (8, .int .i64 0)]) (fun y => [.blk y.2.2 (.cells ((togB a b out ta tb).cells y.1).toArray 40 (0, 0)), .blk b5 (.cells cs1.toArray 30 (0, 0)), .blk sb (.cells [.slice (some ⟨gL, 0, none⟩) bs.length cl, .slice (some ⟨gB, 0, none⟩) bs.length cb, u64 (nx 0), u64 (nx 1), u64 (nx 2), u64 (nx 3)].toArray 44 (0, 0)), .row (.slice (some ⟨gL, 0, none⟩) bs.length cl) 30 7 bs.length xs, .row (.slice (some ⟨gB, 0, none⟩) bs.length cb) 40 19 bs.length ys]) (fun y => y.2.1) (fun y => Stone.le S1 y.2.1 ∧ Recs y.2.1 y.1 (togB a b out ta tb).l) (fun K hK => ?_) (fun y hy => ?_)))
   refine dR ([.blk sb (.cells [.slice (some ⟨gL, 0, none⟩) bs.length cl, .slice (some ⟨gB, 0, none⟩) bs.length cb, u64 (nx 0), u64 (nx 1), u64 (nx 2), u64 (nx 3)].toArray 44 (0, 0)), .row (.slice (some ⟨gB, 0, none⟩) bs.length cb) 40 19 bs.length ys]) [3, 6, 10, 14] (.take 0 (.take 1 (.take 2 (.take 3 (.take 4 (.take 5 (.take 6 (.take 7 (.take 8 (.take 9 (.take 10 (.take 11 (.take 12 (.take 13 (.take 14 (.alt 15 (.take 16 (.take 17 (.take 18 (.alt 19 (.alt 20 (.take 21 .done) .stop) .stop)))) (.alt 19 (.alt 15 (.take 16 (.take 17 (.take 18 (.alt 20 (.take 21 .done) .stop)))) .stop) .stop))))))))))))))))) ?_
   refine em rfl rfl (ey rfl (y_nil rfl) (ey rfl (y_far fo_44_1 rfl) (dl rfl (lb ld_41) ?_)))
   refine em rfl rfl (ey rfl (y_iaNr sl_41 rfl rfl hil) (dl rfl (ld_flat ld_40 rfl pk hbx rfl) ?_))
   refine em rfl rfl (ey rfl (y_nil rfl) (ey rfl (y_far fo_44_1 rfl) (dl rfl (lb ld_41) ?_)))
   refine em rfl rfl (ey rfl (y_addN (m := 1) rfl rfl om) (ey rfl (y_iaNr sl_41 rfl rfl hil1) (dl rfl (ld_flat ld_40 rfl pk hbx' rfl) ?_)))
   refine d_alt rfl rfl ?_ ?_
   · -- first 15
     refine t_callR rfl (tog_yes (hbook.mono hle1) (hbook'.mono hle1) ho ho' he he' hl hJ hR (join_len hJ).1 (join_len hJ).2.1) en_22 ?_
     rintro v67 S67 le67 ⟨z67, rfl, ⟨rv67, rfl, hv67⟩⟩
     obtain ⟨AV, aV, rfl, -⟩ := hv67.shape
     refine dA le67 (em rfl rfl (ey rfl (y_ext rfl rfl) (ey rfl (y_ext rfl rfl) (da rfl (tal zc_40 (fun b7 => dA le67 (da rfl (sw sz_40 ?_))))))))
     exact dA le67 (ea rfl rfl (d_done (e_then (t_to (hK (.slice AV (togB a b out ta tb).l.length aV, S67, b7) ⟨le67, hv67⟩)))))
   refine d_alt rfl rfl ?_ d_stop
   refine tal zc_40 (fun b7 => dA (Stone.le.refl _) (da rfl (t_callR rfl (tog_yes (hbook.mono hle1) (hbook'.mono hle1) ho ho' he he' hl hJ hR (join_len hJ).1 (join_len hJ).2.1) en_22 ?_)))
   rintro v67 S67 le67 ⟨z67, rfl, ⟨rv67, rfl, hv67⟩⟩
   obtain ⟨AV, aV, rfl, -⟩ := hv67.shape
   refine dA le67 (em rfl rfl (ey rfl (y_ext rfl rfl) (ey rfl (y_ext rfl rfl) (da rfl (sw sz_40 ?_)))))
   exact dA le67 (ea rfl rfl (d_done (e_then (t_to (hK (.slice AV (togB a b out ta tb).l.length aV, S67, b7) ⟨le67, hv67⟩)))))
   -- behind the cut
   refine c_seq (c_seq ?_)
   skip
   obtain ⟨rv2, S2, b7⟩ := y
   obtain ⟨hle2, hrr2⟩ := hy
   dsimp only at hle2 hrr2 ⊢
   obtain ⟨AV, aV, rfl, -⟩ := hrr2.shape
   refine c_region (mv rfl (mv rfl (yy (y_ne rfl rfl) (mv rfl (t_known (gd := 73) (v := false) rfl (by rfl) (fun hb73 => ?_))))))
   refine qy hb73 (y_move rfl) (qy hb73 (y_ne rfl rfl) (yy (y_pick_f' rfl hb73 rfl) (ne (c_false rfl (c_skip (e_then (c_seq ?_)))))))
   obtain ⟨hq1, hq2, hq3⟩ := hzz
   have hF20 := hF.mono (hle1.trans hle2)
   refine t_pub (C := partC) (l := bs.map shOf) (v := .slice (some ⟨gL, 0, none⟩) bs.length cl) pk (fun S' hle => hF20.parts.mono (partC_mono hle)) (by simp) (fun S21 le21 hs21 => ?_)
   refine t_pub (C := bookC) (l := bs) (v := .slice (some ⟨gB, 0, none⟩) bs.length cb) pk (fun S' hle => hF20.books.mono (bookC_mono (le21.trans hle))) rfl (fun S22 le22 hs22 => ?_)
   have hs21' : Sl S22 7 partC (.slice (some ⟨gL, 0, none⟩) (bs.map shOf).length cl) (bs.map shOf) := by rw [List.length_map]; exact Parts.mono hs21 le22
   have hsA := Sl.sub hs21' (Nat.zero_le i) (by simp; omega : i ≤ (bs.map shOf).length)
   rw [sliced_zero, List.drop_zero] at hsA
   have hsB := Sl.sub hs21' (by simp; omega : i + 2 ≤ (bs.map shOf).length) (Nat.le_refl _)
   rw [List.take_length] at hsB
   have hsC := Sl.sub hs22 (Nat.zero_le i) (by omega : i ≤ bs.length)
   rw [sliced_zero, List.drop_zero] at hsC
   have hsD := Sl.sub hs22 (by omega : i + 2 ≤ bs.length) (Nat.le_refl _)
   rw [List.take_length] at hsD
   refine dR ([.blk sb (.cells [.slice (some ⟨gL, 0, none⟩) bs.length cl, .slice (some ⟨gB, 0, none⟩) bs.length cb, u64 (nx 0), u64 (nx 1), u64 (nx 2), u64 (nx 3)].toArray 44 (0, 0)), .blk b5 (.cells cs1.toArray 30 (0, 0))]) [5, 9, 15] (.take 0 (.take 2 (.take 3 (.take 4 (.take 5 (.take 6 (.take 7 (.take 9 (.take 12 (.take 13 (.take 14 (.take 15 (.take 16 (.take 17 (.take 18 (.alt 1 (.alt 8 (.alt 10 (.alt 11 (.alt 19 (.take 20 (.take 21 (.alt 22 .done .stop))) .stop) .stop) .stop) (.alt 10 (.alt 8 (.alt 11 (.alt 19 (.take 20 (.take 21 (.alt 22 .done .stop))) .stop) .stop) .stop) .stop)) (.alt 10 (.alt 1 (.alt 8 (.alt 11 (.alt 19 (.take 20 (.take 21 (.alt 22 .done .stop))) .stop) .stop) .stop) .stop) .stop))))))))))))))))) ?_
   refine em rfl rfl (em rfl rfl (ey rfl (y_nil rfl) (ey rfl (y_far fo_44_0 rfl) (dl rfl (lb ld_35) ?_))))
   refine em rfl rfl (ey rfl (y_slh sl_35 rfl (h := i) rfl om) (dl rfl (lbw ld_30 (hl := hq2)) ?_))
   refine em rfl rfl (ey rfl (y_nil rfl) (ey rfl (y_far fo_44_0 rfl) (dl rfl (lb ld_35) ?_)))
   refine em rfl rfl (ey rfl (y_addN (m := 2) rfl rfl om) (ey rfl (y_sl sl_35 rfl (l := i + 2) (h := bs.length) ⟨_, rfl⟩ rfl om om) ?_))
   rw [List.length_map] at hsB
   have hsB' := hsB
   have hdl : ((bs.map shOf).drop (i + 2)).length = bs.length - (i + 2) := by simp
   obtain ⟨A69, a69, e69, -, -⟩ := hsB.shape
   rw [e69] at hsB' ⊢
   refine d_alt rfl rfl ?_ ?_
   · -- first 1
     refine t_bs0 ap_35 zc_30 rfl (fun b81 => ?_)
     refine dA (Stone.le.refl _) (d_alt rfl rfl ?_ ?_)
     · -- first 8
       refine t_appS (hsA) plain_part ap_35 rfl rfl pk mo om rfl (fun va88 nw88 hf88 hm88 ho88 => ?_)
       refine dA (Stone.le.refl _) (da rfl (t_bs1 ap_35 zc_30 rfl rfl hq2 rfl rfl (fun b90 => ?_)))
       refine dA (Stone.le.refl _) (da rfl (t_appR ap_35 rfl rfl pk pk (by rw [hq2]) hq3 mo om rfl (fun va91 ho91 => ?_)))
       refine dA (Stone.le.refl _) (da rfl (t_appS (hsB') plain_part ap_35 rfl rfl pk mo om rfl (fun va99 nw99 hf99 hm99 ho99 => ?_)))
       refine dA (Stone.le.refl _) (ey rfl (y_nil rfl) (ey rfl (y_far fo_44_0 rfl) (da rfl (t_st1' sz_35 rfl rfl (by first | assumption | exact Byt.one ‹_› | exact Sl.one ‹_›) pk rfl ?_))))
       refine dA (Stone.le.refl _) (d_done (e_then (c_seq (dR ([.blk sb (.cells [va99, .slice (some ⟨gB, 0, none⟩) bs.length cb, u64 (nx 0), u64 (nx 1), u64 (nx 2), u64 (nx 3)].toArray 44 (0, 0)), .blk b7 (.cells ((togB a b out ta tb).cells (.slice AV (togB a b out ta tb).l.length aV)).toArray 40 (0, 0))]) [5, 9, 15] (.take 0 (.take 2 (.take 3 (.take 4 (.take 5 (.take 6 (.take 7 (.take 9 (.take 12 (.take 13 (.take 14 (.take 15 (.take 16 (.take 17 (.take 18 (.alt 1 (.alt 8 (.alt 10 (.alt 11 (.alt 19 (.take 20 (.take 21 (.alt 22 .done .stop))) .stop) .stop) .stop) (.alt 10 (.alt 8 (.alt 11 (.alt 19 (.take 20 (.take 21 (.alt 22 .done .stop))) .stop) .stop) .stop) .stop)) (.alt 10 (.alt 1 (.alt 8 (.alt 11 (.alt 19 (.take 20 (.take 21 (.alt 22 .done .stop))) .stop) .stop) .stop) .stop) .stop))))))))))))))))) ?_))))
       refine em rfl rfl (em rfl rfl (ey rfl (y_nil rfl) (ey rfl (y_far fo_44_1 rfl) (dl rfl (lb ld_41) ?_))))
       refine em rfl rfl (ey rfl (y_slh sl_41 rfl (h := i) rfl om) (dl rfl (lbw ld_40) ?_))
       refine em rfl rfl (ey rfl (y_nil rfl) (ey rfl (y_far fo_44_1 rfl) (dl rfl (lb ld_41) ?_)))
       refine em rfl rfl (ey rfl (y_addN (m := 2) rfl rfl om) (ey rfl (y_sl sl_41 rfl (l := i + 2) (h := bs.length) ⟨_, rfl⟩ rfl om om) ?_))
       have hsD' := hsD
       have hdl2 : (bs.drop (i + 2)).length = bs.length - (i + 2) := by simp
       obtain ⟨A100, a100, e100, -, -⟩ := hsD.shape
       rw [e100] at hsD' ⊢
       refine d_alt rfl rfl ?_ ?_
       · -- first 1
         refine t_bs0 ap_41 zc_40 rfl (fun b103 => ?_)
         refine dA (Stone.le.refl _) (d_alt rfl rfl ?_ ?_)
         · -- first 8
           refine t_appS (hsC) plain_book ap_41 rfl rfl pk mo om rfl (fun va110 nw110 hf110 hm110 ho110 => ?_)
           refine dA (Stone.le.refl _) (da rfl (t_bs1 ap_41 zc_40 rfl rfl rfl rfl rfl (fun b112 => ?_)))
           refine dA (Stone.le.refl _) (da rfl (aR ap_41 (fun va113 ho113 => ?_)))
           refine dA (Stone.le.refl _) (da rfl (t_appS (hsD') plain_book ap_41 rfl rfl pk mo om rfl (fun va121 nw121 hf121 hm121 ho121 => ?_)))
           refine dA (Stone.le.refl _) (ey rfl (y_nil rfl) (ey rfl (y_far fo_44_1 rfl) (da rfl (t_st1' sz_41 rfl rfl (by first | assumption | exact Byt.one ‹_› | exact Sl.one ‹_›) pk rfl ?_))))
           refine dA (Stone.le.refl _) (d_done (e_then (sr (sa rfl (netr ?_)))))
           have hLL : (bs.take i ++ [togB a b out ta tb] ++ bs.drop (i + 2)).length = bs.length - 1 := by simp; omega
           refine t_eqn (v := va99) (bs.take i ++ [togB a b out ta tb] ++ bs.drop (i + 2)).length pk (by rw [hLL]; simp; omega) ?_
           refine t_eqn (v := va121) (bs.take i ++ [togB a b out ta tb] ++ bs.drop (i + 2)).length pk (by rw [hLL]; simp; omega) ?_
           have f1 : Flat S22 7 partC (((([] : List Value) ++ nw88) ++ cs1) ++ nw99) ((bs.take i ++ [togB a b out ta tb] ++ bs.drop (i + 2)).map shOf) := by
            have g1 := (Flat.nil (S := S22) (size := 7) (C := partC)).app hf88
            have g2 := Flat.one (S := S22) (C := partC) (a := shOf (togB a b out ta tb)) (partC_mono ((hle2.trans le21).trans le22) _ _ hq1) hq2
            have g3 := (g1.app g2).app hf99
            simpa [List.map_append, List.map_take, List.map_drop] using g3
           have f2 : Flat S22 19 bookC (((([] : List Value) ++ nw110) ++ (togB a b out ta tb).cells (.slice AV (togB a b out ta tb).l.length aV)) ++ nw121) (bs.take i ++ [togB a b out ta tb] ++ bs.drop (i + 2)) := by
            have g1 := (Flat.nil (S := S22) (size := 19) (C := bookC)).app hf110
            have g2 := Flat.one (S := S22) (C := bookC) (a := togB a b out ta tb) (cs := (togB a b out ta tb).cells (.slice AV (togB a b out ta tb).l.length aV)) ⟨_, rfl, hrr2.mono (le21.trans le22)⟩ rfl
            have g3 := (g1.app g2).app hf121
            simpa using g3
           exact f_retS rfl (rt rfl) ⟨rfl, va99, va121, (((([] : List Value) ++ nw88) ++ cs1) ++ nw99), (((([] : List Value) ++ nw110) ++ (togB a b out ta tb).cells (.slice AV (togB a b out ta tb).l.length aV)) ++ nw121), rfl, ⟨f1, f2, ho99, ho121⟩⟩
         refine d_alt rfl rfl ?_ d_stop
         refine t_bs1 ap_41 zc_40 rfl rfl rfl rfl rfl (fun b112 => ?_)
         refine dA (Stone.le.refl _) (da rfl (t_appS (hsC) plain_book ap_41 rfl rfl pk mo om rfl (fun va110 nw110 hf110 hm110 ho110 => ?_)))
         refine dA (Stone.le.refl _) (da rfl (aR ap_41 (fun va113 ho113 => ?_)))
         refine dA (Stone.le.refl _) (da rfl (t_appS (hsD') plain_book ap_41 rfl rfl pk mo om rfl (fun va121 nw121 hf121 hm121 ho121 => ?_)))
         refine dA (Stone.le.refl _) (ey rfl (y_nil rfl) (ey rfl (y_far fo_44_1 rfl) (da rfl (t_st1' sz_41 rfl rfl (by first | assumption | exact Byt.one ‹_› | exact Sl.one ‹_›) pk rfl ?_))))
         refine dA (Stone.le.refl _) (d_done (e_then (sr (sa rfl (netr ?_)))))
         have hLL : (bs.take i ++ [togB a b out ta tb] ++ bs.drop (i + 2)).length = bs.length - 1 := by simp; omega
         refine t_eqn (v := va99) (bs.take i ++ [togB a b out ta tb] ++ bs.drop (i + 2)).length pk (by rw [hLL]; simp; omega) ?_
         refine t_eqn (v := va121) (bs.take i ++ [togB a b out ta tb] ++ bs.drop (i + 2)).length pk (by rw [hLL]; simp; omega) ?_
         have f1 : Flat S22 7 partC (((([] : List Value) ++ nw88) ++ cs1) ++ nw99) ((bs.take i ++ [togB a b out ta tb] ++ bs.drop (i + 2)).map shOf) := by
          have g1 := (Flat.nil (S := S22) (size := 7) (C := partC)).app hf88
          have g2 := Flat.one (S := S22) (C := partC) (a := shOf (togB a b out ta tb)) (partC_mono ((hle2.trans le21).trans le22) _ _ hq1) hq2
          have g3 := (g1.app g2).app hf99
          simpa [List.map_append, List.map_take, List.map_drop] using g3
         have f2 : Flat S22 19 bookC (((([] : List Value) ++ nw110) ++ (togB a b out ta tb).cells (.slice AV (togB a b out ta tb).l.length aV)) ++ nw121) (bs.take i ++ [togB a b out ta tb] ++ bs.drop (i + 2)) := by
          have g1 := (Flat.nil (S := S22) (size := 19) (C := bookC)).app hf110
          have g2 := Flat.one (S := S22) (C := bookC) (a := togB a b out ta tb) (cs := (togB a b out ta tb).cells (.slice AV (togB a b out ta tb).l.length aV)) ⟨_, rfl, hrr2.mono (le21.trans le22)⟩ rfl
          have g3 := (g1.app g2).app hf121
          simpa using g3
         exact f_retS rfl (rt rfl) ⟨rfl, va99, va121, (((([] : List Value) ++ nw88) ++ cs1) ++ nw99), (((([] : List Value) ++ nw110) ++ (togB a b out ta tb).cells (.slice AV (togB a b out ta tb).l.length aV)) ++ nw121), rfl, ⟨f1, f2, ho99, ho121⟩⟩
       refine d_alt rfl rfl ?_ d_stop
       refine t_bs1 ap_41 zc_40 rfl rfl rfl rfl rfl (fun b112 => ?_)
       refine dA (Stone.le.refl _) (da rfl (t_bs0 ap_41 zc_40 rfl (fun b103 => ?_)))
       refine dA (Stone.le.refl _) (da rfl (t_appS (hsC) plain_book ap_41 rfl rfl pk mo om rfl (fun va110 nw110 hf110 hm110 ho110 => ?_)))
       refine dA (Stone.le.refl _) (da rfl (aR ap_41 (fun va113 ho113 => ?_)))
       refine dA (Stone.le.refl _) (da rfl (t_appS (hsD') plain_book ap_41 rfl rfl pk mo om rfl (fun va121 nw121 hf121 hm121 ho121 => ?_)))
       refine dA (Stone.le.refl _) (ey rfl (y_nil rfl) (ey rfl (y_far fo_44_1 rfl) (da rfl (t_st1' sz_41 rfl rfl (by first | assumption | exact Byt.one ‹_› | exact Sl.one ‹_›) pk rfl ?_))))
       refine dA (Stone.le.refl _) (d_done (e_then (sr (sa rfl (netr ?_)))))
       have hLL : (bs.take i ++ [togB a b out ta tb] ++ bs.drop (i + 2)).length = bs.length - 1 := by simp; omega
       refine t_eqn (v := va99) (bs.take i ++ [togB a b out ta tb] ++ bs.drop (i + 2)).length pk (by rw [hLL]; simp; omega) ?_
       refine t_eqn (v := va121) (bs.take i ++ [togB a b out ta tb] ++ bs.drop (i + 2)).length pk (by rw [hLL]; simp; omega) ?_
       have f1 : Flat S22 7 partC (((([] : List Value) ++ nw88) ++ cs1) ++ nw99) ((bs.take i ++ [togB a b out ta tb] ++ bs.drop (i + 2)).map shOf) := by
        have g1 := (Flat.nil (S := S22) (size := 7) (C := partC)).app hf88
        have g2 := Flat.one (S := S22) (C := partC) (a := shOf (togB a b out ta tb)) (partC_mono ((hle2.trans le21).trans le22) _ _ hq1) hq2
        have g3 := (g1.app g2).app hf99
        simpa [List.map_append, List.map_take, List.map_drop] using g3
       have f2 : Flat S22 19 bookC (((([] : List Value) ++ nw110) ++ (togB a b out ta tb).cells (.slice AV (togB a b out ta tb).l.length aV)) ++ nw121) (bs.take i ++ [togB a b out ta tb] ++ bs.drop (i + 2)) := by
        have g1 := (Flat.nil (S := S22) (size := 19) (C := bookC)).app hf110
        have g2 := Flat.one (S := S22) (C := bookC) (a := togB a b out ta tb) (cs := (togB a b out ta tb).cells (.slice AV (togB a b out ta tb).l.length aV)) ⟨_, rfl, hrr2.mono (le21.trans le22)⟩ rfl
        have g3 := (g1.app g2).app hf121
        simpa using g3
       exact f_retS rfl (rt rfl) ⟨rfl, va99, va121, (((([] : List Value) ++ nw88) ++ cs1) ++ nw99), (((([] : List Value) ++ nw110) ++ (togB a b out ta tb).cells (.slice AV (togB a b out ta tb).l.length aV)) ++ nw121), rfl, ⟨f1, f2, ho99, ho121⟩⟩
     refine d_alt rfl rfl ?_ d_stop
     refine t_bs1 ap_35 zc_30 rfl rfl hq2 rfl rfl (fun b90 => ?_)
     refine dA (Stone.le.refl _) (da rfl (t_appS (hsA) plain_part ap_35 rfl rfl pk mo om rfl (fun va88 nw88 hf88 hm88 ho88 => ?_)))
     refine dA (Stone.le.refl _) (da rfl (t_appR ap_35 rfl rfl pk pk (by rw [hq2]) hq3 mo om rfl (fun va91 ho91 => ?_)))
     refine dA (Stone.le.refl _) (da rfl (t_appS (hsB') plain_part ap_35 rfl rfl pk mo om rfl (fun va99 nw99 hf99 hm99 ho99 => ?_)))
     refine dA (Stone.le.refl _) (ey rfl (y_nil rfl) (ey rfl (y_far fo_44_0 rfl) (da rfl (t_st1' sz_35 rfl rfl (by first | assumption | exact Byt.one ‹_› | exact Sl.one ‹_›) pk rfl ?_))))
     refine dA (Stone.le.refl _) (d_done (e_then (c_seq (dR ([.blk sb (.cells [va99, .slice (some ⟨gB, 0, none⟩) bs.length cb, u64 (nx 0), u64 (nx 1), u64 (nx 2), u64 (nx 3)].toArray 44 (0, 0)), .blk b7 (.cells ((togB a b out ta tb).cells (.slice AV (togB a b out ta tb).l.length aV)).toArray 40 (0, 0))]) [5, 9, 15] (.take 0 (.take 2 (.take 3 (.take 4 (.take 5 (.take 6 (.take 7 (.take 9 (.take 12 (.take 13 (.take 14 (.take 15 (.take 16 (.take 17 (.take 18 (.alt 1 (.alt 8 (.alt 10 (.alt 11 (.alt 19 (.take 20 (.take 21 (.alt 22 .done .stop))) .stop) .stop) .stop) (.alt 10 (.alt 8 (.alt 11 (.alt 19 (.take 20 (.take 21 (.alt 22 .done .stop))) .stop) .stop) .stop) .stop)) (.alt 10 (.alt 1 (.alt 8 (.alt 11 (.alt 19 (.take 20 (.take 21 (.alt 22 .done .stop))) .stop) .stop) .stop) .stop) .stop))))))))))))))))) ?_))))
     refine em rfl rfl (em rfl rfl (ey rfl (y_nil rfl) (ey rfl (y_far fo_44_1 rfl) (dl rfl (lb ld_41) ?_))))
     refine em rfl rfl (ey rfl (y_slh sl_41 rfl (h := i) rfl om) (dl rfl (lbw ld_40) ?_))
     refine em rfl rfl (ey rfl (y_nil rfl) (ey rfl (y_far fo_44_1 rfl) (dl rfl (lb ld_41) ?_)))
     refine em rfl rfl (ey rfl (y_addN (m := 2) rfl rfl om) (ey rfl (y_sl sl_41 rfl (l := i + 2) (h := bs.length) ⟨_, rfl⟩ rfl om om) ?_))
     have hsD' := hsD
     have hdl2 : (bs.drop (i + 2)).length = bs.length - (i + 2) := by simp
     obtain ⟨A100, a100, e100, -, -⟩ := hsD.shape
     rw [e100] at hsD' ⊢
     refine d_alt rfl rfl ?_ ?_
     · -- first 1
       refine t_bs0 ap_41 zc_40 rfl (fun b103 => ?_)
       refine dA (Stone.le.refl _) (d_alt rfl rfl ?_ ?_)
       · -- first 8
         refine t_appS (hsC) plain_book ap_41 rfl rfl pk mo om rfl (fun va110 nw110 hf110 hm110 ho110 => ?_)
         refine dA (Stone.le.refl _) (da rfl (t_bs1 ap_41 zc_40 rfl rfl rfl rfl rfl (fun b112 => ?_)))
         refine dA (Stone.le.refl _) (da rfl (aR ap_41 (fun va113 ho113 => ?_)))
         refine dA (Stone.le.refl _) (da rfl (t_appS (hsD') plain_book ap_41 rfl rfl pk mo om rfl (fun va121 nw121 hf121 hm121 ho121 => ?_)))
         refine dA (Stone.le.refl _) (ey rfl (y_nil rfl) (ey rfl (y_far fo_44_1 rfl) (da rfl (t_st1' sz_41 rfl rfl (by first | assumption | exact Byt.one ‹_› | exact Sl.one ‹_›) pk rfl ?_))))
         refine dA (Stone.le.refl _) (d_done (e_then (sr (sa rfl (netr ?_)))))
         have hLL : (bs.take i ++ [togB a b out ta tb] ++ bs.drop (i + 2)).length = bs.length - 1 := by simp; omega
         refine t_eqn (v := va99) (bs.take i ++ [togB a b out ta tb] ++ bs.drop (i + 2)).length pk (by rw [hLL]; simp; omega) ?_
         refine t_eqn (v := va121) (bs.take i ++ [togB a b out ta tb] ++ bs.drop (i + 2)).length pk (by rw [hLL]; simp; omega) ?_
         have f1 : Flat S22 7 partC (((([] : List Value) ++ nw88) ++ cs1) ++ nw99) ((bs.take i ++ [togB a b out ta tb] ++ bs.drop (i + 2)).map shOf) := by
          have g1 := (Flat.nil (S := S22) (size := 7) (C := partC)).app hf88
          have g2 := Flat.one (S := S22) (C := partC) (a := shOf (togB a b out ta tb)) (partC_mono ((hle2.trans le21).trans le22) _ _ hq1) hq2
          have g3 := (g1.app g2).app hf99
          simpa [List.map_append, List.map_take, List.map_drop] using g3
         have f2 : Flat S22 19 bookC (((([] : List Value) ++ nw110) ++ (togB a b out ta tb).cells (.slice AV (togB a b out ta tb).l.length aV)) ++ nw121) (bs.take i ++ [togB a b out ta tb] ++ bs.drop (i + 2)) := by
          have g1 := (Flat.nil (S := S22) (size := 19) (C := bookC)).app hf110
          have g2 := Flat.one (S := S22) (C := bookC) (a := togB a b out ta tb) (cs := (togB a b out ta tb).cells (.slice AV (togB a b out ta tb).l.length aV)) ⟨_, rfl, hrr2.mono (le21.trans le22)⟩ rfl
          have g3 := (g1.app g2).app hf121
          simpa using g3
         exact f_retS rfl (rt rfl) ⟨rfl, va99, va121, (((([] : List Value) ++ nw88) ++ cs1) ++ nw99), (((([] : List Value) ++ nw110) ++ (togB a b out ta tb).cells (.slice AV (togB a b out ta tb).l.length aV)) ++ nw121), rfl, ⟨f1, f2, ho99, ho121⟩⟩
       refine d_alt rfl rfl ?_ d_stop
       refine t_bs1 ap_41 zc_40 rfl rfl rfl rfl rfl (fun b112 => ?_)
       refine dA (Stone.le.refl _) (da rfl (t_appS (hsC) plain_book ap_41 rfl rfl pk mo om rfl (fun va110 nw110 hf110 hm110 ho110 => ?_)))
       refine dA (Stone.le.refl _) (da rfl (aR ap_41 (fun va113 ho113 => ?_)))
       refine dA (Stone.le.refl _) (da rfl (t_appS (hsD') plain_book ap_41 rfl rfl pk mo om rfl (fun va121 nw121 hf121 hm121 ho121 => ?_)))
       refine dA (Stone.le.refl _) (ey rfl (y_nil rfl) (ey rfl (y_far fo_44_1 rfl) (da rfl (t_st1' sz_41 rfl rfl (by first | assumption | exact Byt.one ‹_› | exact Sl.one ‹_›) pk rfl ?_))))
       refine dA (Stone.le.refl _) (d_done (e_then (sr (sa rfl (netr ?_)))))
       have hLL : (bs.take i ++ [togB a b out ta tb] ++ bs.drop (i + 2)).length = bs.length - 1 := by simp; omega
       refine t_eqn (v := va99) (bs.take i ++ [togB a b out ta tb] ++ bs.drop (i + 2)).length pk (by rw [hLL]; simp; omega) ?_
       refine t_eqn (v := va121) (bs.take i ++ [togB a b out ta tb] ++ bs.drop (i + 2)).length pk (by rw [hLL]; simp; omega) ?_
       have f1 : Flat S22 7 partC (((([] : List Value) ++ nw88) ++ cs1) ++ nw99) ((bs.take i ++ [togB a b out ta tb] ++ bs.drop (i + 2)).map shOf) := by
        have g1 := (Flat.nil (S := S22) (size := 7) (C := partC)).app hf88
        have g2 := Flat.one (S := S22) (C := partC) (a := shOf (togB a b out ta tb)) (partC_mono ((hle2.trans le21).trans le22) _ _ hq1) hq2
        have g3 := (g1.app g2).app hf99
        simpa [List.map_append, List.map_take, List.map_drop] using g3
       have f2 : Flat S22 19 bookC (((([] : List Value) ++ nw110) ++ (togB a b out ta tb).cells (.slice AV (togB a b out ta tb).l.length aV)) ++ nw121) (bs.take i ++ [togB a b out ta tb] ++ bs.drop (i + 2)) := by
        have g1 := (Flat.nil (S := S22) (size := 19) (C := bookC)).app hf110
        have g2 := Flat.one (S := S22) (C := bookC) (a := togB a b out ta tb) (cs := (togB a b out ta tb).cells (.slice AV (togB a b out ta tb).l.length aV)) ⟨_, rfl, hrr2.mono (le21.trans le22)⟩ rfl
        have g3 := (g1.app g2).app hf121
        simpa using g3
       exact f_retS rfl (rt rfl) ⟨rfl, va99, va121, (((([] : List Value) ++ nw88) ++ cs1) ++ nw99), (((([] : List Value) ++ nw110) ++ (togB a b out ta tb).cells (.slice AV (togB a b out ta tb).l.length aV)) ++ nw121), rfl, ⟨f1, f2, ho99, ho121⟩⟩
     refine d_alt rfl rfl ?_ d_stop
     refine t_bs1 ap_41 zc_40 rfl rfl rfl rfl rfl (fun b112 => ?_)
     refine dA (Stone.le.refl _) (da rfl (t_bs0 ap_41 zc_40 rfl (fun b103 => ?_)))
     refine dA (Stone.le.refl _) (da rfl (t_appS (hsC) plain_book ap_41 rfl rfl pk mo om rfl (fun va110 nw110 hf110 hm110 ho110 => ?_)))
     refine dA (Stone.le.refl _) (da rfl (aR ap_41 (fun va113 ho113 => ?_)))
     refine dA (Stone.le.refl _) (da rfl (t_appS (hsD') plain_book ap_41 rfl rfl pk mo om rfl (fun va121 nw121 hf121 hm121 ho121 => ?_)))
     refine dA (Stone.le.refl _) (ey rfl (y_nil rfl) (ey rfl (y_far fo_44_1 rfl) (da rfl (t_st1' sz_41 rfl rfl (by first | assumption | exact Byt.one ‹_› | exact Sl.one ‹_›) pk rfl ?_))))
     refine dA (Stone.le.refl _) (d_done (e_then (sr (sa rfl (netr ?_)))))
     have hLL : (bs.take i ++ [togB a b out ta tb] ++ bs.drop (i + 2)).length = bs.length - 1 := by simp; omega
     refine t_eqn (v := va99) (bs.take i ++ [togB a b out ta tb] ++ bs.drop (i + 2)).length pk (by rw [hLL]; simp; omega) ?_
     refine t_eqn (v := va121) (bs.take i ++ [togB a b out ta tb] ++ bs.drop (i + 2)).length pk (by rw [hLL]; simp; omega) ?_
     have f1 : Flat S22 7 partC (((([] : List Value) ++ nw88) ++ cs1) ++ nw99) ((bs.take i ++ [togB a b out ta tb] ++ bs.drop (i + 2)).map shOf) := by
      have g1 := (Flat.nil (S := S22) (size := 7) (C := partC)).app hf88
      have g2 := Flat.one (S := S22) (C := partC) (a := shOf (togB a b out ta tb)) (partC_mono ((hle2.trans le21).trans le22) _ _ hq1) hq2
      have g3 := (g1.app g2).app hf99
      simpa [List.map_append, List.map_take, List.map_drop] using g3
     have f2 : Flat S22 19 bookC (((([] : List Value) ++ nw110) ++ (togB a b out ta tb).cells (.slice AV (togB a b out ta tb).l.length aV)) ++ nw121) (bs.take i ++ [togB a b out ta tb] ++ bs.drop (i + 2)) := by
      have g1 := (Flat.nil (S := S22) (size := 19) (C := bookC)).app hf110
      have g2 := Flat.one (S := S22) (C := bookC) (a := togB a b out ta tb) (cs := (togB a b out ta tb).cells (.slice AV (togB a b out ta tb).l.length aV)) ⟨_, rfl, hrr2.mono (le21.trans le22)⟩ rfl
      have g3 := (g1.app g2).app hf121
      simpa using g3
     exact f_retS rfl (rt rfl) ⟨rfl, va99, va121, (((([] : List Value) ++ nw88) ++ cs1) ++ nw99), (((([] : List Value) ++ nw110) ++ (togB a b out ta tb).cells (.slice AV (togB a b out ta tb).l.length aV)) ++ nw121), rfl, ⟨f1, f2, ho99, ho121⟩⟩
   refine d_alt rfl rfl ?_ d_stop
   refine t_bs1 ap_35 zc_30 rfl rfl hq2 rfl rfl (fun b90 => ?_)
   refine dA (Stone.le.refl _) (da rfl (t_bs0 ap_35 zc_30 rfl (fun b81 => ?_)))
   refine dA (Stone.le.refl _) (da rfl (t_appS (hsA) plain_part ap_35 rfl rfl pk mo om rfl (fun va88 nw88 hf88 hm88 ho88 => ?_)))
   refine dA (Stone.le.refl _) (da rfl (t_appR ap_35 rfl rfl pk pk (by rw [hq2]) hq3 mo om rfl (fun va91 ho91 => ?_)))
   refine dA (Stone.le.refl _) (da rfl (t_appS (hsB') plain_part ap_35 rfl rfl pk mo om rfl (fun va99 nw99 hf99 hm99 ho99 => ?_)))
   refine dA (Stone.le.refl _) (ey rfl (y_nil rfl) (ey rfl (y_far fo_44_0 rfl) (da rfl (t_st1' sz_35 rfl rfl (by first | assumption | exact Byt.one ‹_› | exact Sl.one ‹_›) pk rfl ?_))))
   refine dA (Stone.le.refl _) (d_done (e_then (c_seq (dR ([.blk sb (.cells [va99, .slice (some ⟨gB, 0, none⟩) bs.length cb, u64 (nx 0), u64 (nx 1), u64 (nx 2), u64 (nx 3)].toArray 44 (0, 0)), .blk b7 (.cells ((togB a b out ta tb).cells (.slice AV (togB a b out ta tb).l.length aV)).toArray 40 (0, 0))]) [5, 9, 15] (.take 0 (.take 2 (.take 3 (.take 4 (.take 5 (.take 6 (.take 7 (.take 9 (.take 12 (.take 13 (.take 14 (.take 15 (.take 16 (.take 17 (.take 18 (.alt 1 (.alt 8 (.alt 10 (.alt 11 (.alt 19 (.take 20 (.take 21 (.alt 22 .done .stop))) .stop) .stop) .stop) (.alt 10 (.alt 8 (.alt 11 (.alt 19 (.take 20 (.take 21 (.alt 22 .done .stop))) .stop) .stop) .stop) .stop)) (.alt 10 (.alt 1 (.alt 8 (.alt 11 (.alt 19 (.take 20 (.take 21 (.alt 22 .done .stop))) .stop) .stop) .stop) .stop) .stop))))))))))))))))) ?_))))
   refine em rfl rfl (em rfl rfl (ey rfl (y_nil rfl) (ey rfl (y_far fo_44_1 rfl) (dl rfl (lb ld_41) ?_))))
   refine em rfl rfl (ey rfl (y_slh sl_41 rfl (h := i) rfl om) (dl rfl (lbw ld_40) ?_))
   refine em rfl rfl (ey rfl (y_nil rfl) (ey rfl (y_far fo_44_1 rfl) (dl rfl (lb ld_41) ?_)))
   refine em rfl rfl (ey rfl (y_addN (m := 2) rfl rfl om) (ey rfl (y_sl sl_41 rfl (l := i + 2) (h := bs.length) ⟨_, rfl⟩ rfl om om) ?_))
   have hsD' := hsD
   have hdl2 : (bs.drop (i + 2)).length = bs.length - (i + 2) := by simp
   obtain ⟨A100, a100, e100, -, -⟩ := hsD.shape
   rw [e100] at hsD' ⊢
   refine d_alt rfl rfl ?_ ?_
   · -- first 1
     refine t_bs0 ap_41 zc_40 rfl (fun b103 => ?_)
     refine dA (Stone.le.refl _) (d_alt rfl rfl ?_ ?_)
     · -- first 8
       refine t_appS (hsC) plain_book ap_41 rfl rfl pk mo om rfl (fun va110 nw110 hf110 hm110 ho110 => ?_)
       refine dA (Stone.le.refl _) (da rfl (t_bs1 ap_41 zc_40 rfl rfl rfl rfl rfl (fun b112 => ?_)))
       refine dA (Stone.le.refl _) (da rfl (aR ap_41 (fun va113 ho113 => ?_)))
       refine dA (Stone.le.refl _) (da rfl (t_appS (hsD') plain_book ap_41 rfl rfl pk mo om rfl (fun va121 nw121 hf121 hm121 ho121 => ?_)))
       refine dA (Stone.le.refl _) (ey rfl (y_nil rfl) (ey rfl (y_far fo_44_1 rfl) (da rfl (t_st1' sz_41 rfl rfl (by first | assumption | exact Byt.one ‹_› | exact Sl.one ‹_›) pk rfl ?_))))
       refine dA (Stone.le.refl _) (d_done (e_then (sr (sa rfl (netr ?_)))))
       have hLL : (bs.take i ++ [togB a b out ta tb] ++ bs.drop (i + 2)).length = bs.length - 1 := by simp; omega
       refine t_eqn (v := va99) (bs.take i ++ [togB a b out ta tb] ++ bs.drop (i + 2)).length pk (by rw [hLL]; simp; omega) ?_
       refine t_eqn (v := va121) (bs.take i ++ [togB a b out ta tb] ++ bs.drop (i + 2)).length pk (by rw [hLL]; simp; omega) ?_
       have f1 : Flat S22 7 partC (((([] : List Value) ++ nw88) ++ cs1) ++ nw99) ((bs.take i ++ [togB a b out ta tb] ++ bs.drop (i + 2)).map shOf) := by
        have g1 := (Flat.nil (S := S22) (size := 7) (C := partC)).app hf88
        have g2 := Flat.one (S := S22) (C := partC) (a := shOf (togB a b out ta tb)) (partC_mono ((hle2.trans le21).trans le22) _ _ hq1) hq2
        have g3 := (g1.app g2).app hf99
        simpa [List.map_append, List.map_take, List.map_drop] using g3
       have f2 : Flat S22 19 bookC (((([] : List Value) ++ nw110) ++ (togB a b out ta tb).cells (.slice AV (togB a b out ta tb).l.length aV)) ++ nw121) (bs.take i ++ [togB a b out ta tb] ++ bs.drop (i + 2)) := by
        have g1 := (Flat.nil (S := S22) (size := 19) (C := bookC)).app hf110
        have g2 := Flat.one (S := S22) (C := bookC) (a := togB a b out ta tb) (cs := (togB a b out ta tb).cells (.slice AV (togB a b out ta tb).l.length aV)) ⟨_, rfl, hrr2.mono (le21.trans le22)⟩ rfl
        have g3 := (g1.app g2).app hf121
        simpa using g3
       exact f_retS rfl (rt rfl) ⟨rfl, va99, va121, (((([] : List Value) ++ nw88) ++ cs1) ++ nw99), (((([] : List Value) ++ nw110) ++ (togB a b out ta tb).cells (.slice AV (togB a b out ta tb).l.length aV)) ++ nw121), rfl, ⟨f1, f2, ho99, ho121⟩⟩
     refine d_alt rfl rfl ?_ d_stop
     refine t_bs1 ap_41 zc_40 rfl rfl rfl rfl rfl (fun b112 => ?_)
     refine dA (Stone.le.refl _) (da rfl (t_appS (hsC) plain_book ap_41 rfl rfl pk mo om rfl (fun va110 nw110 hf110 hm110 ho110 => ?_)))
     refine dA (Stone.le.refl _) (da rfl (aR ap_41 (fun va113 ho113 => ?_)))
     refine dA (Stone.le.refl _) (da rfl (t_appS (hsD') plain_book ap_41 rfl rfl pk mo om rfl (fun va121 nw121 hf121 hm121 ho121 => ?_)))
     refine dA (Stone.le.refl _) (ey rfl (y_nil rfl) (ey rfl (y_far fo_44_1 rfl) (da rfl (t_st1' sz_41 rfl rfl (by first | assumption | exact Byt.one ‹_› | exact Sl.one ‹_›) pk rfl ?_))))
     refine dA (Stone.le.refl _) (d_done (e_then (sr (sa rfl (netr ?_)))))
     have hLL : (bs.take i ++ [togB a b out ta tb] ++ bs.drop (i + 2)).length = bs.length - 1 := by simp; omega
     refine t_eqn (v := va99) (bs.take i ++ [togB a b out ta tb] ++ bs.drop (i + 2)).length pk (by rw [hLL]; simp; omega) ?_
     refine t_eqn (v := va121) (bs.take i ++ [togB a b out ta tb] ++ bs.drop (i + 2)).length pk (by rw [hLL]; simp; omega) ?_
     have f1 : Flat S22 7 partC (((([] : List Value) ++ nw88) ++ cs1) ++ nw99) ((bs.take i ++ [togB a b out ta tb] ++ bs.drop (i + 2)).map shOf) := by
      have g1 := (Flat.nil (S := S22) (size := 7) (C := partC)).app hf88
      have g2 := Flat.one (S := S22) (C := partC) (a := shOf (togB a b out ta tb)) (partC_mono ((hle2.trans le21).trans le22) _ _ hq1) hq2
      have g3 := (g1.app g2).app hf99
      simpa [List.map_append, List.map_take, List.map_drop] using g3
     have f2 : Flat S22 19 bookC (((([] : List Value) ++ nw110) ++ (togB a b out ta tb).cells (.slice AV (togB a b out ta tb).l.length aV)) ++ nw121) (bs.take i ++ [togB a b out ta tb] ++ bs.drop (i + 2)) := by
      have g1 := (Flat.nil (S := S22) (size := 19) (C := bookC)).app hf110
      have g2 := Flat.one (S := S22) (C := bookC) (a := togB a b out ta tb) (cs := (togB a b out ta tb).cells (.slice AV (togB a b out ta tb).l.length aV)) ⟨_, rfl, hrr2.mono (le21.trans le22)⟩ rfl
      have g3 := (g1.app g2).app hf121
      simpa using g3
     exact f_retS rfl (rt rfl) ⟨rfl, va99, va121, (((([] : List Value) ++ nw88) ++ cs1) ++ nw99), (((([] : List Value) ++ nw110) ++ (togB a b out ta tb).cells (.slice AV (togB a b out ta tb).l.length aV)) ++ nw121), rfl, ⟨f1, f2, ho99, ho121⟩⟩
   refine d_alt rfl rfl ?_ d_stop
   refine t_bs1 ap_41 zc_40 rfl rfl rfl rfl rfl (fun b112 => ?_)
   refine dA (Stone.le.refl _) (da rfl (t_bs0 ap_41 zc_40 rfl (fun b103 => ?_)))
   refine dA (Stone.le.refl _) (da rfl (t_appS (hsC) plain_book ap_41 rfl rfl pk mo om rfl (fun va110 nw110 hf110 hm110 ho110 => ?_)))
   refine dA (Stone.le.refl _) (da rfl (aR ap_41 (fun va113 ho113 => ?_)))
   refine dA (Stone.le.refl _) (da rfl (t_appS (hsD') plain_book ap_41 rfl rfl pk mo om rfl (fun va121 nw121 hf121 hm121 ho121 => ?_)))
   refine dA (Stone.le.refl _) (ey rfl (y_nil rfl) (ey rfl (y_far fo_44_1 rfl) (da rfl (t_st1' sz_41 rfl rfl (by first | assumption | exact Byt.one ‹_› | exact Sl.one ‹_›) pk rfl ?_))))
   refine dA (Stone.le.refl _) (d_done (e_then (sr (sa rfl (netr ?_)))))
   have hLL : (bs.take i ++ [togB a b out ta tb] ++ bs.drop (i + 2)).length = bs.length - 1 := by simp; omega
   refine t_eqn (v := va99) (bs.take i ++ [togB a b out ta tb] ++ bs.drop (i + 2)).length pk (by rw [hLL]; simp; omega) ?_
   refine t_eqn (v := va121) (bs.take i ++ [togB a b out ta tb] ++ bs.drop (i + 2)).length pk (by rw [hLL]; simp; omega) ?_
   have f1 : Flat S22 7 partC (((([] : List Value) ++ nw88) ++ cs1) ++ nw99) ((bs.take i ++ [togB a b out ta tb] ++ bs.drop (i + 2)).map shOf) := by
    have g1 := (Flat.nil (S := S22) (size := 7) (C := partC)).app hf88
    have g2 := Flat.one (S := S22) (C := partC) (a := shOf (togB a b out ta tb)) (partC_mono ((hle2.trans le21).trans le22) _ _ hq1) hq2
    have g3 := (g1.app g2).app hf99
    simpa [List.map_append, List.map_take, List.map_drop] using g3
   have f2 : Flat S22 19 bookC (((([] : List Value) ++ nw110) ++ (togB a b out ta tb).cells (.slice AV (togB a b out ta tb).l.length aV)) ++ nw121) (bs.take i ++ [togB a b out ta tb] ++ bs.drop (i + 2)) := by
    have g1 := (Flat.nil (S := S22) (size := 19) (C := bookC)).app hf110
    have g2 := Flat.one (S := S22) (C := bookC) (a := togB a b out ta tb) (cs := (togB a b out ta tb).cells (.slice AV (togB a b out ta tb).l.length aV)) ⟨_, rfl, hrr2.mono (le21.trans le22)⟩ rfl
    have g3 := (g1.app g2).app hf121
    simpa using g3
   exact f_retS rfl (rt rfl) ⟨rfl, va99, va121, (((([] : List Value) ++ nw88) ++ cs1) ++ nw99), (((([] : List Value) ++ nw110) ++ (togB a b out ta tb).cells (.slice AV (togB a b out ta tb).l.length aV)) ++ nw121), rfl, ⟨f1, f2, ho99, ho121⟩⟩
theorem merges_ok {S : Stone} {sb : Nat} {bs : List Bk} {nx : Nat → Nat} {lv bv : Value} {xs ys : List Value} {i : Nat} {a b : Bk} (hF : ShF S bs lv bv xs ys) (ha : bs[i]? = some a) (hb : bs[i + 1]? = some b) (ho : BkOk a) (ho' : BkOk b) (hadj : a.hi = b.lo) (hl : a.l.length + b.l.length ≤ 200) (he : a.epoch ≤ 1000000) (he' : b.epoch ≤ 1000000) (hn : bs.length ≤ 1000) :
 Con Tryz.prog 14 #[.pointer (some ⟨sb, 0, none⟩), i64 i] (ShItems sb lv bv bs.length xs ys nx) S (fun u I' S' => u = .bool true ∧ ShR sb (merB bs i a b) nx I' S') := by
 unfold merB
 by_cases hf : a.frozen = 0 ∨ b.frozen = 0
 · rw [if_pos hf]; exact merges_live hF ha hb ho ho' hadj hl he he' hn hf
 · rw [if_neg hf]
   cases hJ : joinL a.l b.l with
   | none => exact merges_none hF ha hb ho ho' hadj hl he he' hn hf hJ
   | some J =>
    obtain ⟨out, ta, tb⟩ := J
    simp only
    by_cases hR : Rises out
    · rw [if_pos hR]
      refine merges_yes hF ha hb ho ho' hadj hl he he' hn hf hJ hR (togB_ok ho ho' hadj hJ hR) ?_
      have := (join_len hJ).2.2
      show (renum out).length ≤ 200
      rw [renum_length]; omega
    · rw [if_neg hR]; exact merges_bad hF ha hb ho ho' hadj hl he he' hn hf hJ hR
end Go.Proofs.YtkdmbimkanjbhaaGreatDoor.Eng
namespace Go.Proofs.YtkdmbimkanjbhaaGreatDoor.Eng
open Go Go.Proofs
/-! ### entries -/
structure Ent where
  W : Int
  P : Int
  K : Int
  N : Int
  M : Int
def Ent.cells (e : Ent) : List Value := [.int .i64 e.W, .int .i64 e.P, .int .i64 e.K, .int .i64 e.N, .int .i64 e.M]
def In64 (n : Int) : Prop := -9223372036854775808 ≤ n ∧ n ≤ 9223372036854775807
structure Ent.ok (e : Ent) : Prop where
  W : In64 e.W
  P : In64 e.P
  K : In64 e.K
  N : In64 e.N
  M : In64 e.M
theorem pickN_lt {n : Int} {m : Nat} (h : 1 ≤ m) : pickN n m < m := by unfold pickN; exact Nat.mod_lt _ (by omega)
def eW (e : Ent) : Nat := pickN e.W 17
def eK (e : Ent) : Nat := pickN e.K 6
def eP (e : Ent) : Nat := 1 + pickN e.P 3
def eSeq (nx : Nat → Nat) (e : Ent) : Nat := if eW e < 4 ∨ eW e = 8 then nx (eP e) + 1 else 1 + pickN e.M (nx (eP e) + 1)
def eNx (nx : Nat → Nat) (e : Ent) : Nat → Nat := setF nx (eP e) (max (nx (eP e)) (eSeq nx e))
def eVal (e : Ent) : Nat := (e.N % 256).toNat
def eCmd0 (nx : Nat → Nat) (e : Ent) (kind epoch : Nat) : Cmd := ⟨kind, epoch, eP e, 1 + pickN e.M (nx (eP e) + 1), eK e, eVal e, pickN e.N 12, 1 + pickN e.M 9, pickN e.K 2, 1 + pickN e.N 2⟩
def eCmd (nx : Nat → Nat) (e : Ent) (kind epoch : Nat) : Cmd := ⟨kind, epoch, eP e, eSeq nx e, eK e, eVal e, pickN e.N 12, 1 + pickN e.M 9, pickN e.K 2, 1 + pickN e.N 2⟩
def kindOf (w : Nat) : Nat := if w ≤ 7 then 2 else if w ≤ 9 then 3 else if w = 10 then 4 else if w = 11 then 5 else 6
/-- A plan freezes a shard. -/
def frzB (bs : List Bk) (i : Nat) : List Bk := match bs[i]? with | some b => bs.set i (doesB b (fCmd b.epoch 1)).1 | none => bs
def spl (bs : List Bk) (i k : Nat) : List Bk := match bs[i]? with | some b => splB bs i b k | none => bs
noncomputable def mer (bs : List Bk) (i : Nat) : List Bk := match bs[i]?, bs[i + 1]? with | some a, some b => merB bs i a b | _, _ => bs
/-- What becomes of a shelf's books. -/
noncomputable def stB (bs : List Bk) (nx : Nat → Nat) (e : Ent) : List Bk :=
  if eW e ≤ 5 then (match bs[ofB bs (eK e)]? with | some b => bs.set (ofB bs (eK e)) (doesB b (eCmd nx e 1 (b.epoch + if eW e = 5 then 1 else 0))).1 | none => bs)
  else if eW e ≤ 13 then (match bs[pickN e.P bs.length]? with | some b => bs.set (pickN e.P bs.length) (doesB b (eCmd nx e (kindOf (eW e)) b.epoch)).1 | none => bs)
  else if eW e = 14 then (if 6 ≤ bs.length then frzB bs (pickN e.P bs.length) else spl (frzB bs (pickN e.P bs.length)) (pickN e.P bs.length) (eK e))
  else if eW e = 15 then (if 6 ≤ bs.length then bs else spl bs (pickN e.P bs.length) (eK e))
  else if bs.length ≤ pickN e.P bs.length + 1 then bs
  else mer (frzB (frzB bs (pickN e.P bs.length)) (pickN e.P bs.length + 1)) (pickN e.P bs.length)
def total (bs : List Bk) : Nat := (bs.map fun b => b.l.length).sum
/-- What holds of a shelf behind m entries. -/
structure ShInv (bs : List Bk) (nx : Nat → Nat) (m : Nat) : Prop where
  pos : 1 ≤ bs.length
  six : bs.length ≤ 6
  ok : ∀ b ∈ bs, BkOk b
  ep : ∀ b ∈ bs, b.epoch ≤ m + 1
  len : total bs ≤ m
  adj : ∀ (i : Nat) a b, bs[i]? = some a → bs[i + 1]? = some b → a.hi = b.lo
  nx : ∀ p, nx p ≤ m
theorem total_mem {bs : List Bk} {b : Bk} (h : b ∈ bs) : b.l.length ≤ total bs := by
  unfold total
  induction bs with
  | nil => cases h
  | cons x bs ih =>
    simp only [List.map_cons, List.sum_cons]
    rcases List.mem_cons.1 h with rfl | h
    · omega
    · have := ih h; omega
theorem total_pair {bs : List Bk} {i : Nat} {a b : Bk} (h : bs[i]? = some a) (h' : bs[i + 1]? = some b) : a.l.length + b.l.length ≤ total bs := by
  unfold total
  induction bs generalizing i with
  | nil => simp at h
  | cons x bs ih =>
    simp only [List.map_cons, List.sum_cons]
    cases i with
    | zero =>
      simp at h; subst h
      have := total_mem (List.mem_of_getElem? (by simpa using h'))
      unfold total at this; omega
    | succ i => have := ih (by simpa using h) (by simpa using h'); omega
theorem total_set {bs : List Bk} {i : Nat} {a b : Bk} (h : bs[i]? = some a) : total (bs.set i b) + a.l.length = total bs + b.l.length := by
  unfold total
  induction bs generalizing i with
  | nil => simp at h
  | cons x bs ih =>
    cases i with
    | zero => simp at h; subst h; simp; omega
    | succ i => have := ih (by simpa using h); simp only [List.set_cons_succ, List.map_cons, List.sum_cons]; omega
theorem doesB_len {b : Bk} {c : Cmd} : (doesB b c).1.l.length ≤ b.l.length + 1 := by
  unfold doesB; repeat' split
  all_goals simp
theorem doesB_frz {b : Bk} {e p : Nat} : (doesB b (fCmd e p)).1.l = b.l := by
  unfold doesB
  split
  · rfl
  split
  · split
    · rfl
    · split <;> rfl
  · rename_i h; exact absurd (.inl rfl) h
theorem doesB_epoch {b : Bk} {c : Cmd} : (doesB b c).1.epoch = b.epoch ∧ (doesB b c).1.lo = b.lo ∧ (doesB b c).1.hi = b.hi := by
  unfold doesB; repeat' split
  all_goals exact ⟨rfl, rfl, rfl⟩
theorem bkOk_frz {b : Bk} {p : Nat} (h : BkOk b) : BkOk (doesB b (fCmd b.epoch p)).1 := by
  unfold doesB
  split
  · exact h
  split
  · split
    · exact h
    · split
      · exact ⟨h.lo, h.lh, h.hi, h.epoch, h.num, h.key, h.val, h.prod, h.seq, h.up, h.at_, h.gone, h.last⟩
      · exact ⟨h.lo, h.lh, h.hi, h.epoch, h.num, h.key, h.val, h.prod, h.seq, h.up, h.at_, h.gone, h.last⟩
  · rename_i h'; exact absurd (.inl rfl) h'
theorem adj_set {bs : List Bk} {i : Nat} {b b' : Bk} (hb : bs[i]? = some b) (hl : b'.lo = b.lo) (hh : b'.hi = b.hi) (hadj : ∀ (i : Nat) a b, bs[i]? = some a → bs[i + 1]? = some b → a.hi = b.lo) :
    ∀ (j : Nat) x y, (bs.set i b')[j]? = some x → (bs.set i b')[j + 1]? = some y → x.hi = y.lo := by
  intro j x y hx hy
  have hi := (List.getElem?_eq_some_iff.1 hb).1
  rw [List.getElem?_set] at hx hy
  split at hx
  · rename_i e1
    subst e1
    cases hx
    rw [if_neg (by omega)] at hy
    rw [hh]; exact hadj _ _ _ hb hy
  · split at hy
    · rename_i e2
      subst e2
      cases hy
      rw [hl]; exact hadj _ _ _ hx hb
    · exact hadj _ _ _ hx hy
/-- One book is changed, its range is not. -/
theorem inv_set {bs : List Bk} {nx : Nat → Nat} {m i : Nat} {b b' : Bk} (h : ShInv bs nx m) (hb : bs[i]? = some b) (hok : BkOk b') (hep : b'.epoch = b.epoch) (hl : b'.lo = b.lo) (hh : b'.hi = b.hi) (hn : b'.l.length ≤ b.l.length) : ShInv (bs.set i b') nx m where
  pos := by rw [List.length_set]; exact h.pos
  six := by rw [List.length_set]; exact h.six
  ok := fun x hx => by
    rcases List.mem_or_eq_of_mem_set hx with h1 | h1
    · exact h.ok x h1
    · subst h1; exact hok
  ep := fun x hx => by
    rcases List.mem_or_eq_of_mem_set hx with h1 | h1
    · exact h.ep x h1
    · subst h1; rw [hep]; exact h.ep b (List.mem_of_getElem? hb)
  len := by have := total_set (b := b') hb; have := h.len; omega
  adj := adj_set hb hl hh h.adj
  nx := h.nx
theorem inv_frz {bs : List Bk} {nx : Nat → Nat} {m i : Nat} (h : ShInv bs nx m) : ShInv (frzB bs i) nx m := by
  unfold frzB
  cases hb : bs[i]? with
  | none => exact h
  | some b =>
    have hok := h.ok b (List.mem_of_getElem? hb)
    obtain ⟨h1, h2, h3⟩ := doesB_epoch (b := b) (c := fCmd b.epoch 1)
    exact inv_set h hb (bkOk_frz hok) h1 h2 h3 (by rw [doesB_frz]; exact Nat.le_refl _)
theorem frzB_len {bs : List Bk} {i : Nat} : (frzB bs i).length = bs.length := by unfold frzB; split <;> simp
end Go.Proofs.YtkdmbimkanjbhaaGreatDoor.Eng
namespace Go.Proofs.YtkdmbimkanjbhaaGreatDoor.Eng
open Go Go.Proofs
/-! ### a step keeps what holds of a shelf -/
theorem inv_up {bs : List Bk} {nx : Nat → Nat} {m : Nat} (h : ShInv bs nx m) : ShInv bs nx (m + 1) :=
  ⟨h.pos, h.six, h.ok, fun b hb => by have := h.ep b hb; omega, by have := h.len; omega, h.adj, fun p => by have := h.nx p; omega⟩
theorem inv_nx {bs : List Bk} {nx nx' : Nat → Nat} {m : Nat} (h : ShInv bs nx m) (hn : ∀ p, nx' p ≤ m) : ShInv bs nx' m := ⟨h.pos, h.six, h.ok, h.ep, h.len, h.adj, hn⟩
theorem inv_does {bs : List Bk} {nx : Nat → Nat} {m i : Nat} {b : Bk} {c : Cmd} (h : ShInv bs nx m) (hb : bs[i]? = some b) (hc : CmdOk c) (hp : c.prod ≤ 9) (hv : c.val < 256) (hs : c.seq ≤ 1000) : ShInv (bs.set i (doesB b c).1) nx (m + 1) where
  pos := by rw [List.length_set]; exact h.pos
  six := by rw [List.length_set]; exact h.six
  ok := fun x hx => by
    rcases List.mem_or_eq_of_mem_set hx with h1 | h1
    · exact h.ok x h1
    · subst h1; exact bkOk_does (h.ok b (List.mem_of_getElem? hb)) hc hp hv hs
  ep := fun x hx => by
    rcases List.mem_or_eq_of_mem_set hx with h1 | h1
    · have := h.ep x h1; omega
    · subst h1; rw [doesB_epoch.1]; have := h.ep b (List.mem_of_getElem? hb); omega
  len := by have := total_set (b := (doesB b c).1) hb; have := h.len; have := doesB_len (b := b) (c := c); omega
  adj := adj_set hb doesB_epoch.2.1 doesB_epoch.2.2 h.adj
  nx := fun p => by have := h.nx p; omega
theorem total_app {l l' : List Bk} : total (l ++ l') = total l + total l' := by unfold total; rw [List.map_append, List.sum_append]
theorem total_one {b : Bk} : total [b] = b.l.length := by simp [total]
theorem total_at {bs : List Bk} {i : Nat} {b : Bk} (h : bs[i]? = some b) : total bs = total (bs.take i) + b.l.length + total (bs.drop (i + 1)) := by
  have hlt := (List.getElem?_eq_some_iff.1 h).1
  have e : bs = bs.take i ++ ([b] ++ bs.drop (i + 1)) := by
    conv => lhs; rw [← List.take_append_drop i bs, List.drop_eq_getElem_cons hlt, (List.getElem?_eq_some_iff.1 h).2]
    rfl
  conv => lhs; rw [e]
  rw [total_app, total_app, total_one]; omega
theorem split_get {bs : List Bk} {i : Nat} {x y : Bk} (hi : i < bs.length) (j : Nat) : (bs.take i ++ [x, y] ++ bs.drop (i + 1))[j]? = if j < i then bs[j]? else if j = i then some x else if j = i + 1 then some y else bs[j - 1]? := by
  have hl : (bs.take i).length = i := by rw [List.length_take]; omega
  rw [List.append_assoc]
  by_cases h1 : j < i
  · rw [if_pos h1, List.getElem?_append_left (by omega), List.getElem?_take, if_pos h1]
  rw [if_neg h1, List.getElem?_append_right (by omega), hl]
  by_cases h2 : j = i
  · subst h2; rw [if_pos rfl, Nat.sub_self]; rfl
  rw [if_neg h2]
  by_cases h3 : j = i + 1
  · subst h3; rw [if_pos rfl, show i + 1 - i = 1 by omega]; rfl
  rw [if_neg h3, List.getElem?_append_right (by show 2 ≤ _; omega), List.getElem?_drop]
  congr 1
  show i + 1 + (j - i - 2) = _
  omega
theorem merge_get {bs : List Bk} {i : Nat} {t : Bk} (hi : i < bs.length) (j : Nat) : (bs.take i ++ [t] ++ bs.drop (i + 2))[j]? = if j < i then bs[j]? else if j = i then some t else bs[j + 1]? := by
  have hl : (bs.take i).length = i := by rw [List.length_take]; omega
  rw [List.append_assoc]
  by_cases h1 : j < i
  · rw [if_pos h1, List.getElem?_append_left (by omega), List.getElem?_take, if_pos h1]
  rw [if_neg h1, List.getElem?_append_right (by omega), hl]
  by_cases h2 : j = i
  · subst h2; rw [if_pos rfl, Nat.sub_self]; rfl
  rw [if_neg h2, List.getElem?_append_right (by show 1 ≤ _; omega), List.getElem?_drop]
  congr 1
  show i + 2 + (j - i - 1) = _
  omega
theorem two_filter {q q' : Rec → Bool} (h : ∀ r, q r = true → q' r = false) : ∀ l : List Rec, (l.filter q).length + (l.filter q').length ≤ l.length
  | [] => Nat.le_refl _
  | r :: l => by
    have := two_filter h l
    rw [List.filter_cons, List.filter_cons]
    cases hq : q r with
    | true => rw [h r hq]; simp; omega
    | false => cases hq' : q' r <;> simp <;> omega
theorem halves_len {b : Bk} {k : Nat} : (halfB b b.lo k).l.length + (halfB b k b.hi).l.length ≤ b.l.length := by
  show (renum _).length + (renum _).length ≤ _
  rw [renum_len, renum_len]
  refine two_filter (fun r hr => ?_) _
  unfold inR at hr ⊢
  have := of_decide_eq_true hr
  exact decide_eq_false (by omega)
theorem inv_spl {bs : List Bk} {nx : Nat → Nat} {m i k : Nat} (h : ShInv bs nx m) (h6 : bs.length < 6) : ShInv (spl bs i k) nx (m + 1) := by
  unfold spl
  cases hb : bs[i]? with
  | none => exact inv_up h
  | some b =>
    simp only
    unfold splB
    split
    · exact inv_up h
    rename_i hc
    have hin : b.lo < k ∧ k < b.hi := by
      by_cases h1 : b.lo < k ∧ k < b.hi
      · exact h1
      · exact absurd (.inr h1) hc
    have hi := (List.getElem?_eq_some_iff.1 hb).1
    have hbm := List.mem_of_getElem? hb
    have hok := h.ok b hbm
    have hhi := hok.hi
    have hbe := h.ep b hbm
    have hmem : ∀ x, x ∈ bs.take i ++ [halfB b b.lo k, halfB b k b.hi] ++ bs.drop (i + 1) → x ∈ bs ∨ x = halfB b b.lo k ∨ x = halfB b k b.hi := fun x hx => by
      simp only [List.mem_append, List.mem_cons, List.not_mem_nil, or_false] at hx
      rcases hx with (hx | hx) | hx
      · exact .inl (List.mem_of_mem_take hx)
      · exact .inr hx
      · exact .inl (List.mem_of_mem_drop hx)
    refine ⟨?_, ?_, fun x hx => ?_, fun x hx => ?_, ?_, ?_, fun p => by have := h.nx p; omega⟩
    · simp; omega
    · simp only [List.length_append, List.length_take, List.length_drop, List.length_cons, List.length_nil]; omega
    · rcases hmem x hx with h1 | rfl | rfl
      · exact h.ok x h1
      · exact halfB_ok hok hok.lo hin.1 (by omega)
      · exact halfB_ok hok (by omega) hin.2 hok.hi
    · rcases hmem x hx with h1 | rfl | rfl
      · have := h.ep x h1; omega
      · show b.epoch + 1 ≤ _; omega
      · show b.epoch + 1 ≤ _; omega
    · have h1 := total_at hb
      have h2 := halves_len (b := b) (k := k)
      have h3 := h.len
      rw [total_app, total_app, show [halfB b b.lo k, halfB b k b.hi] = [halfB b b.lo k] ++ [halfB b k b.hi] from rfl, total_app, total_one, total_one]
      omega
    · intro j x y hx hy
      rw [split_get hi] at hx hy
      by_cases c1 : j < i
      · rw [if_pos c1] at hx
        by_cases c2 : j + 1 < i
        · rw [if_pos c2] at hy; exact h.adj j x y hx hy
        · rw [if_neg c2, if_pos (by omega)] at hy
          cases hy
          exact h.adj j x b hx (by rw [show j + 1 = i by omega]; exact hb)
      rw [if_neg c1] at hx
      rw [if_neg (by omega)] at hy
      by_cases c2 : j = i
      · subst c2
        rw [if_pos rfl] at hx
        rw [if_neg (by omega), if_pos rfl] at hy
        cases hx; cases hy; rfl
      rw [if_neg c2] at hx
      rw [if_neg (by omega), if_neg (by omega)] at hy
      by_cases c3 : j = i + 1
      · subst c3
        rw [if_pos rfl] at hx
        cases hx
        exact h.adj i b y hb (by simpa using hy)
      · rw [if_neg c3] at hx
        exact h.adj (j - 1) x y hx (by rw [show j - 1 + 1 = j + 1 - 1 by omega]; exact hy)
theorem inv_mer {bs : List Bk} {nx : Nat → Nat} {m i : Nat} (h : ShInv bs nx m) : ShInv (mer bs i) nx (m + 1) := by
  unfold mer
  cases ha : bs[i]? with
  | none => exact inv_up h
  | some a =>
  cases hb : bs[i + 1]? with
  | none => exact inv_up h
  | some b =>
    simp only
    unfold merB
    split
    · exact inv_up h
    split
    · exact inv_up h
    rename_i out ta tb hJ
    split
    · rename_i hR
      have hi := (List.getElem?_eq_some_iff.1 hb).1
      have ham := List.mem_of_getElem? ha
      have hbm := List.mem_of_getElem? hb
      have hadj := h.adj i a b ha hb
      have hae := h.ep a ham
      have hbe := h.ep b hbm
      have hmem : ∀ x, x ∈ bs.take i ++ [togB a b out ta tb] ++ bs.drop (i + 2) → x ∈ bs ∨ x = togB a b out ta tb := fun x hx => by
        simp only [List.mem_append, List.mem_cons, List.not_mem_nil, or_false] at hx
        rcases hx with (hx | hx) | hx
        · exact .inl (List.mem_of_mem_take hx)
        · exact .inr hx
        · exact .inl (List.mem_of_mem_drop hx)
      refine ⟨?_, ?_, fun x hx => ?_, fun x hx => ?_, ?_, ?_, fun p => by have := h.nx p; omega⟩
      · simp; omega
      · have := h.six
        simp only [List.length_append, List.length_take, List.length_drop, List.length_cons, List.length_nil]; omega
      · rcases hmem x hx with h1 | rfl
        · exact h.ok x h1
        · exact togB_ok (h.ok a ham) (h.ok b hbm) hadj hJ hR
      · rcases hmem x hx with h1 | rfl
        · have := h.ep x h1; omega
        · show max a.epoch b.epoch + 1 ≤ _; omega
      · have h1 := total_at ha
        have h1' := total_at (bs := bs.drop (i + 1)) (i := 0) (b := b) (by rw [List.getElem?_drop]; exact hb)
        rw [List.drop_drop] at h1'
        have e0 : total (List.take 0 (bs.drop (i + 1))) = 0 := rfl
        have h2 := (join_len hJ).2.2
        have h3 := h.len
        rw [total_app, total_app, total_one]
        have h4 : (togB a b out ta tb).l.length = out.length := renum_len
        have e5 : i + 1 + (0 + 1) = i + 2 := by omega
        rw [e5] at h1'
        omega
      · intro j x y hx hy
        rw [merge_get (by omega)] at hx hy
        by_cases c1 : j < i
        · rw [if_pos c1] at hx
          by_cases c2 : j + 1 < i
          · rw [if_pos c2] at hy; exact h.adj j x y hx hy
          · rw [if_neg c2, if_pos (by omega)] at hy
            cases hy
            exact h.adj j x a hx (by rw [show j + 1 = i by omega]; exact ha)
        rw [if_neg c1] at hx
        rw [if_neg (by omega), if_neg (by omega)] at hy
        by_cases c2 : j = i
        · subst c2
          rw [if_pos rfl] at hx
          cases hx
          exact h.adj (j + 1) b y hb hy
        · rw [if_neg c2] at hx
          exact h.adj (j + 1) x y hx hy
    · exact inv_up h
theorem eSeq_le {nx : Nat → Nat} {m : Nat} {e : Ent} (h : ∀ p, nx p ≤ m) : 1 ≤ eSeq nx e ∧ eSeq nx e ≤ m + 1 := by
  have h1 := h (eP e)
  have h2 : pickN e.M (nx (eP e) + 1) < nx (eP e) + 1 := pickN_lt (by omega)
  unfold eSeq; split <;> omega
theorem eCmd_ok {nx : Nat → Nat} {m k ep : Nat} {e : Ent} (h : ∀ p, nx p ≤ m) (hm : m ≤ 61) (hk : 1 ≤ k ∧ k ≤ 6) : CmdOk (eCmd nx e k ep) where
  kind := hk
  prod := by show 1 ≤ 1 + pickN e.P 3; omega
  seq := by have := eSeq_le (e := e) h; show 1 ≤ eSeq nx e ∧ eSeq nx e ≤ _; omega
  most := by have : pickN e.M 9 < 9 := pickN_lt (by decide); show 1 ≤ 1 + pickN e.M 9 ∧ 1 + pickN e.M 9 ≤ 64; omega
  name := pickN_lt (by decide)
  plan := by show 1 ≤ 1 + pickN e.N 2; omega
  key := pickN_lt (by decide)
theorem inv_cmd {bs : List Bk} {nx : Nat → Nat} {m i k ep : Nat} {b : Bk} {e : Ent} (h : ShInv bs nx m) (hm : m ≤ 61) (hb : bs[i]? = some b) (hk : 1 ≤ k ∧ k ≤ 6) : ShInv (bs.set i (doesB b (eCmd nx e k ep)).1) nx (m + 1) := by
  have hs := eSeq_le (e := e) h.nx
  refine inv_does h hb (eCmd_ok h.nx hm hk) ?_ ?_ ?_
  · have : pickN e.P 3 < 3 := pickN_lt (by decide)
    show 1 + pickN e.P 3 ≤ 9; omega
  · show (e.N % 256).toNat < 256; omega
  · show eSeq nx e ≤ 1000; omega
theorem inv_step {bs : List Bk} {nx : Nat → Nat} {m : Nat} {e : Ent} (h : ShInv bs nx m) (hm : m ≤ 61) : ShInv (stB bs nx e) (eNx nx e) (m + 1) := by
  have hn : ∀ p, eNx nx e p ≤ m + 1 := fun p => by
    have h1 := (eSeq_le (e := e) h.nx).2
    have h2 := h.nx (eP e)
    have h3 := h.nx p
    unfold eNx setF; split <;> omega
  refine inv_nx (nx := nx) ?_ hn
  unfold stB
  split
  · split
    · rename_i hb
      exact inv_cmd h hm hb (by omega)
    · exact inv_up h
  split
  · split
    · rename_i hb
      exact inv_cmd h hm hb (by unfold kindOf; repeat' split
                                all_goals omega)
    · exact inv_up h
  split
  · split
    · exact inv_up (inv_frz h)
    · exact inv_spl (inv_frz h) (by rw [frzB_len]; omega)
  split
  · split
    · exact inv_up h
    · exact inv_spl h (by omega)
  split
  · exact inv_up h
  · exact inv_mer (inv_frz (inv_frz h))
end Go.Proofs.YtkdmbimkanjbhaaGreatDoor.Eng

/-
  Part 17 of the proof of WholeBooks: W59.
-/
import Derived.Test.YtkdmbimkanjbhaaGreatDoorQ16
namespace Go.Proofs.YtkdmbimkanjbhaaGreatDoor.Eng
open Go Go.Proofs
set_option maxRecDepth 100000
set_option maxHeartbeats 40000000
attribute [local irreducible] Tr
def entC (_ : Stone) (cs : List Value) (e : Ent) : Prop := cs = e.cells
theorem plain_ent : PlainC entC := fun _ _ _ e => by subst e; rfl
def ent0 : Ent := ⟨0, 0, 2, 7, 0⟩
def ent1 : Ent := ⟨14, 0, 2, 0, 0⟩
def bk0 : Bk := ⟨0, 6, 1, 0, [], fun _ => 0, fun _ => false, fun _ => 0⟩
noncomputable def runB : List Ent → List Bk × (Nat → Nat) → List Bk × (Nat → Nat)
 | [], s => s
 | e :: l, s => runB l (stB s.1 s.2 e, eNx s.2 e)
theorem runB_snoc : ∀ (l : List Ent) (e : Ent) (s : List Bk × (Nat → Nat)), runB (l ++ [e]) s = (stB (runB l s).1 (runB l s).2 e, eNx (runB l s).2 e)
 | [], _, _ => rfl
 | _ :: l, e, s => runB_snoc l e _
theorem bk0_ok : BkOk bk0 where
 lo := by decide
 lh := by decide
 hi := by decide
 epoch := by decide
 num := fun i r h => by simp [bk0] at h
 key := fun r h => by simp [bk0] at h
 val := fun r h => by simp [bk0] at h
 prod := fun r h => by simp [bk0] at h
 seq := fun r h => by simp [bk0] at h
 up := fun i j a c h => by simp [bk0] at h
 at_ := fun k => Nat.zero_le _
 gone := fun k _ => rfl
 last := fun i => Nat.zero_le _
theorem inv0 : ShInv [bk0] (fun _ => 0) 0 where
 pos := by decide
 six := by decide
 ok := fun b hb => by rw [List.mem_singleton] at hb; subst hb; exact bk0_ok
 ep := fun b hb => by rw [List.mem_singleton] at hb; subst hb; decide
 len := by decide
 adj := fun i a b h h' => by cases i <;> simp at h'
 nx := fun _ => Nat.le_refl _
theorem two_books : (runB [ent0, ent1] ([bk0], fun _ => 0)).1.length = 2 := by
 have a1 : eW ent0 = 0 := by decide
 have a2 : eW ent1 = 14 := by decide
 have a3 : eK ent0 = 2 := by decide
 have a4 : eK ent1 = 2 := by decide
 show (stB (stB [bk0] (fun _ => 0) ent0) (eNx (fun _ => 0) ent0) ent1).length = 2
 have h1 : stB [bk0] (fun _ => 0) ent0 = [(doesB bk0 (eCmd (fun _ => 0) ent0 1 1)).1] := by unfold stB; rw [a1]; rfl
 rw [h1]
 unfold stB
 rw [a2, a4]
 rfl
theorem books_ok {S : Stone} {A : Option Addr} {n cap : Nat} {es : List Ent} (hg : Gl S) (h : Sl S 5 entC (.slice A n cap) es) (hn : n = es.length) (hok : ∀ e ∈ es, e.ok) (hsz : n * 40 ≤ 140737488351232) :
 Con Tryz.prog 3 #[.slice A n cap] [] S (RetR fun u _ => u = .bool true) := by
 refine con_of 84 Tryz.func3 rfl rfl rfl (fun w0 => ?_)
 refine sr (sa rfl (nesr (yy (y_build pl_24 zc_24 rfl rfl) (lw (t_callr' rfl (new_ok) en_4 (mv rfl (yy (y_ext rfl rfl) (yy (y_ext rfl rfl) (al zc_30 (fun b3 => ?_))))))))))
 first
  | refine lw (sw sz_30 ?_)
  | refine lw (s0 sz_30 ?_)
 refine sa rfl (nesr ?_)
 first
  | refine ll (lbw ld_30) ?_
  | refine ll (lbs ld_30) ?_
  | refine ll (ltm ld_30 rfl ‹_›) ?_
  | refine ll (ld_rd ld_30 rfl ‹_›) ?_
 refine lw (t_bs1 ap_35 zc_30 rfl rfl rfl rfl rfl (fun b17 => yy (y_build pl_40 zc_40 rfl rfl) (lw (t_bs1 ap_41 zc_40 rfl rfl rfl rfl rfl (fun b19 => yy (y_build pl_44 zc_44 rfl rfl) (bx rfl rfl (fun b21 => sa rfl (nes (sr (mv rfl (yy (y_ne rfl rfl) (ne (c_false rfl (c_skip (e_then (sr (yy (y_build pl_46 zc_46 rfl rfl) (yy (y_build pl_46 zc_46 rfl rfl) (lw (t_bs (cs := ent0.cells ++ ent1.cells) ap_22 zc_46 (by decide) rfl rfl rfl (lt_n rfl) (fun b26 => ?_)))))))))))))))))))))
 refine mv rfl (lw (t_appS (h) plain_ent ap_22 rfl rfl pk mo om rfl (fun va28 nw28 hf28 hm28 ho28 => ?_)))
 have hfl : Flat S 5 entC ((ent0.cells ++ ent1.cells) ++ nw28) ([ent0, ent1] ++ es) := by
  have f1 : Flat S 5 entC ent0.cells [ent0] := Flat.one rfl rfl
  have f2 : Flat S 5 entC ent1.cells [ent1] := Flat.one rfl rfl
  exact (f1.app f2).app hf28
 generalize (ent0.cells ++ ent1.cells) ++ nw28 = xx at hfl ⊢
 have hflx : ∀ (i : Nat) e, ([ent0, ent1] ++ es)[i]? = some e → ∀ (j : Nat) u, e.cells[j]? = some u → xx[0 + i * 5 + j]? = some u := fun i e hi j u hj => by
  obtain ⟨cs, rfl, -, hc⟩ := hfl.2 i e hi
  rw [Nat.zero_add]; exact hc j u hj
 refine t_form (v := va28) pk (fun _ hn => absurd hn om) (fun g28 c28 hv _ _ _ => ?_)
 subst hv
 have hall : ∀ e ∈ [ent0, ent1] ++ es, e.ok := fun e he => by
  rcases List.mem_append.1 he with he | he
  · simp only [List.mem_cons, List.not_mem_nil, or_false] at he
    rcases he with rfl | rfl
    · exact ⟨by unfold In64 ent0; decide, by unfold In64 ent0; decide, by unfold In64 ent0; decide, by unfold In64 ent0; decide, by unfold In64 ent0; decide⟩
    · exact ⟨by unfold In64 ent1; decide, by unfold In64 ent1; decide, by unfold In64 ent1; decide, by unfold In64 ent1; decide, by unfold In64 ent1; decide⟩
  · exact hok e he
 have hlen : ([ent0, ent1] ++ es).length = 2 + n := by simp; omega
 refine sa rfl (nes (sr (sa rfl (ne (c_block (c_loopE (τ := Nat × List Bk × (Nat → Nat) × Value × Value × List Value × List Value × Stone) [(6, _), (23, _), (5, _), (2, _), (0, _)] (fun Ek z0 => (7, i64 z0.1) :: Ek) (fun z0 => [.blk b21 (.cells [z0.2.2.2.1, z0.2.2.2.2.1, u64 (z0.2.2.1 0), u64 (z0.2.2.1 1), u64 (z0.2.2.1 2), u64 (z0.2.2.1 3)].toArray 44 (0, 0)), .row z0.2.2.2.1 30 7 z0.2.1.length z0.2.2.2.2.2.1, .row z0.2.2.2.2.1 40 19 z0.2.1.length z0.2.2.2.2.2.2.1, .row (.slice (some ⟨g28, 0, none⟩) (2 + n) c28) 46 5 (2 + n) xx]) (fun z0 => z0.2.2.2.2.2.2.2) (fun z0 => z0.1 ≤ 62 ∧ z0.1 ≤ 2 + n ∧ ShInv z0.2.1 z0.2.2.1 z0.1 ∧ ShF z0.2.2.2.2.2.2.2 z0.2.1 z0.2.2.2.1 z0.2.2.2.2.1 z0.2.2.2.2.2.1 z0.2.2.2.2.2.2.1 ∧ Stone.le S z0.2.2.2.2.2.2.2 ∧ (z0.2.1, z0.2.2.1) = runB (([ent0, ent1] ++ es).take z0.1) ([bk0], fun _ => 0)) (fun z0 => 62 - z0.1) ((0, [bk0], fun _ => 0, .slice (some ⟨b17, 0, none⟩) 1 1, .slice (some ⟨b19, 0, none⟩) 1 1, (shOf bk0).cells (.slice none 0 0) (.slice none 0 0) (.slice none 0 0), bk0.cells (.slice none 0 0), S)) (⟨Nat.zero_le _, Nat.zero_le _, inv0, ⟨Flat.one ⟨_, _, _, rfl, Sl.nil, Sl.nil, Sl.nil⟩ rfl, Flat.one ⟨_, rfl, Sl.nil⟩ rfl, rfl, rfl⟩, Stone.le.refl _, rfl⟩) (fun z0 hz0 K0l hr0 => ?_)))))))
 obtain ⟨i, bs, nx, lv, bv, xs, ys, St⟩ := z0
 obtain ⟨h62, hi2, hinv, hF, hle, hrun⟩ := hz0
 dsimp only at h62 hi2 hinv hF hle hrun ⊢
 refine c_seq (sr (mv rfl (mv rfl ?_)))
 first
  | refine yy (y_ln sl_22 rfl) ?_
  | refine ll (ld_ln sl_22 rfl pk) ?_
 refine yy (y_lt rfl rfl) (mv rfl ?_)
 apply l_and 3 (gd := 33) (d := 36) rfl
 · intro hb33 K2 hK2
   exact qy hb33 (y_move rfl) (qy hb33 (y_lt rfl rfl) (yy (y_pick_t' rfl hb33 rfl) (lk_end hK2)))
 · intro hb33 K2 hK2
   exact qn hb33 (qn hb33 (yy (y_pick_f' rfl hb33 rfl) (lk_end hK2)))
 refine nec rfl (fun g3 => ?_) (fun g3 => ?_)
 · have hi : i < 62 ∧ i < 2 + n := by have h9 := g3; simp at h9; omega
   obtain ⟨e, he⟩ : ∃ e, ([ent0, ent1] ++ es)[i]? = some e := ⟨_, List.getElem?_eq_getElem om⟩
   have heok := hall e (List.mem_of_getElem? he)
   have hinv2 := inv_step (e := e) hinv om
   refine c_skip (e_then (c_seq (c_block (sr (mv rfl (mv rfl (mv rfl (yy (y_iaNr sl_22 rfl rfl hi.2) (ll (ld_flat ld_46 rfl pk (hflx i e he) rfl) ?_)))))))))
   refine lw (t_call en_5 rfl (I := ShItems b21 lv bv bs.length xs ys nx) (Take.perm (by repeat (first | exact Take.nil | exact Pick.hd | apply Pick.tl | apply Take.cons))) (enters_ok (Stone.le.cell hle hg) hF hinv om heok) (lt_n rfl) ?_)
   rintro v44 I44 S44 le44 ⟨rfl, lv2, bv2, xs2, ys2, rfl, hF2⟩
   dsimp only [List.cons_append, List.nil_append]
   refine sa rfl (nes (sr (mv rfl (yy (y_not rfl) (ne (c_false rfl (c_skip (e_then (sr ?_)))))))))
   have hp2 := hinv2.pos
   have hsix2 := hinv2.six
   refine t_form (v := lv2) pk (fun _ hn => absurd hn om) (fun gL cL hv _ _ _ => ?_)
   subst hv
   refine t_form (v := bv2) pk (fun _ hn => absurd hn om) (fun gB cB hv _ _ _ => ?_)
   subst hv
   refine sa rfl (ne (c_block (c_loopE (τ := Nat × Stone) [(46, _), (8, _), (36, _), (7, _), (6, _), (23, _), (5, _), (2, _), (0, _)] (fun Ek z1 => (9, i64 z1.1) :: Ek) (fun z1 => [.blk b21 (.cells [(.slice (some ⟨gL, 0, none⟩) (stB bs nx e).length cL), (.slice (some ⟨gB, 0, none⟩) (stB bs nx e).length cB), u64 (eNx nx e 0), u64 (eNx nx e 1), u64 (eNx nx e 2), u64 (eNx nx e 3)].toArray 44 (0, 0)), .row (.slice (some ⟨gL, 0, none⟩) (stB bs nx e).length cL) 30 7 (stB bs nx e).length xs2, .row (.slice (some ⟨gB, 0, none⟩) (stB bs nx e).length cB) 40 19 (stB bs nx e).length ys2, .row (.slice (some ⟨g28, 0, none⟩) (2 + n) c28) 46 5 (2 + n) xx]) (fun z1 => z1.2) (fun z1 => z1.1 ≤ (stB bs nx e).length ∧ Stone.le S44 z1.2) (fun z1 => (stB bs nx e).length - z1.1) ((0, S44)) (⟨Nat.zero_le _, Stone.le.refl _⟩) (fun z1 hz1 K1l hr1 => ?_))))
   obtain ⟨j, Sj⟩ := z1
   obtain ⟨hj, hlej⟩ := hz1
   dsimp only at hj hlej ⊢
   have hFj := hF2.mono hlej
   refine c_seq (sr (mv rfl (mv rfl ?_)))
   first
    | refine yy (y_nil rfl) ?_
    | refine yy (y_nilf rfl) ?_
   first
    | refine yy (y_far fo_44_0 rfl) ?_
    | refine yy (y_fa fo_44_0 rfl) ?_
   first
    | refine ll (lb ld_35) ?_
    | refine ll (ld_st ld_35 rfl ‹_›) ?_
   first
    | refine yy (y_ln sl_35 rfl) ?_
    | refine ll (ld_ln sl_35 rfl pk) ?_
   refine yy (y_lt rfl rfl) (nec rfl (fun g5 => ?_) (fun g5 => ?_))
   · have hjl : j < (stB bs nx e).length := by simpa using g5
     obtain ⟨b, hb⟩ : ∃ b, (stB bs nx e)[j]? = some b := ⟨_, List.getElem?_eq_getElem hjl⟩
     obtain ⟨AB, aB, hbook, hbx⟩ := hFj.book hb
     obtain ⟨A0, a0, B0, b0, D0, d0, hpart, hpx⟩ := hFj.part hb
     have hbm := List.mem_of_getElem? hb
     refine c_skip (e_then (c_seq (c_block (c_seq (dR ([.blk b21 (.cells [(.slice (some ⟨gL, 0, none⟩) (stB bs nx e).length cL), (.slice (some ⟨gB, 0, none⟩) (stB bs nx e).length cB), u64 (eNx nx e 0), u64 (eNx nx e 1), u64 (eNx nx e 2), u64 (eNx nx e 3)].toArray 44 (0, 0)), .row (.slice (some ⟨gL, 0, none⟩) (stB bs nx e).length cL) 30 7 (stB bs nx e).length xs2, .row (.slice (some ⟨gB, 0, none⟩) (stB bs nx e).length cB) 40 19 (stB bs nx e).length ys2]) [3, 6, 10, 13] (.take 0 (.take 1 (.take 2 (.take 3 (.take 4 (.take 5 (.take 6 (.take 7 (.take 8 (.take 9 (.take 10 (.take 11 (.take 12 (.take 13 (.alt 14 (.take 15 .done) .stop))))))))))))))) ?_)))))
     refine em rfl rfl ?_
     first
      | refine ey rfl (y_nil rfl) ?_
      | refine ey rfl (y_nilf rfl) ?_
     first
      | refine ey rfl (y_far fo_44_1 rfl) ?_
      | refine ey rfl (y_fa fo_44_1 rfl) ?_
     first
      | refine dl rfl (lb ld_41) ?_
      | refine dl rfl (ld_st ld_41 rfl ‹_›) ?_
     refine em rfl rfl (ey rfl (y_iaNr sl_41 rfl rfl hjl) (dl rfl (ld_flat ld_40 rfl pk hbx rfl) ?_))
     refine em rfl rfl ?_
     first
      | refine ey rfl (y_nil rfl) ?_
      | refine ey rfl (y_nilf rfl) ?_
     first
      | refine ey rfl (y_far fo_44_0 rfl) ?_
      | refine ey rfl (y_fa fo_44_0 rfl) ?_
     first
      | refine dl rfl (lb ld_35) ?_
      | refine dl rfl (ld_st ld_35 rfl ‹_›) ?_
     refine em rfl rfl (ey rfl (y_iaNr sl_35 rfl rfl hjl) (dl rfl (ld_flat ld_30 rfl pk hpx rfl) ?_))
     refine da rfl (t_callR rfl (tells_ok hbook hpart (hinv2.ok b hbm) (by have := total_mem hbm; have := hinv2.len; omega)) en_6 ?_)
     rintro v70 S70 le70 rfl
     exact dA le70 (ea rfl rfl (d_done (e_then (sr (mv rfl (yy (y_not rfl) (ne (c_false rfl (c_skip (e_in (e_then (c_region (mv rfl (yy (y_inc rfl om) (sa rfl (ne (t_to (hr1 (j + 1, S70) ⟨by omega, hlej.trans le70⟩ (by show _ - (j + 1) < _ - j; omega)))))))))))))))))))
   · refine c_exit ?_
     exact e_then_exit (e_then_exit (e_in_same (e_in (e_then (c_region (mv rfl (yy (y_inc rfl om) (sa rfl (ne (t_to (hr0 (i + 1, stB bs nx e, eNx nx e, (.slice (some ⟨gL, 0, none⟩) (stB bs nx e).length cL), (.slice (some ⟨gB, 0, none⟩) (stB bs nx e).length cB), xs2, ys2, Sj) ⟨by omega, by omega, hinv2, hFj, (hle.trans le44).trans hlej, by rw [List.take_add_one, he, Option.toList_some, runB_snoc, ← hrun]⟩ (by show 62 - (i + 1) < 62 - i; omega))))))))))))
 · have hfin : 1 < bs.length ∨ 0 < n := by
    have hi : 62 ≤ i ∨ 2 + n ≤ i := by have h9 := g3; simp at h9; omega
    rcases Nat.eq_zero_or_pos n with h0 | h0
    · left
      have he : es = [] := List.length_eq_zero_iff.1 om
      have hi2 : i = 2 := by omega
      subst he hi2
      have := two_books
      have e2 : runB [ent0, ent1] ([bk0], fun _ => 0) = (bs, nx) := hrun.symm
      rw [e2] at this
      have h3 : bs.length = 2 := this
      omega
    · exact .inr h0
   have hpos := hinv.pos
   refine t_form (v := bv) pk (fun _ hn => absurd hn om) (fun gB cB hv _ _ _ => ?_)
   subst hv
   refine c_exit ?_
   refine e_then_exit (e_then_exit (e_in_same (e_then (sr (mv rfl ?_)))))
   first
    | refine yy (y_nil rfl) ?_
    | refine yy (y_nilf rfl) ?_
   first
    | refine yy (y_far fo_44_1 rfl) ?_
    | refine yy (y_fa fo_44_1 rfl) ?_
   first
    | refine ll (lb ld_41) ?_
    | refine ll (ld_st ld_41 rfl ‹_›) ?_
   first
    | refine yy (y_ln sl_41 rfl) ?_
    | refine ll (ld_ln sl_41 rfl pk) ?_
   refine yy (y_gt rfl rfl) (mv rfl ?_)
   apply l_or 4 (gd := 79) (d := 83) rfl
   · intro hb79 K7 hK7
     refine qy hb79 (y_move rfl) ?_
     first
      | refine qy hb79 (y_ln sl_22 rfl) ?_
      | refine gl hb79 (ld_ln sl_22 rfl pk) ?_
     exact qy hb79 (y_gt rfl rfl) (yy (y_pick_f' rfl hb79 rfl) (lk_end hK7))
   · intro hb79 K7 hK7
     exact qn hb79 (qn hb79 (qn hb79 (yy (y_pick_t' rfl hb79 rfl) (lk_end hK7))))
   exact sa rfl (netr (f_retR rfl (rt rfl) (by show Value.bool (decide ((1 : Int) < (bs.length : Int)) || decide ((0 : Int) < (n : Int))) = .bool true; congr 1; simp; omega)))
end Go.Proofs.YtkdmbimkanjbhaaGreatDoor.Eng

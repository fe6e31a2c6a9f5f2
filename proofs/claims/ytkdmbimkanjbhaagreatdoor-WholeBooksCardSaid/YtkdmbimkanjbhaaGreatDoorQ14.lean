/-
  Part 14 of the proof of WholeBooks: W54, W55, W56.
-/
import Derived.Test.YtkdmbimkanjbhaaGreatDoorQ13
namespace Go.Proofs.YtkdmbimkanjbhaaGreatDoor.Eng
open Go Go.Proofs
set_option maxRecDepth 100000
attribute [local irreducible] Tr
def bookC (S : Stone) (cs : List Value) (b : Bk) : Prop := BookR S (.agg cs.toArray) b
theorem bookC_mono {S S' : Stone} (hle : Stone.le S S') : ∀ cs a, bookC S cs a → bookC S' cs a := fun _ _ h => BookR.mono h hle
theorem bookC_ex {S : Stone} {cs : List Value} {b : Bk} (h : bookC S cs b) : ∃ A a, cs = b.cells (.slice A b.l.length a) ∧ Recs S (.slice A b.l.length a) b.l := by
 obtain ⟨rv, e, hr⟩ := h
 obtain ⟨A, a, rfl, -⟩ := hr.shape
 injection e with e
 exact ⟨A, a, congrArg Array.toList e, hr⟩
theorem plain_book : PlainC bookC := fun S cs b h => by obtain ⟨A, a, rfl, _⟩ := bookC_ex h; rfl
abbrev Books (S : Stone) (v : Value) (l : List Bk) : Prop := Sl S 19 bookC v l
/-- What a shelf's memory is. -/
abbrev ShItems (sb : Nat) (lv bv : Value) (n : Nat) (xs ys : List Value) (nx : Nat → Nat) : List Item := [.blk sb (.cells [lv, bv, u64 (nx 0), u64 (nx 1), u64 (nx 2), u64 (nx 3)].toArray 44 (0, 0)), .row lv 30 7 n xs, .row bv 40 19 n ys]
structure ShF (S : Stone) (bs : List Bk) (lv bv : Value) (xs ys : List Value) : Prop where
 parts : Flat S 7 partC xs (bs.map shOf)
 books : Flat S 19 bookC ys bs
 o1 : lv.oneCell' = true
 o2 : bv.oneCell' = true
def ShR (sb : Nat) (bs : List Bk) (nx : Nat → Nat) (I : List Item) (S : Stone) : Prop := ∃ lv bv xs ys, I = ShItems sb lv bv bs.length xs ys nx ∧ ShF S bs lv bv xs ys
theorem ShF.mono {S S' : Stone} {bs : List Bk} {lv bv : Value} {xs ys : List Value} (h : ShF S bs lv bv xs ys) (hle : Stone.le S S') : ShF S' bs lv bv xs ys := ⟨h.parts.mono (partC_mono hle), h.books.mono (bookC_mono hle), h.o1, h.o2⟩
theorem ShF.part {S : Stone} {bs : List Bk} {lv bv : Value} {xs ys : List Value} (h : ShF S bs lv bv xs ys) {i : Nat} {b : Bk} (hb : bs[i]? = some b) : ∃ A a B b1 D d, PartR S (.agg ((shOf b).cells (.slice A (shOf b).l.length a) (.slice B (shOf b).p.length b1) (.slice D (shOf b).c.length d)).toArray) (shOf b) ∧ ∀ (j : Nat) u, ((shOf b).cells (.slice A (shOf b).l.length a) (.slice B (shOf b).p.length b1) (.slice D (shOf b).c.length d))[j]? = some u → xs[0 + i * 7 + j]? = some u := by
 obtain ⟨cs, h1, h2, h3⟩ := h.parts.2 i (shOf b) (by rw [List.getElem?_map, hb]; rfl)
 obtain ⟨A, a, B, b1, D, d, rfl, _⟩ := partC_ex h1
 exact ⟨A, a, B, b1, D, d, h1, fun j u hj => by rw [Nat.zero_add]; exact h3 j u hj⟩
theorem ShF.book {S : Stone} {bs : List Bk} {lv bv : Value} {xs ys : List Value} (h : ShF S bs lv bv xs ys) {i : Nat} {b : Bk} (hb : bs[i]? = some b) : ∃ A a, BookR S (.agg (b.cells (.slice A b.l.length a)).toArray) b ∧ ∀ (j : Nat) u, (b.cells (.slice A b.l.length a))[j]? = some u → ys[0 + i * 19 + j]? = some u := by
 obtain ⟨cs, h1, h2, h3⟩ := h.books.2 i b hb
 obtain ⟨A, a, rfl, _⟩ := bookC_ex h1
 exact ⟨A, a, h1, fun j u hj => by rw [Nat.zero_add]; exact h3 j u hj⟩
theorem rec_does {b : Bk} {c : Cmd} (h : RecOk b.l) : RecOk (doesB b c).2.l := by
 unfold doesB
 have h0 : RecOk [] := fun r hr => by simp at hr
 have h1 : RecOk ((b.l.drop c.off).take c.most) := fun r hr => h r (List.mem_of_mem_drop (List.mem_of_mem_take hr))
 repeat' split
 all_goals first | exact h0 | exact h1
theorem both_gen {S : Stone} {sb : Nat} {bs : List Bk} {nx : Nat → Nat} {lv bv : Value} {xs ys cc : List Value} {i : Nat} {b : Bk} {c : Cmd} (hF : ShF S bs lv bv xs ys) (hb : bs[i]? = some b) (hcl : cc.length = 10)
 (hdo : ∀ S' v, Stone.le S S' → PartR S' v (shOf b) → Con Tryz.prog 23 #[v, .agg cc.toArray] [] S' (RetR fun u S'' => ∃ v' r, u = .tuple #[v', r] ∧ PartR S'' v' (doS (shOf b) c).1 ∧ ResR S'' r (doS (shOf b) c).2))
 (hdoes : ∀ S' v, Stone.le S S' → BookR S' v b → Con Tryz.prog 24 #[v, .agg cc.toArray] [] S' (RetR fun u S'' => DoesR S'' u (doesB b c)))
 (hlaw : doS (shOf b) c = (shOf (doesB b c).1, (doesB b c).2)) (hrok : RecOk b.l) :
 Con Tryz.prog 15 #[.pointer (some ⟨sb, 0, none⟩), i64 i, .agg cc.toArray] (ShItems sb lv bv bs.length xs ys nx) S (fun u I' S' => u = .bool true ∧ ShR sb (bs.set i (doesB b c).1) nx I' S') := by
 have hil : i < bs.length := (List.getElem?_eq_some_iff.1 hb).1
 obtain ⟨A0, a0, B0, b0, D0, d0, hpart, hpx⟩ := hF.part hb
 obtain ⟨AB, aB, hbook, hbx⟩ := hF.book hb
 rw [hlaw] at hdo
 have hres := rec_does (c := c) hrok
 refine con_of 52 Tryz.func15 rfl rfl rfl (fun w0 => ?_)
 refine sr (t_form pk (fun _ hn => absurd hn om) (fun gl cl hv hl1 hl2 hl3 => ?_))
 subst hv
 refine t_form (v := bv) pk (fun _ hn => absurd hn om) (fun gb cb hv hb1 hb2 hb3 => ?_)
 subst hv
 refine bx rfl rfl (fun b5 => sa rfl (nes (c_cutx (τ := List Value × Value × Stone × Nat × Nat) (fun z => [(0, .pointer (some ⟨sb, 0, none⟩)), (1, i64 i), (5, .pointer (some ⟨b5, 0, none⟩)), (7, .pointer (some ⟨z.2.2.2.1, 0, none⟩)), (8, .pointer (some ⟨z.2.2.2.2, 0, none⟩))]) (fun z => [.blk z.2.2.2.1 (.cells z.1.toArray 30 (0, 0)), .blk z.2.2.2.2 (.cells [i64 (doesB b c).2.err, u64 (doesB b c).2.off, .bool (doesB b c).2.old, z.2.1].toArray 77 (0, 0)), .blk b5 (.cells cc.toArray 57 (0, 0)), .blk sb (.cells [.slice (some ⟨gl, 0, none⟩) bs.length cl, .slice (some ⟨gb, 0, none⟩) bs.length cb, u64 (nx 0), u64 (nx 1), u64 (nx 2), u64 (nx 3)].toArray 44 (0, 0)), .row (.slice (some ⟨gl, 0, none⟩) bs.length cl) 30 7 bs.length xs, .row (.slice (some ⟨gb, 0, none⟩) bs.length cb) 40 19 bs.length ys]) (fun z => z.2.2.1) (fun z => Stone.le S z.2.2.1 ∧ partC z.2.2.1 z.1 (shOf (doesB b c).1) ∧ z.1.length = 7 ∧ z.1.all Value.oneCell' = true ∧ Recs z.2.2.1 z.2.1 (doesB b c).2.l) (fun K hK => ?_) (fun z hz => ?_))))
 refine dR ([.blk b5 (.cells cc.toArray 57 (0, 0)), .blk sb (.cells [.slice (some ⟨gl, 0, none⟩) bs.length cl, .slice (some ⟨gb, 0, none⟩) bs.length cb, u64 (nx 0), u64 (nx 1), u64 (nx 2), u64 (nx 3)].toArray 44 (0, 0)), .row (.slice (some ⟨gl, 0, none⟩) bs.length cl) 30 7 bs.length xs]) [3, 6, 7] (.take 0 (.take 1 (.take 2 (.take 3 (.take 4 (.take 5 (.take 6 (.take 7 (.alt 8 (.take 9 (.take 10 (.take 11 (.alt 12 (.alt 13 (.alt 14 (.alt 15 .done .stop) .stop) .stop) (.alt 13 (.alt 12 (.alt 14 (.alt 15 .done .stop) .stop) .stop) .stop))))) (.alt 12 (.alt 8 (.take 9 (.take 10 (.take 11 (.alt 13 (.alt 14 (.alt 15 .done .stop) .stop) .stop)))) (.alt 13 (.alt 8 (.take 9 (.take 10 (.take 11 (.alt 14 (.alt 15 .done .stop) .stop)))) .stop) .stop)) (.alt 13 (.alt 8 (.take 9 (.take 10 (.take 11 (.alt 12 (.alt 14 (.alt 15 .done .stop) .stop) .stop)))) (.alt 12 (.alt 8 (.take 9 (.take 10 (.take 11 (.alt 14 (.alt 15 .done .stop) .stop)))) .stop) .stop)) .stop))))))))))) ?_
 refine em rfl rfl (ey rfl (y_nil rfl) (ey rfl (y_far fo_44_0 rfl) (dl rfl (lb ld_35) ?_)))
 refine em rfl rfl (ey rfl (y_iaNr sl_35 rfl rfl hil) (dl rfl (ld_flat ld_30 rfl pk hpx rfl) ?_))
 refine dl rfl (lbw ld_57 (hl := hcl)) ?_
 refine d_alt rfl rfl ?_ ?_
 · -- first 8
   refine t_callR rfl (hdo S _ (Stone.le.refl _) hpart) en_23 ?_
   rintro v20 S20 le20 ⟨v20', r20', rfl, hp20, hr20⟩
   obtain ⟨A1, a1, B1, b1, D1, d1, rfl, -⟩ := PartR.ex hp20
   obtain ⟨rv20, rfl, hrr20⟩ := hr20
   obtain ⟨AR, aR, rfl, -⟩ := hrr20.shape
   refine dA le20 (em rfl rfl (ey rfl (y_ext rfl rfl) (ey rfl (y_ext rfl rfl) (d_alt rfl rfl ?_ ?_))))
   · -- first 12
     refine tal zc_30 (fun b7 => dA le20 (da rfl (tal zc_77 (fun b8 => dA le20 (da rfl (sw sz_30 ?_))))))
     refine dA le20 (da rfl (sw sz_77 ?_))
     exact dA le20 (d_done (e_then (t_to (hK ((shOf (doesB b c).1).cells (.slice A1 (shOf (doesB b c).1).l.length a1) (.slice B1 (shOf (doesB b c).1).p.length b1) (.slice D1 (shOf (doesB b c).1).c.length d1), .slice AR (doesB b c).2.l.length aR, S20, b7, b8) ⟨le20, hp20, rfl, rfl, hrr20⟩))))
   refine d_alt rfl rfl ?_ d_stop
   refine tal zc_77 (fun b8 => dA le20 (da rfl (tal zc_30 (fun b7 => dA le20 (da rfl (sw sz_30 ?_))))))
   refine dA le20 (da rfl (sw sz_77 ?_))
   exact dA le20 (d_done (e_then (t_to (hK ((shOf (doesB b c).1).cells (.slice A1 (shOf (doesB b c).1).l.length a1) (.slice B1 (shOf (doesB b c).1).p.length b1) (.slice D1 (shOf (doesB b c).1).c.length d1), .slice AR (doesB b c).2.l.length aR, S20, b7, b8) ⟨le20, hp20, rfl, rfl, hrr20⟩))))
 refine d_alt rfl rfl ?_ ?_
 · -- first 12
   refine tal zc_30 (fun b7 => dA (Stone.le.refl _) (d_alt rfl rfl ?_ ?_))
   · -- first 8
     refine t_callR rfl (hdo S _ (Stone.le.refl _) hpart) en_23 ?_
     rintro v20 S20 le20 ⟨v20', r20', rfl, hp20, hr20⟩
     obtain ⟨A1, a1, B1, b1, D1, d1, rfl, -⟩ := PartR.ex hp20
     obtain ⟨rv20, rfl, hrr20⟩ := hr20
     obtain ⟨AR, aR, rfl, -⟩ := hrr20.shape
     refine dA le20 (em rfl rfl (ey rfl (y_ext rfl rfl) (ey rfl (y_ext rfl rfl) (da rfl (tal zc_77 (fun b8 => dA le20 (da rfl (sw sz_30 ?_))))))))
     refine dA le20 (da rfl (sw sz_77 ?_))
     exact dA le20 (d_done (e_then (t_to (hK ((shOf (doesB b c).1).cells (.slice A1 (shOf (doesB b c).1).l.length a1) (.slice B1 (shOf (doesB b c).1).p.length b1) (.slice D1 (shOf (doesB b c).1).c.length d1), .slice AR (doesB b c).2.l.length aR, S20, b7, b8) ⟨le20, hp20, rfl, rfl, hrr20⟩))))
   refine d_alt rfl rfl ?_ d_stop
   refine tal zc_77 (fun b8 => dA (Stone.le.refl _) (da rfl (t_callR rfl (hdo S _ (Stone.le.refl _) hpart) en_23 ?_)))
   rintro v20 S20 le20 ⟨v20', r20', rfl, hp20, hr20⟩
   obtain ⟨A1, a1, B1, b1, D1, d1, rfl, -⟩ := PartR.ex hp20
   obtain ⟨rv20, rfl, hrr20⟩ := hr20
   obtain ⟨AR, aR, rfl, -⟩ := hrr20.shape
   refine dA le20 (em rfl rfl (ey rfl (y_ext rfl rfl) (ey rfl (y_ext rfl rfl) (da rfl (sw sz_30 ?_)))))
   refine dA le20 (da rfl (sw sz_77 ?_))
   exact dA le20 (d_done (e_then (t_to (hK ((shOf (doesB b c).1).cells (.slice A1 (shOf (doesB b c).1).l.length a1) (.slice B1 (shOf (doesB b c).1).p.length b1) (.slice D1 (shOf (doesB b c).1).c.length d1), .slice AR (doesB b c).2.l.length aR, S20, b7, b8) ⟨le20, hp20, rfl, rfl, hrr20⟩))))
 refine d_alt rfl rfl ?_ d_stop
 refine tal zc_77 (fun b8 => dA (Stone.le.refl _) (d_alt rfl rfl ?_ ?_))
 · -- first 8
   refine t_callR rfl (hdo S _ (Stone.le.refl _) hpart) en_23 ?_
   rintro v20 S20 le20 ⟨v20', r20', rfl, hp20, hr20⟩
   obtain ⟨A1, a1, B1, b1, D1, d1, rfl, -⟩ := PartR.ex hp20
   obtain ⟨rv20, rfl, hrr20⟩ := hr20
   obtain ⟨AR, aR, rfl, -⟩ := hrr20.shape
   refine dA le20 (em rfl rfl (ey rfl (y_ext rfl rfl) (ey rfl (y_ext rfl rfl) (da rfl (tal zc_30 (fun b7 => dA le20 (da rfl (sw sz_30 ?_))))))))
   refine dA le20 (da rfl (sw sz_77 ?_))
   exact dA le20 (d_done (e_then (t_to (hK ((shOf (doesB b c).1).cells (.slice A1 (shOf (doesB b c).1).l.length a1) (.slice B1 (shOf (doesB b c).1).p.length b1) (.slice D1 (shOf (doesB b c).1).c.length d1), .slice AR (doesB b c).2.l.length aR, S20, b7, b8) ⟨le20, hp20, rfl, rfl, hrr20⟩))))
 refine d_alt rfl rfl ?_ d_stop
 refine tal zc_30 (fun b7 => dA (Stone.le.refl _) (da rfl (t_callR rfl (hdo S _ (Stone.le.refl _) hpart) en_23 ?_)))
 rintro v20 S20 le20 ⟨v20', r20', rfl, hp20, hr20⟩
 obtain ⟨A1, a1, B1, b1, D1, d1, rfl, -⟩ := PartR.ex hp20
 obtain ⟨rv20, rfl, hrr20⟩ := hr20
 obtain ⟨AR, aR, rfl, -⟩ := hrr20.shape
 refine dA le20 (em rfl rfl (ey rfl (y_ext rfl rfl) (ey rfl (y_ext rfl rfl) (da rfl (sw sz_30 ?_)))))
 refine dA le20 (da rfl (sw sz_77 ?_))
 exact dA le20 (d_done (e_then (t_to (hK ((shOf (doesB b c).1).cells (.slice A1 (shOf (doesB b c).1).l.length a1) (.slice B1 (shOf (doesB b c).1).p.length b1) (.slice D1 (shOf (doesB b c).1).c.length d1), .slice AR (doesB b c).2.l.length aR, S20, b7, b8) ⟨le20, hp20, rfl, rfl, hrr20⟩))))
 -- behind the cut
 refine c_seq (c_cutx (τ := Value × Value × Stone × Nat × Nat) (fun y => [(0, .pointer (some ⟨sb, 0, none⟩)), (1, i64 i), (7, .pointer (some ⟨z.2.2.2.1, 0, none⟩)), (8, .pointer (some ⟨z.2.2.2.2, 0, none⟩)), (9, .pointer (some ⟨y.2.2.2.1, 0, none⟩)), (10, .pointer (some ⟨y.2.2.2.2, 0, none⟩))]) (fun y => [.blk y.2.2.2.1 (.cells ((doesB b c).1.cells y.1).toArray 40 (0, 0)), .blk y.2.2.2.2 (.cells [i64 (doesB b c).2.err, u64 (doesB b c).2.off, .bool (doesB b c).2.old, y.2.1].toArray 77 (0, 0)), .blk z.2.2.2.1 (.cells z.1.toArray 30 (0, 0)), .blk z.2.2.2.2 (.cells [i64 (doesB b c).2.err, u64 (doesB b c).2.off, .bool (doesB b c).2.old, z.2.1].toArray 77 (0, 0)), .blk sb (.cells [.slice (some ⟨gl, 0, none⟩) bs.length cl, .slice (some ⟨gb, 0, none⟩) bs.length cb, u64 (nx 0), u64 (nx 1), u64 (nx 2), u64 (nx 3)].toArray 44 (0, 0)), .row (.slice (some ⟨gl, 0, none⟩) bs.length cl) 30 7 bs.length xs, .row (.slice (some ⟨gb, 0, none⟩) bs.length cb) 40 19 bs.length ys]) (fun y => y.2.2.1) (fun y => Stone.le z.2.2.1 y.2.2.1 ∧ Recs y.2.2.1 y.1 (doesB b c).1.l ∧ Recs y.2.2.1 y.2.1 (doesB b c).2.l) (fun K hK => ?_) (fun y hy => ?_))
 obtain ⟨cs1, rv1, S1, b7, b8⟩ := z
 obtain ⟨hle1, hp1, hn1, ha1, hrr1⟩ := hz
 dsimp only at hle1 hp1 hn1 ha1 hrr1 ⊢
 refine dR ([.blk b5 (.cells cc.toArray 57 (0, 0)), .blk sb (.cells [.slice (some ⟨gl, 0, none⟩) bs.length cl, .slice (some ⟨gb, 0, none⟩) bs.length cb, u64 (nx 0), u64 (nx 1), u64 (nx 2), u64 (nx 3)].toArray 44 (0, 0)), .row (.slice (some ⟨gb, 0, none⟩) bs.length cb) 40 19 bs.length ys]) [3, 6, 7] (.take 0 (.take 1 (.take 2 (.take 3 (.take 4 (.take 5 (.take 6 (.take 7 (.alt 8 (.take 9 (.take 10 (.take 11 (.alt 12 (.alt 13 (.alt 14 (.alt 15 .done .stop) .stop) .stop) (.alt 13 (.alt 12 (.alt 14 (.alt 15 .done .stop) .stop) .stop) .stop))))) (.alt 12 (.alt 8 (.take 9 (.take 10 (.take 11 (.alt 13 (.alt 14 (.alt 15 .done .stop) .stop) .stop)))) (.alt 13 (.alt 8 (.take 9 (.take 10 (.take 11 (.alt 14 (.alt 15 .done .stop) .stop)))) .stop) .stop)) (.alt 13 (.alt 8 (.take 9 (.take 10 (.take 11 (.alt 12 (.alt 14 (.alt 15 .done .stop) .stop) .stop)))) (.alt 12 (.alt 8 (.take 9 (.take 10 (.take 11 (.alt 14 (.alt 15 .done .stop) .stop)))) .stop) .stop)) .stop))))))))))) ?_
 refine em rfl rfl (ey rfl (y_nil rfl) (ey rfl (y_far fo_44_1 rfl) (dl rfl (lb ld_41) ?_)))
 refine em rfl rfl (ey rfl (y_iaNr sl_41 rfl rfl hil) (dl rfl (ld_flat ld_40 rfl pk hbx rfl) ?_))
 refine dl rfl (lbw ld_57 (hl := hcl)) ?_
 refine d_alt rfl rfl ?_ ?_
 · -- first 8
   refine t_callR rfl (hdoes S1 _ hle1 (hbook.mono hle1)) en_24 ?_
   rintro v32 S32 le32 ⟨v32', r32', rfl, ⟨rvv32, rfl, hv32r⟩, ⟨rv32, rfl, hrr32⟩⟩
   obtain ⟨AV, aV, rfl, -⟩ := hv32r.shape
   obtain ⟨AR, aR, rfl, -⟩ := hrr32.shape
   refine dA le32 (em rfl rfl (ey rfl (y_ext rfl rfl) (ey rfl (y_ext rfl rfl) (d_alt rfl rfl ?_ ?_))))
   · -- first 12
     refine tal zc_40 (fun b9 => dA le32 (da rfl (tal zc_77 (fun b10 => dA le32 (da rfl (sw sz_40 ?_))))))
     refine dA le32 (da rfl (sw sz_77 ?_))
     exact dA le32 (d_done (e_then (t_to (hK (.slice AV (doesB b c).1.l.length aV, .slice AR (doesB b c).2.l.length aR, S32, b9, b10) ⟨le32, hv32r, hrr32⟩))))
   refine d_alt rfl rfl ?_ d_stop
   refine tal zc_77 (fun b10 => dA le32 (da rfl (tal zc_40 (fun b9 => dA le32 (da rfl (sw sz_40 ?_))))))
   refine dA le32 (da rfl (sw sz_77 ?_))
   exact dA le32 (d_done (e_then (t_to (hK (.slice AV (doesB b c).1.l.length aV, .slice AR (doesB b c).2.l.length aR, S32, b9, b10) ⟨le32, hv32r, hrr32⟩))))
 refine d_alt rfl rfl ?_ ?_
 · -- first 12
   refine tal zc_40 (fun b9 => dA (Stone.le.refl _) (d_alt rfl rfl ?_ ?_))
   · -- first 8
     refine t_callR rfl (hdoes S1 _ hle1 (hbook.mono hle1)) en_24 ?_
     rintro v32 S32 le32 ⟨v32', r32', rfl, ⟨rvv32, rfl, hv32r⟩, ⟨rv32, rfl, hrr32⟩⟩
     obtain ⟨AV, aV, rfl, -⟩ := hv32r.shape
     obtain ⟨AR, aR, rfl, -⟩ := hrr32.shape
     refine dA le32 (em rfl rfl (ey rfl (y_ext rfl rfl) (ey rfl (y_ext rfl rfl) (da rfl (tal zc_77 (fun b10 => dA le32 (da rfl (sw sz_40 ?_))))))))
     refine dA le32 (da rfl (sw sz_77 ?_))
     exact dA le32 (d_done (e_then (t_to (hK (.slice AV (doesB b c).1.l.length aV, .slice AR (doesB b c).2.l.length aR, S32, b9, b10) ⟨le32, hv32r, hrr32⟩))))
   refine d_alt rfl rfl ?_ d_stop
   refine tal zc_77 (fun b10 => dA (Stone.le.refl _) (da rfl (t_callR rfl (hdoes S1 _ hle1 (hbook.mono hle1)) en_24 ?_)))
   rintro v32 S32 le32 ⟨v32', r32', rfl, ⟨rvv32, rfl, hv32r⟩, ⟨rv32, rfl, hrr32⟩⟩
   obtain ⟨AV, aV, rfl, -⟩ := hv32r.shape
   obtain ⟨AR, aR, rfl, -⟩ := hrr32.shape
   refine dA le32 (em rfl rfl (ey rfl (y_ext rfl rfl) (ey rfl (y_ext rfl rfl) (da rfl (sw sz_40 ?_)))))
   refine dA le32 (da rfl (sw sz_77 ?_))
   exact dA le32 (d_done (e_then (t_to (hK (.slice AV (doesB b c).1.l.length aV, .slice AR (doesB b c).2.l.length aR, S32, b9, b10) ⟨le32, hv32r, hrr32⟩))))
 refine d_alt rfl rfl ?_ d_stop
 refine tal zc_77 (fun b10 => dA (Stone.le.refl _) (d_alt rfl rfl ?_ ?_))
 · -- first 8
   refine t_callR rfl (hdoes S1 _ hle1 (hbook.mono hle1)) en_24 ?_
   rintro v32 S32 le32 ⟨v32', r32', rfl, ⟨rvv32, rfl, hv32r⟩, ⟨rv32, rfl, hrr32⟩⟩
   obtain ⟨AV, aV, rfl, -⟩ := hv32r.shape
   obtain ⟨AR, aR, rfl, -⟩ := hrr32.shape
   refine dA le32 (em rfl rfl (ey rfl (y_ext rfl rfl) (ey rfl (y_ext rfl rfl) (da rfl (tal zc_40 (fun b9 => dA le32 (da rfl (sw sz_40 ?_))))))))
   refine dA le32 (da rfl (sw sz_77 ?_))
   exact dA le32 (d_done (e_then (t_to (hK (.slice AV (doesB b c).1.l.length aV, .slice AR (doesB b c).2.l.length aR, S32, b9, b10) ⟨le32, hv32r, hrr32⟩))))
 refine d_alt rfl rfl ?_ d_stop
 refine tal zc_40 (fun b9 => dA (Stone.le.refl _) (da rfl (t_callR rfl (hdoes S1 _ hle1 (hbook.mono hle1)) en_24 ?_)))
 rintro v32 S32 le32 ⟨v32', r32', rfl, ⟨rvv32, rfl, hv32r⟩, ⟨rv32, rfl, hrr32⟩⟩
 obtain ⟨AV, aV, rfl, -⟩ := hv32r.shape
 obtain ⟨AR, aR, rfl, -⟩ := hrr32.shape
 refine dA le32 (em rfl rfl (ey rfl (y_ext rfl rfl) (ey rfl (y_ext rfl rfl) (da rfl (sw sz_40 ?_)))))
 refine dA le32 (da rfl (sw sz_77 ?_))
 exact dA le32 (d_done (e_then (t_to (hK (.slice AV (doesB b c).1.l.length aV, .slice AR (doesB b c).2.l.length aR, S32, b9, b10) ⟨le32, hv32r, hrr32⟩))))
 -- behind the cut
 refine c_seq ?_
 obtain ⟨cs1, rv1, S1, b7, b8⟩ := z
 obtain ⟨hle1, hp1, hn1, ha1, hrr1⟩ := hz
 obtain ⟨rvb, rv2, S2, b9, b10⟩ := y
 obtain ⟨hle2, hbr2, hrr2⟩ := hy
 dsimp only at hle1 hp1 hn1 ha1 hrr1 hle2 hbr2 hrr2 ⊢
 obtain ⟨AV, aV, rfl, -⟩ := hbr2.shape
 refine dR ([.blk b7 (.cells cs1.toArray 30 (0, 0)), .blk sb (.cells [.slice (some ⟨gl, 0, none⟩) bs.length cl, .slice (some ⟨gb, 0, none⟩) bs.length cb, u64 (nx 0), u64 (nx 1), u64 (nx 2), u64 (nx 3)].toArray 44 (0, 0))]) [3, 5] (.take 0 (.take 1 (.take 2 (.take 3 (.take 4 (.take 5 (.take 6 (.alt 7 .done .stop)))))))) ?_
 refine em rfl rfl (ey rfl (y_nil rfl) (ey rfl (y_far fo_44_0 rfl) (dl rfl (lb ld_35) ?_)))
 refine em rfl rfl (dl rfl (lbw ld_30 (hl := hn1)) ?_)
 refine ey rfl (y_iaNr sl_35 rfl rfl hil) (da rfl (t_str (vs := cs1) sz_30 rfl rfl rfl hn1 ha1 pk om ?_))
 refine dA (Stone.le.refl _) (d_done (e_then (c_seq (dR ([.blk b9 (.cells ((doesB b c).1.cells (.slice AV (doesB b c).1.l.length aV)).toArray 40 (0, 0)), .blk sb (.cells [.slice (some ⟨gl, 0, none⟩) bs.length cl, .slice (some ⟨gb, 0, none⟩) bs.length cb, u64 (nx 0), u64 (nx 1), u64 (nx 2), u64 (nx 3)].toArray 44 (0, 0))]) [3, 5] (.take 0 (.take 1 (.take 2 (.take 3 (.take 4 (.take 5 (.take 6 (.alt 7 .done .stop)))))))) ?_))))
 refine em rfl rfl (ey rfl (y_nil rfl) (ey rfl (y_far fo_44_1 rfl) (dl rfl (lb ld_41) ?_)))
 refine em rfl rfl (dl rfl (lbw ld_40) ?_)
 refine ey rfl (y_iaNr sl_41 rfl rfl hil) (da rfl (t_str (vs := (doesB b c).1.cells (.slice AV (doesB b c).1.l.length aV)) sz_40 rfl rfl rfl rfl rfl pk om ?_))
 refine dA (Stone.le.refl _) (d_done (e_then (sr (ll (lbw ld_77) ?_))))
 refine ll (lbw ld_77) ?_
 refine lw (t_callr' rfl (same_result_ok (Recs.mono hrr1 hle2) hrr2 hres hres) en_25 (sa rfl (netr ?_)))
 have hF2 := hF.mono (hle1.trans hle2)
 have hps := Flat.set (i := i) (a := shOf (doesB b c).1) hF2.parts (by simpa using hil) (partC_mono hle2 _ _ hp1) hn1
 have hbs := Flat.set (i := i) (a := (doesB b c).1) (cs := (doesB b c).1.cells (.slice AV (doesB b c).1.l.length aV)) hF2.books hil ⟨_, rfl, hbr2⟩ rfl
 exact f_retS rfl (rt rfl) ⟨by show Value.bool _ = _; simp, _, _, xs.take (0 + i * 7) ++ cs1 ++ xs.drop (0 + i * 7 + 7), ys.take (0 + i * 19) ++ (doesB b c).1.cells (.slice AV (doesB b c).1.l.length aV) ++ ys.drop (0 + i * 19 + 19), by rw [List.length_set], ⟨by rw [List.map_set]; simpa using hps, by simpa using hbs, rfl, rfl⟩⟩
end Go.Proofs.YtkdmbimkanjbhaaGreatDoor.Eng
namespace Go.Proofs.YtkdmbimkanjbhaaGreatDoor.Eng
open Go Go.Proofs
set_option maxRecDepth 100000
attribute [local irreducible] Tr
theorem both_ok {S : Stone} {sb : Nat} {bs : List Bk} {nx : Nat → Nat} {lv bv wv : Value} {xs ys : List Value} {i : Nat} {b : Bk} {c : Cmd} (hg : Gl S) (hF : ShF S bs lv bv xs ys) (hb : bs[i]? = some b) (ho : BkOk b) (hl : b.l.length < 200) (hw : Byt S wv c.val) (hc : CmdOk c) (hp : c.prod < 10) (hoff : c.off ≤ 1000) :
 Con Tryz.prog 15 #[.pointer (some ⟨sb, 0, none⟩), i64 i, .agg (c.cells wv).toArray] (ShItems sb lv bv bs.length xs ys nx) S (fun u I' S' => u = .bool true ∧ ShR sb (bs.set i (doesB b c).1) nx I' S') :=
 both_gen hF hb rfl (fun S' v hle hv => do_ok (hle.cell hg) hv (shOk_of ho om) hl (hw.mono hle) hc hoff) (fun S' v hle hv => does_ok hv ho hl (hw.mono hle) hc hp hoff) (doS_of ho hc om) ho.recOk
theorem doS_frz {b : Bk} {e p : Nat} (hp : 1 ≤ p) : doS (shOf b) (fCmd e p) = (shOf (doesB b (fCmd e p)).1, (doesB b (fCmd e p)).2) := by
 have hk : (fCmd e p).kind = 5 := rfl
 have hpl : (fCmd e p).plan = p := rfl
 have hep : (fCmd e p).epoch = e := rfl
 unfold doS doesB
 simp only [hk, hpl, hep, shOf]
 by_cases he : e = b.epoch
 case neg => simp [he]
 by_cases hf : b.frozen ≠ 0 ∧ b.frozen ≠ p
 · simp [he, hf]
 · have h2 : (b.frozen == p) = !decide (b.frozen = 0) := by rw [Bool.eq_iff_iff]; simp; omega
   by_cases h0 : b.frozen = 0
   · simp [he, h0, prdsOf, cnssOf, prdOf]; omega
   · have : b.frozen = p := by omega
     simp [he, this, prdsOf, cnssOf, prdOf]; omega
theorem bothF_ok {S : Stone} {sb : Nat} {bs : List Bk} {nx : Nat → Nat} {lv bv : Value} {xs ys : List Value} {i e p : Nat} {b : Bk} (hg : Gl S) (hF : ShF S bs lv bv xs ys) (hb : bs[i]? = some b) (ho : BkOk b) (hl : b.l.length < 200) (hp : 1 ≤ p) :
 Con Tryz.prog 15 #[.pointer (some ⟨sb, 0, none⟩), i64 i, .agg (fC e p).toArray] (ShItems sb lv bv bs.length xs ys nx) S (fun u I' S' => u = .bool true ∧ ShR sb (bs.set i (doesB b (fCmd e p)).1) nx I' S') :=
 both_gen hF hb rfl (fun S' v hle hv => fdo_ok (hle.cell hg) hv (shOk_of ho om) hl hp) (fun S' v hle hv => fdoes_ok hv hl hp) (doS_frz hp) ho.recOk
theorem freezes_ok {S : Stone} {sb : Nat} {bs : List Bk} {nx : Nat → Nat} {lv bv : Value} {xs ys : List Value} {i p : Nat} {b : Bk} (hg : Gl S) (hF : ShF S bs lv bv xs ys) (hb : bs[i]? = some b) (ho : BkOk b) (hl : b.l.length < 200) (hp : 1 ≤ p) :
 Con Tryz.prog 12 #[.pointer (some ⟨sb, 0, none⟩), i64 i, u64 p] (ShItems sb lv bv bs.length xs ys nx) S (fun u I' S' => u = .bool true ∧ ShR sb (bs.set i (doesB b (fCmd b.epoch p)).1) nx I' S') := by
 have hil : i < bs.length := (List.getElem?_eq_some_iff.1 hb).1
 obtain ⟨AB, aB, hbook, hbx⟩ := hF.book hb
 refine con_of 20 Tryz.func12 rfl rfl rfl (fun w0 => ?_)
 refine sr (t_form (v := bv) (Pick.tl (Pick.tl Pick.hd)) (fun _ hn => absurd hn om) (fun gb cb hv hb1 hb2 hb3 => ?_))
 subst hv
 refine sa rfl (nesr (mv rfl (mv rfl (mv rfl (yy (y_nil rfl) (yy (y_far fo_44_1 rfl) (ll (lb ld_41) ?_)))))))
 refine mv rfl (yy (y_iaNr sl_41 rfl rfl hil) (yy (y_far fo_40_2 rfl) (ll (ld_row ld_25 rfl (Pick.tl (Pick.tl Pick.hd)) (hbx 2 _ rfl)) ?_)))
 refine mv rfl (yy (y_build pl_57 zc_57 rfl rfl) (lw (t_callA rfl (bothF_ok (e := b.epoch) hg hF hb ho hl hp) en_15 ?_)))
 rintro v19 I19 S19 le19 ⟨rfl, h19⟩
 exact sa rfl (netr (f_retS rfl (rt rfl) ⟨rfl, h19⟩))
def inB (k : Nat) (b : Bk) : Bool := decide (b.lo ≤ k ∧ k < b.hi)
def ofB (bs : List Bk) (k : Nat) : Nat := if bs.any (inB k) then bs.findIdx (inB k) else 0
theorem of_ok2 {S : Stone} {sb : Nat} {bs : List Bk} {nx : Nat → Nat} {lv bv : Value} {xs ys : List Value} {k : Nat} (hF : ShF S bs lv bv xs ys) (ho : ∀ b ∈ bs, BkOk b) (hk : k < 6) (hn : 1 ≤ bs.length) (hn9 : bs.length ≤ 1000) :
 Con Tryz.prog 11 #[.pointer (some ⟨sb, 0, none⟩), .string (ky k)] (ShItems sb lv bv bs.length xs ys nx) S (fun u I' S' => u = i64 (ofB bs k) ∧ I' = ShItems sb lv bv bs.length xs ys nx ∧ S' = S) := by
 refine con_of 25 Tryz.func11 rfl rfl rfl (fun w0 => ?_)
 refine sr (t_form (v := bv) (Pick.tl (Pick.tl Pick.hd)) (fun _ hn => absurd hn om) (fun gb cb hv hb1 hb2 hb3 => ?_))
 subst hv
 refine sa rfl (nes (sr (sa rfl (ne (c_block (c_loopH (τ := Nat) [(4, _), (0, _), (1, _)] (fun Ek z0 => (5, i64 z0) :: Ek) (fun z0 => z0 ≤ bs.length ∧ (bs.take z0).any (inB k) = false) (fun z0 => bs.length - z0) (0) (⟨Nat.zero_le _, rfl⟩) (fun z0 hz0 K0l hr0 => ?_)))))))
 refine c_seq (sr (mv rfl (mv rfl (yy (y_nil rfl) (yy (y_far fo_44_1 rfl) (ll (lb ld_41) ?_))))))
 refine yy (y_ln sl_41 rfl) (yy (y_lt rfl rfl) (nec rfl (fun g1 => ?_) (fun g1 => ?_)))
 · have hil : z0 < bs.length := by simpa using g1
   obtain ⟨b, hb⟩ : ∃ r, bs[z0]? = some r := ⟨_, List.getElem?_eq_getElem hil⟩
   obtain ⟨AB, aB, hbook, hbx⟩ := hF.book hb
   have hbo := ho b (List.mem_of_getElem? hb)
   refine c_skip (e_then (c_seq (c_block (sr (mv rfl (yy (y_nil rfl) (yy (y_far fo_44_1 rfl) (ll (lb ld_41) ?_))))))))
   refine mv rfl (yy (y_iaNr sl_41 rfl rfl hil) (ll (ld_flat ld_40 rfl (Pick.tl (Pick.tl Pick.hd)) hbx rfl) ?_))
   refine mv rfl (lw (t_callr' rfl (within_ok hbo.lo hbo.lh hbo.hi hk) en_18 (nec rfl (fun g2 => ?_) (fun g2 => ?_))))
   · have hq : inB k b = true := g2
     have hix : ofB bs k = z0 := by
      have := indexOf_at hz0.2 hb hq
      unfold indexOf at this
      have ha : bs.any (inB k) = true := List.any_eq_true.2 ⟨b, List.mem_of_getElem? hb, hq⟩
      rw [if_pos ha] at this
      unfold ofB; rw [if_pos ha]; omega
     exact sr (mv rfl (sa rfl (netr (e_in_ret (e_then_ret (e_then_ret (e_in_ret (e_then_ret (f_retS rfl (rt rfl) ⟨by rw [hix]; rfl, rfl, rfl⟩)))))))))
   · have hq : inB k b = false := g2
     exact c_skip (e_in (e_then (c_region (mv rfl (yy (y_addN (m := 1) rfl rfl om) (sa rfl (ne (t_to (hr0 (z0 + 1) ⟨by omega, any_next hz0.2 hb hq⟩ om)))))))))
 · have hze : z0 = bs.length := by simp at g1; omega
   have hno : bs.any (inB k) = false := by have := hz0.2; rwa [hze, List.take_length] at this
   refine c_exit ?_
   exact e_then_exit (e_then_exit (e_in_same (e_then (sr (sa rfl (netr (f_retS rfl (rt rfl) ⟨by unfold ofB; rw [hno]; rfl, rfl, rfl⟩)))))))
end Go.Proofs.YtkdmbimkanjbhaaGreatDoor.Eng
namespace Go.Proofs.YtkdmbimkanjbhaaGreatDoor.Eng
open Go Go.Proofs
set_option maxRecDepth 100000
set_option maxHeartbeats 4000000
attribute [local irreducible] Tr
def splB (bs : List Bk) (i : Nat) (b : Bk) (k : Nat) : List Bk := if b.frozen = 0 ∨ ¬ (b.lo < k ∧ k < b.hi) then bs else bs.take i ++ [halfB b b.lo k, halfB b k b.hi] ++ bs.drop (i + 1)
theorem splits_live {S : Stone} {sb : Nat} {bs : List Bk} {nx : Nat → Nat} {lv bv : Value} {xs ys : List Value} {i k : Nat} {b : Bk} (hF : ShF S bs lv bv xs ys) (hb : bs[i]? = some b) (ho : BkOk b) (hl : b.l.length ≤ 200) (he : b.epoch ≤ 1000000) (hk6 : k < 6) (hn : bs.length ≤ 1000) (hf : b.frozen = 0) :
 Con Tryz.prog 13 #[.pointer (some ⟨sb, 0, none⟩), i64 i, .string (ky k)] (ShItems sb lv bv bs.length xs ys nx) S (fun u I' S' => u = .bool true ∧ ShR sb (bs) nx I' S') := by
 have hil : i < bs.length := (List.getElem?_eq_some_iff.1 hb).1
 obtain ⟨A0, a0, B0, b0, D0, d0, hpart, hpx⟩ := hF.part hb
 obtain ⟨AB, aB, hbook, hbx⟩ := hF.book hb
 have hsho := shOk_of ho hl
 have hlo := ho.lo
 have hlh := ho.lh
 have hhi := ho.hi
 refine con_of 104 Tryz.func13 rfl rfl rfl (fun w0 => ?_)
 refine sr (t_form (v := lv) (Pick.tl Pick.hd) (fun _ hn => absurd hn om) (fun gL cl hv hl1 hl2 hl3 => ?_))
 subst hv
 refine t_form (v := bv) (Pick.tl (Pick.tl Pick.hd)) (fun _ hn => absurd hn om) (fun gb cb hv hb1 hb2 hb3 => ?_)
 subst hv
 refine sa rfl (nesr (mv rfl (yy (y_nil rfl) (yy (y_far fo_44_0 rfl) (ll (lb ld_35) ?_)))))
 refine mv rfl (yy (y_iaNr sl_35 rfl rfl hil) (ll (ld_flat ld_30 rfl pk hpx rfl) ?_))
 refine mv rfl (lw (t_callR rfl (split_live hpart hsho he hk6 hf) en_19 ?_))
 rintro v20 S20 le20 rfl
 refine mv rfl (yy (y_ext rfl rfl) (yy (y_ext rfl rfl) (yy (y_ext rfl rfl) (al zc_30 (fun b7 => ?_)))))
 refine al zc_30 (fun b8 => lw (sw sz_30 ?_))
 refine lw (sw sz_30 (sa rfl ?_))
 refine nesr (mv rfl (yy (y_nil rfl) (yy (y_far fo_44_1 rfl) (ll (lb ld_41) ?_))))
 refine mv rfl (yy (y_iaNr sl_41 rfl rfl hil) (ll (ld_flat ld_40 rfl pk hbx rfl) ?_))
 refine al zc_40 (fun b10 => lw (sw sz_40 (nes ?_)))
 refine sr (yy (y_far fo_40_3 rfl) (ll (lb ld_25) ?_))
 refine yy (y_eq rfl rfl) (nec rfl (fun g1 => ?_) (fun g1 => ?_))
 · skip
   exact sr (mv rfl (yy (y_eq rfl rfl) (sa rfl (netr (e_then_ret (f_retS rfl (rt rfl) ⟨rfl, _, _, xs, ys, rfl, hF.mono le20⟩))))))
 · rw [hf] at g1; cases g1
theorem splits_out {S : Stone} {sb : Nat} {bs : List Bk} {nx : Nat → Nat} {lv bv : Value} {xs ys : List Value} {i k : Nat} {b : Bk} (hF : ShF S bs lv bv xs ys) (hb : bs[i]? = some b) (ho : BkOk b) (hl : b.l.length ≤ 200) (he : b.epoch ≤ 1000000) (hk6 : k < 6) (hn : bs.length ≤ 1000) (hf : ¬ b.frozen = 0) (hk : ¬ (b.lo < k ∧ k < b.hi)) :
 Con Tryz.prog 13 #[.pointer (some ⟨sb, 0, none⟩), i64 i, .string (ky k)] (ShItems sb lv bv bs.length xs ys nx) S (fun u I' S' => u = .bool true ∧ ShR sb (bs) nx I' S') := by
 have hil : i < bs.length := (List.getElem?_eq_some_iff.1 hb).1
 obtain ⟨A0, a0, B0, b0, D0, d0, hpart, hpx⟩ := hF.part hb
 obtain ⟨AB, aB, hbook, hbx⟩ := hF.book hb
 have hsho := shOk_of ho hl
 have hlo := ho.lo
 have hlh := ho.lh
 have hhi := ho.hi
 refine con_of 104 Tryz.func13 rfl rfl rfl (fun w0 => ?_)
 refine sr (t_form (v := lv) (Pick.tl Pick.hd) (fun _ hn => absurd hn om) (fun gL cl hv hl1 hl2 hl3 => ?_))
 subst hv
 refine t_form (v := bv) (Pick.tl (Pick.tl Pick.hd)) (fun _ hn => absurd hn om) (fun gb cb hv hb1 hb2 hb3 => ?_)
 subst hv
 refine sa rfl (nesr (mv rfl (yy (y_nil rfl) (yy (y_far fo_44_0 rfl) (ll (lb ld_35) ?_)))))
 refine mv rfl (yy (y_iaNr sl_35 rfl rfl hil) (ll (ld_flat ld_30 rfl pk hpx rfl) ?_))
 refine mv rfl (lw (t_callR rfl (split_out hpart hsho he hk6 hf hk) en_19 ?_))
 rintro v20 S20 le20 rfl
 refine mv rfl (yy (y_ext rfl rfl) (yy (y_ext rfl rfl) (yy (y_ext rfl rfl) (al zc_30 (fun b7 => ?_)))))
 refine al zc_30 (fun b8 => lw (sw sz_30 ?_))
 refine lw (sw sz_30 (sa rfl ?_))
 refine nesr (mv rfl (yy (y_nil rfl) (yy (y_far fo_44_1 rfl) (ll (lb ld_41) ?_))))
 refine mv rfl (yy (y_iaNr sl_41 rfl rfl hil) (ll (ld_flat ld_40 rfl pk hbx rfl) ?_))
 refine al zc_40 (fun b10 => lw (sw sz_40 (nes ?_)))
 refine sr (yy (y_far fo_40_3 rfl) (ll (lb ld_25) ?_))
 refine yy (y_eq rfl rfl) (nec rfl (fun g1 => ?_) (fun g1 => ?_))
 · simp at g1; omega
 · refine c_skip ?_
   refine e_then (c_seq (sr (ll (lbw ld_40) ?_)))
   refine mv rfl (lw (t_callr' rfl (within_ok hlo hlh hhi hk6) en_18 (yy (y_not rfl) (mv rfl ?_))))
   apply l_or 5 (gd := 40) (d := 45) rfl
   · intro hb40 K2 hK2
     refine qy hb40 (y_move rfl) (qy hb40 (y_far fo_40_0 rfl) (gl hb40 (lb ld_9) ?_))
     exact qy hb40 (y_seq rfl rfl) (yy (y_pick_f' rfl hb40 rfl) (lk_end hK2))
   · intro hb40 K2 hK2
     exact qn hb40 (qn hb40 (qn hb40 (qn hb40 (yy (y_pick_t' rfl hb40 rfl) (lk_end hK2)))))
   refine nec rfl (fun g3 => ?_) (fun g3 => ?_)
   · refine c_seq ?_
     exact c_region (mv rfl (yy (y_ne rfl rfl) (sa rfl (netr (e_then_ret (f_retS rfl (rt rfl) ⟨rfl, _, _, xs, ys, rfl, hF.mono le20⟩))))))
   · have h9 := g3
     rw [ky_eq hk6 hlo] at h9
     simp at h9
     omega
theorem splits_yes {S : Stone} {sb : Nat} {bs : List Bk} {nx : Nat → Nat} {lv bv : Value} {xs ys : List Value} {i k : Nat} {b : Bk} (hF : ShF S bs lv bv xs ys) (hb : bs[i]? = some b) (ho : BkOk b) (hl : b.l.length ≤ 200) (he : b.epoch ≤ 1000000) (hk6 : k < 6) (hn : bs.length ≤ 1000) (hf : ¬ b.frozen = 0) (hk : b.lo < k ∧ k < b.hi) :
 Con Tryz.prog 13 #[.pointer (some ⟨sb, 0, none⟩), i64 i, .string (ky k)] (ShItems sb lv bv bs.length xs ys nx) S (fun u I' S' => u = .bool true ∧ ShR sb (bs.take i ++ [halfB b b.lo k, halfB b k b.hi] ++ bs.drop (i + 1)) nx I' S') := by
 have hil : i < bs.length := (List.getElem?_eq_some_iff.1 hb).1
 obtain ⟨A0, a0, B0, b0, D0, d0, hpart, hpx⟩ := hF.part hb
 obtain ⟨AB, aB, hbook, hbx⟩ := hF.book hb
 have hsho := shOk_of ho hl
 have hlo := ho.lo
 have hlh := ho.lh
 have hhi := ho.hi
 refine con_of 104 Tryz.func13 rfl rfl rfl (fun w0 => ?_)
 refine sr (t_form (v := lv) (Pick.tl Pick.hd) (fun _ hn => absurd hn om) (fun gL cl hv hl1 hl2 hl3 => ?_))
 subst hv
 refine t_form (v := bv) (Pick.tl (Pick.tl Pick.hd)) (fun _ hn => absurd hn om) (fun gb cb hv hb1 hb2 hb3 => ?_)
 subst hv
 refine sa rfl (nesr (mv rfl (yy (y_nil rfl) (yy (y_far fo_44_0 rfl) (ll (lb ld_35) ?_)))))
 refine mv rfl (yy (y_iaNr sl_35 rfl rfl hil) (ll (ld_flat ld_30 rfl pk hpx rfl) ?_))
 refine mv rfl (lw (t_callR rfl (split_yes hpart hsho he hk6 hf hk) en_19 ?_))
 rintro v20 S20 le20 ⟨v20', w20', rfl, hp1, hp2⟩
 rw [show (shOf b).lo = b.lo from rfl, ← half_law ho] at hp1
 rw [show (shOf b).hi = b.hi from rfl, ← half_law ho] at hp2
 obtain ⟨E1, e1, E2, e2, E3, e3, rfl, -⟩ := hp1.ex
 obtain ⟨G1, w1, G2, w2, G3, w3, rfl, -⟩ := hp2.ex
 refine mv rfl (yy (y_ext rfl rfl) (yy (y_ext rfl rfl) (yy (y_ext rfl rfl) (al zc_30 (fun b7 => ?_)))))
 refine al zc_30 (fun b8 => lw (sw sz_30 ?_))
 refine lw (sw sz_30 (sa rfl ?_))
 refine nesr (mv rfl (yy (y_nil rfl) (yy (y_far fo_44_1 rfl) (ll (lb ld_41) ?_))))
 refine mv rfl (yy (y_iaNr sl_41 rfl rfl hil) (ll (ld_flat ld_40 rfl pk hbx rfl) ?_))
 refine al zc_40 (fun b10 => lw (sw sz_40 (nes ?_)))
 refine sr (yy (y_far fo_40_3 rfl) (ll (lb ld_25) ?_))
 refine yy (y_eq rfl rfl) (nec rfl (fun g1 => ?_) (fun g1 => ?_))
 · simp at g1; omega
 · refine c_skip ?_
   refine e_then (c_seq (sr (ll (lbw ld_40) ?_)))
   refine mv rfl (lw (t_callr' rfl (within_ok hlo hlh hhi hk6) en_18 (yy (y_not rfl) (mv rfl ?_))))
   apply l_or 5 (gd := 40) (d := 45) rfl
   · intro hb40 K2 hK2
     refine qy hb40 (y_move rfl) (qy hb40 (y_far fo_40_0 rfl) (gl hb40 (lb ld_9) ?_))
     exact qy hb40 (y_seq rfl rfl) (yy (y_pick_f' rfl hb40 rfl) (lk_end hK2))
   · intro hb40 K2 hK2
     exact qn hb40 (qn hb40 (qn hb40 (qn hb40 (yy (y_pick_t' rfl hb40 rfl) (lk_end hK2)))))
   refine nec rfl (fun g3 => ?_) (fun g3 => ?_)
   · have h9 := g3
     rw [ky_eq hk6 hlo] at h9
     simp at h9
     omega
   · refine c_skip ?_
     refine e_then (c_seq (sr (mv rfl (yy (y_ne rfl rfl) (ne (c_false rfl (c_skip (e_then (c_seq ?_)))))))))
     have hF20 := hF.mono le20
     refine t_pub (C := partC) (l := bs.map shOf) (v := .slice (some ⟨gL, 0, none⟩) bs.length cl) pk (fun S' hle => hF20.parts.mono (partC_mono hle)) (by simp) (fun S21 le21 hs21 => ?_)
     refine t_pub (C := bookC) (l := bs) (v := .slice (some ⟨gb, 0, none⟩) bs.length cb) pk (fun S' hle => hF20.books.mono (bookC_mono (le21.trans hle))) rfl (fun S22 le22 hs22 => ?_)
     have hs21' : Sl S22 7 partC (.slice (some ⟨gL, 0, none⟩) (bs.map shOf).length cl) (bs.map shOf) := by rw [List.length_map]; exact Parts.mono hs21 le22
     have hsA := Sl.sub hs21' (Nat.zero_le i) (by simp; omega : i ≤ (bs.map shOf).length)
     rw [sliced_zero, List.drop_zero] at hsA
     have hsB := Sl.sub hs21' (by simp; omega : i + 1 ≤ (bs.map shOf).length) (Nat.le_refl _)
     rw [List.take_length] at hsB
     have hsC := Sl.sub hs22 (Nat.zero_le i) (by omega : i ≤ bs.length)
     rw [sliced_zero, List.drop_zero] at hsC
     have hsD := Sl.sub hs22 (by omega : i + 1 ≤ bs.length) (Nat.le_refl _)
     rw [List.take_length] at hsD
     have hbook22 := hbook.mono ((le20.trans le21).trans le22)
     have hcon86 := half_ok (lo := b.lo) (hi := k) hbook22 ho hl he hlo hk.1 om
     rw [kh_lt hk6] at hcon86
     refine dR ([.blk sb (.cells [.slice (some ⟨gL, 0, none⟩) bs.length cl, .slice (some ⟨gb, 0, none⟩) bs.length cb, u64 (nx 0), u64 (nx 1), u64 (nx 2), u64 (nx 3)].toArray 44 (0, 0)), .blk b7 (.cells ((shOf (halfB b b.lo k)).cells (.slice E1 (shOf (halfB b b.lo k)).l.length e1) (.slice E2 (shOf (halfB b b.lo k)).p.length e2) (.slice E3 (shOf (halfB b b.lo k)).c.length e3)).toArray 30 (0, 0)), .blk b8 (.cells ((shOf (halfB b k b.hi)).cells (.slice G1 (shOf (halfB b k b.hi)).l.length w1) (.slice G2 (shOf (halfB b k b.hi)).p.length w2) (.slice G3 (shOf (halfB b k b.hi)).c.length w3)).toArray 30 (0, 0))]) [5, 9, 10, 16] (.take 0 (.take 2 (.take 3 (.take 4 (.take 5 (.take 6 (.take 7 (.take 9 (.take 10 (.take 13 (.take 14 (.take 15 (.take 16 (.take 17 (.take 18 (.take 19 (.alt 1 (.alt 8 (.alt 11 (.alt 12 (.alt 20 (.take 21 (.take 22 (.alt 23 .done .stop))) .stop) .stop) .stop) (.alt 11 (.alt 8 (.alt 12 (.alt 20 (.take 21 (.take 22 (.alt 23 .done .stop))) .stop) .stop) .stop) .stop)) (.alt 11 (.alt 1 (.alt 8 (.alt 12 (.alt 20 (.take 21 (.take 22 (.alt 23 .done .stop))) .stop) .stop) .stop) .stop) .stop)))))))))))))))))) ?_
     refine em rfl rfl (em rfl rfl (ey rfl (y_nil rfl) ?_))
     refine ey rfl (y_far fo_44_0 rfl) (dl rfl (lb ld_35) ?_)
     refine em rfl rfl (ey rfl (y_slh sl_35 rfl (h := i) rfl om) ?_)
     refine dl rfl (lbw ld_30) ?_
     refine dl rfl (lbw ld_30) ?_
     refine em rfl rfl (ey rfl (y_nil rfl) ?_)
     refine ey rfl (y_far fo_44_0 rfl) (dl rfl (lb ld_35) ?_)
     refine em rfl rfl (ey rfl (y_inc rfl om) (ey rfl (y_sl sl_35 rfl (l := i + 1) (h := bs.length) ⟨_, rfl⟩ rfl om om) ?_))
     rw [List.length_map] at hsB
     have hsB' := hsB
     have hdl : ((bs.map shOf).drop (i + 1)).length = bs.length - (i + 1) := by simp
     obtain ⟨A69, a69, e69, -, -⟩ := hsB.shape
     rw [e69] at hsB' ⊢
     refine d_alt rfl rfl ?_ ?_
     · -- first 1
       refine t_bs0 ap_35 zc_30 rfl (fun b51 => ?_)
       refine dA (Stone.le.refl _) ?_
       refine d_alt rfl rfl ?_ ?_
       · -- first 8
         refine t_appS (hsA) plain_part ap_35 rfl rfl pk mo om rfl (fun va58 nw58 hf58 hm58 ho58 => ?_)
         refine dA (Stone.le.refl _) (da rfl ?_)
         refine t_bs (l := [(0, .tmp 59), (1, .tmp 60)]) (cs := (shOf (halfB b b.lo k)).cells (.slice E1 (shOf (halfB b b.lo k)).l.length e1) (.slice E2 (shOf (halfB b b.lo k)).p.length e2) (.slice E3 (shOf (halfB b b.lo k)).c.length e3) ++ (shOf (halfB b k b.hi)).cells (.slice G1 (shOf (halfB b k b.hi)).l.length w1) (.slice G2 (shOf (halfB b k b.hi)).p.length w2) (.slice G3 (shOf (halfB b k b.hi)).c.length w3)) ap_35 zc_30 (by decide) rfl rfl rfl (lt_n rfl) (fun b61 => ?_)
         refine dA (Stone.le.refl _) (da rfl ?_)
         refine aR ap_35 (fun va62 ho62 => ?_)
         refine dA (Stone.le.refl _) (da rfl ?_)
         refine t_appS (hsB') plain_part ap_35 rfl rfl pk mo om rfl (fun va70 nw70 hf70 hm70 ho70 => ?_)
         refine dA (Stone.le.refl _) (ey rfl (y_nil rfl) (ey rfl (y_far fo_44_0 rfl) ?_))
         refine da rfl (t_st1' sz_35 rfl rfl (by first | assumption | exact Byt.one ‹_› | exact Sl.one ‹_›) pk rfl ?_)
         refine dA (Stone.le.refl _) (d_done (e_then (c_seq (dR ([.blk sb (.cells [va70, .slice (some ⟨gb, 0, none⟩) bs.length cb, u64 (nx 0), u64 (nx 1), u64 (nx 2), u64 (nx 3)].toArray 44 (0, 0)), .blk b10 (.cells (b.cells (.slice AB b.l.length aB)).toArray 40 (0, 0))]) [5, 9, 11, 14, 17, 24] (.take 0 (.take 2 (.take 3 (.take 4 (.take 5 (.take 6 (.take 7 (.take 9 (.take 10 (.take 11 (.take 12 (.take 14 (.take 15 (.take 16 (.take 17 (.take 21 (.take 22 (.take 23 (.take 24 (.take 25 (.take 26 (.take 27 (.alt 1 (.alt 8 (.alt 13 (.alt 18 (.alt 19 (.alt 20 (.alt 28 (.take 29 (.take 30 (.alt 31 .done .stop))) .stop) .stop) .stop) .stop) .stop) .stop) .stop))))))))))))))))))))))) ?_))))
         refine em rfl rfl (em rfl rfl (ey rfl (y_nil rfl) (ey rfl (y_far fo_44_1 rfl) (dl rfl (lb ld_41) ?_))))
         refine em rfl rfl (ey rfl (y_slh sl_41 rfl (h := i) rfl om) (dl rfl (lbw ld_40) ?_))
         refine ey rfl (y_far fo_40_0 rfl) (dl rfl (lb ld_9) ?_)
         refine em rfl rfl (dl rfl (lbw ld_40) ?_)
         refine em rfl rfl (ey rfl (y_far fo_40_1 rfl) (dl rfl (lb ld_9) ?_))
         refine em rfl rfl (ey rfl (y_nil rfl) (ey rfl (y_far fo_44_1 rfl) (dl rfl (lb ld_41) ?_)))
         refine em rfl rfl (ey rfl (y_inc rfl om) (ey rfl (y_sl sl_41 rfl (l := i + 1) (h := bs.length) ⟨_, rfl⟩ rfl om om) ?_))
         have hsD' := hsD
         have hdl2 : (bs.drop (i + 1)).length = bs.length - (i + 1) := by simp
         obtain ⟨A100, a100, e100, -, -⟩ := hsD.shape
         rw [e100] at hsD' ⊢
         refine da rfl (t_bs0 ap_41 zc_40 rfl (fun b74 => ?_))
         refine dA (Stone.le.refl _) (da rfl (t_appS (hsC) plain_book ap_41 rfl rfl pk mo om rfl (fun va81 nw81 hf81 hm81 ho81 => ?_)))
         refine dA (Stone.le.refl _) (da rfl (t_callR rfl (hcon86) en_20 ?_))
         rintro v86 S86 le86 h86
         obtain ⟨r86, rfl, hr86⟩ := id h86
         obtain ⟨A86, a86, rfl, -⟩ := hr86.shape
         refine dA le86 (da rfl (t_callR rfl (half_ok (hbook22.mono le86) ho hl he hk6 hk.2 hhi) en_20 ?_))
         rintro v91 S91 le91 h91
         obtain ⟨r91, rfl, hr91⟩ := id h91
         obtain ⟨A91, a91, rfl, -⟩ := hr91.shape
         refine dA (le86.trans le91) (da rfl (t_bs (l := [(0, .tmp 86), (1, .tmp 91)]) (cs := (halfB b b.lo k).cells (.slice A86 (halfB b b.lo k).l.length a86) ++ (halfB b k b.hi).cells (.slice A91 (halfB b k b.hi).l.length a91)) ap_41 zc_40 (by decide) rfl rfl rfl (lt_n rfl) (fun b92 => ?_)))
         refine dA (le86.trans le91) (da rfl (aR ap_41 (fun va93 ho93 => ?_)))
         refine dA (le86.trans le91) (da rfl (t_appS (hsD'.mono (le86.trans le91) (bookC_mono (le86.trans le91))) plain_book ap_41 rfl rfl pk mo om rfl (fun va101 nw101 hf101 hm101 ho101 => ?_)))
         refine dA (le86.trans le91) (ey rfl (y_nil rfl) (ey rfl (y_far fo_44_1 rfl) (da rfl (t_st1' sz_41 rfl rfl (by first | assumption | exact Byt.one ‹_› | exact Sl.one ‹_›) pk rfl ?_))))
         refine dA (le86.trans le91) (d_done (e_then (sr (sa rfl (netr ?_)))))
         have hLL : (bs.take i ++ [halfB b b.lo k, halfB b k b.hi] ++ bs.drop (i + 1)).length = bs.length + 1 := by simp; omega
         refine t_eqn (v := va70) (bs.take i ++ [halfB b b.lo k, halfB b k b.hi] ++ bs.drop (i + 1)).length pk (by rw [hLL]; simp; omega) ?_
         refine t_eqn (v := va101) (bs.take i ++ [halfB b b.lo k, halfB b k b.hi] ++ bs.drop (i + 1)).length pk (by rw [hLL]; simp; omega) ?_
         have hle91 := ((le20.trans le21).trans le22).trans (le86.trans le91)
         have f1 : Flat S91 7 partC (((([] : List Value) ++ nw58) ++ ((shOf (halfB b b.lo k)).cells (.slice E1 (shOf (halfB b b.lo k)).l.length e1) (.slice E2 (shOf (halfB b b.lo k)).p.length e2) (.slice E3 (shOf (halfB b b.lo k)).c.length e3) ++ (shOf (halfB b k b.hi)).cells (.slice G1 (shOf (halfB b k b.hi)).l.length w1) (.slice G2 (shOf (halfB b k b.hi)).p.length w2) (.slice G3 (shOf (halfB b k b.hi)).c.length w3))) ++ nw70) ((bs.take i ++ [halfB b b.lo k, halfB b k b.hi] ++ bs.drop (i + 1)).map shOf) := by
          have g1 := (Flat.nil (S := S91) (size := 7) (C := partC)).app (hf58.mono (partC_mono (le86.trans le91)))
          have g2 := (Flat.one (S := S91) (C := partC) (a := shOf (halfB b b.lo k)) (hp1.mono ((le21.trans le22).trans (le86.trans le91))) rfl).app (Flat.one (S := S91) (C := partC) (a := shOf (halfB b k b.hi)) (hp2.mono ((le21.trans le22).trans (le86.trans le91))) rfl)
          have g3 := (g1.app g2).app (hf70.mono (partC_mono (le86.trans le91)))
          simpa [List.map_append, List.map_take, List.map_drop] using g3
         have f2 : Flat S91 19 bookC (((([] : List Value) ++ nw81) ++ ((halfB b b.lo k).cells (.slice A86 (halfB b b.lo k).l.length a86) ++ (halfB b k b.hi).cells (.slice A91 (halfB b k b.hi).l.length a91))) ++ nw101) (bs.take i ++ [halfB b b.lo k, halfB b k b.hi] ++ bs.drop (i + 1)) := by
          have g1 := (Flat.nil (S := S91) (size := 19) (C := bookC)).app (hf81.mono (bookC_mono (le86.trans le91)))
          have g2 := (Flat.one (S := S91) (C := bookC) (a := halfB b b.lo k) (h86.mono le91) rfl).app (Flat.one (S := S91) (C := bookC) (a := halfB b k b.hi) h91 rfl)
          have g3 := (g1.app g2).app hf101
          simpa using g3
         exact f_retS rfl (rt rfl) ⟨rfl, va70, va101, (((([] : List Value) ++ nw58) ++ ((shOf (halfB b b.lo k)).cells (.slice E1 (shOf (halfB b b.lo k)).l.length e1) (.slice E2 (shOf (halfB b b.lo k)).p.length e2) (.slice E3 (shOf (halfB b b.lo k)).c.length e3) ++ (shOf (halfB b k b.hi)).cells (.slice G1 (shOf (halfB b k b.hi)).l.length w1) (.slice G2 (shOf (halfB b k b.hi)).p.length w2) (.slice G3 (shOf (halfB b k b.hi)).c.length w3))) ++ nw70), (((([] : List Value) ++ nw81) ++ ((halfB b b.lo k).cells (.slice A86 (halfB b b.lo k).l.length a86) ++ (halfB b k b.hi).cells (.slice A91 (halfB b k b.hi).l.length a91))) ++ nw101), rfl, ⟨f1, f2, ho70, ho101⟩⟩
       refine d_alt rfl rfl ?_ d_stop
       refine t_bs (l := [(0, .tmp 59), (1, .tmp 60)]) (cs := (shOf (halfB b b.lo k)).cells (.slice E1 (shOf (halfB b b.lo k)).l.length e1) (.slice E2 (shOf (halfB b b.lo k)).p.length e2) (.slice E3 (shOf (halfB b b.lo k)).c.length e3) ++ (shOf (halfB b k b.hi)).cells (.slice G1 (shOf (halfB b k b.hi)).l.length w1) (.slice G2 (shOf (halfB b k b.hi)).p.length w2) (.slice G3 (shOf (halfB b k b.hi)).c.length w3)) ap_35 zc_30 (by decide) rfl rfl rfl (lt_n rfl) (fun b61 => ?_)
       refine dA (Stone.le.refl _) (da rfl ?_)
       refine t_appS (hsA) plain_part ap_35 rfl rfl pk mo om rfl (fun va58 nw58 hf58 hm58 ho58 => ?_)
       refine dA (Stone.le.refl _) (da rfl ?_)
       refine aR ap_35 (fun va62 ho62 => ?_)
       refine dA (Stone.le.refl _) (da rfl ?_)
       refine t_appS (hsB') plain_part ap_35 rfl rfl pk mo om rfl (fun va70 nw70 hf70 hm70 ho70 => ?_)
       refine dA (Stone.le.refl _) (ey rfl (y_nil rfl) (ey rfl (y_far fo_44_0 rfl) ?_))
       refine da rfl (t_st1' sz_35 rfl rfl (by first | assumption | exact Byt.one ‹_› | exact Sl.one ‹_›) pk rfl ?_)
       refine dA (Stone.le.refl _) (d_done (e_then (c_seq (dR ([.blk sb (.cells [va70, .slice (some ⟨gb, 0, none⟩) bs.length cb, u64 (nx 0), u64 (nx 1), u64 (nx 2), u64 (nx 3)].toArray 44 (0, 0)), .blk b10 (.cells (b.cells (.slice AB b.l.length aB)).toArray 40 (0, 0))]) [5, 9, 11, 14, 17, 24] (.take 0 (.take 2 (.take 3 (.take 4 (.take 5 (.take 6 (.take 7 (.take 9 (.take 10 (.take 11 (.take 12 (.take 14 (.take 15 (.take 16 (.take 17 (.take 21 (.take 22 (.take 23 (.take 24 (.take 25 (.take 26 (.take 27 (.alt 1 (.alt 8 (.alt 13 (.alt 18 (.alt 19 (.alt 20 (.alt 28 (.take 29 (.take 30 (.alt 31 .done .stop))) .stop) .stop) .stop) .stop) .stop) .stop) .stop))))))))))))))))))))))) ?_))))
       refine em rfl rfl (em rfl rfl (ey rfl (y_nil rfl) (ey rfl (y_far fo_44_1 rfl) (dl rfl (lb ld_41) ?_))))
       refine em rfl rfl (ey rfl (y_slh sl_41 rfl (h := i) rfl om) (dl rfl (lbw ld_40) ?_))
       refine ey rfl (y_far fo_40_0 rfl) (dl rfl (lb ld_9) ?_)
       refine em rfl rfl (dl rfl (lbw ld_40) ?_)
       refine em rfl rfl (ey rfl (y_far fo_40_1 rfl) (dl rfl (lb ld_9) ?_))
       refine em rfl rfl (ey rfl (y_nil rfl) (ey rfl (y_far fo_44_1 rfl) (dl rfl (lb ld_41) ?_)))
       refine em rfl rfl (ey rfl (y_inc rfl om) (ey rfl (y_sl sl_41 rfl (l := i + 1) (h := bs.length) ⟨_, rfl⟩ rfl om om) ?_))
       have hsD' := hsD
       have hdl2 : (bs.drop (i + 1)).length = bs.length - (i + 1) := by simp
       obtain ⟨A100, a100, e100, -, -⟩ := hsD.shape
       rw [e100] at hsD' ⊢
       refine da rfl (t_bs0 ap_41 zc_40 rfl (fun b74 => ?_))
       refine dA (Stone.le.refl _) (da rfl (t_appS (hsC) plain_book ap_41 rfl rfl pk mo om rfl (fun va81 nw81 hf81 hm81 ho81 => ?_)))
       refine dA (Stone.le.refl _) (da rfl (t_callR rfl (hcon86) en_20 ?_))
       rintro v86 S86 le86 h86
       obtain ⟨r86, rfl, hr86⟩ := id h86
       obtain ⟨A86, a86, rfl, -⟩ := hr86.shape
       refine dA le86 (da rfl (t_callR rfl (half_ok (hbook22.mono le86) ho hl he hk6 hk.2 hhi) en_20 ?_))
       rintro v91 S91 le91 h91
       obtain ⟨r91, rfl, hr91⟩ := id h91
       obtain ⟨A91, a91, rfl, -⟩ := hr91.shape
       refine dA (le86.trans le91) (da rfl (t_bs (l := [(0, .tmp 86), (1, .tmp 91)]) (cs := (halfB b b.lo k).cells (.slice A86 (halfB b b.lo k).l.length a86) ++ (halfB b k b.hi).cells (.slice A91 (halfB b k b.hi).l.length a91)) ap_41 zc_40 (by decide) rfl rfl rfl (lt_n rfl) (fun b92 => ?_)))
       refine dA (le86.trans le91) (da rfl (aR ap_41 (fun va93 ho93 => ?_)))
       refine dA (le86.trans le91) (da rfl (t_appS (hsD'.mono (le86.trans le91) (bookC_mono (le86.trans le91))) plain_book ap_41 rfl rfl pk mo om rfl (fun va101 nw101 hf101 hm101 ho101 => ?_)))
       refine dA (le86.trans le91) (ey rfl (y_nil rfl) (ey rfl (y_far fo_44_1 rfl) (da rfl (t_st1' sz_41 rfl rfl (by first | assumption | exact Byt.one ‹_› | exact Sl.one ‹_›) pk rfl ?_))))
       refine dA (le86.trans le91) (d_done (e_then (sr (sa rfl (netr ?_)))))
       have hLL : (bs.take i ++ [halfB b b.lo k, halfB b k b.hi] ++ bs.drop (i + 1)).length = bs.length + 1 := by simp; omega
       refine t_eqn (v := va70) (bs.take i ++ [halfB b b.lo k, halfB b k b.hi] ++ bs.drop (i + 1)).length pk (by rw [hLL]; simp; omega) ?_
       refine t_eqn (v := va101) (bs.take i ++ [halfB b b.lo k, halfB b k b.hi] ++ bs.drop (i + 1)).length pk (by rw [hLL]; simp; omega) ?_
       have hle91 := ((le20.trans le21).trans le22).trans (le86.trans le91)
       have f1 : Flat S91 7 partC (((([] : List Value) ++ nw58) ++ ((shOf (halfB b b.lo k)).cells (.slice E1 (shOf (halfB b b.lo k)).l.length e1) (.slice E2 (shOf (halfB b b.lo k)).p.length e2) (.slice E3 (shOf (halfB b b.lo k)).c.length e3) ++ (shOf (halfB b k b.hi)).cells (.slice G1 (shOf (halfB b k b.hi)).l.length w1) (.slice G2 (shOf (halfB b k b.hi)).p.length w2) (.slice G3 (shOf (halfB b k b.hi)).c.length w3))) ++ nw70) ((bs.take i ++ [halfB b b.lo k, halfB b k b.hi] ++ bs.drop (i + 1)).map shOf) := by
        have g1 := (Flat.nil (S := S91) (size := 7) (C := partC)).app (hf58.mono (partC_mono (le86.trans le91)))
        have g2 := (Flat.one (S := S91) (C := partC) (a := shOf (halfB b b.lo k)) (hp1.mono ((le21.trans le22).trans (le86.trans le91))) rfl).app (Flat.one (S := S91) (C := partC) (a := shOf (halfB b k b.hi)) (hp2.mono ((le21.trans le22).trans (le86.trans le91))) rfl)
        have g3 := (g1.app g2).app (hf70.mono (partC_mono (le86.trans le91)))
        simpa [List.map_append, List.map_take, List.map_drop] using g3
       have f2 : Flat S91 19 bookC (((([] : List Value) ++ nw81) ++ ((halfB b b.lo k).cells (.slice A86 (halfB b b.lo k).l.length a86) ++ (halfB b k b.hi).cells (.slice A91 (halfB b k b.hi).l.length a91))) ++ nw101) (bs.take i ++ [halfB b b.lo k, halfB b k b.hi] ++ bs.drop (i + 1)) := by
        have g1 := (Flat.nil (S := S91) (size := 19) (C := bookC)).app (hf81.mono (bookC_mono (le86.trans le91)))
        have g2 := (Flat.one (S := S91) (C := bookC) (a := halfB b b.lo k) (h86.mono le91) rfl).app (Flat.one (S := S91) (C := bookC) (a := halfB b k b.hi) h91 rfl)
        have g3 := (g1.app g2).app hf101
        simpa using g3
       exact f_retS rfl (rt rfl) ⟨rfl, va70, va101, (((([] : List Value) ++ nw58) ++ ((shOf (halfB b b.lo k)).cells (.slice E1 (shOf (halfB b b.lo k)).l.length e1) (.slice E2 (shOf (halfB b b.lo k)).p.length e2) (.slice E3 (shOf (halfB b b.lo k)).c.length e3) ++ (shOf (halfB b k b.hi)).cells (.slice G1 (shOf (halfB b k b.hi)).l.length w1) (.slice G2 (shOf (halfB b k b.hi)).p.length w2) (.slice G3 (shOf (halfB b k b.hi)).c.length w3))) ++ nw70), (((([] : List Value) ++ nw81) ++ ((halfB b b.lo k).cells (.slice A86 (halfB b b.lo k).l.length a86) ++ (halfB b k b.hi).cells (.slice A91 (halfB b k b.hi).l.length a91))) ++ nw101), rfl, ⟨f1, f2, ho70, ho101⟩⟩
     refine d_alt rfl rfl ?_ d_stop
     refine t_bs (l := [(0, .tmp 59), (1, .tmp 60)]) (cs := (shOf (halfB b b.lo k)).cells (.slice E1 (shOf (halfB b b.lo k)).l.length e1) (.slice E2 (shOf (halfB b b.lo k)).p.length e2) (.slice E3 (shOf (halfB b b.lo k)).c.length e3) ++ (shOf (halfB b k b.hi)).cells (.slice G1 (shOf (halfB b k b.hi)).l.length w1) (.slice G2 (shOf (halfB b k b.hi)).p.length w2) (.slice G3 (shOf (halfB b k b.hi)).c.length w3)) ap_35 zc_30 (by decide) rfl rfl rfl (lt_n rfl) (fun b61 => ?_)
     refine dA (Stone.le.refl _) (da rfl ?_)
     refine t_bs0 ap_35 zc_30 rfl (fun b51 => ?_)
     refine dA (Stone.le.refl _) (da rfl ?_)
     refine t_appS (hsA) plain_part ap_35 rfl rfl pk mo om rfl (fun va58 nw58 hf58 hm58 ho58 => ?_)
     refine dA (Stone.le.refl _) (da rfl ?_)
     refine aR ap_35 (fun va62 ho62 => ?_)
     refine dA (Stone.le.refl _) (da rfl ?_)
     refine t_appS (hsB') plain_part ap_35 rfl rfl pk mo om rfl (fun va70 nw70 hf70 hm70 ho70 => ?_)
     refine dA (Stone.le.refl _) (ey rfl (y_nil rfl) (ey rfl (y_far fo_44_0 rfl) ?_))
     refine da rfl (t_st1' sz_35 rfl rfl (by first | assumption | exact Byt.one ‹_› | exact Sl.one ‹_›) pk rfl ?_)
     refine dA (Stone.le.refl _) (d_done (e_then (c_seq (dR ([.blk sb (.cells [va70, .slice (some ⟨gb, 0, none⟩) bs.length cb, u64 (nx 0), u64 (nx 1), u64 (nx 2), u64 (nx 3)].toArray 44 (0, 0)), .blk b10 (.cells (b.cells (.slice AB b.l.length aB)).toArray 40 (0, 0))]) [5, 9, 11, 14, 17, 24] (.take 0 (.take 2 (.take 3 (.take 4 (.take 5 (.take 6 (.take 7 (.take 9 (.take 10 (.take 11 (.take 12 (.take 14 (.take 15 (.take 16 (.take 17 (.take 21 (.take 22 (.take 23 (.take 24 (.take 25 (.take 26 (.take 27 (.alt 1 (.alt 8 (.alt 13 (.alt 18 (.alt 19 (.alt 20 (.alt 28 (.take 29 (.take 30 (.alt 31 .done .stop))) .stop) .stop) .stop) .stop) .stop) .stop) .stop))))))))))))))))))))))) ?_))))
     refine em rfl rfl (em rfl rfl (ey rfl (y_nil rfl) (ey rfl (y_far fo_44_1 rfl) (dl rfl (lb ld_41) ?_))))
     refine em rfl rfl (ey rfl (y_slh sl_41 rfl (h := i) rfl om) (dl rfl (lbw ld_40) ?_))
     refine ey rfl (y_far fo_40_0 rfl) (dl rfl (lb ld_9) ?_)
     refine em rfl rfl (dl rfl (lbw ld_40) ?_)
     refine em rfl rfl (ey rfl (y_far fo_40_1 rfl) (dl rfl (lb ld_9) ?_))
     refine em rfl rfl (ey rfl (y_nil rfl) (ey rfl (y_far fo_44_1 rfl) (dl rfl (lb ld_41) ?_)))
     refine em rfl rfl (ey rfl (y_inc rfl om) (ey rfl (y_sl sl_41 rfl (l := i + 1) (h := bs.length) ⟨_, rfl⟩ rfl om om) ?_))
     have hsD' := hsD
     have hdl2 : (bs.drop (i + 1)).length = bs.length - (i + 1) := by simp
     obtain ⟨A100, a100, e100, -, -⟩ := hsD.shape
     rw [e100] at hsD' ⊢
     refine da rfl (t_bs0 ap_41 zc_40 rfl (fun b74 => ?_))
     refine dA (Stone.le.refl _) (da rfl (t_appS (hsC) plain_book ap_41 rfl rfl pk mo om rfl (fun va81 nw81 hf81 hm81 ho81 => ?_)))
     refine dA (Stone.le.refl _) (da rfl (t_callR rfl (hcon86) en_20 ?_))
     rintro v86 S86 le86 h86
     obtain ⟨r86, rfl, hr86⟩ := id h86
     obtain ⟨A86, a86, rfl, -⟩ := hr86.shape
     refine dA le86 (da rfl (t_callR rfl (half_ok (hbook22.mono le86) ho hl he hk6 hk.2 hhi) en_20 ?_))
     rintro v91 S91 le91 h91
     obtain ⟨r91, rfl, hr91⟩ := id h91
     obtain ⟨A91, a91, rfl, -⟩ := hr91.shape
     refine dA (le86.trans le91) (da rfl (t_bs (l := [(0, .tmp 86), (1, .tmp 91)]) (cs := (halfB b b.lo k).cells (.slice A86 (halfB b b.lo k).l.length a86) ++ (halfB b k b.hi).cells (.slice A91 (halfB b k b.hi).l.length a91)) ap_41 zc_40 (by decide) rfl rfl rfl (lt_n rfl) (fun b92 => ?_)))
     refine dA (le86.trans le91) (da rfl (aR ap_41 (fun va93 ho93 => ?_)))
     refine dA (le86.trans le91) (da rfl (t_appS (hsD'.mono (le86.trans le91) (bookC_mono (le86.trans le91))) plain_book ap_41 rfl rfl pk mo om rfl (fun va101 nw101 hf101 hm101 ho101 => ?_)))
     refine dA (le86.trans le91) (ey rfl (y_nil rfl) (ey rfl (y_far fo_44_1 rfl) (da rfl (t_st1' sz_41 rfl rfl (by first | assumption | exact Byt.one ‹_› | exact Sl.one ‹_›) pk rfl ?_))))
     refine dA (le86.trans le91) (d_done (e_then (sr (sa rfl (netr ?_)))))
     have hLL : (bs.take i ++ [halfB b b.lo k, halfB b k b.hi] ++ bs.drop (i + 1)).length = bs.length + 1 := by simp; omega
     refine t_eqn (v := va70) (bs.take i ++ [halfB b b.lo k, halfB b k b.hi] ++ bs.drop (i + 1)).length pk (by rw [hLL]; simp; omega) ?_
     refine t_eqn (v := va101) (bs.take i ++ [halfB b b.lo k, halfB b k b.hi] ++ bs.drop (i + 1)).length pk (by rw [hLL]; simp; omega) ?_
     have hle91 := ((le20.trans le21).trans le22).trans (le86.trans le91)
     have f1 : Flat S91 7 partC (((([] : List Value) ++ nw58) ++ ((shOf (halfB b b.lo k)).cells (.slice E1 (shOf (halfB b b.lo k)).l.length e1) (.slice E2 (shOf (halfB b b.lo k)).p.length e2) (.slice E3 (shOf (halfB b b.lo k)).c.length e3) ++ (shOf (halfB b k b.hi)).cells (.slice G1 (shOf (halfB b k b.hi)).l.length w1) (.slice G2 (shOf (halfB b k b.hi)).p.length w2) (.slice G3 (shOf (halfB b k b.hi)).c.length w3))) ++ nw70) ((bs.take i ++ [halfB b b.lo k, halfB b k b.hi] ++ bs.drop (i + 1)).map shOf) := by
      have g1 := (Flat.nil (S := S91) (size := 7) (C := partC)).app (hf58.mono (partC_mono (le86.trans le91)))
      have g2 := (Flat.one (S := S91) (C := partC) (a := shOf (halfB b b.lo k)) (hp1.mono ((le21.trans le22).trans (le86.trans le91))) rfl).app (Flat.one (S := S91) (C := partC) (a := shOf (halfB b k b.hi)) (hp2.mono ((le21.trans le22).trans (le86.trans le91))) rfl)
      have g3 := (g1.app g2).app (hf70.mono (partC_mono (le86.trans le91)))
      simpa [List.map_append, List.map_take, List.map_drop] using g3
     have f2 : Flat S91 19 bookC (((([] : List Value) ++ nw81) ++ ((halfB b b.lo k).cells (.slice A86 (halfB b b.lo k).l.length a86) ++ (halfB b k b.hi).cells (.slice A91 (halfB b k b.hi).l.length a91))) ++ nw101) (bs.take i ++ [halfB b b.lo k, halfB b k b.hi] ++ bs.drop (i + 1)) := by
      have g1 := (Flat.nil (S := S91) (size := 19) (C := bookC)).app (hf81.mono (bookC_mono (le86.trans le91)))
      have g2 := (Flat.one (S := S91) (C := bookC) (a := halfB b b.lo k) (h86.mono le91) rfl).app (Flat.one (S := S91) (C := bookC) (a := halfB b k b.hi) h91 rfl)
      have g3 := (g1.app g2).app hf101
      simpa using g3
     exact f_retS rfl (rt rfl) ⟨rfl, va70, va101, (((([] : List Value) ++ nw58) ++ ((shOf (halfB b b.lo k)).cells (.slice E1 (shOf (halfB b b.lo k)).l.length e1) (.slice E2 (shOf (halfB b b.lo k)).p.length e2) (.slice E3 (shOf (halfB b b.lo k)).c.length e3) ++ (shOf (halfB b k b.hi)).cells (.slice G1 (shOf (halfB b k b.hi)).l.length w1) (.slice G2 (shOf (halfB b k b.hi)).p.length w2) (.slice G3 (shOf (halfB b k b.hi)).c.length w3))) ++ nw70), (((([] : List Value) ++ nw81) ++ ((halfB b b.lo k).cells (.slice A86 (halfB b b.lo k).l.length a86) ++ (halfB b k b.hi).cells (.slice A91 (halfB b k b.hi).l.length a91))) ++ nw101), rfl, ⟨f1, f2, ho70, ho101⟩⟩
theorem splits_ok {S : Stone} {sb : Nat} {bs : List Bk} {nx : Nat → Nat} {lv bv : Value} {xs ys : List Value} {i k : Nat} {b : Bk} (hF : ShF S bs lv bv xs ys) (hb : bs[i]? = some b) (ho : BkOk b) (hl : b.l.length ≤ 200) (he : b.epoch ≤ 1000000) (hk6 : k < 6) (hn : bs.length ≤ 1000) :
 Con Tryz.prog 13 #[.pointer (some ⟨sb, 0, none⟩), i64 i, .string (ky k)] (ShItems sb lv bv bs.length xs ys nx) S (fun u I' S' => u = .bool true ∧ ShR sb (splB bs i b k) nx I' S') := by
 unfold splB
 by_cases hf : b.frozen = 0
 · rw [if_pos (.inl hf)]; exact splits_live hF hb ho hl he hk6 hn hf
 · by_cases hk : b.lo < k ∧ k < b.hi
   · rw [if_neg (fun h => h.elim hf (fun h => h hk))]; exact splits_yes hF hb ho hl he hk6 hn hf hk
   · rw [if_pos (.inr hk)]; exact splits_out hF hb ho hl he hk6 hn hf hk
end Go.Proofs.YtkdmbimkanjbhaaGreatDoor.Eng

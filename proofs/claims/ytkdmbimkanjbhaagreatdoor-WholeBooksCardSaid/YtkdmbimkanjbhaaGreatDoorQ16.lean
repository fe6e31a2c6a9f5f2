/-
  Part 16 of the proof of WholeBooks: W58.
-/
import Derived.Test.YtkdmbimkanjbhaaGreatDoorQ15
namespace Go.Proofs.YtkdmbimkanjbhaaGreatDoor.Eng
open Go Go.Proofs
set_option maxRecDepth 100000
set_option maxHeartbeats 40000000
attribute [local irreducible] Tr
inductive Take : List Item → List Item → List Item → Prop
 | nil {H : List Item} : Take H [] H
 | cons {H H1 H' I : List Item} {it : Item} (h : Pick H it H1) (t : Take H1 I H') : Take H (it :: I) H'
theorem Take.perm {H I H' : List Item} (h : Take H I H') : H.Perm (I ++ H') := by
 induction h with
 | nil => exact List.Perm.refl _
 | cons hp _ ih => exact hp.perm.trans (List.Perm.cons _ ih)
theorem four {p : Nat} (h : p < 4) : p = 0 ∨ p = 1 ∨ p = 2 ∨ p = 3 := by omega
theorem sb_get {lv bv : Value} {nx : Nat → Nat} {p : Nat} (h : p < 4) : ([lv, bv, u64 (nx 0), u64 (nx 1), u64 (nx 2), u64 (nx 3)] : List Value)[0 + 2 + p * 1]? = some (u64 (nx p)) := by
 rcases four h with rfl | rfl | rfl | rfl <;> rfl
theorem sb_set {lv bv : Value} {nx : Nat → Nat} {p v : Nat} (h : p < 4) : ([lv, bv, u64 (nx 0), u64 (nx 1), u64 (nx 2), u64 (nx 3)] : List Value).set (0 + 2 + p * 1) (u64 v) = [lv, bv, u64 (setF nx p v 0), u64 (setF nx p v 1), u64 (setF nx p v 2), u64 (setF nx p v 3)] := by
 rcases four h with rfl | rfl | rfl | rfl <;> rfl
theorem six_get {k : Nat} (h : k < 6) : [0, 1, 2, 3, 4, 5][k]? = some k := by
 have : ∀ k, k < 6 → [0, 1, 2, 3, 4, 5][k]? = some k := by decide
 exact this k h
theorem fill57 {v1 v2 v3 v6 v9 v7 : Nat} {a b : ByteArray} {p : Option Addr} {n c : Nat} : fillL (fun i => [(0, 1), (1, 1), (2, 1), (3, 1), (4, 1), (5, 1), (6, 1), (7, 1), (8, 1), (9, 1)][i]?) [i64 0, u64 0, u64 0, u64 0, .string { data := { toList := [] } }, .slice none 0 0, u64 0, i64 0, .string { data := { toList := [] } }, u64 0] [(1, u64 v1), (2, u64 v2), (3, u64 v3), (4, .string a), (5, .slice p n c), (8, .string b), (6, u64 v6), (7, i64 v7), (9, u64 v9)] = some [i64 0, u64 v1, u64 v2, u64 v3, .string a, .slice p n c, u64 v6, i64 v7, .string b, u64 v9] := by
 simp [fillL, Value.cells]
theorem u8_wrap (n : Int) : IntKind.u8.wrap n = ((n % 256).toNat : Int) := by
 have : IntKind.u8.wrap n = n % 256 := by unfold IntKind.wrap; rw [show (IntKind.u8.signed) = false from rfl, show IntKind.u8.bits = 8 from rfl]; simp
 rw [this]; omega
theorem d_open {P : Program} {c : Cx} {ops : Array Oper} {Q : Exit → Act → World → Prop} {T : List Nat} {W : World → Prop} {p0 : Plan} {E0 : Env} {H0 : List Item} {S0 : Stone}
 (h : ∀ G : Plan → Env → List Item → Stone → Prop, (∀ {p E H S}, Tr c (planP P ops Q W T p) E H S → G p E H S) → (∀ {p E H S}, G p E H S → Tr c (planP P ops Q W T p) E H S) → Tr c (planP P ops Q W T p0) E0 H0 S0) : Tr c (planP P ops Q W T p0) E0 H0 S0 :=
 h (fun p E H S => Tr c (planP P ops Q W T p) E H S) (fun h => h) (fun h => h)
theorem d_an {c : Cx} {E : Env} {H HT : List Item} {S ST : Stone} {K : Act → World → Prop} {b : Bool} (hS : Stone.le ST S) (h : Tr c K E H S)
 (hm : b = true ∨ ∀ it ∈ HT, it ∈ H := by first | exact .inl (by decide +kernel) | exact .inr (fun _ h => h) | exact .inr (Have.mem (by repeat (first | exact Have.nil | refine Have.cons pk ?_)))) : Tr c (fun a' w' => (b = false → Has HT ST w') ∧ K a' w') E H S :=
 d_and (hm.imp id fun h => ⟨h, hS⟩) h
theorem ofB_lt {bs : List Bk} {k : Nat} (h : 1 ≤ bs.length) : ofB bs k < bs.length := by
 unfold ofB
 split
 · rename_i ha
   obtain ⟨x, hx, hq⟩ := List.any_eq_true.1 ha
   exact List.findIdx_lt_length_of_exists ⟨x, hx, hq⟩
 · omega
theorem frzB_of {bs : List Bk} {i : Nat} {b : Bk} (h : bs[i]? = some b) : frzB bs i = bs.set i (doesB b (fCmd b.epoch 1)).1 := by unfold frzB; rw [h]
theorem spl_of {bs : List Bk} {i k : Nat} {b : Bk} (h : bs[i]? = some b) : spl bs i k = splB bs i b k := by unfold spl; rw [h]
theorem mer_of {bs : List Bk} {i : Nat} {a b : Bk} (h : bs[i]? = some a) (h' : bs[i + 1]? = some b) : mer bs i = merB bs i a b := by unfold mer; rw [h, h']
def Pl5_5_1 : Plan := (.alt 54 .done .stop)
def Pl5_5_2 : Plan := (.alt 53 Pl5_5_1 .stop)
def Pl5_5_3 : Plan := (.alt 49 (takes [50, 51, 52] Pl5_5_1) .stop)
def Pl5_5_4 : Plan := (.alt 49 (takes [50, 51, 52] Pl5_5_2) (.alt 53 Pl5_5_3 .stop))
def Pl5_5_5 : Plan := (.alt 44 (takes [45] Pl5_5_3) .stop)
def Pl5_5_6 : Plan := (.alt 44 (takes [45] Pl5_5_4) (.alt 53 Pl5_5_5 .stop))
def Pl5_5_7 : Plan := (.alt 39 (takes [40] Pl5_5_5) .stop)
def Pl5_5_8 : Plan := (.alt 39 (takes [40] Pl5_5_6) (.alt 53 Pl5_5_7 .stop))
def Pl5_5_9 : Plan := (.alt 35 (takes [52] Pl5_5_1) .stop)
def Pl5_5_10 : Plan := (.alt 35 (takes [52] Pl5_5_2) (.alt 53 Pl5_5_9 .stop))
def Pl5_5_11 : Plan := (.alt 35 Pl5_5_3 (.alt 49 (takes [50, 51] Pl5_5_9) .stop))
def Pl5_5_12 : Plan := (.alt 35 Pl5_5_4 (.alt 49 (takes [50, 51] Pl5_5_10) (.alt 53 Pl5_5_11 .stop)))
def Pl5_5_13 : Plan := (.alt 35 Pl5_5_5 (.alt 44 (takes [45] Pl5_5_11) .stop))
def Pl5_5_14 : Plan := (.alt 35 Pl5_5_6 (.alt 44 (takes [45] Pl5_5_12) (.alt 53 Pl5_5_13 .stop)))
def Pl5_5_15 : Plan := (.alt 35 Pl5_5_7 (.alt 39 (takes [40] Pl5_5_13) .stop))
def Pl5_5_16 : Plan := (.alt 35 Pl5_5_8 (.alt 39 (takes [40] Pl5_5_14) (.alt 53 Pl5_5_15 .stop)))
def Pl5_5_17 : Plan := (.alt 33 (takes [34] Pl5_5_15) .stop)
def Pl5_5_18 : Plan := (.alt 33 (takes [34] Pl5_5_16) (.alt 53 Pl5_5_17 .stop))
def Pl5_5_19 : Plan := (.alt 29 Pl5_5_17 .stop)
def Pl5_5_20 : Plan := (.alt 29 Pl5_5_18 (.alt 53 Pl5_5_19 .stop))
def Pl5_5_21 : Plan := (.alt 28 (takes [52] Pl5_5_1) .stop)
def Pl5_5_22 : Plan := (.alt 28 (takes [52] Pl5_5_2) (.alt 53 Pl5_5_21 .stop))
def Pl5_5_23 : Plan := (.alt 28 Pl5_5_3 (.alt 49 (takes [50, 51] Pl5_5_21) .stop))
def Pl5_5_24 : Plan := (.alt 28 Pl5_5_4 (.alt 49 (takes [50, 51] Pl5_5_22) (.alt 53 Pl5_5_23 .stop)))
def Pl5_5_25 : Plan := (.alt 28 Pl5_5_5 (.alt 44 (takes [45] Pl5_5_23) .stop))
def Pl5_5_26 : Plan := (.alt 28 Pl5_5_6 (.alt 44 (takes [45] Pl5_5_24) (.alt 53 Pl5_5_25 .stop)))
def Pl5_5_27 : Plan := (.alt 28 Pl5_5_7 (.alt 39 (takes [40] Pl5_5_25) .stop))
def Pl5_5_28 : Plan := (.alt 28 Pl5_5_8 (.alt 39 (takes [40] Pl5_5_26) (.alt 53 Pl5_5_27 .stop)))
def Pl5_5_29 : Plan := (.alt 28 Pl5_5_9 (.alt 35 Pl5_5_21 .stop))
def Pl5_5_30 : Plan := (.alt 28 Pl5_5_10 (.alt 35 Pl5_5_22 (.alt 53 Pl5_5_29 .stop)))
def Pl5_5_31 : Plan := (.alt 28 Pl5_5_11 (.alt 35 Pl5_5_23 (.alt 49 (takes [50, 51] Pl5_5_29) .stop)))
def Pl5_5_32 : Plan := (.alt 28 Pl5_5_12 (.alt 35 Pl5_5_24 (.alt 49 (takes [50, 51] Pl5_5_30) (.alt 53 Pl5_5_31 .stop))))
def Pl5_5_33 : Plan := (.alt 28 Pl5_5_13 (.alt 35 Pl5_5_25 (.alt 44 (takes [45] Pl5_5_31) .stop)))
def Pl5_5_34 : Plan := (.alt 28 Pl5_5_14 (.alt 35 Pl5_5_26 (.alt 44 (takes [45] Pl5_5_32) (.alt 53 Pl5_5_33 .stop))))
def Pl5_5_35 : Plan := (.alt 28 Pl5_5_15 (.alt 35 Pl5_5_27 (.alt 39 (takes [40] Pl5_5_33) .stop)))
def Pl5_5_36 : Plan := (.alt 28 Pl5_5_16 (.alt 35 Pl5_5_28 (.alt 39 (takes [40] Pl5_5_34) (.alt 53 Pl5_5_35 .stop))))
def Pl5_5_37 : Plan := (.alt 28 Pl5_5_17 (.alt 33 (takes [34] Pl5_5_35) .stop))
def Pl5_5_38 : Plan := (.alt 28 Pl5_5_18 (.alt 33 (takes [34] Pl5_5_36) (.alt 53 Pl5_5_37 .stop)))
def Pl5_5_39 : Plan := (.alt 28 Pl5_5_19 (.alt 29 Pl5_5_37 .stop))
def Pl5_5_40 : Plan := (.alt 28 Pl5_5_20 (.alt 29 Pl5_5_38 (.alt 53 Pl5_5_39 .stop)))
def Pl5_5_41 : Plan := (.alt 21 (takes [22, 23] Pl5_5_19) .stop)
def Pl5_5_42 : Plan := (.alt 21 (takes [22, 23] Pl5_5_20) (.alt 53 Pl5_5_41 .stop))
def Pl5_5_43 : Plan := (.alt 21 (takes [22, 23] Pl5_5_39) (.alt 28 Pl5_5_41 .stop))
def Pl5_5_44 : Plan := (.alt 21 (takes [22, 23] Pl5_5_40) (.alt 28 Pl5_5_42 (.alt 53 Pl5_5_43 .stop)))
theorem enters_ok {S : Stone} {sb m : Nat} {bs : List Bk} {nx : Nat → Nat} {lv bv : Value} {xs ys : List Value} {e : Ent} (hg : Gl S) (hF : ShF S bs lv bv xs ys) (hinv : ShInv bs nx m) (hm : m ≤ 61) (he : e.ok) :
 Con Tryz.prog 5 #[.pointer (some ⟨sb, 0, none⟩), .agg e.cells.toArray] (ShItems sb lv bv bs.length xs ys nx) S (fun u I' S' => u = .bool true ∧ ShR sb (stB bs nx e) (eNx nx e) I' S') := by
 obtain ⟨⟨eW1, eW2⟩, ⟨eP1, eP2⟩, ⟨eK1, eK2⟩, ⟨eN1, eN2⟩, ⟨eM1, eM2⟩⟩ := he
 have hpos := hinv.pos
 have hsix := hinv.six
 have hi0 : pickN e.P bs.length < bs.length := pickN_lt hpos
 have hkey : eK e < 6 := pickN_lt (by decide)
 have hw17 : eW e < 17 := pickN_lt (by decide)
 have hweq : eW e = pickN e.W 17 := rfl
 have hp3 : pickN e.P 3 < 3 := pickN_lt (by decide)
 have hpe : eP e = 1 + pickN e.P 3 := rfl
 have hp4 : eP e < 4 := by omega
 have hn12 : pickN e.N 12 < 12 := pickN_lt (by decide)
 have hm9 : pickN e.M 9 < 9 := pickN_lt (by decide)
 have hk2 : pickN e.K 2 < 2 := pickN_lt (by decide)
 have hn2 : pickN e.N 2 < 2 := pickN_lt (by decide)
 have hnxm := hinv.nx (eP e)
 have hsq : pickN e.M (nx (eP e) + 1) < nx (eP e) + 1 := pickN_lt om
 have hseqL : 1 ≤ eSeq nx e ∧ eSeq nx e ≤ m + 1 := by unfold eSeq; split <;> omega
 have hseqOk : 1 ≤ eSeq nx e ∧ eSeq nx e ≤ 9223372036854775807 := by omega
 have hnameOk : pickN e.K 2 < 2 := hk2
 obtain ⟨b0, hb0⟩ : ∃ b, bs[pickN e.P bs.length]? = some b := ⟨_, List.getElem?_eq_getElem hi0⟩
 have hb0ok := hinv.ok b0 (List.mem_of_getElem? hb0)
 have hb0ep := hinv.ep b0 (List.mem_of_getElem? hb0)
 obtain ⟨AB, aB, hbook, hbx⟩ := hF.book hb0
 refine con_of 227 Tryz.func5 rfl rfl rfl (fun w0 => ?_)
 refine sr (t_form (v := bv) (Pick.tl (Pick.tl Pick.hd)) (fun _ hn => absurd hn om) (fun gB cb hv hb1 hb2 hb3 => ?_))
 subst hv
 refine t_form (v := lv) (Pick.tl Pick.hd) (fun _ hn => absurd hn om) (fun gL cl hv hl1 hl2 hl3 => ?_)
 subst hv
 refine bx rfl rfl (fun b3 => sa rfl (nesr (sa rfl (nes (dR ([.blk b3 (.cells e.cells.toArray 46 (0, 0))]) [3] (.take 1 (.take 2 (.take 3 (.alt 0 (.alt 4 (.take 5 (.alt 6 (.take 7 .done) .stop)) .stop) .stop)))) ?_)))))
 refine em rfl rfl (ey rfl (y_far fo_46_2 rfl) (dl rfl (lb ld_3) ?_))
 refine da rfl (t_callR rfl (keys_ok) en_9 ?_)
 rintro v14 S14 le14 h14
 obtain ⟨A14, cap14, rfl, -, -, h14'⟩ := h14
 obtain ⟨p14, cs14, rfl, rfl, -, hcell14⟩ := h14' (eK e) (eK e) (six_get hkey)
 have hc14 := hcell14 0 _ rfl
 rw [show (p14.add (eK e * 1)).add 0 = p14.add (eK e * 1) by simp [Addr.add]] at hc14
 have hF := hF.mono le14
 have hg := Stone.le.cell le14 hg
 refine dA le14 (da rfl (t_callvr' rfl rfl (pick_ok (m := 6) eK1 eK2 (by decide)) en_8 ?_))
 refine dA le14 (ey rfl (y_iaN (i := eK e) sl_52 rfl rfl hkey) (da rfl (t_ld (ld_st ld_9 rfl hc14) rfl (lt_n rfl) ?_)))
 refine dA le14 (ea rfl rfl (d_done (e_then (c_seq (dRa [2, 6] (.take 0 (.take 1 (.take 2 (.take 3 (.take 4 (.take 5 (.take 6 (.take 7 (.alt 8 (.take 9 .done) .stop))))))))) ?_)))))
 refine em rfl rfl (ey rfl (y_far fo_46_1 rfl) (dl rfl (lb ld_3) ?_))
 refine em rfl rfl (ey rfl (y_nil rfl) (ey rfl (y_far fo_44_0 rfl) (dl rfl (lb ld_35) ?_)))
 refine ey rfl (y_ln sl_35 rfl) (da rfl (t_callvr' rfl rfl (pick_ok (m := bs.length) eP1 eP2 hpos) en_8 ?_))
 refine dA (Stone.le.refl _) (ea rfl rfl (d_done (e_then (sr (mv rfl (yy (y_far fo_46_1 rfl) (ll (lb ld_3) ?_)))))))
 refine lw (t_callvr' rfl rfl (pick_ok (m := 3) eP1 eP2 (by decide)) en_8 ?_)
 refine yy (y_addN (n := 1) (m := pickN e.P 3) rfl rfl om) (sa rfl (nes (c_cutx (τ := Nat × Nat × Stone) (fun z => [(0, .pointer (some ⟨sb, 0, none⟩)), (3, .pointer (some ⟨b3, 0, none⟩)), (5, .func (.func 8) #[] #[]), (6, .string (ky (eK e))), (7, i64 (pickN e.P bs.length)), (8, i64 (eP e)), (9, .pointer (some ⟨z.1, 0, none⟩))]) (fun z => [.blk sb (.cells [.slice (some ⟨gL, 0, none⟩) bs.length cl, .slice (some ⟨gB, 0, none⟩) bs.length cb, u64 (nx 0), u64 (nx 1), u64 (nx 2), u64 (nx 3)].toArray 44 (0, 0)), .row (.slice (some ⟨gL, 0, none⟩) bs.length cl) 30 7 bs.length xs, .row (.slice (some ⟨gB, 0, none⟩) bs.length cb) 40 19 bs.length ys, .blk z.1 (.cells ((eCmd0 nx e 0 b0.epoch).cells (.slice (some ⟨z.2.1, 0, none⟩) 1 1)).toArray 57 (0, 0)), .blk b3 (.cells e.cells.toArray 46 (0, 0))]) (fun z => z.2.2) (fun z => Stone.le S14 z.2.2 ∧ Byt z.2.2 (.slice (some ⟨z.2.1, 0, none⟩) 1 1) (eVal e)) (fun K hK => ?_) (fun z hz => ?_))))
 refine d_region ([.blk b3 (.cells e.cells.toArray 46 (0, 0)), .blk sb (.cells [.slice (some ⟨gL, 0, none⟩) bs.length cl, .slice (some ⟨gB, 0, none⟩) bs.length cb, u64 (nx 0), u64 (nx 1), u64 (nx 2), u64 (nx 3)].toArray 44 (0, 0)), .row (.slice (some ⟨gB, 0, none⟩) bs.length cb) 40 19 bs.length ys]) [3, 7, 12, 18, 26, 32, 38, 43, 48] (takes [0, 1, 2, 3, 4, 5, 6, 7, 8, 9, 10, 11, 12, 13, 14, 15, 16, 17, 18, 19, 20, 24, 25, 26, 27, 30, 31, 32, 36, 37, 38, 41, 42, 43, 46, 47, 48] Pl5_5_44) mixed ?_ (fun _ _ _ _ hpp => by obtain ⟨_, _, _, _, hpp, _⟩ := hpp; cases hpp) ?_
 · refine chk_all kr (chk_open fun C cI cO => ?_) kr
   have cPl5_5_1 : C Pl5_5_1 (bm 55 18014398509481983) := cI (chk_alt kr (chk_to (D' := (bm 55 36028797018963967)) kr kr) chk_stop)
   have cPl5_5_2 : C Pl5_5_2 (bm 55 9007199254740991) := cI (chk_alt kr (chk_to (D' := (bm 55 18014398509481983)) kr (cO cPl5_5_1)) chk_stop)
   have cPl5_5_3 : C Pl5_5_3 (bm 55 9570149208162303) := cI (chk_alt kr (chk_takes (D' := (bm 55 18014398509481983)) [50, 51, 52] (by simp) kr kr (cO cPl5_5_1)) chk_stop)
   have cPl5_5_4 : C Pl5_5_4 (bm 55 562949953421311) := cI (chk_alt kr (chk_takes (D' := (bm 55 9007199254740991)) [50, 51, 52] (by simp) kr kr (cO cPl5_5_2)) (chk_alt kr (chk_to (D' := (bm 55 9570149208162303)) kr (cO cPl5_5_3)) chk_stop))
   have cPl5_5_5 : C Pl5_5_5 (bm 55 9517372650029055) := cI (chk_alt kr (chk_takes (D' := (bm 55 9570149208162303)) [45] (by simp) kr kr (cO cPl5_5_3)) chk_stop)
   have cPl5_5_6 : C Pl5_5_6 (bm 55 510173395288063) := cI (chk_alt kr (chk_takes (D' := (bm 55 562949953421311)) [45] (by simp) kr kr (cO cPl5_5_4)) (chk_alt kr (chk_to (D' := (bm 55 9517372650029055)) kr (cO cPl5_5_5)) chk_stop))
   have cPl5_5_7 : C Pl5_5_7 (bm 55 9515723382587391) := cI (chk_alt kr (chk_takes (D' := (bm 55 9517372650029055)) [40] (by simp) kr kr (cO cPl5_5_5)) chk_stop)
   have cPl5_5_8 : C Pl5_5_8 (bm 55 508524127846399) := cI (chk_alt kr (chk_takes (D' := (bm 55 510173395288063)) [40] (by simp) kr kr (cO cPl5_5_6)) (chk_alt kr (chk_to (D' := (bm 55 9515723382587391)) kr (cO cPl5_5_7)) chk_stop))
   have cPl5_5_9 : C Pl5_5_9 (bm 55 13510764522373119) := cI (chk_alt kr (chk_takes (D' := (bm 55 18014398509481983)) [52] (by simp) kr kr (cO cPl5_5_1)) chk_stop)
   have cPl5_5_10 : C Pl5_5_10 (bm 55 4503565267632127) := cI (chk_alt kr (chk_takes (D' := (bm 55 9007199254740991)) [52] (by simp) kr kr (cO cPl5_5_2)) (chk_alt kr (chk_to (D' := (bm 55 13510764522373119)) kr (cO cPl5_5_9)) chk_stop))
   have cPl5_5_11 : C Pl5_5_11 (bm 55 9570114848423935) := cI (chk_alt kr (chk_to (D' := (bm 55 9570149208162303)) kr (cO cPl5_5_3)) (chk_alt kr (chk_takes (D' := (bm 55 13510764522373119)) [50, 51] (by simp) kr kr (cO cPl5_5_9)) chk_stop))
   have cPl5_5_12 : C Pl5_5_12 (bm 55 562915593682943) := cI (chk_alt kr (chk_to (D' := (bm 55 562949953421311)) kr (cO cPl5_5_4)) (chk_alt kr (chk_takes (D' := (bm 55 4503565267632127)) [50, 51] (by simp) kr kr (cO cPl5_5_10)) (chk_alt kr (chk_to (D' := (bm 55 9570114848423935)) kr (cO cPl5_5_11)) chk_stop)))
   have cPl5_5_13 : C Pl5_5_13 (bm 55 9517338290290687) := cI (chk_alt kr (chk_to (D' := (bm 55 9517372650029055)) kr (cO cPl5_5_5)) (chk_alt kr (chk_takes (D' := (bm 55 9570114848423935)) [45] (by simp) kr kr (cO cPl5_5_11)) chk_stop))
   have cPl5_5_14 : C Pl5_5_14 (bm 55 510139035549695) := cI (chk_alt kr (chk_to (D' := (bm 55 510173395288063)) kr (cO cPl5_5_6)) (chk_alt kr (chk_takes (D' := (bm 55 562915593682943)) [45] (by simp) kr kr (cO cPl5_5_12)) (chk_alt kr (chk_to (D' := (bm 55 9517338290290687)) kr (cO cPl5_5_13)) chk_stop)))
   have cPl5_5_15 : C Pl5_5_15 (bm 55 9515689022849023) := cI (chk_alt kr (chk_to (D' := (bm 55 9515723382587391)) kr (cO cPl5_5_7)) (chk_alt kr (chk_takes (D' := (bm 55 9517338290290687)) [40] (by simp) kr kr (cO cPl5_5_13)) chk_stop))
   have cPl5_5_16 : C Pl5_5_16 (bm 55 508489768108031) := cI (chk_alt kr (chk_to (D' := (bm 55 508524127846399)) kr (cO cPl5_5_8)) (chk_alt kr (chk_takes (D' := (bm 55 510139035549695)) [40] (by simp) kr kr (cO cPl5_5_14)) (chk_alt kr (chk_to (D' := (bm 55 9515689022849023)) kr (cO cPl5_5_15)) chk_stop)))
   have cPl5_5_17 : C Pl5_5_17 (bm 55 9515663253045247) := cI (chk_alt kr (chk_takes (D' := (bm 55 9515689022849023)) [34] (by simp) kr kr (cO cPl5_5_15)) chk_stop)
   have cPl5_5_18 : C Pl5_5_18 (bm 55 508463998304255) := cI (chk_alt kr (chk_takes (D' := (bm 55 508489768108031)) [34] (by simp) kr kr (cO cPl5_5_16)) (chk_alt kr (chk_to (D' := (bm 55 9515663253045247)) kr (cO cPl5_5_17)) chk_stop))
   have cPl5_5_19 : C Pl5_5_19 (bm 55 9515662716174335) := cI (chk_alt kr (chk_to (D' := (bm 55 9515663253045247)) kr (cO cPl5_5_17)) chk_stop)
   have cPl5_5_20 : C Pl5_5_20 (bm 55 508463461433343) := cI (chk_alt kr (chk_to (D' := (bm 55 508463998304255)) kr (cO cPl5_5_18)) (chk_alt kr (chk_to (D' := (bm 55 9515662716174335)) kr (cO cPl5_5_19)) chk_stop))
   have cPl5_5_21 : C Pl5_5_21 (bm 55 13510798613676031) := cI (chk_alt kr (chk_takes (D' := (bm 55 18014398509481983)) [52] (by simp) kr kr (cO cPl5_5_1)) chk_stop)
   have cPl5_5_22 : C Pl5_5_22 (bm 55 4503599358935039) := cI (chk_alt kr (chk_takes (D' := (bm 55 9007199254740991)) [52] (by simp) kr kr (cO cPl5_5_2)) (chk_alt kr (chk_to (D' := (bm 55 13510798613676031)) kr (cO cPl5_5_21)) chk_stop))
   have cPl5_5_23 : C Pl5_5_23 (bm 55 9570148939726847) := cI (chk_alt kr (chk_to (D' := (bm 55 9570149208162303)) kr (cO cPl5_5_3)) (chk_alt kr (chk_takes (D' := (bm 55 13510798613676031)) [50, 51] (by simp) kr kr (cO cPl5_5_21)) chk_stop))
   have cPl5_5_24 : C Pl5_5_24 (bm 55 562949684985855) := cI (chk_alt kr (chk_to (D' := (bm 55 562949953421311)) kr (cO cPl5_5_4)) (chk_alt kr (chk_takes (D' := (bm 55 4503599358935039)) [50, 51] (by simp) kr kr (cO cPl5_5_22)) (chk_alt kr (chk_to (D' := (bm 55 9570148939726847)) kr (cO cPl5_5_23)) chk_stop)))
   have cPl5_5_25 : C Pl5_5_25 (bm 55 9517372381593599) := cI (chk_alt kr (chk_to (D' := (bm 55 9517372650029055)) kr (cO cPl5_5_5)) (chk_alt kr (chk_takes (D' := (bm 55 9570148939726847)) [45] (by simp) kr kr (cO cPl5_5_23)) chk_stop))
   have cPl5_5_26 : C Pl5_5_26 (bm 55 510173126852607) := cI (chk_alt kr (chk_to (D' := (bm 55 510173395288063)) kr (cO cPl5_5_6)) (chk_alt kr (chk_takes (D' := (bm 55 562949684985855)) [45] (by simp) kr kr (cO cPl5_5_24)) (chk_alt kr (chk_to (D' := (bm 55 9517372381593599)) kr (cO cPl5_5_25)) chk_stop)))
   have cPl5_5_27 : C Pl5_5_27 (bm 55 9515723114151935) := cI (chk_alt kr (chk_to (D' := (bm 55 9515723382587391)) kr (cO cPl5_5_7)) (chk_alt kr (chk_takes (D' := (bm 55 9517372381593599)) [40] (by simp) kr kr (cO cPl5_5_25)) chk_stop))
   have cPl5_5_28 : C Pl5_5_28 (bm 55 508523859410943) := cI (chk_alt kr (chk_to (D' := (bm 55 508524127846399)) kr (cO cPl5_5_8)) (chk_alt kr (chk_takes (D' := (bm 55 510173126852607)) [40] (by simp) kr kr (cO cPl5_5_26)) (chk_alt kr (chk_to (D' := (bm 55 9515723114151935)) kr (cO cPl5_5_27)) chk_stop)))
   have cPl5_5_29 : C Pl5_5_29 (bm 55 13510764253937663) := cI (chk_alt kr (chk_to (D' := (bm 55 13510764522373119)) kr (cO cPl5_5_9)) (chk_alt kr (chk_to (D' := (bm 55 13510798613676031)) kr (cO cPl5_5_21)) chk_stop))
   have cPl5_5_30 : C Pl5_5_30 (bm 55 4503564999196671) := cI (chk_alt kr (chk_to (D' := (bm 55 4503565267632127)) kr (cO cPl5_5_10)) (chk_alt kr (chk_to (D' := (bm 55 4503599358935039)) kr (cO cPl5_5_22)) (chk_alt kr (chk_to (D' := (bm 55 13510764253937663)) kr (cO cPl5_5_29)) chk_stop)))
   have cPl5_5_31 : C Pl5_5_31 (bm 55 9570114579988479) := cI (chk_alt kr (chk_to (D' := (bm 55 9570114848423935)) kr (cO cPl5_5_11)) (chk_alt kr (chk_to (D' := (bm 55 9570148939726847)) kr (cO cPl5_5_23)) (chk_alt kr (chk_takes (D' := (bm 55 13510764253937663)) [50, 51] (by simp) kr kr (cO cPl5_5_29)) chk_stop)))
   have cPl5_5_32 : C Pl5_5_32 (bm 55 562915325247487) := cI (chk_alt kr (chk_to (D' := (bm 55 562915593682943)) kr (cO cPl5_5_12)) (chk_alt kr (chk_to (D' := (bm 55 562949684985855)) kr (cO cPl5_5_24)) (chk_alt kr (chk_takes (D' := (bm 55 4503564999196671)) [50, 51] (by simp) kr kr (cO cPl5_5_30)) (chk_alt kr (chk_to (D' := (bm 55 9570114579988479)) kr (cO cPl5_5_31)) chk_stop))))
   have cPl5_5_33 : C Pl5_5_33 (bm 55 9517338021855231) := cI (chk_alt kr (chk_to (D' := (bm 55 9517338290290687)) kr (cO cPl5_5_13)) (chk_alt kr (chk_to (D' := (bm 55 9517372381593599)) kr (cO cPl5_5_25)) (chk_alt kr (chk_takes (D' := (bm 55 9570114579988479)) [45] (by simp) kr kr (cO cPl5_5_31)) chk_stop)))
   have cPl5_5_34 : C Pl5_5_34 (bm 55 510138767114239) := cI (chk_alt kr (chk_to (D' := (bm 55 510139035549695)) kr (cO cPl5_5_14)) (chk_alt kr (chk_to (D' := (bm 55 510173126852607)) kr (cO cPl5_5_26)) (chk_alt kr (chk_takes (D' := (bm 55 562915325247487)) [45] (by simp) kr kr (cO cPl5_5_32)) (chk_alt kr (chk_to (D' := (bm 55 9517338021855231)) kr (cO cPl5_5_33)) chk_stop))))
   have cPl5_5_35 : C Pl5_5_35 (bm 55 9515688754413567) := cI (chk_alt kr (chk_to (D' := (bm 55 9515689022849023)) kr (cO cPl5_5_15)) (chk_alt kr (chk_to (D' := (bm 55 9515723114151935)) kr (cO cPl5_5_27)) (chk_alt kr (chk_takes (D' := (bm 55 9517338021855231)) [40] (by simp) kr kr (cO cPl5_5_33)) chk_stop)))
   have cPl5_5_36 : C Pl5_5_36 (bm 55 508489499672575) := cI (chk_alt kr (chk_to (D' := (bm 55 508489768108031)) kr (cO cPl5_5_16)) (chk_alt kr (chk_to (D' := (bm 55 508523859410943)) kr (cO cPl5_5_28)) (chk_alt kr (chk_takes (D' := (bm 55 510138767114239)) [40] (by simp) kr kr (cO cPl5_5_34)) (chk_alt kr (chk_to (D' := (bm 55 9515688754413567)) kr (cO cPl5_5_35)) chk_stop))))
   have cPl5_5_37 : C Pl5_5_37 (bm 55 9515662984609791) := cI (chk_alt kr (chk_to (D' := (bm 55 9515663253045247)) kr (cO cPl5_5_17)) (chk_alt kr (chk_takes (D' := (bm 55 9515688754413567)) [34] (by simp) kr kr (cO cPl5_5_35)) chk_stop))
   have cPl5_5_38 : C Pl5_5_38 (bm 55 508463729868799) := cI (chk_alt kr (chk_to (D' := (bm 55 508463998304255)) kr (cO cPl5_5_18)) (chk_alt kr (chk_takes (D' := (bm 55 508489499672575)) [34] (by simp) kr kr (cO cPl5_5_36)) (chk_alt kr (chk_to (D' := (bm 55 9515662984609791)) kr (cO cPl5_5_37)) chk_stop)))
   have cPl5_5_39 : C Pl5_5_39 (bm 55 9515662447738879) := cI (chk_alt kr (chk_to (D' := (bm 55 9515662716174335)) kr (cO cPl5_5_19)) (chk_alt kr (chk_to (D' := (bm 55 9515662984609791)) kr (cO cPl5_5_37)) chk_stop))
   have cPl5_5_40 : C Pl5_5_40 (bm 55 508463192997887) := cI (chk_alt kr (chk_to (D' := (bm 55 508463461433343)) kr (cO cPl5_5_20)) (chk_alt kr (chk_to (D' := (bm 55 508463729868799)) kr (cO cPl5_5_38)) (chk_alt kr (chk_to (D' := (bm 55 9515662447738879)) kr (cO cPl5_5_39)) chk_stop)))
   have cPl5_5_41 : C Pl5_5_41 (bm 55 9515662701494271) := cI (chk_alt kr (chk_takes (D' := (bm 55 9515662716174335)) [22, 23] (by simp) kr kr (cO cPl5_5_19)) chk_stop)
   have cPl5_5_42 : C Pl5_5_42 (bm 55 508463446753279) := cI (chk_alt kr (chk_takes (D' := (bm 55 508463461433343)) [22, 23] (by simp) kr kr (cO cPl5_5_20)) (chk_alt kr (chk_to (D' := (bm 55 9515662701494271)) kr (cO cPl5_5_41)) chk_stop))
   have cPl5_5_43 : C Pl5_5_43 (bm 55 9515662433058815) := cI (chk_alt kr (chk_takes (D' := (bm 55 9515662447738879)) [22, 23] (by simp) kr kr (cO cPl5_5_39)) (chk_alt kr (chk_to (D' := (bm 55 9515662701494271)) kr (cO cPl5_5_41)) chk_stop))
   have cPl5_5_44 : C Pl5_5_44 (bm 55 508463178317823) := cI (chk_alt kr (chk_takes (D' := (bm 55 508463192997887)) [22, 23] (by simp) kr kr (cO cPl5_5_40)) (chk_alt kr (chk_to (D' := (bm 55 508463446753279)) kr (cO cPl5_5_42)) (chk_alt kr (chk_to (D' := (bm 55 9515662433058815)) kr (cO cPl5_5_43)) chk_stop)))
   exact (chk_takes (D' := (bm 55 508463178317823)) [0, 1, 2, 3, 4, 5, 6, 7, 8, 9, 10, 11, 12, 13, 14, 15, 16, 17, 18, 19, 20, 24, 25, 26, 27, 30, 31, 32, 36, 37, 38, 41, 42, 43, 46, 47, 48] (by simp) kr kr (cO cPl5_5_44))
 refine em rfl rfl ?_
 refine ey rfl (y_nil rfl) ?_
 refine ey rfl (y_far fo_44_1 rfl) (dl rfl (lb ld_41) ?_)
 refine em rfl rfl (ey rfl (y_iaNr sl_41 rfl rfl hi0) (ey rfl (y_far fo_40_2 rfl) (dl rfl (ld_row ld_25 rfl pk (hbx 2 _ rfl)) ?_)))
 refine em rfl rfl (ey rfl (y_cvu cv_3_25 rfl om) (em rfl rfl (ey rfl (y_far fo_46_4 rfl) (dl rfl (lb ld_3) ?_))))
 refine em rfl rfl (em rfl rfl (ey rfl (y_nil rfl) (ey rfl (y_far fo_44_2 rfl) (ey rfl (y_iaaN ar_42 rfl rfl ao) (dl rfl (lb ld_25 (hc := sb_get hp4)) ?_)))))
 refine ey rfl (y_cvi cv_25_3 rfl om) (ey rfl (y_addN (n := nx (eP e)) (m := 1) rfl rfl om) (em rfl rfl (ey rfl (y_far fo_46_3 rfl) (dl rfl (lb ld_3) ?_))))
 refine ey rfl (y_conv (r := ((eVal e : Nat) : Int)) cv_3_5 rfl (u8_wrap e.N)) (em rfl rfl (ey rfl (y_far fo_46_2 rfl) (dl rfl (lb ld_3) ?_)))
 refine em rfl rfl (ey rfl (y_far fo_46_3 rfl) (dl rfl (lb ld_3) ?_))
 refine em rfl rfl (ey rfl (y_far fo_46_4 rfl) (dl rfl (lb ld_3) ?_))
 refine em rfl rfl (ey rfl (y_far fo_46_3 rfl) (dl rfl (lb ld_3) ?_))
 refine d_open (fun G gI gO => ?_)
 have st5_5_1 : ∀ (SS : Stone) (hle : Stone.le S14 SS) (b63 : Nat) (hby : Byt SS (.slice (some ⟨b63, 0, none⟩) 1 1) (eVal e)) (p64 : Addr) (cap64 : Nat) (hc64 : SS.cell (p64.add (pickN e.K 2 * 1)) = some (.string (nm (pickN e.K 2)))) (b9 : Nat), G Pl5_5_1 [(0, .pointer (some ⟨sb, 0, none⟩)), (3, .pointer (some ⟨b3, 0, none⟩)), (5, .func (.func 8) #[] #[]), (6, .string (ky (eK e))), (7, i64 (pickN e.P bs.length)), (8, i64 (eP e)), (9, .pointer (some ⟨b9, 0, none⟩)), (87, .agg ((eCmd0 nx e 0 b0.epoch).cells (.slice (some ⟨b63, 0, none⟩) 1 1)).toArray)] [.blk b9 (.cells ([i64 0, u64 0, u64 0, u64 0, .string { data := { toList := [] } }, .slice none 0 0, u64 0, i64 0, .string { data := { toList := [] } }, u64 0]).toArray 57 (0, 0)), .blk b3 (.cells e.cells.toArray 46 (0, 0)), .blk sb (.cells [.slice (some ⟨gL, 0, none⟩) bs.length cl, .slice (some ⟨gB, 0, none⟩) bs.length cb, u64 (nx 0), u64 (nx 1), u64 (nx 2), u64 (nx 3)].toArray 44 (0, 0)), .row (.slice (some ⟨gL, 0, none⟩) bs.length cl) 30 7 bs.length xs, .row (.slice (some ⟨gB, 0, none⟩) bs.length cb) 40 19 bs.length ys] SS := by
  intro SS hle b63 hby p64 cap64 hc64 b9
  refine gI ?_
  refine da rfl (sw sz_57 ?_)
  exact d_an hle (d_done (e_then (t_to (hK (b9, b63, SS) ⟨hle, hby⟩))))
 have st5_5_2 : ∀ (SS : Stone) (hle : Stone.le S14 SS) (b63 : Nat) (hby : Byt SS (.slice (some ⟨b63, 0, none⟩) 1 1) (eVal e)) (p64 : Addr) (cap64 : Nat) (hc64 : SS.cell (p64.add (pickN e.K 2 * 1)) = some (.string (nm (pickN e.K 2)))), G Pl5_5_2 [(0, .pointer (some ⟨sb, 0, none⟩)), (3, .pointer (some ⟨b3, 0, none⟩)), (5, .func (.func 8) #[] #[]), (6, .string (ky (eK e))), (7, i64 (pickN e.P bs.length)), (8, i64 (eP e)), (87, .agg ((eCmd0 nx e 0 b0.epoch).cells (.slice (some ⟨b63, 0, none⟩) 1 1)).toArray)] [.blk b3 (.cells e.cells.toArray 46 (0, 0)), .blk sb (.cells [.slice (some ⟨gL, 0, none⟩) bs.length cl, .slice (some ⟨gB, 0, none⟩) bs.length cb, u64 (nx 0), u64 (nx 1), u64 (nx 2), u64 (nx 3)].toArray 44 (0, 0)), .row (.slice (some ⟨gL, 0, none⟩) bs.length cl) 30 7 bs.length xs, .row (.slice (some ⟨gB, 0, none⟩) bs.length cb) 40 19 bs.length ys] SS := by
  intro SS hle b63 hby p64 cap64 hc64
  refine gI ?_
  exact da rfl (tal zc_57 (fun b9 => d_an hle (t_to (gO (st5_5_1 _ hle b63 hby p64 cap64 hc64 b9)))))
 have st5_5_3 : ∀ (SS : Stone) (hle : Stone.le S14 SS) (b63 : Nat) (hby : Byt SS (.slice (some ⟨b63, 0, none⟩) 1 1) (eVal e)) (p64 : Addr) (cap64 : Nat) (hc64 : SS.cell (p64.add (pickN e.K 2 * 1)) = some (.string (nm (pickN e.K 2)))) (b9 : Nat), G Pl5_5_3 [(0, .pointer (some ⟨sb, 0, none⟩)), (3, .pointer (some ⟨b3, 0, none⟩)), (5, .func (.func 8) #[] #[]), (6, .string (ky (eK e))), (7, i64 (pickN e.P bs.length)), (8, i64 (eP e)), (9, .pointer (some ⟨b9, 0, none⟩)), (42, u64 b0.epoch), (44, u64 (eP e)), (58, u64 (1 + pickN e.M (nx (eP e) + 1))), (59, .string (ky (eK e))), (63, (.slice (some ⟨b63, 0, none⟩) 1 1)), (70, .string (nm (pickN e.K 2))), (75, u64 (pickN e.N 12)), (80, i64 (1 + pickN e.M 9)), (81, .func (.func 8) #[] #[]), (83, .int .i64 e.N)] [.blk b9 (.cells ([i64 0, u64 0, u64 0, u64 0, .string { data := { toList := [] } }, .slice none 0 0, u64 0, i64 0, .string { data := { toList := [] } }, u64 0]).toArray 57 (0, 0)), .blk b3 (.cells e.cells.toArray 46 (0, 0)), .blk sb (.cells [.slice (some ⟨gL, 0, none⟩) bs.length cl, .slice (some ⟨gB, 0, none⟩) bs.length cb, u64 (nx 0), u64 (nx 1), u64 (nx 2), u64 (nx 3)].toArray 44 (0, 0)), .row (.slice (some ⟨gL, 0, none⟩) bs.length cl) 30 7 bs.length xs, .row (.slice (some ⟨gB, 0, none⟩) bs.length cb) 40 19 bs.length ys] SS := by
  intro SS hle b63 hby p64 cap64 hc64 b9
  refine gI ?_
  refine da rfl (t_callvr' rfl rfl (pick_ok (m := 2) eN1 eN2 (by decide)) en_8 ?_)
  exact d_an hle (ey rfl (y_addN (n := 1) (m := pickN e.N 2) rfl rfl om) (ey rfl (y_cvu cv_3_25 rfl om) (ey rfl (y_build (vs := [(1, u64 b0.epoch), (2, u64 (eP e)), (3, u64 (1 + pickN e.M (nx (eP e) + 1))), (4, .string (ky (eK e))), (5, (.slice (some ⟨b63, 0, none⟩) 1 1)), (8, .string (nm (pickN e.K 2))), (6, u64 (pickN e.N 12)), (7, i64 (1 + pickN e.M 9)), (9, u64 (1 + pickN e.N 2))]) (cs := (eCmd0 nx e 0 b0.epoch).cells (.slice (some ⟨b63, 0, none⟩) 1 1)) pl_57 zc_57 rfl fill57) (t_to (gO (st5_5_1 _ hle b63 hby p64 cap64 hc64 b9))))))
 have st5_5_4 : ∀ (SS : Stone) (hle : Stone.le S14 SS) (b63 : Nat) (hby : Byt SS (.slice (some ⟨b63, 0, none⟩) 1 1) (eVal e)) (p64 : Addr) (cap64 : Nat) (hc64 : SS.cell (p64.add (pickN e.K 2 * 1)) = some (.string (nm (pickN e.K 2)))), G Pl5_5_4 [(0, .pointer (some ⟨sb, 0, none⟩)), (3, .pointer (some ⟨b3, 0, none⟩)), (5, .func (.func 8) #[] #[]), (6, .string (ky (eK e))), (7, i64 (pickN e.P bs.length)), (8, i64 (eP e)), (42, u64 b0.epoch), (44, u64 (eP e)), (58, u64 (1 + pickN e.M (nx (eP e) + 1))), (59, .string (ky (eK e))), (63, (.slice (some ⟨b63, 0, none⟩) 1 1)), (70, .string (nm (pickN e.K 2))), (75, u64 (pickN e.N 12)), (80, i64 (1 + pickN e.M 9)), (81, .func (.func 8) #[] #[]), (83, .int .i64 e.N)] [.blk b3 (.cells e.cells.toArray 46 (0, 0)), .blk sb (.cells [.slice (some ⟨gL, 0, none⟩) bs.length cl, .slice (some ⟨gB, 0, none⟩) bs.length cb, u64 (nx 0), u64 (nx 1), u64 (nx 2), u64 (nx 3)].toArray 44 (0, 0)), .row (.slice (some ⟨gL, 0, none⟩) bs.length cl) 30 7 bs.length xs, .row (.slice (some ⟨gB, 0, none⟩) bs.length cb) 40 19 bs.length ys] SS := by
  intro SS hle b63 hby p64 cap64 hc64
  refine gI ?_
  refine d_alt rfl rfl ?_ ?_
  · refine t_callvr' rfl rfl (pick_ok (m := 2) eN1 eN2 (by decide)) en_8 ?_
    exact d_an hle (ey rfl (y_addN (n := 1) (m := pickN e.N 2) rfl rfl om) (ey rfl (y_cvu cv_3_25 rfl om) (ey rfl (y_build (vs := [(1, u64 b0.epoch), (2, u64 (eP e)), (3, u64 (1 + pickN e.M (nx (eP e) + 1))), (4, .string (ky (eK e))), (5, (.slice (some ⟨b63, 0, none⟩) 1 1)), (8, .string (nm (pickN e.K 2))), (6, u64 (pickN e.N 12)), (7, i64 (1 + pickN e.M 9)), (9, u64 (1 + pickN e.N 2))]) (cs := (eCmd0 nx e 0 b0.epoch).cells (.slice (some ⟨b63, 0, none⟩) 1 1)) pl_57 zc_57 rfl fill57) (t_to (gO (st5_5_2 _ hle b63 hby p64 cap64 hc64))))))
  refine d_alt rfl rfl ?_ d_stop
  exact tal zc_57 (fun b9 => d_an hle (t_to (gO (st5_5_3 _ hle b63 hby p64 cap64 hc64 b9))))
 have st5_5_5 : ∀ (SS : Stone) (hle : Stone.le S14 SS) (b63 : Nat) (hby : Byt SS (.slice (some ⟨b63, 0, none⟩) 1 1) (eVal e)) (p64 : Addr) (cap64 : Nat) (hc64 : SS.cell (p64.add (pickN e.K 2 * 1)) = some (.string (nm (pickN e.K 2)))) (b9 : Nat), G Pl5_5_5 [(0, .pointer (some ⟨sb, 0, none⟩)), (3, .pointer (some ⟨b3, 0, none⟩)), (5, .func (.func 8) #[] #[]), (6, .string (ky (eK e))), (7, i64 (pickN e.P bs.length)), (8, i64 (eP e)), (9, .pointer (some ⟨b9, 0, none⟩)), (42, u64 b0.epoch), (44, u64 (eP e)), (58, u64 (1 + pickN e.M (nx (eP e) + 1))), (59, .string (ky (eK e))), (63, (.slice (some ⟨b63, 0, none⟩) 1 1)), (70, .string (nm (pickN e.K 2))), (75, u64 (pickN e.N 12)), (76, .func (.func 8) #[] #[]), (78, .int .i64 e.M), (81, .func (.func 8) #[] #[]), (83, .int .i64 e.N)] [.blk b9 (.cells ([i64 0, u64 0, u64 0, u64 0, .string { data := { toList := [] } }, .slice none 0 0, u64 0, i64 0, .string { data := { toList := [] } }, u64 0]).toArray 57 (0, 0)), .blk b3 (.cells e.cells.toArray 46 (0, 0)), .blk sb (.cells [.slice (some ⟨gL, 0, none⟩) bs.length cl, .slice (some ⟨gB, 0, none⟩) bs.length cb, u64 (nx 0), u64 (nx 1), u64 (nx 2), u64 (nx 3)].toArray 44 (0, 0)), .row (.slice (some ⟨gL, 0, none⟩) bs.length cl) 30 7 bs.length xs, .row (.slice (some ⟨gB, 0, none⟩) bs.length cb) 40 19 bs.length ys] SS := by
  intro SS hle b63 hby p64 cap64 hc64 b9
  refine gI ?_
  refine da rfl (t_callvr' rfl rfl (pick_ok (m := 9) eM1 eM2 (by decide)) en_8 ?_)
  exact d_an hle (ey rfl (y_addN (n := 1) (m := pickN e.M 9) rfl rfl om) (t_to (gO (st5_5_3 _ hle b63 hby p64 cap64 hc64 b9))))
 have st5_5_6 : ∀ (SS : Stone) (hle : Stone.le S14 SS) (b63 : Nat) (hby : Byt SS (.slice (some ⟨b63, 0, none⟩) 1 1) (eVal e)) (p64 : Addr) (cap64 : Nat) (hc64 : SS.cell (p64.add (pickN e.K 2 * 1)) = some (.string (nm (pickN e.K 2)))), G Pl5_5_6 [(0, .pointer (some ⟨sb, 0, none⟩)), (3, .pointer (some ⟨b3, 0, none⟩)), (5, .func (.func 8) #[] #[]), (6, .string (ky (eK e))), (7, i64 (pickN e.P bs.length)), (8, i64 (eP e)), (42, u64 b0.epoch), (44, u64 (eP e)), (58, u64 (1 + pickN e.M (nx (eP e) + 1))), (59, .string (ky (eK e))), (63, (.slice (some ⟨b63, 0, none⟩) 1 1)), (70, .string (nm (pickN e.K 2))), (75, u64 (pickN e.N 12)), (76, .func (.func 8) #[] #[]), (78, .int .i64 e.M), (81, .func (.func 8) #[] #[]), (83, .int .i64 e.N)] [.blk b3 (.cells e.cells.toArray 46 (0, 0)), .blk sb (.cells [.slice (some ⟨gL, 0, none⟩) bs.length cl, .slice (some ⟨gB, 0, none⟩) bs.length cb, u64 (nx 0), u64 (nx 1), u64 (nx 2), u64 (nx 3)].toArray 44 (0, 0)), .row (.slice (some ⟨gL, 0, none⟩) bs.length cl) 30 7 bs.length xs, .row (.slice (some ⟨gB, 0, none⟩) bs.length cb) 40 19 bs.length ys] SS := by
  intro SS hle b63 hby p64 cap64 hc64
  refine gI ?_
  refine d_alt rfl rfl ?_ ?_
  · refine t_callvr' rfl rfl (pick_ok (m := 9) eM1 eM2 (by decide)) en_8 ?_
    exact d_an hle (ey rfl (y_addN (n := 1) (m := pickN e.M 9) rfl rfl om) (t_to (gO (st5_5_4 _ hle b63 hby p64 cap64 hc64))))
  refine d_alt rfl rfl ?_ d_stop
  exact tal zc_57 (fun b9 => d_an hle (t_to (gO (st5_5_5 _ hle b63 hby p64 cap64 hc64 b9))))
 have st5_5_7 : ∀ (SS : Stone) (hle : Stone.le S14 SS) (b63 : Nat) (hby : Byt SS (.slice (some ⟨b63, 0, none⟩) 1 1) (eVal e)) (p64 : Addr) (cap64 : Nat) (hc64 : SS.cell (p64.add (pickN e.K 2 * 1)) = some (.string (nm (pickN e.K 2)))) (b9 : Nat), G Pl5_5_7 [(0, .pointer (some ⟨sb, 0, none⟩)), (3, .pointer (some ⟨b3, 0, none⟩)), (5, .func (.func 8) #[] #[]), (6, .string (ky (eK e))), (7, i64 (pickN e.P bs.length)), (8, i64 (eP e)), (9, .pointer (some ⟨b9, 0, none⟩)), (42, u64 b0.epoch), (44, u64 (eP e)), (58, u64 (1 + pickN e.M (nx (eP e) + 1))), (59, .string (ky (eK e))), (63, (.slice (some ⟨b63, 0, none⟩) 1 1)), (70, .string (nm (pickN e.K 2))), (71, .func (.func 8) #[] #[]), (73, .int .i64 e.N), (76, .func (.func 8) #[] #[]), (78, .int .i64 e.M), (81, .func (.func 8) #[] #[]), (83, .int .i64 e.N)] [.blk b9 (.cells ([i64 0, u64 0, u64 0, u64 0, .string { data := { toList := [] } }, .slice none 0 0, u64 0, i64 0, .string { data := { toList := [] } }, u64 0]).toArray 57 (0, 0)), .blk b3 (.cells e.cells.toArray 46 (0, 0)), .blk sb (.cells [.slice (some ⟨gL, 0, none⟩) bs.length cl, .slice (some ⟨gB, 0, none⟩) bs.length cb, u64 (nx 0), u64 (nx 1), u64 (nx 2), u64 (nx 3)].toArray 44 (0, 0)), .row (.slice (some ⟨gL, 0, none⟩) bs.length cl) 30 7 bs.length xs, .row (.slice (some ⟨gB, 0, none⟩) bs.length cb) 40 19 bs.length ys] SS := by
  intro SS hle b63 hby p64 cap64 hc64 b9
  refine gI ?_
  refine da rfl (t_callvr' rfl rfl (pick_ok (m := 12) eN1 eN2 (by decide)) en_8 ?_)
  exact d_an hle (ey rfl (y_cvu cv_3_25 rfl om) (t_to (gO (st5_5_5 _ hle b63 hby p64 cap64 hc64 b9))))
 have st5_5_8 : ∀ (SS : Stone) (hle : Stone.le S14 SS) (b63 : Nat) (hby : Byt SS (.slice (some ⟨b63, 0, none⟩) 1 1) (eVal e)) (p64 : Addr) (cap64 : Nat) (hc64 : SS.cell (p64.add (pickN e.K 2 * 1)) = some (.string (nm (pickN e.K 2)))), G Pl5_5_8 [(0, .pointer (some ⟨sb, 0, none⟩)), (3, .pointer (some ⟨b3, 0, none⟩)), (5, .func (.func 8) #[] #[]), (6, .string (ky (eK e))), (7, i64 (pickN e.P bs.length)), (8, i64 (eP e)), (42, u64 b0.epoch), (44, u64 (eP e)), (58, u64 (1 + pickN e.M (nx (eP e) + 1))), (59, .string (ky (eK e))), (63, (.slice (some ⟨b63, 0, none⟩) 1 1)), (70, .string (nm (pickN e.K 2))), (71, .func (.func 8) #[] #[]), (73, .int .i64 e.N), (76, .func (.func 8) #[] #[]), (78, .int .i64 e.M), (81, .func (.func 8) #[] #[]), (83, .int .i64 e.N)] [.blk b3 (.cells e.cells.toArray 46 (0, 0)), .blk sb (.cells [.slice (some ⟨gL, 0, none⟩) bs.length cl, .slice (some ⟨gB, 0, none⟩) bs.length cb, u64 (nx 0), u64 (nx 1), u64 (nx 2), u64 (nx 3)].toArray 44 (0, 0)), .row (.slice (some ⟨gL, 0, none⟩) bs.length cl) 30 7 bs.length xs, .row (.slice (some ⟨gB, 0, none⟩) bs.length cb) 40 19 bs.length ys] SS := by
  intro SS hle b63 hby p64 cap64 hc64
  refine gI ?_
  refine d_alt rfl rfl ?_ ?_
  · refine t_callvr' rfl rfl (pick_ok (m := 12) eN1 eN2 (by decide)) en_8 ?_
    exact d_an hle (ey rfl (y_cvu cv_3_25 rfl om) (t_to (gO (st5_5_6 _ hle b63 hby p64 cap64 hc64))))
  refine d_alt rfl rfl ?_ d_stop
  exact tal zc_57 (fun b9 => d_an hle (t_to (gO (st5_5_7 _ hle b63 hby p64 cap64 hc64 b9))))
 have st5_5_9 : ∀ (SS : Stone) (hle : Stone.le S14 SS) (b63 : Nat) (hby : Byt SS (.slice (some ⟨b63, 0, none⟩) 1 1) (eVal e)) (p64 : Addr) (cap64 : Nat) (hc64 : SS.cell (p64.add (pickN e.K 2 * 1)) = some (.string (nm (pickN e.K 2)))) (b9 : Nat), G Pl5_5_9 [(0, .pointer (some ⟨sb, 0, none⟩)), (3, .pointer (some ⟨b3, 0, none⟩)), (5, .func (.func 8) #[] #[]), (6, .string (ky (eK e))), (7, i64 (pickN e.P bs.length)), (8, i64 (eP e)), (9, .pointer (some ⟨b9, 0, none⟩)), (42, u64 b0.epoch), (44, u64 (eP e)), (58, u64 (1 + pickN e.M (nx (eP e) + 1))), (59, .string (ky (eK e))), (63, (.slice (some ⟨b63, 0, none⟩) 1 1)), (69, .pointer (some (p64.add (pickN e.K 2 * 1)))), (75, u64 (pickN e.N 12)), (80, i64 (1 + pickN e.M 9)), (86, u64 (1 + pickN e.N 2))] [.blk b9 (.cells ([i64 0, u64 0, u64 0, u64 0, .string { data := { toList := [] } }, .slice none 0 0, u64 0, i64 0, .string { data := { toList := [] } }, u64 0]).toArray 57 (0, 0)), .blk b3 (.cells e.cells.toArray 46 (0, 0)), .blk sb (.cells [.slice (some ⟨gL, 0, none⟩) bs.length cl, .slice (some ⟨gB, 0, none⟩) bs.length cb, u64 (nx 0), u64 (nx 1), u64 (nx 2), u64 (nx 3)].toArray 44 (0, 0)), .row (.slice (some ⟨gL, 0, none⟩) bs.length cl) 30 7 bs.length xs, .row (.slice (some ⟨gB, 0, none⟩) bs.length cb) 40 19 bs.length ys] SS := by
  intro SS hle b63 hby p64 cap64 hc64 b9
  refine gI ?_
  refine da rfl (t_ld (ld_st ld_9 rfl hc64) rfl (lt_n rfl) ?_)
  exact d_an hle (ey rfl (y_build (vs := [(1, u64 b0.epoch), (2, u64 (eP e)), (3, u64 (1 + pickN e.M (nx (eP e) + 1))), (4, .string (ky (eK e))), (5, (.slice (some ⟨b63, 0, none⟩) 1 1)), (8, .string (nm (pickN e.K 2))), (6, u64 (pickN e.N 12)), (7, i64 (1 + pickN e.M 9)), (9, u64 (1 + pickN e.N 2))]) (cs := (eCmd0 nx e 0 b0.epoch).cells (.slice (some ⟨b63, 0, none⟩) 1 1)) pl_57 zc_57 rfl fill57) (t_to (gO (st5_5_1 _ hle b63 hby p64 cap64 hc64 b9))))
 have st5_5_10 : ∀ (SS : Stone) (hle : Stone.le S14 SS) (b63 : Nat) (hby : Byt SS (.slice (some ⟨b63, 0, none⟩) 1 1) (eVal e)) (p64 : Addr) (cap64 : Nat) (hc64 : SS.cell (p64.add (pickN e.K 2 * 1)) = some (.string (nm (pickN e.K 2)))), G Pl5_5_10 [(0, .pointer (some ⟨sb, 0, none⟩)), (3, .pointer (some ⟨b3, 0, none⟩)), (5, .func (.func 8) #[] #[]), (6, .string (ky (eK e))), (7, i64 (pickN e.P bs.length)), (8, i64 (eP e)), (42, u64 b0.epoch), (44, u64 (eP e)), (58, u64 (1 + pickN e.M (nx (eP e) + 1))), (59, .string (ky (eK e))), (63, (.slice (some ⟨b63, 0, none⟩) 1 1)), (69, .pointer (some (p64.add (pickN e.K 2 * 1)))), (75, u64 (pickN e.N 12)), (80, i64 (1 + pickN e.M 9)), (86, u64 (1 + pickN e.N 2))] [.blk b3 (.cells e.cells.toArray 46 (0, 0)), .blk sb (.cells [.slice (some ⟨gL, 0, none⟩) bs.length cl, .slice (some ⟨gB, 0, none⟩) bs.length cb, u64 (nx 0), u64 (nx 1), u64 (nx 2), u64 (nx 3)].toArray 44 (0, 0)), .row (.slice (some ⟨gL, 0, none⟩) bs.length cl) 30 7 bs.length xs, .row (.slice (some ⟨gB, 0, none⟩) bs.length cb) 40 19 bs.length ys] SS := by
  intro SS hle b63 hby p64 cap64 hc64
  refine gI ?_
  refine d_alt rfl rfl ?_ ?_
  · refine t_ld (ld_st ld_9 rfl hc64) rfl (lt_n rfl) ?_
    exact d_an hle (ey rfl (y_build (vs := [(1, u64 b0.epoch), (2, u64 (eP e)), (3, u64 (1 + pickN e.M (nx (eP e) + 1))), (4, .string (ky (eK e))), (5, (.slice (some ⟨b63, 0, none⟩) 1 1)), (8, .string (nm (pickN e.K 2))), (6, u64 (pickN e.N 12)), (7, i64 (1 + pickN e.M 9)), (9, u64 (1 + pickN e.N 2))]) (cs := (eCmd0 nx e 0 b0.epoch).cells (.slice (some ⟨b63, 0, none⟩) 1 1)) pl_57 zc_57 rfl fill57) (t_to (gO (st5_5_2 _ hle b63 hby p64 cap64 hc64))))
  refine d_alt rfl rfl ?_ d_stop
  exact tal zc_57 (fun b9 => d_an hle (t_to (gO (st5_5_9 _ hle b63 hby p64 cap64 hc64 b9))))
 have st5_5_11 : ∀ (SS : Stone) (hle : Stone.le S14 SS) (b63 : Nat) (hby : Byt SS (.slice (some ⟨b63, 0, none⟩) 1 1) (eVal e)) (p64 : Addr) (cap64 : Nat) (hc64 : SS.cell (p64.add (pickN e.K 2 * 1)) = some (.string (nm (pickN e.K 2)))) (b9 : Nat), G Pl5_5_11 [(0, .pointer (some ⟨sb, 0, none⟩)), (3, .pointer (some ⟨b3, 0, none⟩)), (5, .func (.func 8) #[] #[]), (6, .string (ky (eK e))), (7, i64 (pickN e.P bs.length)), (8, i64 (eP e)), (9, .pointer (some ⟨b9, 0, none⟩)), (42, u64 b0.epoch), (44, u64 (eP e)), (58, u64 (1 + pickN e.M (nx (eP e) + 1))), (59, .string (ky (eK e))), (63, (.slice (some ⟨b63, 0, none⟩) 1 1)), (69, .pointer (some (p64.add (pickN e.K 2 * 1)))), (75, u64 (pickN e.N 12)), (80, i64 (1 + pickN e.M 9)), (81, .func (.func 8) #[] #[]), (83, .int .i64 e.N)] [.blk b9 (.cells ([i64 0, u64 0, u64 0, u64 0, .string { data := { toList := [] } }, .slice none 0 0, u64 0, i64 0, .string { data := { toList := [] } }, u64 0]).toArray 57 (0, 0)), .blk b3 (.cells e.cells.toArray 46 (0, 0)), .blk sb (.cells [.slice (some ⟨gL, 0, none⟩) bs.length cl, .slice (some ⟨gB, 0, none⟩) bs.length cb, u64 (nx 0), u64 (nx 1), u64 (nx 2), u64 (nx 3)].toArray 44 (0, 0)), .row (.slice (some ⟨gL, 0, none⟩) bs.length cl) 30 7 bs.length xs, .row (.slice (some ⟨gB, 0, none⟩) bs.length cb) 40 19 bs.length ys] SS := by
  intro SS hle b63 hby p64 cap64 hc64 b9
  refine gI ?_
  refine d_alt rfl rfl ?_ ?_
  · refine t_ld (ld_st ld_9 rfl hc64) rfl (lt_n rfl) ?_
    exact d_an hle (t_to (gO (st5_5_3 _ hle b63 hby p64 cap64 hc64 b9)))
  refine d_alt rfl rfl ?_ d_stop
  refine t_callvr' rfl rfl (pick_ok (m := 2) eN1 eN2 (by decide)) en_8 ?_
  exact d_an hle (ey rfl (y_addN (n := 1) (m := pickN e.N 2) rfl rfl om) (ey rfl (y_cvu cv_3_25 rfl om) (t_to (gO (st5_5_9 _ hle b63 hby p64 cap64 hc64 b9)))))
 have st5_5_12 : ∀ (SS : Stone) (hle : Stone.le S14 SS) (b63 : Nat) (hby : Byt SS (.slice (some ⟨b63, 0, none⟩) 1 1) (eVal e)) (p64 : Addr) (cap64 : Nat) (hc64 : SS.cell (p64.add (pickN e.K 2 * 1)) = some (.string (nm (pickN e.K 2)))), G Pl5_5_12 [(0, .pointer (some ⟨sb, 0, none⟩)), (3, .pointer (some ⟨b3, 0, none⟩)), (5, .func (.func 8) #[] #[]), (6, .string (ky (eK e))), (7, i64 (pickN e.P bs.length)), (8, i64 (eP e)), (42, u64 b0.epoch), (44, u64 (eP e)), (58, u64 (1 + pickN e.M (nx (eP e) + 1))), (59, .string (ky (eK e))), (63, (.slice (some ⟨b63, 0, none⟩) 1 1)), (69, .pointer (some (p64.add (pickN e.K 2 * 1)))), (75, u64 (pickN e.N 12)), (80, i64 (1 + pickN e.M 9)), (81, .func (.func 8) #[] #[]), (83, .int .i64 e.N)] [.blk b3 (.cells e.cells.toArray 46 (0, 0)), .blk sb (.cells [.slice (some ⟨gL, 0, none⟩) bs.length cl, .slice (some ⟨gB, 0, none⟩) bs.length cb, u64 (nx 0), u64 (nx 1), u64 (nx 2), u64 (nx 3)].toArray 44 (0, 0)), .row (.slice (some ⟨gL, 0, none⟩) bs.length cl) 30 7 bs.length xs, .row (.slice (some ⟨gB, 0, none⟩) bs.length cb) 40 19 bs.length ys] SS := by
  intro SS hle b63 hby p64 cap64 hc64
  refine gI ?_
  refine d_alt rfl rfl ?_ ?_
  · refine t_ld (ld_st ld_9 rfl hc64) rfl (lt_n rfl) ?_
    exact d_an hle (t_to (gO (st5_5_4 _ hle b63 hby p64 cap64 hc64)))
  refine d_alt rfl rfl ?_ ?_
  · refine t_callvr' rfl rfl (pick_ok (m := 2) eN1 eN2 (by decide)) en_8 ?_
    exact d_an hle (ey rfl (y_addN (n := 1) (m := pickN e.N 2) rfl rfl om) (ey rfl (y_cvu cv_3_25 rfl om) (t_to (gO (st5_5_10 _ hle b63 hby p64 cap64 hc64)))))
  refine d_alt rfl rfl ?_ d_stop
  exact tal zc_57 (fun b9 => d_an hle (t_to (gO (st5_5_11 _ hle b63 hby p64 cap64 hc64 b9))))
 have st5_5_13 : ∀ (SS : Stone) (hle : Stone.le S14 SS) (b63 : Nat) (hby : Byt SS (.slice (some ⟨b63, 0, none⟩) 1 1) (eVal e)) (p64 : Addr) (cap64 : Nat) (hc64 : SS.cell (p64.add (pickN e.K 2 * 1)) = some (.string (nm (pickN e.K 2)))) (b9 : Nat), G Pl5_5_13 [(0, .pointer (some ⟨sb, 0, none⟩)), (3, .pointer (some ⟨b3, 0, none⟩)), (5, .func (.func 8) #[] #[]), (6, .string (ky (eK e))), (7, i64 (pickN e.P bs.length)), (8, i64 (eP e)), (9, .pointer (some ⟨b9, 0, none⟩)), (42, u64 b0.epoch), (44, u64 (eP e)), (58, u64 (1 + pickN e.M (nx (eP e) + 1))), (59, .string (ky (eK e))), (63, (.slice (some ⟨b63, 0, none⟩) 1 1)), (69, .pointer (some (p64.add (pickN e.K 2 * 1)))), (75, u64 (pickN e.N 12)), (76, .func (.func 8) #[] #[]), (78, .int .i64 e.M), (81, .func (.func 8) #[] #[]), (83, .int .i64 e.N)] [.blk b9 (.cells ([i64 0, u64 0, u64 0, u64 0, .string { data := { toList := [] } }, .slice none 0 0, u64 0, i64 0, .string { data := { toList := [] } }, u64 0]).toArray 57 (0, 0)), .blk b3 (.cells e.cells.toArray 46 (0, 0)), .blk sb (.cells [.slice (some ⟨gL, 0, none⟩) bs.length cl, .slice (some ⟨gB, 0, none⟩) bs.length cb, u64 (nx 0), u64 (nx 1), u64 (nx 2), u64 (nx 3)].toArray 44 (0, 0)), .row (.slice (some ⟨gL, 0, none⟩) bs.length cl) 30 7 bs.length xs, .row (.slice (some ⟨gB, 0, none⟩) bs.length cb) 40 19 bs.length ys] SS := by
  intro SS hle b63 hby p64 cap64 hc64 b9
  refine gI ?_
  refine d_alt rfl rfl ?_ ?_
  · refine t_ld (ld_st ld_9 rfl hc64) rfl (lt_n rfl) ?_
    exact d_an hle (t_to (gO (st5_5_5 _ hle b63 hby p64 cap64 hc64 b9)))
  refine d_alt rfl rfl ?_ d_stop
  refine t_callvr' rfl rfl (pick_ok (m := 9) eM1 eM2 (by decide)) en_8 ?_
  exact d_an hle (ey rfl (y_addN (n := 1) (m := pickN e.M 9) rfl rfl om) (t_to (gO (st5_5_11 _ hle b63 hby p64 cap64 hc64 b9))))
 have st5_5_14 : ∀ (SS : Stone) (hle : Stone.le S14 SS) (b63 : Nat) (hby : Byt SS (.slice (some ⟨b63, 0, none⟩) 1 1) (eVal e)) (p64 : Addr) (cap64 : Nat) (hc64 : SS.cell (p64.add (pickN e.K 2 * 1)) = some (.string (nm (pickN e.K 2)))), G Pl5_5_14 [(0, .pointer (some ⟨sb, 0, none⟩)), (3, .pointer (some ⟨b3, 0, none⟩)), (5, .func (.func 8) #[] #[]), (6, .string (ky (eK e))), (7, i64 (pickN e.P bs.length)), (8, i64 (eP e)), (42, u64 b0.epoch), (44, u64 (eP e)), (58, u64 (1 + pickN e.M (nx (eP e) + 1))), (59, .string (ky (eK e))), (63, (.slice (some ⟨b63, 0, none⟩) 1 1)), (69, .pointer (some (p64.add (pickN e.K 2 * 1)))), (75, u64 (pickN e.N 12)), (76, .func (.func 8) #[] #[]), (78, .int .i64 e.M), (81, .func (.func 8) #[] #[]), (83, .int .i64 e.N)] [.blk b3 (.cells e.cells.toArray 46 (0, 0)), .blk sb (.cells [.slice (some ⟨gL, 0, none⟩) bs.length cl, .slice (some ⟨gB, 0, none⟩) bs.length cb, u64 (nx 0), u64 (nx 1), u64 (nx 2), u64 (nx 3)].toArray 44 (0, 0)), .row (.slice (some ⟨gL, 0, none⟩) bs.length cl) 30 7 bs.length xs, .row (.slice (some ⟨gB, 0, none⟩) bs.length cb) 40 19 bs.length ys] SS := by
  intro SS hle b63 hby p64 cap64 hc64
  refine gI ?_
  refine d_alt rfl rfl ?_ ?_
  · refine t_ld (ld_st ld_9 rfl hc64) rfl (lt_n rfl) ?_
    exact d_an hle (t_to (gO (st5_5_6 _ hle b63 hby p64 cap64 hc64)))
  refine d_alt rfl rfl ?_ ?_
  · refine t_callvr' rfl rfl (pick_ok (m := 9) eM1 eM2 (by decide)) en_8 ?_
    exact d_an hle (ey rfl (y_addN (n := 1) (m := pickN e.M 9) rfl rfl om) (t_to (gO (st5_5_12 _ hle b63 hby p64 cap64 hc64))))
  refine d_alt rfl rfl ?_ d_stop
  exact tal zc_57 (fun b9 => d_an hle (t_to (gO (st5_5_13 _ hle b63 hby p64 cap64 hc64 b9))))
 have st5_5_15 : ∀ (SS : Stone) (hle : Stone.le S14 SS) (b63 : Nat) (hby : Byt SS (.slice (some ⟨b63, 0, none⟩) 1 1) (eVal e)) (p64 : Addr) (cap64 : Nat) (hc64 : SS.cell (p64.add (pickN e.K 2 * 1)) = some (.string (nm (pickN e.K 2)))) (b9 : Nat), G Pl5_5_15 [(0, .pointer (some ⟨sb, 0, none⟩)), (3, .pointer (some ⟨b3, 0, none⟩)), (5, .func (.func 8) #[] #[]), (6, .string (ky (eK e))), (7, i64 (pickN e.P bs.length)), (8, i64 (eP e)), (9, .pointer (some ⟨b9, 0, none⟩)), (42, u64 b0.epoch), (44, u64 (eP e)), (58, u64 (1 + pickN e.M (nx (eP e) + 1))), (59, .string (ky (eK e))), (63, (.slice (some ⟨b63, 0, none⟩) 1 1)), (69, .pointer (some (p64.add (pickN e.K 2 * 1)))), (71, .func (.func 8) #[] #[]), (73, .int .i64 e.N), (76, .func (.func 8) #[] #[]), (78, .int .i64 e.M), (81, .func (.func 8) #[] #[]), (83, .int .i64 e.N)] [.blk b9 (.cells ([i64 0, u64 0, u64 0, u64 0, .string { data := { toList := [] } }, .slice none 0 0, u64 0, i64 0, .string { data := { toList := [] } }, u64 0]).toArray 57 (0, 0)), .blk b3 (.cells e.cells.toArray 46 (0, 0)), .blk sb (.cells [.slice (some ⟨gL, 0, none⟩) bs.length cl, .slice (some ⟨gB, 0, none⟩) bs.length cb, u64 (nx 0), u64 (nx 1), u64 (nx 2), u64 (nx 3)].toArray 44 (0, 0)), .row (.slice (some ⟨gL, 0, none⟩) bs.length cl) 30 7 bs.length xs, .row (.slice (some ⟨gB, 0, none⟩) bs.length cb) 40 19 bs.length ys] SS := by
  intro SS hle b63 hby p64 cap64 hc64 b9
  refine gI ?_
  refine d_alt rfl rfl ?_ ?_
  · refine t_ld (ld_st ld_9 rfl hc64) rfl (lt_n rfl) ?_
    exact d_an hle (t_to (gO (st5_5_7 _ hle b63 hby p64 cap64 hc64 b9)))
  refine d_alt rfl rfl ?_ d_stop
  refine t_callvr' rfl rfl (pick_ok (m := 12) eN1 eN2 (by decide)) en_8 ?_
  exact d_an hle (ey rfl (y_cvu cv_3_25 rfl om) (t_to (gO (st5_5_13 _ hle b63 hby p64 cap64 hc64 b9))))
 have st5_5_16 : ∀ (SS : Stone) (hle : Stone.le S14 SS) (b63 : Nat) (hby : Byt SS (.slice (some ⟨b63, 0, none⟩) 1 1) (eVal e)) (p64 : Addr) (cap64 : Nat) (hc64 : SS.cell (p64.add (pickN e.K 2 * 1)) = some (.string (nm (pickN e.K 2)))), G Pl5_5_16 [(0, .pointer (some ⟨sb, 0, none⟩)), (3, .pointer (some ⟨b3, 0, none⟩)), (5, .func (.func 8) #[] #[]), (6, .string (ky (eK e))), (7, i64 (pickN e.P bs.length)), (8, i64 (eP e)), (42, u64 b0.epoch), (44, u64 (eP e)), (58, u64 (1 + pickN e.M (nx (eP e) + 1))), (59, .string (ky (eK e))), (63, (.slice (some ⟨b63, 0, none⟩) 1 1)), (69, .pointer (some (p64.add (pickN e.K 2 * 1)))), (71, .func (.func 8) #[] #[]), (73, .int .i64 e.N), (76, .func (.func 8) #[] #[]), (78, .int .i64 e.M), (81, .func (.func 8) #[] #[]), (83, .int .i64 e.N)] [.blk b3 (.cells e.cells.toArray 46 (0, 0)), .blk sb (.cells [.slice (some ⟨gL, 0, none⟩) bs.length cl, .slice (some ⟨gB, 0, none⟩) bs.length cb, u64 (nx 0), u64 (nx 1), u64 (nx 2), u64 (nx 3)].toArray 44 (0, 0)), .row (.slice (some ⟨gL, 0, none⟩) bs.length cl) 30 7 bs.length xs, .row (.slice (some ⟨gB, 0, none⟩) bs.length cb) 40 19 bs.length ys] SS := by
  intro SS hle b63 hby p64 cap64 hc64
  refine gI ?_
  refine d_alt rfl rfl ?_ ?_
  · refine t_ld (ld_st ld_9 rfl hc64) rfl (lt_n rfl) ?_
    exact d_an hle (t_to (gO (st5_5_8 _ hle b63 hby p64 cap64 hc64)))
  refine d_alt rfl rfl ?_ ?_
  · refine t_callvr' rfl rfl (pick_ok (m := 12) eN1 eN2 (by decide)) en_8 ?_
    exact d_an hle (ey rfl (y_cvu cv_3_25 rfl om) (t_to (gO (st5_5_14 _ hle b63 hby p64 cap64 hc64))))
  refine d_alt rfl rfl ?_ d_stop
  exact tal zc_57 (fun b9 => d_an hle (t_to (gO (st5_5_15 _ hle b63 hby p64 cap64 hc64 b9))))
 have st5_5_17 : ∀ (SS : Stone) (hle : Stone.le S14 SS) (b63 : Nat) (hby : Byt SS (.slice (some ⟨b63, 0, none⟩) 1 1) (eVal e)) (p64 : Addr) (cap64 : Nat) (hc64 : SS.cell (p64.add (pickN e.K 2 * 1)) = some (.string (nm (pickN e.K 2)))) (b9 : Nat), G Pl5_5_17 [(0, .pointer (some ⟨sb, 0, none⟩)), (3, .pointer (some ⟨b3, 0, none⟩)), (5, .func (.func 8) #[] #[]), (6, .string (ky (eK e))), (7, i64 (pickN e.P bs.length)), (8, i64 (eP e)), (9, .pointer (some ⟨b9, 0, none⟩)), (42, u64 b0.epoch), (44, u64 (eP e)), (58, u64 (1 + pickN e.M (nx (eP e) + 1))), (59, .string (ky (eK e))), (63, (.slice (some ⟨b63, 0, none⟩) 1 1)), (64, .slice (some p64) 2 cap64), (65, .func (.func 8) #[] #[]), (67, .int .i64 e.K), (71, .func (.func 8) #[] #[]), (73, .int .i64 e.N), (76, .func (.func 8) #[] #[]), (78, .int .i64 e.M), (81, .func (.func 8) #[] #[]), (83, .int .i64 e.N)] [.blk b9 (.cells ([i64 0, u64 0, u64 0, u64 0, .string { data := { toList := [] } }, .slice none 0 0, u64 0, i64 0, .string { data := { toList := [] } }, u64 0]).toArray 57 (0, 0)), .blk b3 (.cells e.cells.toArray 46 (0, 0)), .blk sb (.cells [.slice (some ⟨gL, 0, none⟩) bs.length cl, .slice (some ⟨gB, 0, none⟩) bs.length cb, u64 (nx 0), u64 (nx 1), u64 (nx 2), u64 (nx 3)].toArray 44 (0, 0)), .row (.slice (some ⟨gL, 0, none⟩) bs.length cl) 30 7 bs.length xs, .row (.slice (some ⟨gB, 0, none⟩) bs.length cb) 40 19 bs.length ys] SS := by
  intro SS hle b63 hby p64 cap64 hc64 b9
  refine gI ?_
  refine da rfl (t_callvr' rfl rfl (pick_ok (m := 2) eK1 eK2 (by decide)) en_8 ?_)
  exact d_an hle (ey rfl (y_iaN (i := pickN e.K 2) sl_52 rfl rfl hk2) (t_to (gO (st5_5_15 _ hle b63 hby p64 cap64 hc64 b9))))
 have st5_5_18 : ∀ (SS : Stone) (hle : Stone.le S14 SS) (b63 : Nat) (hby : Byt SS (.slice (some ⟨b63, 0, none⟩) 1 1) (eVal e)) (p64 : Addr) (cap64 : Nat) (hc64 : SS.cell (p64.add (pickN e.K 2 * 1)) = some (.string (nm (pickN e.K 2)))), G Pl5_5_18 [(0, .pointer (some ⟨sb, 0, none⟩)), (3, .pointer (some ⟨b3, 0, none⟩)), (5, .func (.func 8) #[] #[]), (6, .string (ky (eK e))), (7, i64 (pickN e.P bs.length)), (8, i64 (eP e)), (42, u64 b0.epoch), (44, u64 (eP e)), (58, u64 (1 + pickN e.M (nx (eP e) + 1))), (59, .string (ky (eK e))), (63, (.slice (some ⟨b63, 0, none⟩) 1 1)), (64, .slice (some p64) 2 cap64), (65, .func (.func 8) #[] #[]), (67, .int .i64 e.K), (71, .func (.func 8) #[] #[]), (73, .int .i64 e.N), (76, .func (.func 8) #[] #[]), (78, .int .i64 e.M), (81, .func (.func 8) #[] #[]), (83, .int .i64 e.N)] [.blk b3 (.cells e.cells.toArray 46 (0, 0)), .blk sb (.cells [.slice (some ⟨gL, 0, none⟩) bs.length cl, .slice (some ⟨gB, 0, none⟩) bs.length cb, u64 (nx 0), u64 (nx 1), u64 (nx 2), u64 (nx 3)].toArray 44 (0, 0)), .row (.slice (some ⟨gL, 0, none⟩) bs.length cl) 30 7 bs.length xs, .row (.slice (some ⟨gB, 0, none⟩) bs.length cb) 40 19 bs.length ys] SS := by
  intro SS hle b63 hby p64 cap64 hc64
  refine gI ?_
  refine d_alt rfl rfl ?_ ?_
  · refine t_callvr' rfl rfl (pick_ok (m := 2) eK1 eK2 (by decide)) en_8 ?_
    exact d_an hle (ey rfl (y_iaN (i := pickN e.K 2) sl_52 rfl rfl hk2) (t_to (gO (st5_5_16 _ hle b63 hby p64 cap64 hc64))))
  refine d_alt rfl rfl ?_ d_stop
  exact tal zc_57 (fun b9 => d_an hle (t_to (gO (st5_5_17 _ hle b63 hby p64 cap64 hc64 b9))))
 have st5_5_19 : ∀ (SS : Stone) (hle : Stone.le S14 SS) (b63 : Nat) (hby : Byt SS (.slice (some ⟨b63, 0, none⟩) 1 1) (eVal e)) (b9 : Nat), G Pl5_5_19 [(0, .pointer (some ⟨sb, 0, none⟩)), (3, .pointer (some ⟨b3, 0, none⟩)), (5, .func (.func 8) #[] #[]), (6, .string (ky (eK e))), (7, i64 (pickN e.P bs.length)), (8, i64 (eP e)), (9, .pointer (some ⟨b9, 0, none⟩)), (42, u64 b0.epoch), (44, u64 (eP e)), (58, u64 (1 + pickN e.M (nx (eP e) + 1))), (59, .string (ky (eK e))), (63, (.slice (some ⟨b63, 0, none⟩) 1 1)), (65, .func (.func 8) #[] #[]), (67, .int .i64 e.K), (71, .func (.func 8) #[] #[]), (73, .int .i64 e.N), (76, .func (.func 8) #[] #[]), (78, .int .i64 e.M), (81, .func (.func 8) #[] #[]), (83, .int .i64 e.N)] [.blk b9 (.cells ([i64 0, u64 0, u64 0, u64 0, .string { data := { toList := [] } }, .slice none 0 0, u64 0, i64 0, .string { data := { toList := [] } }, u64 0]).toArray 57 (0, 0)), .blk b3 (.cells e.cells.toArray 46 (0, 0)), .blk sb (.cells [.slice (some ⟨gL, 0, none⟩) bs.length cl, .slice (some ⟨gB, 0, none⟩) bs.length cb, u64 (nx 0), u64 (nx 1), u64 (nx 2), u64 (nx 3)].toArray 44 (0, 0)), .row (.slice (some ⟨gL, 0, none⟩) bs.length cl) 30 7 bs.length xs, .row (.slice (some ⟨gB, 0, none⟩) bs.length cb) 40 19 bs.length ys] SS := by
  intro SS hle b63 hby b9
  refine gI ?_
  refine da rfl (t_callR rfl (names_ok) en_10 ?_)
  rintro v64 S64 le64 h64
  obtain ⟨A64, cap64, rfl, -, -, h64'⟩ := h64
  obtain ⟨p64, cs64, rfl, rfl, -, hcell64⟩ := h64' (pickN e.K 2) (pickN e.K 2) (names_get hk2)
  have hc64 := hcell64 0 _ rfl
  rw [show (p64.add (pickN e.K 2 * 1)).add 0 = p64.add (pickN e.K 2 * 1) by simp [Addr.add]] at hc64
  replace hle := hle.trans le64
  try replace hby := hby.mono le64
  exact d_an hle (t_to (gO (st5_5_17 _ hle b63 hby p64 cap64 hc64 b9)))
 have st5_5_20 : ∀ (SS : Stone) (hle : Stone.le S14 SS) (b63 : Nat) (hby : Byt SS (.slice (some ⟨b63, 0, none⟩) 1 1) (eVal e)), G Pl5_5_20 [(0, .pointer (some ⟨sb, 0, none⟩)), (3, .pointer (some ⟨b3, 0, none⟩)), (5, .func (.func 8) #[] #[]), (6, .string (ky (eK e))), (7, i64 (pickN e.P bs.length)), (8, i64 (eP e)), (42, u64 b0.epoch), (44, u64 (eP e)), (58, u64 (1 + pickN e.M (nx (eP e) + 1))), (59, .string (ky (eK e))), (63, (.slice (some ⟨b63, 0, none⟩) 1 1)), (65, .func (.func 8) #[] #[]), (67, .int .i64 e.K), (71, .func (.func 8) #[] #[]), (73, .int .i64 e.N), (76, .func (.func 8) #[] #[]), (78, .int .i64 e.M), (81, .func (.func 8) #[] #[]), (83, .int .i64 e.N)] [.blk b3 (.cells e.cells.toArray 46 (0, 0)), .blk sb (.cells [.slice (some ⟨gL, 0, none⟩) bs.length cl, .slice (some ⟨gB, 0, none⟩) bs.length cb, u64 (nx 0), u64 (nx 1), u64 (nx 2), u64 (nx 3)].toArray 44 (0, 0)), .row (.slice (some ⟨gL, 0, none⟩) bs.length cl) 30 7 bs.length xs, .row (.slice (some ⟨gB, 0, none⟩) bs.length cb) 40 19 bs.length ys] SS := by
  intro SS hle b63 hby
  refine gI ?_
  refine d_alt rfl rfl ?_ ?_
  · refine t_callR rfl (names_ok) en_10 ?_
    rintro v64 S64 le64 h64
    obtain ⟨A64, cap64, rfl, -, -, h64'⟩ := h64
    obtain ⟨p64, cs64, rfl, rfl, -, hcell64⟩ := h64' (pickN e.K 2) (pickN e.K 2) (names_get hk2)
    have hc64 := hcell64 0 _ rfl
    rw [show (p64.add (pickN e.K 2 * 1)).add 0 = p64.add (pickN e.K 2 * 1) by simp [Addr.add]] at hc64
    replace hle := hle.trans le64
    try replace hby := hby.mono le64
    exact d_an hle (t_to (gO (st5_5_18 _ hle b63 hby p64 cap64 hc64)))
  refine d_alt rfl rfl ?_ d_stop
  exact tal zc_57 (fun b9 => d_an hle (t_to (gO (st5_5_19 _ hle b63 hby b9))))
 have st5_5_21 : ∀ (SS : Stone) (hle : Stone.le S14 SS) (p64 : Addr) (cap64 : Nat) (hc64 : SS.cell (p64.add (pickN e.K 2 * 1)) = some (.string (nm (pickN e.K 2)))) (b9 : Nat), G Pl5_5_21 [(0, .pointer (some ⟨sb, 0, none⟩)), (3, .pointer (some ⟨b3, 0, none⟩)), (5, .func (.func 8) #[] #[]), (6, .string (ky (eK e))), (7, i64 (pickN e.P bs.length)), (8, i64 (eP e)), (9, .pointer (some ⟨b9, 0, none⟩)), (42, u64 b0.epoch), (44, u64 (eP e)), (58, u64 (1 + pickN e.M (nx (eP e) + 1))), (59, .string (ky (eK e))), (62, .int .u8 ((eVal e : Nat) : Int)), (70, .string (nm (pickN e.K 2))), (75, u64 (pickN e.N 12)), (80, i64 (1 + pickN e.M 9)), (86, u64 (1 + pickN e.N 2))] [.blk b9 (.cells ([i64 0, u64 0, u64 0, u64 0, .string { data := { toList := [] } }, .slice none 0 0, u64 0, i64 0, .string { data := { toList := [] } }, u64 0]).toArray 57 (0, 0)), .blk b3 (.cells e.cells.toArray 46 (0, 0)), .blk sb (.cells [.slice (some ⟨gL, 0, none⟩) bs.length cl, .slice (some ⟨gB, 0, none⟩) bs.length cb, u64 (nx 0), u64 (nx 1), u64 (nx 2), u64 (nx 3)].toArray 44 (0, 0)), .row (.slice (some ⟨gL, 0, none⟩) bs.length cl) 30 7 bs.length xs, .row (.slice (some ⟨gB, 0, none⟩) bs.length cb) 40 19 bs.length ys] SS := by
  intro SS hle p64 cap64 hc64 b9
  refine gI ?_
  refine da rfl (t_bs1 ap_54 zc_5 rfl rfl rfl rfl rfl (fun b63 => ?_))
  refine t_pub (C := bytC) (l := [eVal e]) pk (fun S' hle => Flat.one (a := eVal e) rfl rfl) rfl (fun S63 le63 hs63 => ?_)
  have hby := Sl.byt hs63
  replace hle := hle.trans le63
  try replace hc64 := le63.cell hc64
  exact d_an hle (ey rfl (y_build (vs := [(1, u64 b0.epoch), (2, u64 (eP e)), (3, u64 (1 + pickN e.M (nx (eP e) + 1))), (4, .string (ky (eK e))), (5, (.slice (some ⟨b63, 0, none⟩) 1 1)), (8, .string (nm (pickN e.K 2))), (6, u64 (pickN e.N 12)), (7, i64 (1 + pickN e.M 9)), (9, u64 (1 + pickN e.N 2))]) (cs := (eCmd0 nx e 0 b0.epoch).cells (.slice (some ⟨b63, 0, none⟩) 1 1)) pl_57 zc_57 rfl fill57) (t_to (gO (st5_5_1 _ hle b63 hby p64 cap64 hc64 b9))))
 have st5_5_22 : ∀ (SS : Stone) (hle : Stone.le S14 SS) (p64 : Addr) (cap64 : Nat) (hc64 : SS.cell (p64.add (pickN e.K 2 * 1)) = some (.string (nm (pickN e.K 2)))), G Pl5_5_22 [(0, .pointer (some ⟨sb, 0, none⟩)), (3, .pointer (some ⟨b3, 0, none⟩)), (5, .func (.func 8) #[] #[]), (6, .string (ky (eK e))), (7, i64 (pickN e.P bs.length)), (8, i64 (eP e)), (42, u64 b0.epoch), (44, u64 (eP e)), (58, u64 (1 + pickN e.M (nx (eP e) + 1))), (59, .string (ky (eK e))), (62, .int .u8 ((eVal e : Nat) : Int)), (70, .string (nm (pickN e.K 2))), (75, u64 (pickN e.N 12)), (80, i64 (1 + pickN e.M 9)), (86, u64 (1 + pickN e.N 2))] [.blk b3 (.cells e.cells.toArray 46 (0, 0)), .blk sb (.cells [.slice (some ⟨gL, 0, none⟩) bs.length cl, .slice (some ⟨gB, 0, none⟩) bs.length cb, u64 (nx 0), u64 (nx 1), u64 (nx 2), u64 (nx 3)].toArray 44 (0, 0)), .row (.slice (some ⟨gL, 0, none⟩) bs.length cl) 30 7 bs.length xs, .row (.slice (some ⟨gB, 0, none⟩) bs.length cb) 40 19 bs.length ys] SS := by
  intro SS hle p64 cap64 hc64
  refine gI ?_
  refine d_alt rfl rfl ?_ ?_
  · refine t_bs1 ap_54 zc_5 rfl rfl rfl rfl rfl (fun b63 => ?_)
    refine t_pub (C := bytC) (l := [eVal e]) pk (fun S' hle => Flat.one (a := eVal e) rfl rfl) rfl (fun S63 le63 hs63 => ?_)
    have hby := Sl.byt hs63
    replace hle := hle.trans le63
    try replace hc64 := le63.cell hc64
    exact d_an hle (ey rfl (y_build (vs := [(1, u64 b0.epoch), (2, u64 (eP e)), (3, u64 (1 + pickN e.M (nx (eP e) + 1))), (4, .string (ky (eK e))), (5, (.slice (some ⟨b63, 0, none⟩) 1 1)), (8, .string (nm (pickN e.K 2))), (6, u64 (pickN e.N 12)), (7, i64 (1 + pickN e.M 9)), (9, u64 (1 + pickN e.N 2))]) (cs := (eCmd0 nx e 0 b0.epoch).cells (.slice (some ⟨b63, 0, none⟩) 1 1)) pl_57 zc_57 rfl fill57) (t_to (gO (st5_5_2 _ hle b63 hby p64 cap64 hc64))))
  refine d_alt rfl rfl ?_ d_stop
  exact tal zc_57 (fun b9 => d_an hle (t_to (gO (st5_5_21 _ hle p64 cap64 hc64 b9))))
 have st5_5_23 : ∀ (SS : Stone) (hle : Stone.le S14 SS) (p64 : Addr) (cap64 : Nat) (hc64 : SS.cell (p64.add (pickN e.K 2 * 1)) = some (.string (nm (pickN e.K 2)))) (b9 : Nat), G Pl5_5_23 [(0, .pointer (some ⟨sb, 0, none⟩)), (3, .pointer (some ⟨b3, 0, none⟩)), (5, .func (.func 8) #[] #[]), (6, .string (ky (eK e))), (7, i64 (pickN e.P bs.length)), (8, i64 (eP e)), (9, .pointer (some ⟨b9, 0, none⟩)), (42, u64 b0.epoch), (44, u64 (eP e)), (58, u64 (1 + pickN e.M (nx (eP e) + 1))), (59, .string (ky (eK e))), (62, .int .u8 ((eVal e : Nat) : Int)), (70, .string (nm (pickN e.K 2))), (75, u64 (pickN e.N 12)), (80, i64 (1 + pickN e.M 9)), (81, .func (.func 8) #[] #[]), (83, .int .i64 e.N)] [.blk b9 (.cells ([i64 0, u64 0, u64 0, u64 0, .string { data := { toList := [] } }, .slice none 0 0, u64 0, i64 0, .string { data := { toList := [] } }, u64 0]).toArray 57 (0, 0)), .blk b3 (.cells e.cells.toArray 46 (0, 0)), .blk sb (.cells [.slice (some ⟨gL, 0, none⟩) bs.length cl, .slice (some ⟨gB, 0, none⟩) bs.length cb, u64 (nx 0), u64 (nx 1), u64 (nx 2), u64 (nx 3)].toArray 44 (0, 0)), .row (.slice (some ⟨gL, 0, none⟩) bs.length cl) 30 7 bs.length xs, .row (.slice (some ⟨gB, 0, none⟩) bs.length cb) 40 19 bs.length ys] SS := by
  intro SS hle p64 cap64 hc64 b9
  refine gI ?_
  refine d_alt rfl rfl ?_ ?_
  · refine t_bs1 ap_54 zc_5 rfl rfl rfl rfl rfl (fun b63 => ?_)
    refine t_pub (C := bytC) (l := [eVal e]) pk (fun S' hle => Flat.one (a := eVal e) rfl rfl) rfl (fun S63 le63 hs63 => ?_)
    have hby := Sl.byt hs63
    replace hle := hle.trans le63
    try replace hc64 := le63.cell hc64
    exact d_an hle (t_to (gO (st5_5_3 _ hle b63 hby p64 cap64 hc64 b9)))
  refine d_alt rfl rfl ?_ d_stop
  refine t_callvr' rfl rfl (pick_ok (m := 2) eN1 eN2 (by decide)) en_8 ?_
  exact d_an hle (ey rfl (y_addN (n := 1) (m := pickN e.N 2) rfl rfl om) (ey rfl (y_cvu cv_3_25 rfl om) (t_to (gO (st5_5_21 _ hle p64 cap64 hc64 b9)))))
 have st5_5_24 : ∀ (SS : Stone) (hle : Stone.le S14 SS) (p64 : Addr) (cap64 : Nat) (hc64 : SS.cell (p64.add (pickN e.K 2 * 1)) = some (.string (nm (pickN e.K 2)))), G Pl5_5_24 [(0, .pointer (some ⟨sb, 0, none⟩)), (3, .pointer (some ⟨b3, 0, none⟩)), (5, .func (.func 8) #[] #[]), (6, .string (ky (eK e))), (7, i64 (pickN e.P bs.length)), (8, i64 (eP e)), (42, u64 b0.epoch), (44, u64 (eP e)), (58, u64 (1 + pickN e.M (nx (eP e) + 1))), (59, .string (ky (eK e))), (62, .int .u8 ((eVal e : Nat) : Int)), (70, .string (nm (pickN e.K 2))), (75, u64 (pickN e.N 12)), (80, i64 (1 + pickN e.M 9)), (81, .func (.func 8) #[] #[]), (83, .int .i64 e.N)] [.blk b3 (.cells e.cells.toArray 46 (0, 0)), .blk sb (.cells [.slice (some ⟨gL, 0, none⟩) bs.length cl, .slice (some ⟨gB, 0, none⟩) bs.length cb, u64 (nx 0), u64 (nx 1), u64 (nx 2), u64 (nx 3)].toArray 44 (0, 0)), .row (.slice (some ⟨gL, 0, none⟩) bs.length cl) 30 7 bs.length xs, .row (.slice (some ⟨gB, 0, none⟩) bs.length cb) 40 19 bs.length ys] SS := by
  intro SS hle p64 cap64 hc64
  refine gI ?_
  refine d_alt rfl rfl ?_ ?_
  · refine t_bs1 ap_54 zc_5 rfl rfl rfl rfl rfl (fun b63 => ?_)
    refine t_pub (C := bytC) (l := [eVal e]) pk (fun S' hle => Flat.one (a := eVal e) rfl rfl) rfl (fun S63 le63 hs63 => ?_)
    have hby := Sl.byt hs63
    replace hle := hle.trans le63
    try replace hc64 := le63.cell hc64
    exact d_an hle (t_to (gO (st5_5_4 _ hle b63 hby p64 cap64 hc64)))
  refine d_alt rfl rfl ?_ ?_
  · refine t_callvr' rfl rfl (pick_ok (m := 2) eN1 eN2 (by decide)) en_8 ?_
    exact d_an hle (ey rfl (y_addN (n := 1) (m := pickN e.N 2) rfl rfl om) (ey rfl (y_cvu cv_3_25 rfl om) (t_to (gO (st5_5_22 _ hle p64 cap64 hc64)))))
  refine d_alt rfl rfl ?_ d_stop
  exact tal zc_57 (fun b9 => d_an hle (t_to (gO (st5_5_23 _ hle p64 cap64 hc64 b9))))
 have st5_5_25 : ∀ (SS : Stone) (hle : Stone.le S14 SS) (p64 : Addr) (cap64 : Nat) (hc64 : SS.cell (p64.add (pickN e.K 2 * 1)) = some (.string (nm (pickN e.K 2)))) (b9 : Nat), G Pl5_5_25 [(0, .pointer (some ⟨sb, 0, none⟩)), (3, .pointer (some ⟨b3, 0, none⟩)), (5, .func (.func 8) #[] #[]), (6, .string (ky (eK e))), (7, i64 (pickN e.P bs.length)), (8, i64 (eP e)), (9, .pointer (some ⟨b9, 0, none⟩)), (42, u64 b0.epoch), (44, u64 (eP e)), (58, u64 (1 + pickN e.M (nx (eP e) + 1))), (59, .string (ky (eK e))), (62, .int .u8 ((eVal e : Nat) : Int)), (70, .string (nm (pickN e.K 2))), (75, u64 (pickN e.N 12)), (76, .func (.func 8) #[] #[]), (78, .int .i64 e.M), (81, .func (.func 8) #[] #[]), (83, .int .i64 e.N)] [.blk b9 (.cells ([i64 0, u64 0, u64 0, u64 0, .string { data := { toList := [] } }, .slice none 0 0, u64 0, i64 0, .string { data := { toList := [] } }, u64 0]).toArray 57 (0, 0)), .blk b3 (.cells e.cells.toArray 46 (0, 0)), .blk sb (.cells [.slice (some ⟨gL, 0, none⟩) bs.length cl, .slice (some ⟨gB, 0, none⟩) bs.length cb, u64 (nx 0), u64 (nx 1), u64 (nx 2), u64 (nx 3)].toArray 44 (0, 0)), .row (.slice (some ⟨gL, 0, none⟩) bs.length cl) 30 7 bs.length xs, .row (.slice (some ⟨gB, 0, none⟩) bs.length cb) 40 19 bs.length ys] SS := by
  intro SS hle p64 cap64 hc64 b9
  refine gI ?_
  refine d_alt rfl rfl ?_ ?_
  · refine t_bs1 ap_54 zc_5 rfl rfl rfl rfl rfl (fun b63 => ?_)
    refine t_pub (C := bytC) (l := [eVal e]) pk (fun S' hle => Flat.one (a := eVal e) rfl rfl) rfl (fun S63 le63 hs63 => ?_)
    have hby := Sl.byt hs63
    replace hle := hle.trans le63
    try replace hc64 := le63.cell hc64
    exact d_an hle (t_to (gO (st5_5_5 _ hle b63 hby p64 cap64 hc64 b9)))
  refine d_alt rfl rfl ?_ d_stop
  refine t_callvr' rfl rfl (pick_ok (m := 9) eM1 eM2 (by decide)) en_8 ?_
  exact d_an hle (ey rfl (y_addN (n := 1) (m := pickN e.M 9) rfl rfl om) (t_to (gO (st5_5_23 _ hle p64 cap64 hc64 b9))))
 have st5_5_26 : ∀ (SS : Stone) (hle : Stone.le S14 SS) (p64 : Addr) (cap64 : Nat) (hc64 : SS.cell (p64.add (pickN e.K 2 * 1)) = some (.string (nm (pickN e.K 2)))), G Pl5_5_26 [(0, .pointer (some ⟨sb, 0, none⟩)), (3, .pointer (some ⟨b3, 0, none⟩)), (5, .func (.func 8) #[] #[]), (6, .string (ky (eK e))), (7, i64 (pickN e.P bs.length)), (8, i64 (eP e)), (42, u64 b0.epoch), (44, u64 (eP e)), (58, u64 (1 + pickN e.M (nx (eP e) + 1))), (59, .string (ky (eK e))), (62, .int .u8 ((eVal e : Nat) : Int)), (70, .string (nm (pickN e.K 2))), (75, u64 (pickN e.N 12)), (76, .func (.func 8) #[] #[]), (78, .int .i64 e.M), (81, .func (.func 8) #[] #[]), (83, .int .i64 e.N)] [.blk b3 (.cells e.cells.toArray 46 (0, 0)), .blk sb (.cells [.slice (some ⟨gL, 0, none⟩) bs.length cl, .slice (some ⟨gB, 0, none⟩) bs.length cb, u64 (nx 0), u64 (nx 1), u64 (nx 2), u64 (nx 3)].toArray 44 (0, 0)), .row (.slice (some ⟨gL, 0, none⟩) bs.length cl) 30 7 bs.length xs, .row (.slice (some ⟨gB, 0, none⟩) bs.length cb) 40 19 bs.length ys] SS := by
  intro SS hle p64 cap64 hc64
  refine gI ?_
  refine d_alt rfl rfl ?_ ?_
  · refine t_bs1 ap_54 zc_5 rfl rfl rfl rfl rfl (fun b63 => ?_)
    refine t_pub (C := bytC) (l := [eVal e]) pk (fun S' hle => Flat.one (a := eVal e) rfl rfl) rfl (fun S63 le63 hs63 => ?_)
    have hby := Sl.byt hs63
    replace hle := hle.trans le63
    try replace hc64 := le63.cell hc64
    exact d_an hle (t_to (gO (st5_5_6 _ hle b63 hby p64 cap64 hc64)))
  refine d_alt rfl rfl ?_ ?_
  · refine t_callvr' rfl rfl (pick_ok (m := 9) eM1 eM2 (by decide)) en_8 ?_
    exact d_an hle (ey rfl (y_addN (n := 1) (m := pickN e.M 9) rfl rfl om) (t_to (gO (st5_5_24 _ hle p64 cap64 hc64))))
  refine d_alt rfl rfl ?_ d_stop
  exact tal zc_57 (fun b9 => d_an hle (t_to (gO (st5_5_25 _ hle p64 cap64 hc64 b9))))
 have st5_5_27 : ∀ (SS : Stone) (hle : Stone.le S14 SS) (p64 : Addr) (cap64 : Nat) (hc64 : SS.cell (p64.add (pickN e.K 2 * 1)) = some (.string (nm (pickN e.K 2)))) (b9 : Nat), G Pl5_5_27 [(0, .pointer (some ⟨sb, 0, none⟩)), (3, .pointer (some ⟨b3, 0, none⟩)), (5, .func (.func 8) #[] #[]), (6, .string (ky (eK e))), (7, i64 (pickN e.P bs.length)), (8, i64 (eP e)), (9, .pointer (some ⟨b9, 0, none⟩)), (42, u64 b0.epoch), (44, u64 (eP e)), (58, u64 (1 + pickN e.M (nx (eP e) + 1))), (59, .string (ky (eK e))), (62, .int .u8 ((eVal e : Nat) : Int)), (70, .string (nm (pickN e.K 2))), (71, .func (.func 8) #[] #[]), (73, .int .i64 e.N), (76, .func (.func 8) #[] #[]), (78, .int .i64 e.M), (81, .func (.func 8) #[] #[]), (83, .int .i64 e.N)] [.blk b9 (.cells ([i64 0, u64 0, u64 0, u64 0, .string { data := { toList := [] } }, .slice none 0 0, u64 0, i64 0, .string { data := { toList := [] } }, u64 0]).toArray 57 (0, 0)), .blk b3 (.cells e.cells.toArray 46 (0, 0)), .blk sb (.cells [.slice (some ⟨gL, 0, none⟩) bs.length cl, .slice (some ⟨gB, 0, none⟩) bs.length cb, u64 (nx 0), u64 (nx 1), u64 (nx 2), u64 (nx 3)].toArray 44 (0, 0)), .row (.slice (some ⟨gL, 0, none⟩) bs.length cl) 30 7 bs.length xs, .row (.slice (some ⟨gB, 0, none⟩) bs.length cb) 40 19 bs.length ys] SS := by
  intro SS hle p64 cap64 hc64 b9
  refine gI ?_
  refine d_alt rfl rfl ?_ ?_
  · refine t_bs1 ap_54 zc_5 rfl rfl rfl rfl rfl (fun b63 => ?_)
    refine t_pub (C := bytC) (l := [eVal e]) pk (fun S' hle => Flat.one (a := eVal e) rfl rfl) rfl (fun S63 le63 hs63 => ?_)
    have hby := Sl.byt hs63
    replace hle := hle.trans le63
    try replace hc64 := le63.cell hc64
    exact d_an hle (t_to (gO (st5_5_7 _ hle b63 hby p64 cap64 hc64 b9)))
  refine d_alt rfl rfl ?_ d_stop
  refine t_callvr' rfl rfl (pick_ok (m := 12) eN1 eN2 (by decide)) en_8 ?_
  exact d_an hle (ey rfl (y_cvu cv_3_25 rfl om) (t_to (gO (st5_5_25 _ hle p64 cap64 hc64 b9))))
 have st5_5_28 : ∀ (SS : Stone) (hle : Stone.le S14 SS) (p64 : Addr) (cap64 : Nat) (hc64 : SS.cell (p64.add (pickN e.K 2 * 1)) = some (.string (nm (pickN e.K 2)))), G Pl5_5_28 [(0, .pointer (some ⟨sb, 0, none⟩)), (3, .pointer (some ⟨b3, 0, none⟩)), (5, .func (.func 8) #[] #[]), (6, .string (ky (eK e))), (7, i64 (pickN e.P bs.length)), (8, i64 (eP e)), (42, u64 b0.epoch), (44, u64 (eP e)), (58, u64 (1 + pickN e.M (nx (eP e) + 1))), (59, .string (ky (eK e))), (62, .int .u8 ((eVal e : Nat) : Int)), (70, .string (nm (pickN e.K 2))), (71, .func (.func 8) #[] #[]), (73, .int .i64 e.N), (76, .func (.func 8) #[] #[]), (78, .int .i64 e.M), (81, .func (.func 8) #[] #[]), (83, .int .i64 e.N)] [.blk b3 (.cells e.cells.toArray 46 (0, 0)), .blk sb (.cells [.slice (some ⟨gL, 0, none⟩) bs.length cl, .slice (some ⟨gB, 0, none⟩) bs.length cb, u64 (nx 0), u64 (nx 1), u64 (nx 2), u64 (nx 3)].toArray 44 (0, 0)), .row (.slice (some ⟨gL, 0, none⟩) bs.length cl) 30 7 bs.length xs, .row (.slice (some ⟨gB, 0, none⟩) bs.length cb) 40 19 bs.length ys] SS := by
  intro SS hle p64 cap64 hc64
  refine gI ?_
  refine d_alt rfl rfl ?_ ?_
  · refine t_bs1 ap_54 zc_5 rfl rfl rfl rfl rfl (fun b63 => ?_)
    refine t_pub (C := bytC) (l := [eVal e]) pk (fun S' hle => Flat.one (a := eVal e) rfl rfl) rfl (fun S63 le63 hs63 => ?_)
    have hby := Sl.byt hs63
    replace hle := hle.trans le63
    try replace hc64 := le63.cell hc64
    exact d_an hle (t_to (gO (st5_5_8 _ hle b63 hby p64 cap64 hc64)))
  refine d_alt rfl rfl ?_ ?_
  · refine t_callvr' rfl rfl (pick_ok (m := 12) eN1 eN2 (by decide)) en_8 ?_
    exact d_an hle (ey rfl (y_cvu cv_3_25 rfl om) (t_to (gO (st5_5_26 _ hle p64 cap64 hc64))))
  refine d_alt rfl rfl ?_ d_stop
  exact tal zc_57 (fun b9 => d_an hle (t_to (gO (st5_5_27 _ hle p64 cap64 hc64 b9))))
 have st5_5_29 : ∀ (SS : Stone) (hle : Stone.le S14 SS) (p64 : Addr) (cap64 : Nat) (hc64 : SS.cell (p64.add (pickN e.K 2 * 1)) = some (.string (nm (pickN e.K 2)))) (b9 : Nat), G Pl5_5_29 [(0, .pointer (some ⟨sb, 0, none⟩)), (3, .pointer (some ⟨b3, 0, none⟩)), (5, .func (.func 8) #[] #[]), (6, .string (ky (eK e))), (7, i64 (pickN e.P bs.length)), (8, i64 (eP e)), (9, .pointer (some ⟨b9, 0, none⟩)), (42, u64 b0.epoch), (44, u64 (eP e)), (58, u64 (1 + pickN e.M (nx (eP e) + 1))), (59, .string (ky (eK e))), (62, .int .u8 ((eVal e : Nat) : Int)), (69, .pointer (some (p64.add (pickN e.K 2 * 1)))), (75, u64 (pickN e.N 12)), (80, i64 (1 + pickN e.M 9)), (86, u64 (1 + pickN e.N 2))] [.blk b9 (.cells ([i64 0, u64 0, u64 0, u64 0, .string { data := { toList := [] } }, .slice none 0 0, u64 0, i64 0, .string { data := { toList := [] } }, u64 0]).toArray 57 (0, 0)), .blk b3 (.cells e.cells.toArray 46 (0, 0)), .blk sb (.cells [.slice (some ⟨gL, 0, none⟩) bs.length cl, .slice (some ⟨gB, 0, none⟩) bs.length cb, u64 (nx 0), u64 (nx 1), u64 (nx 2), u64 (nx 3)].toArray 44 (0, 0)), .row (.slice (some ⟨gL, 0, none⟩) bs.length cl) 30 7 bs.length xs, .row (.slice (some ⟨gB, 0, none⟩) bs.length cb) 40 19 bs.length ys] SS := by
  intro SS hle p64 cap64 hc64 b9
  refine gI ?_
  refine d_alt rfl rfl ?_ ?_
  · refine t_bs1 ap_54 zc_5 rfl rfl rfl rfl rfl (fun b63 => ?_)
    refine t_pub (C := bytC) (l := [eVal e]) pk (fun S' hle => Flat.one (a := eVal e) rfl rfl) rfl (fun S63 le63 hs63 => ?_)
    have hby := Sl.byt hs63
    replace hle := hle.trans le63
    try replace hc64 := le63.cell hc64
    exact d_an hle (t_to (gO (st5_5_9 _ hle b63 hby p64 cap64 hc64 b9)))
  refine d_alt rfl rfl ?_ d_stop
  refine t_ld (ld_st ld_9 rfl hc64) rfl (lt_n rfl) ?_
  exact d_an hle (t_to (gO (st5_5_21 _ hle p64 cap64 hc64 b9)))
 have st5_5_30 : ∀ (SS : Stone) (hle : Stone.le S14 SS) (p64 : Addr) (cap64 : Nat) (hc64 : SS.cell (p64.add (pickN e.K 2 * 1)) = some (.string (nm (pickN e.K 2)))), G Pl5_5_30 [(0, .pointer (some ⟨sb, 0, none⟩)), (3, .pointer (some ⟨b3, 0, none⟩)), (5, .func (.func 8) #[] #[]), (6, .string (ky (eK e))), (7, i64 (pickN e.P bs.length)), (8, i64 (eP e)), (42, u64 b0.epoch), (44, u64 (eP e)), (58, u64 (1 + pickN e.M (nx (eP e) + 1))), (59, .string (ky (eK e))), (62, .int .u8 ((eVal e : Nat) : Int)), (69, .pointer (some (p64.add (pickN e.K 2 * 1)))), (75, u64 (pickN e.N 12)), (80, i64 (1 + pickN e.M 9)), (86, u64 (1 + pickN e.N 2))] [.blk b3 (.cells e.cells.toArray 46 (0, 0)), .blk sb (.cells [.slice (some ⟨gL, 0, none⟩) bs.length cl, .slice (some ⟨gB, 0, none⟩) bs.length cb, u64 (nx 0), u64 (nx 1), u64 (nx 2), u64 (nx 3)].toArray 44 (0, 0)), .row (.slice (some ⟨gL, 0, none⟩) bs.length cl) 30 7 bs.length xs, .row (.slice (some ⟨gB, 0, none⟩) bs.length cb) 40 19 bs.length ys] SS := by
  intro SS hle p64 cap64 hc64
  refine gI ?_
  refine d_alt rfl rfl ?_ ?_
  · refine t_bs1 ap_54 zc_5 rfl rfl rfl rfl rfl (fun b63 => ?_)
    refine t_pub (C := bytC) (l := [eVal e]) pk (fun S' hle => Flat.one (a := eVal e) rfl rfl) rfl (fun S63 le63 hs63 => ?_)
    have hby := Sl.byt hs63
    replace hle := hle.trans le63
    try replace hc64 := le63.cell hc64
    exact d_an hle (t_to (gO (st5_5_10 _ hle b63 hby p64 cap64 hc64)))
  refine d_alt rfl rfl ?_ ?_
  · refine t_ld (ld_st ld_9 rfl hc64) rfl (lt_n rfl) ?_
    exact d_an hle (t_to (gO (st5_5_22 _ hle p64 cap64 hc64)))
  refine d_alt rfl rfl ?_ d_stop
  exact tal zc_57 (fun b9 => d_an hle (t_to (gO (st5_5_29 _ hle p64 cap64 hc64 b9))))
 have st5_5_31 : ∀ (SS : Stone) (hle : Stone.le S14 SS) (p64 : Addr) (cap64 : Nat) (hc64 : SS.cell (p64.add (pickN e.K 2 * 1)) = some (.string (nm (pickN e.K 2)))) (b9 : Nat), G Pl5_5_31 [(0, .pointer (some ⟨sb, 0, none⟩)), (3, .pointer (some ⟨b3, 0, none⟩)), (5, .func (.func 8) #[] #[]), (6, .string (ky (eK e))), (7, i64 (pickN e.P bs.length)), (8, i64 (eP e)), (9, .pointer (some ⟨b9, 0, none⟩)), (42, u64 b0.epoch), (44, u64 (eP e)), (58, u64 (1 + pickN e.M (nx (eP e) + 1))), (59, .string (ky (eK e))), (62, .int .u8 ((eVal e : Nat) : Int)), (69, .pointer (some (p64.add (pickN e.K 2 * 1)))), (75, u64 (pickN e.N 12)), (80, i64 (1 + pickN e.M 9)), (81, .func (.func 8) #[] #[]), (83, .int .i64 e.N)] [.blk b9 (.cells ([i64 0, u64 0, u64 0, u64 0, .string { data := { toList := [] } }, .slice none 0 0, u64 0, i64 0, .string { data := { toList := [] } }, u64 0]).toArray 57 (0, 0)), .blk b3 (.cells e.cells.toArray 46 (0, 0)), .blk sb (.cells [.slice (some ⟨gL, 0, none⟩) bs.length cl, .slice (some ⟨gB, 0, none⟩) bs.length cb, u64 (nx 0), u64 (nx 1), u64 (nx 2), u64 (nx 3)].toArray 44 (0, 0)), .row (.slice (some ⟨gL, 0, none⟩) bs.length cl) 30 7 bs.length xs, .row (.slice (some ⟨gB, 0, none⟩) bs.length cb) 40 19 bs.length ys] SS := by
  intro SS hle p64 cap64 hc64 b9
  refine gI ?_
  refine d_alt rfl rfl ?_ ?_
  · refine t_bs1 ap_54 zc_5 rfl rfl rfl rfl rfl (fun b63 => ?_)
    refine t_pub (C := bytC) (l := [eVal e]) pk (fun S' hle => Flat.one (a := eVal e) rfl rfl) rfl (fun S63 le63 hs63 => ?_)
    have hby := Sl.byt hs63
    replace hle := hle.trans le63
    try replace hc64 := le63.cell hc64
    exact d_an hle (t_to (gO (st5_5_11 _ hle b63 hby p64 cap64 hc64 b9)))
  refine d_alt rfl rfl ?_ ?_
  · refine t_ld (ld_st ld_9 rfl hc64) rfl (lt_n rfl) ?_
    exact d_an hle (t_to (gO (st5_5_23 _ hle p64 cap64 hc64 b9)))
  refine d_alt rfl rfl ?_ d_stop
  refine t_callvr' rfl rfl (pick_ok (m := 2) eN1 eN2 (by decide)) en_8 ?_
  exact d_an hle (ey rfl (y_addN (n := 1) (m := pickN e.N 2) rfl rfl om) (ey rfl (y_cvu cv_3_25 rfl om) (t_to (gO (st5_5_29 _ hle p64 cap64 hc64 b9)))))
 have st5_5_32 : ∀ (SS : Stone) (hle : Stone.le S14 SS) (p64 : Addr) (cap64 : Nat) (hc64 : SS.cell (p64.add (pickN e.K 2 * 1)) = some (.string (nm (pickN e.K 2)))), G Pl5_5_32 [(0, .pointer (some ⟨sb, 0, none⟩)), (3, .pointer (some ⟨b3, 0, none⟩)), (5, .func (.func 8) #[] #[]), (6, .string (ky (eK e))), (7, i64 (pickN e.P bs.length)), (8, i64 (eP e)), (42, u64 b0.epoch), (44, u64 (eP e)), (58, u64 (1 + pickN e.M (nx (eP e) + 1))), (59, .string (ky (eK e))), (62, .int .u8 ((eVal e : Nat) : Int)), (69, .pointer (some (p64.add (pickN e.K 2 * 1)))), (75, u64 (pickN e.N 12)), (80, i64 (1 + pickN e.M 9)), (81, .func (.func 8) #[] #[]), (83, .int .i64 e.N)] [.blk b3 (.cells e.cells.toArray 46 (0, 0)), .blk sb (.cells [.slice (some ⟨gL, 0, none⟩) bs.length cl, .slice (some ⟨gB, 0, none⟩) bs.length cb, u64 (nx 0), u64 (nx 1), u64 (nx 2), u64 (nx 3)].toArray 44 (0, 0)), .row (.slice (some ⟨gL, 0, none⟩) bs.length cl) 30 7 bs.length xs, .row (.slice (some ⟨gB, 0, none⟩) bs.length cb) 40 19 bs.length ys] SS := by
  intro SS hle p64 cap64 hc64
  refine gI ?_
  refine d_alt rfl rfl ?_ ?_
  · refine t_bs1 ap_54 zc_5 rfl rfl rfl rfl rfl (fun b63 => ?_)
    refine t_pub (C := bytC) (l := [eVal e]) pk (fun S' hle => Flat.one (a := eVal e) rfl rfl) rfl (fun S63 le63 hs63 => ?_)
    have hby := Sl.byt hs63
    replace hle := hle.trans le63
    try replace hc64 := le63.cell hc64
    exact d_an hle (t_to (gO (st5_5_12 _ hle b63 hby p64 cap64 hc64)))
  refine d_alt rfl rfl ?_ ?_
  · refine t_ld (ld_st ld_9 rfl hc64) rfl (lt_n rfl) ?_
    exact d_an hle (t_to (gO (st5_5_24 _ hle p64 cap64 hc64)))
  refine d_alt rfl rfl ?_ ?_
  · refine t_callvr' rfl rfl (pick_ok (m := 2) eN1 eN2 (by decide)) en_8 ?_
    exact d_an hle (ey rfl (y_addN (n := 1) (m := pickN e.N 2) rfl rfl om) (ey rfl (y_cvu cv_3_25 rfl om) (t_to (gO (st5_5_30 _ hle p64 cap64 hc64)))))
  refine d_alt rfl rfl ?_ d_stop
  exact tal zc_57 (fun b9 => d_an hle (t_to (gO (st5_5_31 _ hle p64 cap64 hc64 b9))))
 have st5_5_33 : ∀ (SS : Stone) (hle : Stone.le S14 SS) (p64 : Addr) (cap64 : Nat) (hc64 : SS.cell (p64.add (pickN e.K 2 * 1)) = some (.string (nm (pickN e.K 2)))) (b9 : Nat), G Pl5_5_33 [(0, .pointer (some ⟨sb, 0, none⟩)), (3, .pointer (some ⟨b3, 0, none⟩)), (5, .func (.func 8) #[] #[]), (6, .string (ky (eK e))), (7, i64 (pickN e.P bs.length)), (8, i64 (eP e)), (9, .pointer (some ⟨b9, 0, none⟩)), (42, u64 b0.epoch), (44, u64 (eP e)), (58, u64 (1 + pickN e.M (nx (eP e) + 1))), (59, .string (ky (eK e))), (62, .int .u8 ((eVal e : Nat) : Int)), (69, .pointer (some (p64.add (pickN e.K 2 * 1)))), (75, u64 (pickN e.N 12)), (76, .func (.func 8) #[] #[]), (78, .int .i64 e.M), (81, .func (.func 8) #[] #[]), (83, .int .i64 e.N)] [.blk b9 (.cells ([i64 0, u64 0, u64 0, u64 0, .string { data := { toList := [] } }, .slice none 0 0, u64 0, i64 0, .string { data := { toList := [] } }, u64 0]).toArray 57 (0, 0)), .blk b3 (.cells e.cells.toArray 46 (0, 0)), .blk sb (.cells [.slice (some ⟨gL, 0, none⟩) bs.length cl, .slice (some ⟨gB, 0, none⟩) bs.length cb, u64 (nx 0), u64 (nx 1), u64 (nx 2), u64 (nx 3)].toArray 44 (0, 0)), .row (.slice (some ⟨gL, 0, none⟩) bs.length cl) 30 7 bs.length xs, .row (.slice (some ⟨gB, 0, none⟩) bs.length cb) 40 19 bs.length ys] SS := by
  intro SS hle p64 cap64 hc64 b9
  refine gI ?_
  refine d_alt rfl rfl ?_ ?_
  · refine t_bs1 ap_54 zc_5 rfl rfl rfl rfl rfl (fun b63 => ?_)
    refine t_pub (C := bytC) (l := [eVal e]) pk (fun S' hle => Flat.one (a := eVal e) rfl rfl) rfl (fun S63 le63 hs63 => ?_)
    have hby := Sl.byt hs63
    replace hle := hle.trans le63
    try replace hc64 := le63.cell hc64
    exact d_an hle (t_to (gO (st5_5_13 _ hle b63 hby p64 cap64 hc64 b9)))
  refine d_alt rfl rfl ?_ ?_
  · refine t_ld (ld_st ld_9 rfl hc64) rfl (lt_n rfl) ?_
    exact d_an hle (t_to (gO (st5_5_25 _ hle p64 cap64 hc64 b9)))
  refine d_alt rfl rfl ?_ d_stop
  refine t_callvr' rfl rfl (pick_ok (m := 9) eM1 eM2 (by decide)) en_8 ?_
  exact d_an hle (ey rfl (y_addN (n := 1) (m := pickN e.M 9) rfl rfl om) (t_to (gO (st5_5_31 _ hle p64 cap64 hc64 b9))))
 have st5_5_34 : ∀ (SS : Stone) (hle : Stone.le S14 SS) (p64 : Addr) (cap64 : Nat) (hc64 : SS.cell (p64.add (pickN e.K 2 * 1)) = some (.string (nm (pickN e.K 2)))), G Pl5_5_34 [(0, .pointer (some ⟨sb, 0, none⟩)), (3, .pointer (some ⟨b3, 0, none⟩)), (5, .func (.func 8) #[] #[]), (6, .string (ky (eK e))), (7, i64 (pickN e.P bs.length)), (8, i64 (eP e)), (42, u64 b0.epoch), (44, u64 (eP e)), (58, u64 (1 + pickN e.M (nx (eP e) + 1))), (59, .string (ky (eK e))), (62, .int .u8 ((eVal e : Nat) : Int)), (69, .pointer (some (p64.add (pickN e.K 2 * 1)))), (75, u64 (pickN e.N 12)), (76, .func (.func 8) #[] #[]), (78, .int .i64 e.M), (81, .func (.func 8) #[] #[]), (83, .int .i64 e.N)] [.blk b3 (.cells e.cells.toArray 46 (0, 0)), .blk sb (.cells [.slice (some ⟨gL, 0, none⟩) bs.length cl, .slice (some ⟨gB, 0, none⟩) bs.length cb, u64 (nx 0), u64 (nx 1), u64 (nx 2), u64 (nx 3)].toArray 44 (0, 0)), .row (.slice (some ⟨gL, 0, none⟩) bs.length cl) 30 7 bs.length xs, .row (.slice (some ⟨gB, 0, none⟩) bs.length cb) 40 19 bs.length ys] SS := by
  intro SS hle p64 cap64 hc64
  refine gI ?_
  refine d_alt rfl rfl ?_ ?_
  · refine t_bs1 ap_54 zc_5 rfl rfl rfl rfl rfl (fun b63 => ?_)
    refine t_pub (C := bytC) (l := [eVal e]) pk (fun S' hle => Flat.one (a := eVal e) rfl rfl) rfl (fun S63 le63 hs63 => ?_)
    have hby := Sl.byt hs63
    replace hle := hle.trans le63
    try replace hc64 := le63.cell hc64
    exact d_an hle (t_to (gO (st5_5_14 _ hle b63 hby p64 cap64 hc64)))
  refine d_alt rfl rfl ?_ ?_
  · refine t_ld (ld_st ld_9 rfl hc64) rfl (lt_n rfl) ?_
    exact d_an hle (t_to (gO (st5_5_26 _ hle p64 cap64 hc64)))
  refine d_alt rfl rfl ?_ ?_
  · refine t_callvr' rfl rfl (pick_ok (m := 9) eM1 eM2 (by decide)) en_8 ?_
    exact d_an hle (ey rfl (y_addN (n := 1) (m := pickN e.M 9) rfl rfl om) (t_to (gO (st5_5_32 _ hle p64 cap64 hc64))))
  refine d_alt rfl rfl ?_ d_stop
  exact tal zc_57 (fun b9 => d_an hle (t_to (gO (st5_5_33 _ hle p64 cap64 hc64 b9))))
 have st5_5_35 : ∀ (SS : Stone) (hle : Stone.le S14 SS) (p64 : Addr) (cap64 : Nat) (hc64 : SS.cell (p64.add (pickN e.K 2 * 1)) = some (.string (nm (pickN e.K 2)))) (b9 : Nat), G Pl5_5_35 [(0, .pointer (some ⟨sb, 0, none⟩)), (3, .pointer (some ⟨b3, 0, none⟩)), (5, .func (.func 8) #[] #[]), (6, .string (ky (eK e))), (7, i64 (pickN e.P bs.length)), (8, i64 (eP e)), (9, .pointer (some ⟨b9, 0, none⟩)), (42, u64 b0.epoch), (44, u64 (eP e)), (58, u64 (1 + pickN e.M (nx (eP e) + 1))), (59, .string (ky (eK e))), (62, .int .u8 ((eVal e : Nat) : Int)), (69, .pointer (some (p64.add (pickN e.K 2 * 1)))), (71, .func (.func 8) #[] #[]), (73, .int .i64 e.N), (76, .func (.func 8) #[] #[]), (78, .int .i64 e.M), (81, .func (.func 8) #[] #[]), (83, .int .i64 e.N)] [.blk b9 (.cells ([i64 0, u64 0, u64 0, u64 0, .string { data := { toList := [] } }, .slice none 0 0, u64 0, i64 0, .string { data := { toList := [] } }, u64 0]).toArray 57 (0, 0)), .blk b3 (.cells e.cells.toArray 46 (0, 0)), .blk sb (.cells [.slice (some ⟨gL, 0, none⟩) bs.length cl, .slice (some ⟨gB, 0, none⟩) bs.length cb, u64 (nx 0), u64 (nx 1), u64 (nx 2), u64 (nx 3)].toArray 44 (0, 0)), .row (.slice (some ⟨gL, 0, none⟩) bs.length cl) 30 7 bs.length xs, .row (.slice (some ⟨gB, 0, none⟩) bs.length cb) 40 19 bs.length ys] SS := by
  intro SS hle p64 cap64 hc64 b9
  refine gI ?_
  refine d_alt rfl rfl ?_ ?_
  · refine t_bs1 ap_54 zc_5 rfl rfl rfl rfl rfl (fun b63 => ?_)
    refine t_pub (C := bytC) (l := [eVal e]) pk (fun S' hle => Flat.one (a := eVal e) rfl rfl) rfl (fun S63 le63 hs63 => ?_)
    have hby := Sl.byt hs63
    replace hle := hle.trans le63
    try replace hc64 := le63.cell hc64
    exact d_an hle (t_to (gO (st5_5_15 _ hle b63 hby p64 cap64 hc64 b9)))
  refine d_alt rfl rfl ?_ ?_
  · refine t_ld (ld_st ld_9 rfl hc64) rfl (lt_n rfl) ?_
    exact d_an hle (t_to (gO (st5_5_27 _ hle p64 cap64 hc64 b9)))
  refine d_alt rfl rfl ?_ d_stop
  refine t_callvr' rfl rfl (pick_ok (m := 12) eN1 eN2 (by decide)) en_8 ?_
  exact d_an hle (ey rfl (y_cvu cv_3_25 rfl om) (t_to (gO (st5_5_33 _ hle p64 cap64 hc64 b9))))
 have st5_5_36 : ∀ (SS : Stone) (hle : Stone.le S14 SS) (p64 : Addr) (cap64 : Nat) (hc64 : SS.cell (p64.add (pickN e.K 2 * 1)) = some (.string (nm (pickN e.K 2)))), G Pl5_5_36 [(0, .pointer (some ⟨sb, 0, none⟩)), (3, .pointer (some ⟨b3, 0, none⟩)), (5, .func (.func 8) #[] #[]), (6, .string (ky (eK e))), (7, i64 (pickN e.P bs.length)), (8, i64 (eP e)), (42, u64 b0.epoch), (44, u64 (eP e)), (58, u64 (1 + pickN e.M (nx (eP e) + 1))), (59, .string (ky (eK e))), (62, .int .u8 ((eVal e : Nat) : Int)), (69, .pointer (some (p64.add (pickN e.K 2 * 1)))), (71, .func (.func 8) #[] #[]), (73, .int .i64 e.N), (76, .func (.func 8) #[] #[]), (78, .int .i64 e.M), (81, .func (.func 8) #[] #[]), (83, .int .i64 e.N)] [.blk b3 (.cells e.cells.toArray 46 (0, 0)), .blk sb (.cells [.slice (some ⟨gL, 0, none⟩) bs.length cl, .slice (some ⟨gB, 0, none⟩) bs.length cb, u64 (nx 0), u64 (nx 1), u64 (nx 2), u64 (nx 3)].toArray 44 (0, 0)), .row (.slice (some ⟨gL, 0, none⟩) bs.length cl) 30 7 bs.length xs, .row (.slice (some ⟨gB, 0, none⟩) bs.length cb) 40 19 bs.length ys] SS := by
  intro SS hle p64 cap64 hc64
  refine gI ?_
  refine d_alt rfl rfl ?_ ?_
  · refine t_bs1 ap_54 zc_5 rfl rfl rfl rfl rfl (fun b63 => ?_)
    refine t_pub (C := bytC) (l := [eVal e]) pk (fun S' hle => Flat.one (a := eVal e) rfl rfl) rfl (fun S63 le63 hs63 => ?_)
    have hby := Sl.byt hs63
    replace hle := hle.trans le63
    try replace hc64 := le63.cell hc64
    exact d_an hle (t_to (gO (st5_5_16 _ hle b63 hby p64 cap64 hc64)))
  refine d_alt rfl rfl ?_ ?_
  · refine t_ld (ld_st ld_9 rfl hc64) rfl (lt_n rfl) ?_
    exact d_an hle (t_to (gO (st5_5_28 _ hle p64 cap64 hc64)))
  refine d_alt rfl rfl ?_ ?_
  · refine t_callvr' rfl rfl (pick_ok (m := 12) eN1 eN2 (by decide)) en_8 ?_
    exact d_an hle (ey rfl (y_cvu cv_3_25 rfl om) (t_to (gO (st5_5_34 _ hle p64 cap64 hc64))))
  refine d_alt rfl rfl ?_ d_stop
  exact tal zc_57 (fun b9 => d_an hle (t_to (gO (st5_5_35 _ hle p64 cap64 hc64 b9))))
 have st5_5_37 : ∀ (SS : Stone) (hle : Stone.le S14 SS) (p64 : Addr) (cap64 : Nat) (hc64 : SS.cell (p64.add (pickN e.K 2 * 1)) = some (.string (nm (pickN e.K 2)))) (b9 : Nat), G Pl5_5_37 [(0, .pointer (some ⟨sb, 0, none⟩)), (3, .pointer (some ⟨b3, 0, none⟩)), (5, .func (.func 8) #[] #[]), (6, .string (ky (eK e))), (7, i64 (pickN e.P bs.length)), (8, i64 (eP e)), (9, .pointer (some ⟨b9, 0, none⟩)), (42, u64 b0.epoch), (44, u64 (eP e)), (58, u64 (1 + pickN e.M (nx (eP e) + 1))), (59, .string (ky (eK e))), (62, .int .u8 ((eVal e : Nat) : Int)), (64, .slice (some p64) 2 cap64), (65, .func (.func 8) #[] #[]), (67, .int .i64 e.K), (71, .func (.func 8) #[] #[]), (73, .int .i64 e.N), (76, .func (.func 8) #[] #[]), (78, .int .i64 e.M), (81, .func (.func 8) #[] #[]), (83, .int .i64 e.N)] [.blk b9 (.cells ([i64 0, u64 0, u64 0, u64 0, .string { data := { toList := [] } }, .slice none 0 0, u64 0, i64 0, .string { data := { toList := [] } }, u64 0]).toArray 57 (0, 0)), .blk b3 (.cells e.cells.toArray 46 (0, 0)), .blk sb (.cells [.slice (some ⟨gL, 0, none⟩) bs.length cl, .slice (some ⟨gB, 0, none⟩) bs.length cb, u64 (nx 0), u64 (nx 1), u64 (nx 2), u64 (nx 3)].toArray 44 (0, 0)), .row (.slice (some ⟨gL, 0, none⟩) bs.length cl) 30 7 bs.length xs, .row (.slice (some ⟨gB, 0, none⟩) bs.length cb) 40 19 bs.length ys] SS := by
  intro SS hle p64 cap64 hc64 b9
  refine gI ?_
  refine d_alt rfl rfl ?_ ?_
  · refine t_bs1 ap_54 zc_5 rfl rfl rfl rfl rfl (fun b63 => ?_)
    refine t_pub (C := bytC) (l := [eVal e]) pk (fun S' hle => Flat.one (a := eVal e) rfl rfl) rfl (fun S63 le63 hs63 => ?_)
    have hby := Sl.byt hs63
    replace hle := hle.trans le63
    try replace hc64 := le63.cell hc64
    exact d_an hle (t_to (gO (st5_5_17 _ hle b63 hby p64 cap64 hc64 b9)))
  refine d_alt rfl rfl ?_ d_stop
  refine t_callvr' rfl rfl (pick_ok (m := 2) eK1 eK2 (by decide)) en_8 ?_
  exact d_an hle (ey rfl (y_iaN (i := pickN e.K 2) sl_52 rfl rfl hk2) (t_to (gO (st5_5_35 _ hle p64 cap64 hc64 b9))))
 have st5_5_38 : ∀ (SS : Stone) (hle : Stone.le S14 SS) (p64 : Addr) (cap64 : Nat) (hc64 : SS.cell (p64.add (pickN e.K 2 * 1)) = some (.string (nm (pickN e.K 2)))), G Pl5_5_38 [(0, .pointer (some ⟨sb, 0, none⟩)), (3, .pointer (some ⟨b3, 0, none⟩)), (5, .func (.func 8) #[] #[]), (6, .string (ky (eK e))), (7, i64 (pickN e.P bs.length)), (8, i64 (eP e)), (42, u64 b0.epoch), (44, u64 (eP e)), (58, u64 (1 + pickN e.M (nx (eP e) + 1))), (59, .string (ky (eK e))), (62, .int .u8 ((eVal e : Nat) : Int)), (64, .slice (some p64) 2 cap64), (65, .func (.func 8) #[] #[]), (67, .int .i64 e.K), (71, .func (.func 8) #[] #[]), (73, .int .i64 e.N), (76, .func (.func 8) #[] #[]), (78, .int .i64 e.M), (81, .func (.func 8) #[] #[]), (83, .int .i64 e.N)] [.blk b3 (.cells e.cells.toArray 46 (0, 0)), .blk sb (.cells [.slice (some ⟨gL, 0, none⟩) bs.length cl, .slice (some ⟨gB, 0, none⟩) bs.length cb, u64 (nx 0), u64 (nx 1), u64 (nx 2), u64 (nx 3)].toArray 44 (0, 0)), .row (.slice (some ⟨gL, 0, none⟩) bs.length cl) 30 7 bs.length xs, .row (.slice (some ⟨gB, 0, none⟩) bs.length cb) 40 19 bs.length ys] SS := by
  intro SS hle p64 cap64 hc64
  refine gI ?_
  refine d_alt rfl rfl ?_ ?_
  · refine t_bs1 ap_54 zc_5 rfl rfl rfl rfl rfl (fun b63 => ?_)
    refine t_pub (C := bytC) (l := [eVal e]) pk (fun S' hle => Flat.one (a := eVal e) rfl rfl) rfl (fun S63 le63 hs63 => ?_)
    have hby := Sl.byt hs63
    replace hle := hle.trans le63
    try replace hc64 := le63.cell hc64
    exact d_an hle (t_to (gO (st5_5_18 _ hle b63 hby p64 cap64 hc64)))
  refine d_alt rfl rfl ?_ ?_
  · refine t_callvr' rfl rfl (pick_ok (m := 2) eK1 eK2 (by decide)) en_8 ?_
    exact d_an hle (ey rfl (y_iaN (i := pickN e.K 2) sl_52 rfl rfl hk2) (t_to (gO (st5_5_36 _ hle p64 cap64 hc64))))
  refine d_alt rfl rfl ?_ d_stop
  exact tal zc_57 (fun b9 => d_an hle (t_to (gO (st5_5_37 _ hle p64 cap64 hc64 b9))))
 have st5_5_39 : ∀ (SS : Stone) (hle : Stone.le S14 SS) (b9 : Nat), G Pl5_5_39 [(0, .pointer (some ⟨sb, 0, none⟩)), (3, .pointer (some ⟨b3, 0, none⟩)), (5, .func (.func 8) #[] #[]), (6, .string (ky (eK e))), (7, i64 (pickN e.P bs.length)), (8, i64 (eP e)), (9, .pointer (some ⟨b9, 0, none⟩)), (42, u64 b0.epoch), (44, u64 (eP e)), (58, u64 (1 + pickN e.M (nx (eP e) + 1))), (59, .string (ky (eK e))), (62, .int .u8 ((eVal e : Nat) : Int)), (65, .func (.func 8) #[] #[]), (67, .int .i64 e.K), (71, .func (.func 8) #[] #[]), (73, .int .i64 e.N), (76, .func (.func 8) #[] #[]), (78, .int .i64 e.M), (81, .func (.func 8) #[] #[]), (83, .int .i64 e.N)] [.blk b9 (.cells ([i64 0, u64 0, u64 0, u64 0, .string { data := { toList := [] } }, .slice none 0 0, u64 0, i64 0, .string { data := { toList := [] } }, u64 0]).toArray 57 (0, 0)), .blk b3 (.cells e.cells.toArray 46 (0, 0)), .blk sb (.cells [.slice (some ⟨gL, 0, none⟩) bs.length cl, .slice (some ⟨gB, 0, none⟩) bs.length cb, u64 (nx 0), u64 (nx 1), u64 (nx 2), u64 (nx 3)].toArray 44 (0, 0)), .row (.slice (some ⟨gL, 0, none⟩) bs.length cl) 30 7 bs.length xs, .row (.slice (some ⟨gB, 0, none⟩) bs.length cb) 40 19 bs.length ys] SS := by
  intro SS hle b9
  refine gI ?_
  refine d_alt rfl rfl ?_ ?_
  · refine t_bs1 ap_54 zc_5 rfl rfl rfl rfl rfl (fun b63 => ?_)
    refine t_pub (C := bytC) (l := [eVal e]) pk (fun S' hle => Flat.one (a := eVal e) rfl rfl) rfl (fun S63 le63 hs63 => ?_)
    have hby := Sl.byt hs63
    replace hle := hle.trans le63
    try replace hc64 := le63.cell hc64
    exact d_an hle (t_to (gO (st5_5_19 _ hle b63 hby b9)))
  refine d_alt rfl rfl ?_ d_stop
  refine t_callR rfl (names_ok) en_10 ?_
  rintro v64 S64 le64 h64
  obtain ⟨A64, cap64, rfl, -, -, h64'⟩ := h64
  obtain ⟨p64, cs64, rfl, rfl, -, hcell64⟩ := h64' (pickN e.K 2) (pickN e.K 2) (names_get hk2)
  have hc64 := hcell64 0 _ rfl
  rw [show (p64.add (pickN e.K 2 * 1)).add 0 = p64.add (pickN e.K 2 * 1) by simp [Addr.add]] at hc64
  replace hle := hle.trans le64
  try replace hby := hby.mono le64
  exact d_an hle (t_to (gO (st5_5_37 _ hle p64 cap64 hc64 b9)))
 have st5_5_40 : ∀ (SS : Stone) (hle : Stone.le S14 SS), G Pl5_5_40 [(0, .pointer (some ⟨sb, 0, none⟩)), (3, .pointer (some ⟨b3, 0, none⟩)), (5, .func (.func 8) #[] #[]), (6, .string (ky (eK e))), (7, i64 (pickN e.P bs.length)), (8, i64 (eP e)), (42, u64 b0.epoch), (44, u64 (eP e)), (58, u64 (1 + pickN e.M (nx (eP e) + 1))), (59, .string (ky (eK e))), (62, .int .u8 ((eVal e : Nat) : Int)), (65, .func (.func 8) #[] #[]), (67, .int .i64 e.K), (71, .func (.func 8) #[] #[]), (73, .int .i64 e.N), (76, .func (.func 8) #[] #[]), (78, .int .i64 e.M), (81, .func (.func 8) #[] #[]), (83, .int .i64 e.N)] [.blk b3 (.cells e.cells.toArray 46 (0, 0)), .blk sb (.cells [.slice (some ⟨gL, 0, none⟩) bs.length cl, .slice (some ⟨gB, 0, none⟩) bs.length cb, u64 (nx 0), u64 (nx 1), u64 (nx 2), u64 (nx 3)].toArray 44 (0, 0)), .row (.slice (some ⟨gL, 0, none⟩) bs.length cl) 30 7 bs.length xs, .row (.slice (some ⟨gB, 0, none⟩) bs.length cb) 40 19 bs.length ys] SS := by
  intro SS hle
  refine gI ?_
  refine d_alt rfl rfl ?_ ?_
  · refine t_bs1 ap_54 zc_5 rfl rfl rfl rfl rfl (fun b63 => ?_)
    refine t_pub (C := bytC) (l := [eVal e]) pk (fun S' hle => Flat.one (a := eVal e) rfl rfl) rfl (fun S63 le63 hs63 => ?_)
    have hby := Sl.byt hs63
    replace hle := hle.trans le63
    try replace hc64 := le63.cell hc64
    exact d_an hle (t_to (gO (st5_5_20 _ hle b63 hby)))
  refine d_alt rfl rfl ?_ ?_
  · refine t_callR rfl (names_ok) en_10 ?_
    rintro v64 S64 le64 h64
    obtain ⟨A64, cap64, rfl, -, -, h64'⟩ := h64
    obtain ⟨p64, cs64, rfl, rfl, -, hcell64⟩ := h64' (pickN e.K 2) (pickN e.K 2) (names_get hk2)
    have hc64 := hcell64 0 _ rfl
    rw [show (p64.add (pickN e.K 2 * 1)).add 0 = p64.add (pickN e.K 2 * 1) by simp [Addr.add]] at hc64
    replace hle := hle.trans le64
    try replace hby := hby.mono le64
    exact d_an hle (t_to (gO (st5_5_38 _ hle p64 cap64 hc64)))
  refine d_alt rfl rfl ?_ d_stop
  exact tal zc_57 (fun b9 => d_an hle (t_to (gO (st5_5_39 _ hle b9))))
 have st5_5_41 : ∀ (SS : Stone) (hle : Stone.le S14 SS) (b63 : Nat) (hby : Byt SS (.slice (some ⟨b63, 0, none⟩) 1 1) (eVal e)) (b9 : Nat), G Pl5_5_41 [(0, .pointer (some ⟨sb, 0, none⟩)), (3, .pointer (some ⟨b3, 0, none⟩)), (5, .func (.func 8) #[] #[]), (6, .string (ky (eK e))), (7, i64 (pickN e.P bs.length)), (8, i64 (eP e)), (9, .pointer (some ⟨b9, 0, none⟩)), (42, u64 b0.epoch), (44, u64 (eP e)), (45, .func (.func 8) #[] #[]), (47, .int .i64 e.M), (55, i64 (nx (eP e) + 1)), (59, .string (ky (eK e))), (63, (.slice (some ⟨b63, 0, none⟩) 1 1)), (65, .func (.func 8) #[] #[]), (67, .int .i64 e.K), (71, .func (.func 8) #[] #[]), (73, .int .i64 e.N), (76, .func (.func 8) #[] #[]), (78, .int .i64 e.M), (81, .func (.func 8) #[] #[]), (83, .int .i64 e.N)] [.blk b9 (.cells ([i64 0, u64 0, u64 0, u64 0, .string { data := { toList := [] } }, .slice none 0 0, u64 0, i64 0, .string { data := { toList := [] } }, u64 0]).toArray 57 (0, 0)), .blk b3 (.cells e.cells.toArray 46 (0, 0)), .blk sb (.cells [.slice (some ⟨gL, 0, none⟩) bs.length cl, .slice (some ⟨gB, 0, none⟩) bs.length cb, u64 (nx 0), u64 (nx 1), u64 (nx 2), u64 (nx 3)].toArray 44 (0, 0)), .row (.slice (some ⟨gL, 0, none⟩) bs.length cl) 30 7 bs.length xs, .row (.slice (some ⟨gB, 0, none⟩) bs.length cb) 40 19 bs.length ys] SS := by
  intro SS hle b63 hby b9
  refine gI ?_
  refine da rfl (t_callvr' rfl rfl (pick_ok (m := nx (eP e) + 1) eM1 eM2 om) en_8 ?_)
  exact d_an hle (ey rfl (y_cvu cv_3_25 rfl om) (ey rfl (y_addU (n := 1) (m := pickN e.M (nx (eP e) + 1)) rfl rfl om) (t_to (gO (st5_5_19 _ hle b63 hby b9)))))
 have st5_5_42 : ∀ (SS : Stone) (hle : Stone.le S14 SS) (b63 : Nat) (hby : Byt SS (.slice (some ⟨b63, 0, none⟩) 1 1) (eVal e)), G Pl5_5_42 [(0, .pointer (some ⟨sb, 0, none⟩)), (3, .pointer (some ⟨b3, 0, none⟩)), (5, .func (.func 8) #[] #[]), (6, .string (ky (eK e))), (7, i64 (pickN e.P bs.length)), (8, i64 (eP e)), (42, u64 b0.epoch), (44, u64 (eP e)), (45, .func (.func 8) #[] #[]), (47, .int .i64 e.M), (55, i64 (nx (eP e) + 1)), (59, .string (ky (eK e))), (63, (.slice (some ⟨b63, 0, none⟩) 1 1)), (65, .func (.func 8) #[] #[]), (67, .int .i64 e.K), (71, .func (.func 8) #[] #[]), (73, .int .i64 e.N), (76, .func (.func 8) #[] #[]), (78, .int .i64 e.M), (81, .func (.func 8) #[] #[]), (83, .int .i64 e.N)] [.blk b3 (.cells e.cells.toArray 46 (0, 0)), .blk sb (.cells [.slice (some ⟨gL, 0, none⟩) bs.length cl, .slice (some ⟨gB, 0, none⟩) bs.length cb, u64 (nx 0), u64 (nx 1), u64 (nx 2), u64 (nx 3)].toArray 44 (0, 0)), .row (.slice (some ⟨gL, 0, none⟩) bs.length cl) 30 7 bs.length xs, .row (.slice (some ⟨gB, 0, none⟩) bs.length cb) 40 19 bs.length ys] SS := by
  intro SS hle b63 hby
  refine gI ?_
  refine d_alt rfl rfl ?_ ?_
  · refine t_callvr' rfl rfl (pick_ok (m := nx (eP e) + 1) eM1 eM2 om) en_8 ?_
    exact d_an hle (ey rfl (y_cvu cv_3_25 rfl om) (ey rfl (y_addU (n := 1) (m := pickN e.M (nx (eP e) + 1)) rfl rfl om) (t_to (gO (st5_5_20 _ hle b63 hby)))))
  refine d_alt rfl rfl ?_ d_stop
  exact tal zc_57 (fun b9 => d_an hle (t_to (gO (st5_5_41 _ hle b63 hby b9))))
 have st5_5_43 : ∀ (SS : Stone) (hle : Stone.le S14 SS) (b9 : Nat), G Pl5_5_43 [(0, .pointer (some ⟨sb, 0, none⟩)), (3, .pointer (some ⟨b3, 0, none⟩)), (5, .func (.func 8) #[] #[]), (6, .string (ky (eK e))), (7, i64 (pickN e.P bs.length)), (8, i64 (eP e)), (9, .pointer (some ⟨b9, 0, none⟩)), (42, u64 b0.epoch), (44, u64 (eP e)), (45, .func (.func 8) #[] #[]), (47, .int .i64 e.M), (55, i64 (nx (eP e) + 1)), (59, .string (ky (eK e))), (62, .int .u8 ((eVal e : Nat) : Int)), (65, .func (.func 8) #[] #[]), (67, .int .i64 e.K), (71, .func (.func 8) #[] #[]), (73, .int .i64 e.N), (76, .func (.func 8) #[] #[]), (78, .int .i64 e.M), (81, .func (.func 8) #[] #[]), (83, .int .i64 e.N)] [.blk b9 (.cells ([i64 0, u64 0, u64 0, u64 0, .string { data := { toList := [] } }, .slice none 0 0, u64 0, i64 0, .string { data := { toList := [] } }, u64 0]).toArray 57 (0, 0)), .blk b3 (.cells e.cells.toArray 46 (0, 0)), .blk sb (.cells [.slice (some ⟨gL, 0, none⟩) bs.length cl, .slice (some ⟨gB, 0, none⟩) bs.length cb, u64 (nx 0), u64 (nx 1), u64 (nx 2), u64 (nx 3)].toArray 44 (0, 0)), .row (.slice (some ⟨gL, 0, none⟩) bs.length cl) 30 7 bs.length xs, .row (.slice (some ⟨gB, 0, none⟩) bs.length cb) 40 19 bs.length ys] SS := by
  intro SS hle b9
  refine gI ?_
  refine d_alt rfl rfl ?_ ?_
  · refine t_callvr' rfl rfl (pick_ok (m := nx (eP e) + 1) eM1 eM2 om) en_8 ?_
    exact d_an hle (ey rfl (y_cvu cv_3_25 rfl om) (ey rfl (y_addU (n := 1) (m := pickN e.M (nx (eP e) + 1)) rfl rfl om) (t_to (gO (st5_5_39 _ hle b9)))))
  refine d_alt rfl rfl ?_ d_stop
  refine t_bs1 ap_54 zc_5 rfl rfl rfl rfl rfl (fun b63 => ?_)
  refine t_pub (C := bytC) (l := [eVal e]) pk (fun S' hle => Flat.one (a := eVal e) rfl rfl) rfl (fun S63 le63 hs63 => ?_)
  have hby := Sl.byt hs63
  replace hle := hle.trans le63
  try replace hc64 := le63.cell hc64
  exact d_an hle (t_to (gO (st5_5_41 _ hle b63 hby b9)))
 have st5_5_44 : ∀ (SS : Stone) (hle : Stone.le S14 SS), G Pl5_5_44 [(0, .pointer (some ⟨sb, 0, none⟩)), (3, .pointer (some ⟨b3, 0, none⟩)), (5, .func (.func 8) #[] #[]), (6, .string (ky (eK e))), (7, i64 (pickN e.P bs.length)), (8, i64 (eP e)), (42, u64 b0.epoch), (44, u64 (eP e)), (45, .func (.func 8) #[] #[]), (47, .int .i64 e.M), (55, i64 (nx (eP e) + 1)), (59, .string (ky (eK e))), (62, .int .u8 ((eVal e : Nat) : Int)), (65, .func (.func 8) #[] #[]), (67, .int .i64 e.K), (71, .func (.func 8) #[] #[]), (73, .int .i64 e.N), (76, .func (.func 8) #[] #[]), (78, .int .i64 e.M), (81, .func (.func 8) #[] #[]), (83, .int .i64 e.N)] [.blk b3 (.cells e.cells.toArray 46 (0, 0)), .blk sb (.cells [.slice (some ⟨gL, 0, none⟩) bs.length cl, .slice (some ⟨gB, 0, none⟩) bs.length cb, u64 (nx 0), u64 (nx 1), u64 (nx 2), u64 (nx 3)].toArray 44 (0, 0)), .row (.slice (some ⟨gL, 0, none⟩) bs.length cl) 30 7 bs.length xs, .row (.slice (some ⟨gB, 0, none⟩) bs.length cb) 40 19 bs.length ys] SS := by
  intro SS hle
  refine gI ?_
  refine d_alt rfl rfl ?_ ?_
  · refine t_callvr' rfl rfl (pick_ok (m := nx (eP e) + 1) eM1 eM2 om) en_8 ?_
    exact d_an hle (ey rfl (y_cvu cv_3_25 rfl om) (ey rfl (y_addU (n := 1) (m := pickN e.M (nx (eP e) + 1)) rfl rfl om) (t_to (gO (st5_5_40 _ hle)))))
  refine d_alt rfl rfl ?_ ?_
  · refine t_bs1 ap_54 zc_5 rfl rfl rfl rfl rfl (fun b63 => ?_)
    refine t_pub (C := bytC) (l := [eVal e]) pk (fun S' hle => Flat.one (a := eVal e) rfl rfl) rfl (fun S63 le63 hs63 => ?_)
    have hby := Sl.byt hs63
    replace hle := hle.trans le63
    try replace hc64 := le63.cell hc64
    exact d_an hle (t_to (gO (st5_5_42 _ hle b63 hby)))
  refine d_alt rfl rfl ?_ d_stop
  exact tal zc_57 (fun b9 => d_an hle (t_to (gO (st5_5_43 _ hle b9))))
 exact t_to (gO (st5_5_44 _ (Stone.le.refl _)))
 -- behind the cut
 refine c_seq ?_
 obtain ⟨b9, b63, S5⟩ := z
 obtain ⟨hle5, hbyt⟩ := hz
 dsimp only at hle5 hbyt ⊢
 have hF5 := hF.mono hle5
 have hg5 : Gl S5 := Stone.le.cell hle5 hg
 refine c_region (mv rfl (yy (y_far fo_46_0 rfl) (ll (lb ld_3) ?_)))
 refine lw (t_callvr' rfl rfl (pick_ok (m := 17) eW1 eW2 (by decide)) en_8 ?_)
 refine sa rfl (nes (c_cut (E' := [(0, .pointer (some ⟨sb, 0, none⟩)), (5, .func (.func 8) #[] #[]), (6, .string (ky (eK e))), (7, i64 (pickN e.P bs.length)), (8, i64 (eP e)), (9, .pointer (some ⟨b9, 0, none⟩)), (10, i64 (eW e))]) (H' := [.blk sb (.cells [.slice (some ⟨gL, 0, none⟩) bs.length cl, .slice (some ⟨gB, 0, none⟩) bs.length cb, u64 (nx 0), u64 (nx 1), u64 (nx 2), u64 (nx 3)].toArray 44 (0, 0)), .row (.slice (some ⟨gL, 0, none⟩) bs.length cl) 30 7 bs.length xs, .row (.slice (some ⟨gB, 0, none⟩) bs.length cb) 40 19 bs.length ys, .blk b9 (.cells ((eCmd nx e 0 b0.epoch).cells (.slice (some ⟨b63, 0, none⟩) 1 1)).toArray 57 (0, 0)), .blk b3 (.cells e.cells.toArray 46 (0, 0))]) (S' := S5) (fun K7c hK7c => ?_) ?_))
 refine sr (mv rfl (yy (y_lt rfl rfl) (mv rfl ?_)))
 apply l_or 3 (gd := 94) (d := 97) rfl
 · intro hb94 K1 hK1
   exact qy hb94 (y_move rfl) (qy hb94 (y_eq rfl rfl) (yy (y_pick_f' rfl hb94 rfl) (lk_end hK1)))
 · intro hb94 K1 hK1
   exact qn hb94 (qn hb94 (yy (y_pick_t' rfl hb94 rfl) (lk_end hK1)))
 refine nec rfl (fun g2 => ?_) (fun g2 => ?_)
 · have hw48 : eW e < 4 ∨ eW e = 8 := by have h9 := g2; simp at h9; omega
   have hsqe : eSeq nx e = nx (eP e) + 1 := by unfold eSeq; rw [if_pos hw48]
   refine c_region (mv rfl (mv rfl (yy (y_nil rfl) (yy (y_far fo_44_2 rfl) (yy (y_iaaN ar_42 rfl rfl ao) (ll (lb ld_25 (hc := sb_get hp4)) ?_))))))
   refine yy (y_addU (m := 1) rfl rfl om) (yy (y_far fo_57_3 rfl) ?_)
   refine lw (s1 sz_25 ?_)
   refine t_eqblk (b := b9) (cs' := (eCmd nx e 0 b0.epoch : Cmd).cells (.slice (some ⟨b63, 0, none⟩) 1 1)) pk (by simp only [eCmd, eCmd0, hsqe]; rfl) ?_
   exact ne (t_to hK7c)
 · have hw48 : ¬ (eW e < 4 ∨ eW e = 8) := by have h9 := g2; simp at h9; omega
   have hsqe : eSeq nx e = 1 + pickN e.M (nx (eP e) + 1) := by unfold eSeq; rw [if_neg hw48]
   refine t_eqblk (b := b9) (cs' := (eCmd nx e 0 b0.epoch : Cmd).cells (.slice (some ⟨b63, 0, none⟩) 1 1)) pk (by simp only [eCmd, eCmd0, hsqe]) ?_
   exact c_skip (e_then (t_to hK7c))
 -- behind the cut
 refine c_seq (dR ([.blk sb (.cells [.slice (some ⟨gL, 0, none⟩) bs.length cl, .slice (some ⟨gB, 0, none⟩) bs.length cb, u64 (nx 0), u64 (nx 1), u64 (nx 2), u64 (nx 3)].toArray 44 (0, 0)), .blk b9 (.cells ((eCmd nx e 0 b0.epoch).cells (.slice (some ⟨b63, 0, none⟩) 1 1)).toArray 57 (0, 0))]) [7, 9] (.take 0 (.take 1 (.take 2 (.take 3 (.take 4 (.take 5 (.take 6 (.take 7 (.take 8 (.take 9 (.take 10 (.take 11 (.take 12 (.take 13 (.alt 14 .done .stop))))))))))))))) ?_)
 refine em rfl rfl (em rfl rfl (em rfl rfl (em rfl rfl (ey rfl (y_nil rfl) (ey rfl (y_far fo_44_2 rfl) (ey rfl (y_iaaN ar_42 rfl rfl ao) (dl rfl (lb ld_25 (hc := sb_get hp4)) ?_)))))))
 refine ey rfl (y_far fo_57_3 rfl) (dl rfl (lb ld_25) ?_)
 refine ey rfl (y_maxN rfl rfl) (ey rfl (y_nil rfl) (ey rfl (y_far fo_44_2 rfl) (ey rfl (y_iaaN ar_42 rfl rfl ao) (da rfl (t_st1' sz_25 rfl rfl rfl pk (blt_of (by show 0 + 2 + eP e * 1 < 6; omega)) ?_)))))
 refine t_eqblk (b := sb) pk (sb_set hp4) ?_
 refine dA (Stone.le.refl _) (d_done (e_then (c_seq (sr (mv rfl (ne (c_block (c_seq (c_cut (E' := (145, .bool (decide (eW e ≤ 5))) :: [(0, .pointer (some ⟨sb, 0, none⟩)), (5, .func (.func 8) #[] #[]), (6, .string (ky (eK e))), (7, i64 (pickN e.P bs.length)), (8, i64 (eP e)), (9, .pointer (some ⟨b9, 0, none⟩)), (10, i64 (eW e)), (120, i64 (eW e))]) (H' := [.blk sb (.cells [.slice (some ⟨gL, 0, none⟩) bs.length cl, .slice (some ⟨gB, 0, none⟩) bs.length cb, u64 ((eNx nx e) 0), u64 ((eNx nx e) 1), u64 ((eNx nx e) 2), u64 ((eNx nx e) 3)].toArray 44 (0, 0)), .row (.slice (some ⟨gL, 0, none⟩) bs.length cl) 30 7 bs.length xs, .row (.slice (some ⟨gB, 0, none⟩) bs.length cb) 40 19 bs.length ys, .blk b9 (.cells ((eCmd nx e 0 b0.epoch).cells (.slice (some ⟨b63, 0, none⟩) 1 1)).toArray 57 (0, 0)), .blk b3 (.cells e.cells.toArray 46 (0, 0))]) (S' := S5) (fun K16c hK16c => ?_) ?_)))))))))
 refine sr (yy (y_eq rfl rfl) (sa rfl (nec rfl (fun g3 => ?_) (fun g3 => ?_))))
 · have hT := g3
   rw [beq_iff_eq] at hT
   exact c_skip (e_then (t_to hK16c (he := Env.sub_cons (i := 145) (by show some (Value.bool _) = some (Value.bool _); congr 2; rw [Bool.eq_iff_iff, beq_iff_eq, decide_eq_true_eq]; omega) (by repeat (first | exact Env.sub_nil _ | refine Env.sub_cons rfl ?_)))))
 · have hT := g3
   rw [beq_eq_false_iff_ne] at hT
   refine sr (yy (y_eq rfl rfl) (sa rfl (nec rfl (fun g4 => ?_) (fun g4 => ?_))))
   · have hT := g4
     rw [beq_iff_eq] at hT
     exact c_skip (e_then (t_to hK16c (he := Env.sub_cons (i := 145) (by show some (Value.bool _) = some (Value.bool _); congr 2; rw [Bool.eq_iff_iff, beq_iff_eq, decide_eq_true_eq]; omega) (by repeat (first | exact Env.sub_nil _ | refine Env.sub_cons rfl ?_)))))
   · have hT := g4
     rw [beq_eq_false_iff_ne] at hT
     refine sr (yy (y_eq rfl rfl) (sa rfl (nec rfl (fun g5 => ?_) (fun g5 => ?_))))
     · have hT := g5
       rw [beq_iff_eq] at hT
       exact c_skip (e_then (t_to hK16c (he := Env.sub_cons (i := 145) (by show some (Value.bool _) = some (Value.bool _); congr 2; rw [Bool.eq_iff_iff, beq_iff_eq, decide_eq_true_eq]; omega) (by repeat (first | exact Env.sub_nil _ | refine Env.sub_cons rfl ?_)))))
     · have hT := g5
       rw [beq_eq_false_iff_ne] at hT
       refine sr (yy (y_eq rfl rfl) (sa rfl (nec rfl (fun g6 => ?_) (fun g6 => ?_))))
       · have hT := g6
         rw [beq_iff_eq] at hT
         exact c_skip (e_then (t_to hK16c (he := Env.sub_cons (i := 145) (by show some (Value.bool _) = some (Value.bool _); congr 2; rw [Bool.eq_iff_iff, beq_iff_eq, decide_eq_true_eq]; omega) (by repeat (first | exact Env.sub_nil _ | refine Env.sub_cons rfl ?_)))))
       · have hT := g6
         rw [beq_eq_false_iff_ne] at hT
         refine sr (yy (y_eq rfl rfl) (sa rfl (nec rfl (fun g7 => ?_) (fun g7 => ?_))))
         · have hT := g7
           rw [beq_iff_eq] at hT
           exact c_skip (e_then (t_to hK16c (he := Env.sub_cons (i := 145) (by show some (Value.bool _) = some (Value.bool _); congr 2; rw [Bool.eq_iff_iff, beq_iff_eq, decide_eq_true_eq]; omega) (by repeat (first | exact Env.sub_nil _ | refine Env.sub_cons rfl ?_)))))
         · have hT := g7
           rw [beq_eq_false_iff_ne] at hT
           exact c_region (yy (y_eq rfl rfl) (sa rfl (ne (t_to hK16c (he := Env.sub_cons (i := 145) (by show some (Value.bool _) = some (Value.bool _); congr 2; rw [Bool.eq_iff_iff, beq_iff_eq, decide_eq_true_eq]; omega) (by repeat (first | exact Env.sub_nil _ | refine Env.sub_cons rfl ?_)))))))
 -- behind the cut
 refine c_cond rfl (fun g8 => ?_) (fun g8 => ?_)
 · have hw5 : eW e ≤ 5 := by simpa using g8
   have hil := ofB_lt (k := eK e) hpos
   obtain ⟨b, hb⟩ : ∃ b, bs[ofB bs (eK e)]? = some b := ⟨_, List.getElem?_eq_getElem hil⟩
   have hbep := hinv.ep b (List.mem_of_getElem? hb)
   obtain ⟨AB2, aB2, hbook2, hbx2⟩ := hF5.book hb
   refine sr (mv rfl (mv rfl (lw (t_call en_11 rfl (I := ShItems sb (.slice (some ⟨gL, 0, none⟩) bs.length cl) (.slice (some ⟨gB, 0, none⟩) bs.length cb) bs.length xs ys (eNx nx e)) (Take.perm (by repeat (first | exact Take.nil | exact Pick.hd | apply Pick.tl | apply Take.cons))) (of_ok2 hF5 hinv.ok hkey hpos om) (lt_n rfl) ?_))))
   rintro v154 I154 S154 le154 ⟨rfl, rfl, rfl⟩
   dsimp only [List.cons_append, List.nil_append]
   refine sa rfl (nesr (yy (y_far fo_57_0 rfl) (lw (s1 sz_55 (l_nil ?_)))))
   refine e_then (sr (mv rfl (yy (y_nil rfl) (yy (y_far fo_44_1 rfl) (ll (lb ld_41) ?_)))))
   refine mv rfl (yy (y_iaNr sl_41 rfl rfl hil) (yy (y_far fo_40_2 rfl) (ll (ld_row ld_25 rfl pk (hbx2 2 _ rfl)) ?_)))
   refine yy (y_far fo_57_1 rfl) (lw (s1 sz_25 (nesr (mv rfl (yy (y_eq rfl rfl) (nec rfl (fun g9 => ?_) (fun g9 => ?_)))))))
   · have hw55 : eW e = 5 := by have h9 := g9; rw [beq_iff_eq] at h9; omega
     have hst : bs.set (ofB bs (eK e)) (doesB b (eCmd nx e 1 (b.epoch + 1))).1 = stB bs nx e := by unfold stB; rw [if_pos hw5, hb, if_pos hw55]
     refine c_region (yy (y_far fo_57_1 rfl) (ll (lb ld_25) ?_))
     refine yy (y_addU (m := 1) rfl rfl om) (yy (y_far fo_57_1 rfl) (lw (s1 sz_25 (l_nil (e_in ?_)))))
     refine e_then (sr (t_eqblk (b := b9) (cs' := (eCmd nx e 1 (b.epoch + 1) : Cmd).cells (.slice (some ⟨b63, 0, none⟩) 1 1)) pk rfl ?_))
     refine mv rfl (mv rfl (ll (lbw ld_57) ?_))
     refine lw (t_call en_15 rfl (I := ShItems sb (.slice (some ⟨gL, 0, none⟩) bs.length cl) (.slice (some ⟨gB, 0, none⟩) bs.length cb) bs.length xs ys (eNx nx e)) (Take.perm (by repeat (first | exact Take.nil | exact Pick.hd | apply Pick.tl | apply Take.cons))) (both_ok (c := eCmd nx e 1 (b.epoch + 1)) hg5 hF5 hb (hinv.ok _ (List.mem_of_getElem? hb)) (by have := total_mem (List.mem_of_getElem? hb); have := hinv.len; omega) hbyt ⟨by simp [eCmd, kindOf] <;> omega, by simp [eCmd, eP], hseqOk, by simp [eCmd]; omega, hnameOk, by simp [eCmd], hkey⟩ (by show eP e < 10; omega) (by show pickN e.N 12 ≤ 1000; omega)) (lt_n rfl) ?_)
     rintro v226 I226 S226 le226 ⟨rfl, lv2, bv2, xs2, ys2, rfl, hF2⟩
     dsimp only [List.cons_append, List.nil_append]
     exact sa rfl (netr (f_retS rfl (rt rfl) ⟨rfl, lv2, bv2, xs2, ys2, by rw [← hst], hst ▸ hF2⟩))
   · have hw55 : ¬ eW e = 5 := by have h9 := g9; rw [beq_eq_false_iff_ne] at h9; omega
     have hst : bs.set (ofB bs (eK e)) (doesB b (eCmd nx e 1 b.epoch)).1 = stB bs nx e := by unfold stB; rw [if_pos hw5, hb, if_neg hw55]; rfl
     refine c_skip (e_in (e_then (sr (t_eqblk (b := b9) (cs' := (eCmd nx e 1 b.epoch : Cmd).cells (.slice (some ⟨b63, 0, none⟩) 1 1)) pk rfl ?_))))
     refine mv rfl (mv rfl (ll (lbw ld_57) ?_))
     refine lw (t_call en_15 rfl (I := ShItems sb (.slice (some ⟨gL, 0, none⟩) bs.length cl) (.slice (some ⟨gB, 0, none⟩) bs.length cb) bs.length xs ys (eNx nx e)) (Take.perm (by repeat (first | exact Take.nil | exact Pick.hd | apply Pick.tl | apply Take.cons))) (both_ok (c := eCmd nx e 1 b.epoch) hg5 hF5 hb (hinv.ok _ (List.mem_of_getElem? hb)) (by have := total_mem (List.mem_of_getElem? hb); have := hinv.len; omega) hbyt ⟨by simp [eCmd, kindOf] <;> omega, by simp [eCmd, eP], hseqOk, by simp [eCmd]; omega, hnameOk, by simp [eCmd], hkey⟩ (by show eP e < 10; omega) (by show pickN e.N 12 ≤ 1000; omega)) (lt_n rfl) ?_)
     rintro v226 I226 S226 le226 ⟨rfl, lv2, bv2, xs2, ys2, rfl, hF2⟩
     dsimp only [List.cons_append, List.nil_append]
     exact sa rfl (netr (f_retS rfl (rt rfl) ⟨rfl, lv2, bv2, xs2, ys2, by rw [← hst], hst ▸ hF2⟩))
 · have hw5 : ¬ eW e ≤ 5 := by simpa using g8
   refine c_seq (c_cut (E' := (171, .bool (decide (eW e = 6 ∨ eW e = 7))) :: [(0, .pointer (some ⟨sb, 0, none⟩)), (5, .func (.func 8) #[] #[]), (6, .string (ky (eK e))), (7, i64 (pickN e.P bs.length)), (8, i64 (eP e)), (9, .pointer (some ⟨b9, 0, none⟩)), (10, i64 (eW e)), (120, i64 (eW e))]) (H' := [.blk sb (.cells [.slice (some ⟨gL, 0, none⟩) bs.length cl, .slice (some ⟨gB, 0, none⟩) bs.length cb, u64 ((eNx nx e) 0), u64 ((eNx nx e) 1), u64 ((eNx nx e) 2), u64 ((eNx nx e) 3)].toArray 44 (0, 0)), .row (.slice (some ⟨gL, 0, none⟩) bs.length cl) 30 7 bs.length xs, .row (.slice (some ⟨gB, 0, none⟩) bs.length cb) 40 19 bs.length ys, .blk b9 (.cells ((eCmd nx e 0 b0.epoch).cells (.slice (some ⟨b63, 0, none⟩) 1 1)).toArray 57 (0, 0)), .blk b3 (.cells e.cells.toArray 46 (0, 0))]) (S' := S5) (fun K27c hK27c => ?_) ?_)
   refine sr (yy (y_eq rfl rfl) (sa rfl (nec rfl (fun g10 => ?_) (fun g10 => ?_))))
   · have hT := g10
     rw [beq_iff_eq] at hT
     exact c_skip (e_then (t_to hK27c (he := Env.sub_cons (i := 171) (by show some (Value.bool _) = some (Value.bool _); congr 2; rw [Bool.eq_iff_iff, beq_iff_eq, decide_eq_true_eq]; omega) (by repeat (first | exact Env.sub_nil _ | refine Env.sub_cons rfl ?_)))))
   · have hT := g10
     rw [beq_eq_false_iff_ne] at hT
     exact c_region (yy (y_eq rfl rfl) (sa rfl (ne (t_to hK27c (he := Env.sub_cons (i := 171) (by show some (Value.bool _) = some (Value.bool _); congr 2; rw [Bool.eq_iff_iff, beq_iff_eq, decide_eq_true_eq]; omega) (by repeat (first | exact Env.sub_nil _ | refine Env.sub_cons rfl ?_)))))))
   -- behind the cut
   refine c_cond rfl (fun g11 => ?_) (fun g11 => ?_)
   · have hw7 : eW e = 6 ∨ eW e = 7 := by simpa using g11
     refine c_region (yy (y_far fo_57_0 rfl) (lw (s1 sz_55 (l_nil (e_in (e_then (c_seq ?_)))))))
     have hst : bs.set (pickN e.P bs.length) (doesB b0 (eCmd nx e 2 b0.epoch)).1 = stB bs nx e := by
      have hkk : kindOf (eW e) = 2 := by unfold kindOf; (repeat' split); all_goals omega
      unfold stB; rw [if_neg hw5, if_pos om, hb0, hkk]
     refine c_region (t_eqblk (b := b9) (cs' := (eCmd nx e 2 b0.epoch : Cmd).cells (.slice (some ⟨b63, 0, none⟩) 1 1)) pk rfl ?_)
     refine mv rfl (mv rfl (ll (lbw ld_57) ?_))
     refine lw (t_call en_15 rfl (I := ShItems sb (.slice (some ⟨gL, 0, none⟩) bs.length cl) (.slice (some ⟨gB, 0, none⟩) bs.length cb) bs.length xs ys (eNx nx e)) (Take.perm (by repeat (first | exact Take.nil | exact Pick.hd | apply Pick.tl | apply Take.cons))) (both_ok (c := eCmd nx e 2 b0.epoch) hg5 hF5 hb0 (hinv.ok _ (List.mem_of_getElem? hb0)) (by have := total_mem (List.mem_of_getElem? hb0); have := hinv.len; omega) hbyt ⟨by simp [eCmd, kindOf] <;> omega, by simp [eCmd, eP], hseqOk, by simp [eCmd]; omega, hnameOk, by simp [eCmd], hkey⟩ (by show eP e < 10; omega) (by show pickN e.N 12 ≤ 1000; omega)) (lt_n rfl) ?_)
     rintro v226 I226 S226 le226 ⟨rfl, lv2, bv2, xs2, ys2, rfl, hF2⟩
     dsimp only [List.cons_append, List.nil_append]
     exact sa rfl (netr (f_retS rfl (rt rfl) ⟨rfl, lv2, bv2, xs2, ys2, by rw [← hst], hst ▸ hF2⟩))
   · have hw7 : ¬ (eW e = 6 ∨ eW e = 7) := by simpa using g11
     refine c_seq (c_cut (E' := (175, .bool (decide (eW e = 8 ∨ eW e = 9))) :: [(0, .pointer (some ⟨sb, 0, none⟩)), (5, .func (.func 8) #[] #[]), (6, .string (ky (eK e))), (7, i64 (pickN e.P bs.length)), (8, i64 (eP e)), (9, .pointer (some ⟨b9, 0, none⟩)), (10, i64 (eW e)), (120, i64 (eW e))]) (H' := [.blk sb (.cells [.slice (some ⟨gL, 0, none⟩) bs.length cl, .slice (some ⟨gB, 0, none⟩) bs.length cb, u64 ((eNx nx e) 0), u64 ((eNx nx e) 1), u64 ((eNx nx e) 2), u64 ((eNx nx e) 3)].toArray 44 (0, 0)), .row (.slice (some ⟨gL, 0, none⟩) bs.length cl) 30 7 bs.length xs, .row (.slice (some ⟨gB, 0, none⟩) bs.length cb) 40 19 bs.length ys, .blk b9 (.cells ((eCmd nx e 0 b0.epoch).cells (.slice (some ⟨b63, 0, none⟩) 1 1)).toArray 57 (0, 0)), .blk b3 (.cells e.cells.toArray 46 (0, 0))]) (S' := S5) (fun K30c hK30c => ?_) ?_)
     refine sr (yy (y_eq rfl rfl) (sa rfl (nec rfl (fun g12 => ?_) (fun g12 => ?_))))
     · have hT := g12
       rw [beq_iff_eq] at hT
       exact c_skip (e_then (t_to hK30c (he := Env.sub_cons (i := 175) (by show some (Value.bool _) = some (Value.bool _); congr 2; rw [Bool.eq_iff_iff, beq_iff_eq, decide_eq_true_eq]; omega) (by repeat (first | exact Env.sub_nil _ | refine Env.sub_cons rfl ?_)))))
     · have hT := g12
       rw [beq_eq_false_iff_ne] at hT
       exact c_region (yy (y_eq rfl rfl) (sa rfl (ne (t_to hK30c (he := Env.sub_cons (i := 175) (by show some (Value.bool _) = some (Value.bool _); congr 2; rw [Bool.eq_iff_iff, beq_iff_eq, decide_eq_true_eq]; omega) (by repeat (first | exact Env.sub_nil _ | refine Env.sub_cons rfl ?_)))))))
     -- behind the cut
     refine c_cond rfl (fun g13 => ?_) (fun g13 => ?_)
     · have hw9 : eW e = 8 ∨ eW e = 9 := by simpa using g13
       refine c_region (yy (y_far fo_57_0 rfl) (lw (s1 sz_55 (l_nil (e_in (e_then (c_seq ?_)))))))
       have hst : bs.set (pickN e.P bs.length) (doesB b0 (eCmd nx e 3 b0.epoch)).1 = stB bs nx e := by
        have hkk : kindOf (eW e) = 3 := by unfold kindOf; (repeat' split); all_goals omega
        unfold stB; rw [if_neg hw5, if_pos om, hb0, hkk]
       refine c_region (t_eqblk (b := b9) (cs' := (eCmd nx e 3 b0.epoch : Cmd).cells (.slice (some ⟨b63, 0, none⟩) 1 1)) pk rfl ?_)
       refine mv rfl (mv rfl (ll (lbw ld_57) ?_))
       refine lw (t_call en_15 rfl (I := ShItems sb (.slice (some ⟨gL, 0, none⟩) bs.length cl) (.slice (some ⟨gB, 0, none⟩) bs.length cb) bs.length xs ys (eNx nx e)) (Take.perm (by repeat (first | exact Take.nil | exact Pick.hd | apply Pick.tl | apply Take.cons))) (both_ok (c := eCmd nx e 3 b0.epoch) hg5 hF5 hb0 (hinv.ok _ (List.mem_of_getElem? hb0)) (by have := total_mem (List.mem_of_getElem? hb0); have := hinv.len; omega) hbyt ⟨by simp [eCmd, kindOf] <;> omega, by simp [eCmd, eP], hseqOk, by simp [eCmd]; omega, hnameOk, by simp [eCmd], hkey⟩ (by show eP e < 10; omega) (by show pickN e.N 12 ≤ 1000; omega)) (lt_n rfl) ?_)
       rintro v226 I226 S226 le226 ⟨rfl, lv2, bv2, xs2, ys2, rfl, hF2⟩
       dsimp only [List.cons_append, List.nil_append]
       exact sa rfl (netr (f_retS rfl (rt rfl) ⟨rfl, lv2, bv2, xs2, ys2, by rw [← hst], hst ▸ hF2⟩))
     · have hw9 : ¬ (eW e = 8 ∨ eW e = 9) := by simpa using g13
       refine sr (yy (y_eq rfl rfl) (sa rfl (nec rfl (fun g14 => ?_) (fun g14 => ?_))))
       · have hw10 : eW e = 10 := by have h9 := g14; rw [beq_iff_eq] at h9; omega
         refine c_region (yy (y_far fo_57_0 rfl) (lw (s1 sz_55 (l_nil (e_in (e_then (c_seq ?_)))))))
         have hst : bs.set (pickN e.P bs.length) (doesB b0 (eCmd nx e 4 b0.epoch)).1 = stB bs nx e := by
          have hkk : kindOf (eW e) = 4 := by unfold kindOf; (repeat' split); all_goals omega
          unfold stB; rw [if_neg hw5, if_pos om, hb0, hkk]
         refine c_region (t_eqblk (b := b9) (cs' := (eCmd nx e 4 b0.epoch : Cmd).cells (.slice (some ⟨b63, 0, none⟩) 1 1)) pk rfl ?_)
         refine mv rfl (mv rfl (ll (lbw ld_57) ?_))
         refine lw (t_call en_15 rfl (I := ShItems sb (.slice (some ⟨gL, 0, none⟩) bs.length cl) (.slice (some ⟨gB, 0, none⟩) bs.length cb) bs.length xs ys (eNx nx e)) (Take.perm (by repeat (first | exact Take.nil | exact Pick.hd | apply Pick.tl | apply Take.cons))) (both_ok (c := eCmd nx e 4 b0.epoch) hg5 hF5 hb0 (hinv.ok _ (List.mem_of_getElem? hb0)) (by have := total_mem (List.mem_of_getElem? hb0); have := hinv.len; omega) hbyt ⟨by simp [eCmd, kindOf] <;> omega, by simp [eCmd, eP], hseqOk, by simp [eCmd]; omega, hnameOk, by simp [eCmd], hkey⟩ (by show eP e < 10; omega) (by show pickN e.N 12 ≤ 1000; omega)) (lt_n rfl) ?_)
         rintro v226 I226 S226 le226 ⟨rfl, lv2, bv2, xs2, ys2, rfl, hF2⟩
         dsimp only [List.cons_append, List.nil_append]
         exact sa rfl (netr (f_retS rfl (rt rfl) ⟨rfl, lv2, bv2, xs2, ys2, by rw [← hst], hst ▸ hF2⟩))
       · have hw10 : ¬ eW e = 10 := by have h9 := g14; rw [beq_eq_false_iff_ne] at h9; omega
         refine sr (yy (y_eq rfl rfl) (sa rfl (nec rfl (fun g15 => ?_) (fun g15 => ?_))))
         · have hw11 : eW e = 11 := by have h9 := g15; rw [beq_iff_eq] at h9; omega
           refine c_region (yy (y_far fo_57_0 rfl) (lw (s1 sz_55 (l_nil (e_in (e_then (c_seq ?_)))))))
           have hst : bs.set (pickN e.P bs.length) (doesB b0 (eCmd nx e 5 b0.epoch)).1 = stB bs nx e := by
            have hkk : kindOf (eW e) = 5 := by unfold kindOf; (repeat' split); all_goals omega
            unfold stB; rw [if_neg hw5, if_pos om, hb0, hkk]
           refine c_region (t_eqblk (b := b9) (cs' := (eCmd nx e 5 b0.epoch : Cmd).cells (.slice (some ⟨b63, 0, none⟩) 1 1)) pk rfl ?_)
           refine mv rfl (mv rfl (ll (lbw ld_57) ?_))
           refine lw (t_call en_15 rfl (I := ShItems sb (.slice (some ⟨gL, 0, none⟩) bs.length cl) (.slice (some ⟨gB, 0, none⟩) bs.length cb) bs.length xs ys (eNx nx e)) (Take.perm (by repeat (first | exact Take.nil | exact Pick.hd | apply Pick.tl | apply Take.cons))) (both_ok (c := eCmd nx e 5 b0.epoch) hg5 hF5 hb0 (hinv.ok _ (List.mem_of_getElem? hb0)) (by have := total_mem (List.mem_of_getElem? hb0); have := hinv.len; omega) hbyt ⟨by simp [eCmd, kindOf] <;> omega, by simp [eCmd, eP], hseqOk, by simp [eCmd]; omega, hnameOk, by simp [eCmd], hkey⟩ (by show eP e < 10; omega) (by show pickN e.N 12 ≤ 1000; omega)) (lt_n rfl) ?_)
           rintro v226 I226 S226 le226 ⟨rfl, lv2, bv2, xs2, ys2, rfl, hF2⟩
           dsimp only [List.cons_append, List.nil_append]
           exact sa rfl (netr (f_retS rfl (rt rfl) ⟨rfl, lv2, bv2, xs2, ys2, by rw [← hst], hst ▸ hF2⟩))
         · have hw11 : ¬ eW e = 11 := by have h9 := g15; rw [beq_eq_false_iff_ne] at h9; omega
           refine c_seq (c_cut (E' := (185, .bool (decide (eW e = 12 ∨ eW e = 13))) :: [(0, .pointer (some ⟨sb, 0, none⟩)), (5, .func (.func 8) #[] #[]), (6, .string (ky (eK e))), (7, i64 (pickN e.P bs.length)), (8, i64 (eP e)), (9, .pointer (some ⟨b9, 0, none⟩)), (10, i64 (eW e)), (120, i64 (eW e))]) (H' := [.blk sb (.cells [.slice (some ⟨gL, 0, none⟩) bs.length cl, .slice (some ⟨gB, 0, none⟩) bs.length cb, u64 ((eNx nx e) 0), u64 ((eNx nx e) 1), u64 ((eNx nx e) 2), u64 ((eNx nx e) 3)].toArray 44 (0, 0)), .row (.slice (some ⟨gL, 0, none⟩) bs.length cl) 30 7 bs.length xs, .row (.slice (some ⟨gB, 0, none⟩) bs.length cb) 40 19 bs.length ys, .blk b9 (.cells ((eCmd nx e 0 b0.epoch).cells (.slice (some ⟨b63, 0, none⟩) 1 1)).toArray 57 (0, 0)), .blk b3 (.cells e.cells.toArray 46 (0, 0))]) (S' := S5) (fun K37c hK37c => ?_) ?_)
           refine sr (yy (y_eq rfl rfl) (sa rfl (nec rfl (fun g16 => ?_) (fun g16 => ?_))))
           · have hT := g16
             rw [beq_iff_eq] at hT
             exact c_skip (e_then (t_to hK37c (he := Env.sub_cons (i := 185) (by show some (Value.bool _) = some (Value.bool _); congr 2; rw [Bool.eq_iff_iff, beq_iff_eq, decide_eq_true_eq]; omega) (by repeat (first | exact Env.sub_nil _ | refine Env.sub_cons rfl ?_)))))
           · have hT := g16
             rw [beq_eq_false_iff_ne] at hT
             exact c_region (yy (y_eq rfl rfl) (sa rfl (ne (t_to hK37c (he := Env.sub_cons (i := 185) (by show some (Value.bool _) = some (Value.bool _); congr 2; rw [Bool.eq_iff_iff, beq_iff_eq, decide_eq_true_eq]; omega) (by repeat (first | exact Env.sub_nil _ | refine Env.sub_cons rfl ?_)))))))
           -- behind the cut
           refine c_cond rfl (fun g17 => ?_) (fun g17 => ?_)
           · have hw13 : eW e = 12 ∨ eW e = 13 := by simpa using g17
             refine c_region (yy (y_far fo_57_0 rfl) (lw (s1 sz_55 (l_nil (e_in (e_then (c_seq ?_)))))))
             have hst : bs.set (pickN e.P bs.length) (doesB b0 (eCmd nx e 6 b0.epoch)).1 = stB bs nx e := by
              have hkk : kindOf (eW e) = 6 := by unfold kindOf; (repeat' split); all_goals omega
              unfold stB; rw [if_neg hw5, if_pos om, hb0, hkk]
             refine c_region (t_eqblk (b := b9) (cs' := (eCmd nx e 6 b0.epoch : Cmd).cells (.slice (some ⟨b63, 0, none⟩) 1 1)) pk rfl ?_)
             refine mv rfl (mv rfl (ll (lbw ld_57) ?_))
             refine lw (t_call en_15 rfl (I := ShItems sb (.slice (some ⟨gL, 0, none⟩) bs.length cl) (.slice (some ⟨gB, 0, none⟩) bs.length cb) bs.length xs ys (eNx nx e)) (Take.perm (by repeat (first | exact Take.nil | exact Pick.hd | apply Pick.tl | apply Take.cons))) (both_ok (c := eCmd nx e 6 b0.epoch) hg5 hF5 hb0 (hinv.ok _ (List.mem_of_getElem? hb0)) (by have := total_mem (List.mem_of_getElem? hb0); have := hinv.len; omega) hbyt ⟨by simp [eCmd, kindOf] <;> omega, by simp [eCmd, eP], hseqOk, by simp [eCmd]; omega, hnameOk, by simp [eCmd], hkey⟩ (by show eP e < 10; omega) (by show pickN e.N 12 ≤ 1000; omega)) (lt_n rfl) ?_)
             rintro v226 I226 S226 le226 ⟨rfl, lv2, bv2, xs2, ys2, rfl, hF2⟩
             dsimp only [List.cons_append, List.nil_append]
             exact sa rfl (netr (f_retS rfl (rt rfl) ⟨rfl, lv2, bv2, xs2, ys2, by rw [← hst], hst ▸ hF2⟩))
           · have hw13 : ¬ (eW e = 12 ∨ eW e = 13) := by simpa using g17
             refine sr (yy (y_eq rfl rfl) (sa rfl (nec rfl (fun g18 => ?_) (fun g18 => ?_))))
             · have hw14 : eW e = 14 := by have h9 := g18; rw [beq_iff_eq] at h9; omega
               refine sr (mv rfl (mv rfl (lw (t_call en_12 rfl (I := ShItems sb (.slice (some ⟨gL, 0, none⟩) bs.length cl) (.slice (some ⟨gB, 0, none⟩) bs.length cb) bs.length xs ys (eNx nx e)) (Take.perm (by repeat (first | exact Take.nil | exact Pick.hd | apply Pick.tl | apply Take.cons))) (freezes_ok (p := 1) hg5 hF5 hb0 (hinv.ok _ (List.mem_of_getElem? hb0)) (by have := total_mem (List.mem_of_getElem? hb0); have := hinv.len; omega) (by decide)) (lt_n rfl) ?_))))
               rintro v193 I193 S193 le193 ⟨rfl, lv2, bv2, xs2, ys2, rfl, hF2⟩
               dsimp only [List.cons_append, List.nil_append]
               rw [← frzB_of hb0] at hF2 ⊢
               have hinv2 := inv_frz (i := pickN e.P bs.length) hinv
               have hfl : (frzB bs (pickN e.P bs.length)).length = bs.length := frzB_len
               obtain ⟨b1, hb1'⟩ : ∃ b, (frzB bs (pickN e.P bs.length))[pickN e.P bs.length]? = some b := ⟨_, List.getElem?_eq_getElem om⟩
               refine sa rfl (nes ?_)
               rcases Nat.lt_or_ge bs.length 6 with h6 | h6
               · -- case a
                 refine c_region (mv rfl (mv rfl (t_known (gd := 195) (v := true) rfl (by rfl) (fun hb195 => ?_))))
                 refine qy hb195 (y_move rfl) (qy hb195 (y_nil rfl) (qy hb195 (y_far fo_44_0 rfl) (gl hb195 (lb ld_35) ?_)))
                 refine gl hb195 (ld_ln sl_35 rfl pk) ?_
                 refine qy hb195 (y_ge rfl rfl) (qy hb195 (y_move rfl) (t_known (gd := 202) (v := false) rfl (by rw [hfl]; simp; omega) (fun hb202 => ?_)))
                 refine qy hb202 (y_move rfl) (qy hb202 (y_move rfl) (qy hb202 (y_move rfl) (gw hb202 (t_call en_13 rfl (I := ShItems sb lv2 bv2 (frzB bs (pickN e.P bs.length)).length xs2 ys2 (eNx nx e)) (Take.perm (by repeat (first | exact Take.nil | exact Pick.hd | apply Pick.tl | apply Take.cons))) (splits_ok hF2 hb1' (hinv2.ok _ (List.mem_of_getElem? hb1')) (by have := total_mem (List.mem_of_getElem? hb1'); have := hinv2.len; omega) (by have := hinv2.ep _ (List.mem_of_getElem? hb1'); omega) hkey om) (lt_n rfl) ?_))))
                 rintro v206 I206 S206 le206 ⟨rfl, lv3, bv3, xs3, ys3, rfl, hF3⟩
                 dsimp only [List.cons_append, List.nil_append]
                 rw [← spl_of hb1'] at hF3 ⊢
                 refine qy hb195 (y_pick_f' rfl hb202 rfl) (yy (y_pick_t' rfl hb195 rfl) (sa rfl (netr (e_in_ret (e_then_ret ?_)))))
                 have hst : spl (frzB bs (pickN e.P bs.length)) (pickN e.P bs.length) (eK e) = stB bs nx e := by unfold stB; rw [if_neg hw5, if_neg om, if_pos hw14, if_neg om]
                 exact f_retS rfl (rt rfl) ⟨rfl, lv3, bv3, xs3, ys3, by rw [← hst], hst ▸ hF3⟩
               · -- case b
                 refine c_region (mv rfl (mv rfl (t_known (gd := 195) (v := true) rfl (by rfl) (fun hb195 => ?_))))
                 refine qy hb195 (y_move rfl) (qy hb195 (y_nil rfl) (qy hb195 (y_far fo_44_0 rfl) (gl hb195 (lb ld_35) ?_)))
                 refine gl hb195 (ld_ln sl_35 rfl pk) ?_
                 refine qy hb195 (y_ge rfl rfl) (qy hb195 (y_move rfl) (t_known (gd := 202) (v := true) rfl (by rw [hfl]; simp; omega) (fun hb202 => ?_)))
                 refine qn hb202 (qn hb202 (qn hb202 (qn hb202 (qy hb195 (y_pick_t' rfl hb202 rfl) (yy (y_pick_t' rfl hb195 rfl) (sa rfl (netr (e_in_ret (e_then_ret ?_)))))))))
                 have hst : frzB bs (pickN e.P bs.length) = stB bs nx e := by unfold stB; rw [if_neg hw5, if_neg om, if_pos hw14, if_pos om]
                 exact f_retS rfl (rt rfl) ⟨rfl, lv2, bv2, xs2, ys2, by rw [← hst], hst ▸ hF2⟩
             · have hw14 : ¬ eW e = 14 := by have h9 := g18; rw [beq_eq_false_iff_ne] at h9; omega
               refine sr (yy (y_eq rfl rfl) (sa rfl (nec rfl (fun g19 => ?_) (fun g19 => ?_))))
               · have hw15 : eW e = 15 := by have h9 := g19; rw [beq_iff_eq] at h9; omega
                 refine c_seq ?_
                 rcases Nat.lt_or_ge bs.length 6 with h6 | h6
                 · -- case a
                   refine c_region (mv rfl (yy (y_nil rfl) (yy (y_far fo_44_0 rfl) (ll (lb ld_35) ?_))))
                   refine yy (y_ln sl_35 rfl) (yy (y_ge rfl rfl) (mv rfl (t_known (gd := 217) (v := false) rfl (by simp; omega) (fun hb217 => ?_))))
                   refine qy hb217 (y_move rfl) (qy hb217 (y_move rfl) (qy hb217 (y_move rfl) (gw hb217 (t_call en_13 rfl (I := ShItems sb (.slice (some ⟨gL, 0, none⟩) bs.length cl) (.slice (some ⟨gB, 0, none⟩) bs.length cb) bs.length xs ys (eNx nx e)) (Take.perm (by repeat (first | exact Take.nil | exact Pick.hd | apply Pick.tl | apply Take.cons))) (splits_ok hF5 hb0 hb0ok (by have := total_mem (List.mem_of_getElem? hb0); have := hinv.len; omega) om hkey om) (lt_n rfl) ?_))))
                   rintro v221 I221 S221 le221 ⟨rfl, lv3, bv3, xs3, ys3, rfl, hF3⟩
                   dsimp only [List.cons_append, List.nil_append]
                   rw [← spl_of hb0] at hF3 ⊢
                   refine yy (y_pick_f' rfl hb217 rfl) (sa rfl (netr (e_in_ret (e_then_ret ?_))))
                   have hst : spl bs (pickN e.P bs.length) (eK e) = stB bs nx e := by unfold stB; rw [if_neg hw5, if_neg om, if_neg hw14, if_pos hw15, if_neg om]
                   exact f_retS rfl (rt rfl) ⟨rfl, lv3, bv3, xs3, ys3, by rw [← hst], hst ▸ hF3⟩
                 · -- case b
                   refine c_region (mv rfl (yy (y_nil rfl) (yy (y_far fo_44_0 rfl) (ll (lb ld_35) ?_))))
                   refine yy (y_ln sl_35 rfl) (yy (y_ge rfl rfl) (mv rfl (t_known (gd := 217) (v := true) rfl (by simp; omega) (fun hb217 => ?_))))
                   refine qn hb217 (qn hb217 (qn hb217 (qn hb217 (yy (y_pick_t' rfl hb217 rfl) (sa rfl (netr (e_in_ret (e_then_ret ?_))))))))
                   have hst : bs = stB bs nx e := by unfold stB; rw [if_neg hw5, if_neg om, if_neg hw14, if_pos hw15, if_pos om]
                   exact f_retS rfl (rt rfl) ⟨rfl, _, _, xs, ys, by rw [← hst], hst ▸ hF5⟩
               · have hw15 : ¬ eW e = 15 := by have h9 := g19; rw [beq_eq_false_iff_ne] at h9; omega
                 refine c_seq (sr (mv rfl (yy (y_inc rfl om) (mv rfl (yy (y_nil rfl) (yy (y_far fo_44_0 rfl) (ll (lb ld_35) ?_)))))))
                 refine yy (y_ln sl_35 rfl) (yy (y_ge rfl rfl) (nec rfl (fun g20 => ?_) (fun g20 => ?_)))
                 · have hfar : bs.length ≤ pickN e.P bs.length + 1 := by have h9 := g20; simp at h9; omega
                   refine sr (sa rfl (netr (e_then_ret (e_in_ret (e_then_ret ?_)))))
                   have hst : bs = stB bs nx e := by unfold stB; rw [if_neg hw5, if_neg om, if_neg hw14, if_neg hw15, if_pos hfar]
                   exact f_retS rfl (rt rfl) ⟨rfl, _, _, xs, ys, by rw [← hst], hst ▸ hF5⟩
                 · have hfar : ¬ bs.length ≤ pickN e.P bs.length + 1 := by have h9 := g20; simp at h9; omega
                   refine c_skip (e_then (sr (mv rfl (mv rfl (lw (t_call en_12 rfl (I := ShItems sb (.slice (some ⟨gL, 0, none⟩) bs.length cl) (.slice (some ⟨gB, 0, none⟩) bs.length cb) bs.length xs ys (eNx nx e)) (Take.perm (by repeat (first | exact Take.nil | exact Pick.hd | apply Pick.tl | apply Take.cons))) (freezes_ok (p := 1) hg5 hF5 hb0 (hinv.ok _ (List.mem_of_getElem? hb0)) (by have := total_mem (List.mem_of_getElem? hb0); have := hinv.len; omega) (by decide)) (lt_n rfl) ?_))))))
                   rintro v131 I131 S131 le131 ⟨rfl, lv2, bv2, xs2, ys2, rfl, hF2⟩
                   dsimp only [List.cons_append, List.nil_append]
                   rw [← frzB_of hb0] at hF2 ⊢
                   have hinv2 := inv_frz (i := pickN e.P bs.length) hinv
                   have hfl : (frzB bs (pickN e.P bs.length)).length = bs.length := frzB_len
                   obtain ⟨b1, hb1'⟩ : ∃ b, (frzB bs (pickN e.P bs.length))[pickN e.P bs.length + 1]? = some b := ⟨_, List.getElem?_eq_getElem om⟩
                   refine sa rfl (nesr (mv rfl (mv rfl (yy (y_inc rfl om) (lw (t_call en_12 rfl (I := ShItems sb lv2 bv2 (frzB bs (pickN e.P bs.length)).length xs2 ys2 (eNx nx e)) (Take.perm (by repeat (first | exact Take.nil | exact Pick.hd | apply Pick.tl | apply Take.cons))) (freezes_ok (p := 1) (Stone.le.cell le131 hg5) hF2 hb1' (hinv2.ok _ (List.mem_of_getElem? hb1')) (by have := total_mem (List.mem_of_getElem? hb1'); have := hinv2.len; omega) (by decide)) (lt_n rfl) ?_))))))
                   rintro v135 I135 S135 le135 ⟨rfl, lv3, bv3, xs3, ys3, rfl, hF3⟩
                   dsimp only [List.cons_append, List.nil_append]
                   rw [← frzB_of hb1'] at hF3 ⊢
                   have hinv3 := inv_frz (i := pickN e.P bs.length + 1) hinv2
                   have hfl3 : (frzB (frzB bs (pickN e.P bs.length)) (pickN e.P bs.length + 1)).length = bs.length := by rw [frzB_len, frzB_len]
                   obtain ⟨ma, hma⟩ : ∃ b, (frzB (frzB bs (pickN e.P bs.length)) (pickN e.P bs.length + 1))[pickN e.P bs.length]? = some b := ⟨_, List.getElem?_eq_getElem om⟩
                   obtain ⟨mb, hmb⟩ : ∃ b, (frzB (frzB bs (pickN e.P bs.length)) (pickN e.P bs.length + 1))[pickN e.P bs.length + 1]? = some b := ⟨_, List.getElem?_eq_getElem om⟩
                   refine sa rfl (nesr (mv rfl (mv rfl (t_known (gd := 137) (v := true) rfl (by rfl) (fun hb137 => ?_)))))
                   refine qy hb137 (y_move rfl) (yy (y_pick_t' rfl hb137 rfl) (mv rfl (t_known (gd := 140) (v := true) rfl (by rfl) (fun hb140 => ?_))))
                   refine qy hb140 (y_move rfl) (qy hb140 (y_move rfl) (gw hb140 (t_call en_14 rfl (I := ShItems sb lv3 bv3 (frzB (frzB bs (pickN e.P bs.length)) (pickN e.P bs.length + 1)).length xs3 ys3 (eNx nx e)) (Take.perm (by repeat (first | exact Take.nil | exact Pick.hd | apply Pick.tl | apply Take.cons))) (merges_ok hF3 hma hmb (hinv3.ok _ (List.mem_of_getElem? hma)) (hinv3.ok _ (List.mem_of_getElem? hmb)) (hinv3.adj _ _ _ hma hmb) (by have := total_pair hma hmb; have := hinv3.len; omega) (by have := hinv3.ep _ (List.mem_of_getElem? hma); omega) (by have := hinv3.ep _ (List.mem_of_getElem? hmb); omega) om) (lt_n rfl) ?_)))
                   rintro v143 I143 S143 le143 ⟨rfl, lv4, bv4, xs4, ys4, rfl, hF4⟩
                   dsimp only [List.cons_append, List.nil_append]
                   rw [← mer_of hma hmb] at hF4 ⊢
                   refine yy (y_pick_t' rfl hb140 rfl) (sa rfl (netr (e_in_ret (e_then_ret ?_))))
                   have hst : mer (frzB (frzB bs (pickN e.P bs.length)) (pickN e.P bs.length + 1)) (pickN e.P bs.length) = stB bs nx e := by unfold stB; rw [if_neg hw5, if_neg om, if_neg hw14, if_neg hw15, if_neg hfar]
                   exact f_retS rfl (rt rfl) ⟨rfl, lv4, bv4, xs4, ys4, by rw [← hst], hst ▸ hF4⟩
end Go.Proofs.YtkdmbimkanjbhaaGreatDoor.Eng

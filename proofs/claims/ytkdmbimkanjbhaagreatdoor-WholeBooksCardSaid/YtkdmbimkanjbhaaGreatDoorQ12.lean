/-
  Part 12 of the proof of WholeBooks: W52.
-/
import Derived.Test.YtkdmbimkanjbhaaGreatDoorQ11
namespace Go.Proofs.YtkdmbimkanjbhaaGreatDoor.Eng
open Go Go.Proofs
set_option maxRecDepth 100000
attribute [local irreducible] Tr
def tBk (a b : Bk) (TA TB : List Nat) (i k : Nat) : Bk := ⟨a.lo, b.hi, max a.epoch b.epoch + 1, 0, [], fun j => if j < i then max (a.last j) (b.last j) else 0, fun j => if j < k then a.there j || b.there j else false, fun j => if j < k then (if a.there j || b.there j then min (TA.getD (a.at_ j) 0) (TB.getD (b.at_ j) 0) else 0) else 0⟩
/-- Two books as one. -/
def togB (a b : Bk) (out : List Rec) (ta tb : List Nat) : Bk := ⟨a.lo, b.hi, max a.epoch b.epoch + 1, 0, renum out, fun j => max (a.last j) (b.last j), fun j => a.there j || b.there j, fun j => if a.there j || b.there j then min ((ta ++ [out.length]).getD (a.at_ j) 0) ((tb ++ [out.length]).getD (b.at_ j) 0) else 0⟩
/-- Numbers rise. -/
def Rises (l : List Rec) : Prop := ∀ (i k : Nat) r r', l[i]? = some r → l[k]? = some r' → k < i → r'.prod = r.prod → r'.seq < r.seq
theorem tBk_last {a b : Bk} {TA TB : List Nat} {i : Nat} {v : Value} (hi : i < 10) : ((tBk a b TA TB i 0).cells v).set (0 + 5 + i * 1) (u64 (max (a.last i) (b.last i))) = (tBk a b TA TB (i + 1) 0).cells v := by
 rw [book_setLast hi]
 congr 1
 unfold tBk
 congr 1
 funext j
 simp only [setF]
 by_cases e : j = i
 · subst e; rw [if_pos rfl, if_pos om]
 · rw [if_neg e]
   by_cases e2 : j < i
   · rw [if_pos e2, if_pos om]
   · rw [if_neg e2, if_neg om]
def tBk1 (a b : Bk) (TA TB : List Nat) (k : Nat) : Bk := { tBk a b TA TB 10 k with there := fun j => if j < k + 1 then a.there j || b.there j else false }
theorem tBk_there {a b : Bk} {TA TB : List Nat} {k : Nat} {v : Value} (hk : k < 2) : ((tBk a b TA TB 10 k).cells v).set (0 + 15 + k * 1) (.bool (a.there k || b.there k)) = (tBk1 a b TA TB k).cells v := by
 rw [book_setThere hk]
 congr 1
 unfold tBk1 tBk
 congr 1
 funext j
 simp only [setF]
 by_cases e : j = k
 · subst e; rw [if_pos rfl, if_pos om]
 · rw [if_neg e]
   by_cases e2 : j < k
   · rw [if_pos e2, if_pos om]
   · rw [if_neg e2, if_neg om]
theorem tBk_at {a b : Bk} {TA TB : List Nat} {k : Nat} {v : Value} (hk : k < 2) (h : (a.there k || b.there k) = true) : ((tBk1 a b TA TB k).cells v).set (0 + 17 + k * 1) (u64 (min (TA.getD (a.at_ k) 0) (TB.getD (b.at_ k) 0))) = (tBk a b TA TB 10 (k + 1)).cells v := by
 rw [book_setAt hk]
 congr 1
 unfold tBk1 tBk
 congr 1
 funext j
 simp only [setF]
 by_cases e : j = k
 · rw [e, if_pos rfl, if_pos h, if_pos (Nat.lt_succ_self k)]
 · rw [if_neg e]
   by_cases e2 : j < k
   · rw [if_pos e2, if_pos (show j < k + 1 by omega)]
   · rw [if_neg e2, if_neg (show ¬ j < k + 1 by omega)]
theorem tBk_no {a b : Bk} {TA TB : List Nat} {k : Nat} {v : Value} (h : (a.there k || b.there k) = false) : (tBk1 a b TA TB k).cells v = (tBk a b TA TB 10 (k + 1)).cells v := by
 congr 1
 simp only [tBk1, tBk]
 congr 1
 funext j
 by_cases e : j = k
 · rw [e, if_neg (Nat.lt_irrefl k), if_pos (Nat.lt_succ_self k), if_neg (by rw [h]; simp)]
 · by_cases e2 : j < k
   · rw [if_pos e2, if_pos (show j < k + 1 by omega)]
   · rw [if_neg e2, if_neg (show ¬ j < k + 1 by omega)]
theorem lower_blocked {r : Rec} {p q : List Rec} : blocked (r :: p) q = q.any (isLower r) := rfl
/-- What the cells of a book's value are. -/
def BookV (v : Value) : Prop := ∃ cs : List Value, v = .agg cs.toArray ∧ cs.length = 19 ∧ cs.all Value.oneCell' = true
structure TS where
 p : List Rec
 q : List Rec
 out : List Rec
 ta : List Nat
 tb : List Nat
 vp : Value
 vq : Value
 vo : Value
 vt : Value
 vu : Value
 xo : List Value
 xt : List Value
 xu : List Value
theorem tog_none {S : Stone} {v w : Value} {a b : Bk} (h : BookR S v a) (h' : BookR S w b) (ho : BkOk a) (ho' : BkOk b) (he : a.epoch ≤ 1000000) (he' : b.epoch ≤ 1000000) (hl : a.l.length + b.l.length ≤ 200) (hJ0 : joinL a.l b.l = none) :
 Con Tryz.prog 22 #[v, w] [] S (RetR fun u S' => ∃ z, u = .tuple #[z, i64 145] ∧ BookV z) := by
 have h0 := h
 have h0' := h'
 obtain ⟨rv, rfl, hr⟩ := h
 obtain ⟨wv, rfl, hr'⟩ := h'
 obtain ⟨A0, a0, rfl, -, -⟩ := hr.shape
 obtain ⟨B0, b0, rfl, -, -⟩ := hr'.shape
 refine con_of 219 Tryz.func22 rfl rfl rfl (fun w0 => ?_)
 refine sr (bx rfl rfl (fun b2 => bx rfl rfl (fun b3 => t_stone (b := b2) pk (fun S1 le1 hS1 => ?_))))
 refine t_stone (b := b3) pk (fun S2 le2 hS2 => ?_)
 have hS1' := le2 _ _ hS1
 have kA : ∀ (j : Nat) u, (a.cells (.slice A0 a.l.length a0))[j]? = some u → S2.cell ⟨b2, j, none⟩ = some u := fun j u hu => by simp [Stone.cell, hS1', hu]
 have kB : ∀ (j : Nat) u, (b.cells (.slice B0 b.l.length b0))[j]? = some u → S2.cell ⟨b3, j, none⟩ = some u := fun j u hu => by simp [Stone.cell, hS2, hu]
 have kA0 : S2.cell ⟨b2, 0 + 0, none⟩ = _ := kA 0 _ rfl
 have kA2 : S2.cell ⟨b2, 0 + 2, none⟩ = _ := kA 2 _ rfl
 have kA4 : S2.cell ⟨b2, 0 + 4, none⟩ = _ := kA 4 _ rfl
 have kB1 : S2.cell ⟨b3, 0 + 1, none⟩ = _ := kB 1 _ rfl
 have kB2 : S2.cell ⟨b3, 0 + 2, none⟩ = _ := kB 2 _ rfl
 have kB4 : S2.cell ⟨b3, 0 + 4, none⟩ = _ := kB 4 _ rfl
 have hr2 := hr.mono (le1.trans le2)
 have hr2' := hr'.mono (le1.trans le2)
 refine al zc_40 (fun b4 => sa rfl (nesr (yy (y_far fo_40_0 rfl) (ll (ld_st ld_9 rfl ‹_›) ?_))))
 refine yy (y_far fo_40_1 rfl) (ll (ld_st ld_9 rfl ‹_›) ?_)
 refine yy (y_far fo_40_2 rfl) (ll (ld_st ld_25 rfl ‹_›) ?_)
 refine yy (y_far fo_40_2 rfl) (ll (ld_st ld_25 rfl ‹_›) ?_)
 refine yy (y_maxN rfl rfl) (yy (y_addU (m := 1) rfl rfl om) (yy (y_build pl_40 zc_40 rfl rfl) (al zc_40 (fun b6 => lw (sw sz_40 (nesr (al zc_100 (fun b7 => t_nilrow 25 1 ?_))))))))
 refine t_nilrow 25 1 ?_
 refine t_nilrow 84 5 ?_
 refine nes (dRa [1, 3] (.take 0 (.take 1 (.take 2 (.take 3 (.take 4 (.take 5 .done)))))) ?_)
 refine ey rfl (y_far fo_40_4 rfl) (dl rfl (ld_st ld_26 rfl ‹_›) ?_)
 refine ey rfl (y_far fo_40_4 rfl) (dl rfl (ld_st ld_26 rfl ‹_›) ?_)
 refine ea rfl rfl (ea rfl rfl (d_done (e_then (c_seq (c_block (c_loopE (τ := TS) [(7, _), (6, _), (5, _), (4, _), (3, _), (2, _)] (fun Ek z0 => (8, z0.vp) :: (9, z0.vq) :: Ek) (fun z0 => [.blk b6 (.cells ((tBk a b [] [] 0 0).cells z0.vo).toArray 40 (0, 0)), .blk b7 (.cells [z0.vt, z0.vu].toArray 100 (0, 0)), .row z0.vo 84 5 z0.out.length z0.xo, .row z0.vt 25 1 z0.ta.length z0.xt, .row z0.vu 25 1 z0.tb.length z0.xu, .blk b4 (.cells [.string ⟨#[]⟩, .string ⟨#[]⟩, .int .u64 0, .int .u64 0, .slice none 0 0, .int .u64 0, .int .u64 0, .int .u64 0, .int .u64 0, .int .u64 0, .int .u64 0, .int .u64 0, .int .u64 0, .int .u64 0, .int .u64 0, .bool false, .bool false, .int .u64 0, .int .u64 0].toArray 40 (0, 0))]) (fun z0 => S2) (fun z0 => Recs S2 z0.vp z0.p ∧ Recs S2 z0.vq z0.q ∧ Flat S2 5 recC z0.xo z0.out ∧ Flat S2 1 natC z0.xt z0.ta ∧ Flat S2 1 natC z0.xu z0.tb ∧ z0.vo.oneCell' = true ∧ z0.vt.oneCell' = true ∧ z0.vu.oneCell' = true ∧ joinF (z0.p.length + z0.q.length) z0.p z0.q z0.out z0.ta z0.tb = joinL a.l b.l ∧ z0.out.length + z0.p.length + z0.q.length ≤ 200 ∧ z0.ta.length ≤ z0.out.length ∧ z0.tb.length ≤ z0.out.length) (fun z0 => z0.p.length + z0.q.length) (⟨a.l, b.l, [], [], [], .slice A0 a.l.length a0, .slice B0 b.l.length b0, .slice none 0 0, .slice none 0 0, .slice none 0 0, [], [], []⟩) (⟨hr2, hr2', Flat.nil, Flat.nil, Flat.nil, rfl, rfl, rfl, rfl, by simp only [List.length_nil]; omega, Nat.le_refl _, Nat.le_refl _⟩) (fun z0 hz0 K0l hr0 => ?_)))))))
 obtain ⟨p, q, out, ta, tb, vp, vq, vo, vt, vu, xo, xt, xu⟩ := z0
 obtain ⟨hp, hq, hfo, hft, hfu, ho1, ho2, ho3, hJ, hlen, hla, hlb⟩ := hz0
 simp only at hp hq hfo hft hfu ho1 ho2 ho3 hJ hlen hla hlb
 dsimp only
 obtain ⟨A, ac, rfl, hac, -⟩ := hp.shape
 obtain ⟨B, bc, rfl, hbc, -⟩ := hq.shape
 refine c_seq (sr (mv rfl (yy (y_ln sl_26 rfl) (mv rfl (yy (y_ln sl_26 rfl) (yy (y_addN rfl rfl om) (yy (y_gt rfl rfl) (nec rfl (fun g1 => ?_) (fun g1 => ?_)))))))))
 · have hpos : 0 < p.length + q.length := by simp at g1; omega
   refine c_skip (e_then (c_block (c_block (sr (mv rfl (yy (y_ln sl_26 rfl) (yy (y_gt rfl rfl) (mv rfl ?_))))))))
   apply l_and 7 (gd := 40) (d := 47) (r := !(blocked p q)) rfl
   · intro hb40 K2 hK2
     obtain ⟨r, p', rfl⟩ : ∃ r p', p = r :: p' := by
      cases p with
      | nil => simp at hb40
      | cons r p' => exact ⟨r, p', rfl⟩
     obtain ⟨p1, bv, rfl, hb, f0, f1, f2, f3, f4, f5⟩ := hp.at (i := 0) rfl
     refine qy hb40 (y_move rfl) (qy hb40 (y_move rfl) (qy hb40 (y_iaN (i := 0) sl_26 rfl rfl (by simp)) ?_))
     refine gl hb40 (ltm ld_84 rfl f5) ?_
     exact gw hb40 (t_callr' rfl (lower_ok hq om) en_35 (qy hb40 (y_not rfl) (yy (y_pick_t' rfl hb40 rfl) (lk_end hK2))))
   · intro hb40 K2 hK2
     exact qn hb40 (qn hb40 (qn hb40 (qn hb40 (qn hb40 (qn hb40 (yy (y_pick_f' rfl hb40 rfl) (lk_end hK2)))))))
   refine sa rfl (nec rfl (fun g3 => ?_) (fun g3 => ?_))
   · have hbp : blocked p q = false := by simp at g3; exact g3.2
     obtain ⟨r, p', rfl⟩ : ∃ r p', p = r :: p' := by
      cases p with
      | nil => cases hbp
      | cons r p' => exact ⟨r, p', rfl⟩
     obtain ⟨p1, bv, rfl, hb, f0, f1, f2, f3, f4, f5⟩ := hp.at (i := 0) rfl
     obtain ⟨pb, cb, rfl, -⟩ := id hb
     rw [joinF_x hbp] at hJ
     simp only [List.length_cons] at hlen hac
     refine sr (yy (y_iaaN (i := 0) ar_100 rfl rfl (by decide)) ?_)
     refine ll (lb ld_91) ?_
     refine yy (y_far fo_40_4 rfl) (ll (lb ld_26) ?_)
     refine ll (ld_ln sl_26 rfl pk) ?_
     refine yy (y_cvu cv_3_25 rfl om) (lw (t_bs1 ap_91 zc_25 rfl rfl rfl rfl rfl (fun b54 => lw (aR ap_91 (fun va55 ho55 => yy (y_iaaN (i := 0) ar_100 rfl rfl (by decide)) ?_)))))
     refine lw (t_st1' sz_91 rfl rfl (by first | assumption | exact Byt.one ‹_› | exact Sl.one ‹_›) pk rfl ?_)
     refine nes (dR ([.blk b6 (.cells ((tBk a b [] [] 0 0).cells vo).toArray 40 (0, 0))]) [1, 4] (.take 0 (.take 1 (.take 2 (.take 3 (.take 4 (.alt 5 (.alt 6 (.take 7 (.alt 8 .done .stop)) .stop) .stop)))))) ?_)
     refine ey rfl (y_far fo_40_4 rfl) (dl rfl (lb ld_26) ?_)
     refine em rfl rfl (ey rfl (y_iaN (i := 0) sl_26 rfl rfl (by simp)) ?_)
     refine dl rfl (ltm ld_84 rfl ‹_›) ?_
     refine da rfl (t_bs1 ap_26 zc_84 rfl rfl rfl rfl rfl (fun b62 => ?_))
     refine dA (Stone.le.refl _) (da rfl (aR ap_26 (fun va63 ho63 => ?_)))
     refine dA (Stone.le.refl _) (ey rfl (y_far fo_40_4 rfl) (da rfl (t_st1' sz_26 rfl rfl (by first | assumption | exact Byt.one ‹_› | exact Sl.one ‹_›) pk rfl ?_)))
     refine dA (Stone.le.refl _) (d_done (e_then (c_region (mv rfl (yy (y_sl sl_26 rfl (l := 1) (h := (r :: p').length) ⟨_, rfl⟩ rfl (by simp) (by simp; omega)) ?_)))))
     have hsl := Sl.sub hp (by simp : 1 ≤ (r :: p').length) (Nat.le_refl _)
     rw [List.take_length] at hsl
     obtain ⟨A2, a2, e2, -, -⟩ := hsl.shape
     rw [e2] at hsl ⊢
     exact sa rfl (l_nil (e_in (e_in (e_then (t_to (hr0 ⟨p', q, out ++ [r], ta ++ [out.length], tb, .slice A2 (List.drop 1 (r :: p')).length a2, .slice B q.length bc, va63, va55, vu, xo ++ Rec.cells r (.slice (some pb) 1 cb), xt ++ [u64 out.length], xu⟩ ⟨hsl, hq, hfo.snoc ⟨_, rfl, hb⟩ rfl, hft.snoc rfl rfl, hfu, ho63, ho55, ho3, hJ, by simp only [List.length_append, List.length_cons, List.length_nil]; omega, by simp only [List.length_append, List.length_cons, List.length_nil]; omega, by simp only [List.length_append, List.length_cons, List.length_nil]; omega⟩ (by simp only [List.length_cons]; omega)) (hs := by rw [List.length_append, List.length_append]; repeat (first | exact Sel.nil | exact Sel.refl _ | refine Sel.cons pk ?_ | refine Sel.skip ?_)))))))
   · have hbp : blocked p q = true := by
      cases p with
      | nil => rfl
      | cons r p' =>
       have h9 := g3
       simp at h9
       first | exact h9 | (rcases h9 with h9 | h9 <;> first | exact h9 | omega)
     refine sr (mv rfl (yy (y_ln sl_26 rfl) (yy (y_gt rfl rfl) (mv rfl ?_))))
     apply l_and 7 (gd := 71) (d := 78) (r := !(blocked q p)) rfl
     · intro hb71 K4 hK4
       obtain ⟨s, q', rfl⟩ : ∃ r p', q = r :: p' := by
        cases q with
        | nil => simp at hb71
        | cons r p' => exact ⟨r, p', rfl⟩
       obtain ⟨p1, bv, rfl, hb, f0, f1, f2, f3, f4, f5⟩ := hq.at (i := 0) rfl
       refine qy hb71 (y_move rfl) (qy hb71 (y_move rfl) (qy hb71 (y_iaN (i := 0) sl_26 rfl rfl (by simp)) ?_))
       refine gl hb71 (ltm ld_84 rfl f5) ?_
       exact gw hb71 (t_callr' rfl (lower_ok hp om) en_35 (qy hb71 (y_not rfl) (yy (y_pick_t' rfl hb71 rfl) (lk_end hK4))))
     · intro hb71 K4 hK4
       exact qn hb71 (qn hb71 (qn hb71 (qn hb71 (qn hb71 (qn hb71 (yy (y_pick_f' rfl hb71 rfl) (lk_end hK4)))))))
     refine sa rfl (nec rfl (fun g5 => ?_) (fun g5 => ?_))
     · have hbq : blocked q p = false := by simp at g5; exact g5.2
       obtain ⟨s, q', rfl⟩ : ∃ r p', q = r :: p' := by
        cases q with
        | nil => cases hbq
        | cons r p' => exact ⟨r, p', rfl⟩
       obtain ⟨p1, bv, rfl, hb, f0, f1, f2, f3, f4, f5⟩ := hq.at (i := 0) rfl
       obtain ⟨pb, cb, rfl, -⟩ := id hb
       rw [joinF_y hbp hbq] at hJ
       simp only [List.length_cons] at hlen hbc
       refine sr (yy (y_iaaN (i := 1) ar_100 rfl rfl (by decide)) ?_)
       refine ll (lb ld_91) ?_
       refine yy (y_far fo_40_4 rfl) (ll (lb ld_26) ?_)
       refine ll (ld_ln sl_26 rfl pk) ?_
       refine yy (y_cvu cv_3_25 rfl om) (lw (t_bs1 ap_91 zc_25 rfl rfl rfl rfl rfl (fun b85 => lw (aR ap_91 (fun va86 ho86 => yy (y_iaaN (i := 1) ar_100 rfl rfl (by decide)) ?_)))))
       refine lw (t_st1' sz_91 rfl rfl (by first | assumption | exact Byt.one ‹_› | exact Sl.one ‹_›) pk rfl ?_)
       refine nes (dR ([.blk b6 (.cells ((tBk a b [] [] 0 0).cells vo).toArray 40 (0, 0))]) [1, 4] (.take 0 (.take 1 (.take 2 (.take 3 (.take 4 (.alt 5 (.alt 6 (.take 7 (.alt 8 .done .stop)) .stop) .stop)))))) ?_)
       refine ey rfl (y_far fo_40_4 rfl) (dl rfl (lb ld_26) ?_)
       refine em rfl rfl (ey rfl (y_iaN (i := 0) sl_26 rfl rfl (by simp)) ?_)
       refine dl rfl (ltm ld_84 rfl ‹_›) ?_
       refine da rfl (t_bs1 ap_26 zc_84 rfl rfl rfl rfl rfl (fun b93 => ?_))
       refine dA (Stone.le.refl _) (da rfl (aR ap_26 (fun va94 ho94 => ?_)))
       refine dA (Stone.le.refl _) (ey rfl (y_far fo_40_4 rfl) (da rfl (t_st1' sz_26 rfl rfl (by first | assumption | exact Byt.one ‹_› | exact Sl.one ‹_›) pk rfl ?_)))
       refine dA (Stone.le.refl _) (d_done (e_then (c_region (mv rfl (yy (y_sl sl_26 rfl (l := 1) (h := (s :: q').length) ⟨_, rfl⟩ rfl (by simp) (by simp; omega)) ?_)))))
       have hsl := Sl.sub hq (by simp : 1 ≤ (s :: q').length) (Nat.le_refl _)
       rw [List.take_length] at hsl
       obtain ⟨A2, a2, e2, -, -⟩ := hsl.shape
       rw [e2] at hsl ⊢
       exact sa rfl (l_nil (e_in (e_in (e_then (t_to (hr0 ⟨p, q', out ++ [s], ta, tb ++ [out.length], .slice A p.length ac, .slice A2 (List.drop 1 (s :: q')).length a2, va94, vt, va86, xo ++ Rec.cells s (.slice (some pb) 1 cb), xt, xu ++ [u64 out.length]⟩ ⟨hp, hsl, hfo.snoc ⟨_, rfl, hb⟩ rfl, hft, hfu.snoc rfl rfl, ho94, ho2, ho86, hJ, by simp only [List.length_append, List.length_cons, List.length_nil]; omega, by simp only [List.length_append, List.length_cons, List.length_nil]; omega, by simp only [List.length_append, List.length_cons, List.length_nil]; omega⟩ (by simp only [List.length_cons]; omega)) (hs := by rw [List.length_append, List.length_append]; repeat (first | exact Sel.nil | exact Sel.refl _ | refine Sel.cons pk ?_ | refine Sel.skip ?_)))))))
     · have hbq : blocked q p = true := by
        cases q with
        | nil => rfl
        | cons r p' =>
         have h9 := g5
         simp at h9
         first | exact h9 | (rcases h9 with h9 | h9 <;> first | exact h9 | omega)
       rw [joinF_n hpos hbp hbq] at hJ
       refine t_pub (C := recC) (l := out) pk (fun S' hle => hfo.monoR hle) rfl (fun S4 le4 hs4 => ?_)
       obtain ⟨AX, aX, rfl, hX1, hX2, -⟩ := hs4.shape
       refine sr (ll (lbw ld_40) ?_)
       refine lw (sw sz_40 (sa rfl (netr (e_in_ret ?_))))
       exact e_in_ret (e_then_ret (e_in_ret (e_then_ret (f_retR rfl (ResV.agg ld_40 rfl pk rfl (rt rfl)) ⟨_, rfl, _, rfl, rfl, rfl⟩))))
 · have hp0 : p = [] := List.length_eq_zero_iff.1 (by simp at g1; omega)
   have hq0 : q = [] := List.length_eq_zero_iff.1 (by simp at g1; omega)
   subst hp0
   subst hq0
   have hJ' : joinL a.l b.l = some (out, ta, tb) := hJ.symm
   rw [hJ0] at hJ'
   cases hJ'
theorem tog_bad {S : Stone} {v w : Value} {a b : Bk} (h : BookR S v a) (h' : BookR S w b) (ho : BkOk a) (ho' : BkOk b) (he : a.epoch ≤ 1000000) (he' : b.epoch ≤ 1000000) (hl : a.l.length + b.l.length ≤ 200) {out0 : List Rec} {ta0 tb0 : List Nat} (hJ0 : joinL a.l b.l = some (out0, ta0, tb0)) (hbad : ¬ Rises out0) :
 Con Tryz.prog 22 #[v, w] [] S (RetR fun u S' => ∃ z, u = .tuple #[z, i64 172] ∧ BookV z) := by
 have h0 := h
 have h0' := h'
 obtain ⟨rv, rfl, hr⟩ := h
 obtain ⟨wv, rfl, hr'⟩ := h'
 obtain ⟨A0, a0, rfl, -, -⟩ := hr.shape
 obtain ⟨B0, b0, rfl, -, -⟩ := hr'.shape
 refine con_of 219 Tryz.func22 rfl rfl rfl (fun w0 => ?_)
 refine sr (bx rfl rfl (fun b2 => bx rfl rfl (fun b3 => t_stone (b := b2) pk (fun S1 le1 hS1 => ?_))))
 refine t_stone (b := b3) pk (fun S2 le2 hS2 => ?_)
 have hS1' := le2 _ _ hS1
 have kA : ∀ (j : Nat) u, (a.cells (.slice A0 a.l.length a0))[j]? = some u → S2.cell ⟨b2, j, none⟩ = some u := fun j u hu => by simp [Stone.cell, hS1', hu]
 have kB : ∀ (j : Nat) u, (b.cells (.slice B0 b.l.length b0))[j]? = some u → S2.cell ⟨b3, j, none⟩ = some u := fun j u hu => by simp [Stone.cell, hS2, hu]
 have kA0 : S2.cell ⟨b2, 0 + 0, none⟩ = _ := kA 0 _ rfl
 have kA2 : S2.cell ⟨b2, 0 + 2, none⟩ = _ := kA 2 _ rfl
 have kA4 : S2.cell ⟨b2, 0 + 4, none⟩ = _ := kA 4 _ rfl
 have kB1 : S2.cell ⟨b3, 0 + 1, none⟩ = _ := kB 1 _ rfl
 have kB2 : S2.cell ⟨b3, 0 + 2, none⟩ = _ := kB 2 _ rfl
 have kB4 : S2.cell ⟨b3, 0 + 4, none⟩ = _ := kB 4 _ rfl
 have hr2 := hr.mono (le1.trans le2)
 have hr2' := hr'.mono (le1.trans le2)
 refine al zc_40 (fun b4 => sa rfl (nesr (yy (y_far fo_40_0 rfl) (ll (ld_st ld_9 rfl ‹_›) ?_))))
 refine yy (y_far fo_40_1 rfl) (ll (ld_st ld_9 rfl ‹_›) ?_)
 refine yy (y_far fo_40_2 rfl) (ll (ld_st ld_25 rfl ‹_›) ?_)
 refine yy (y_far fo_40_2 rfl) (ll (ld_st ld_25 rfl ‹_›) ?_)
 refine yy (y_maxN rfl rfl) (yy (y_addU (m := 1) rfl rfl om) (yy (y_build pl_40 zc_40 rfl rfl) (al zc_40 (fun b6 => lw (sw sz_40 (nesr (al zc_100 (fun b7 => t_nilrow 25 1 ?_))))))))
 refine t_nilrow 25 1 ?_
 refine t_nilrow 84 5 ?_
 refine nes (dRa [1, 3] (.take 0 (.take 1 (.take 2 (.take 3 (.take 4 (.take 5 .done)))))) ?_)
 refine ey rfl (y_far fo_40_4 rfl) (dl rfl (ld_st ld_26 rfl ‹_›) ?_)
 refine ey rfl (y_far fo_40_4 rfl) (dl rfl (ld_st ld_26 rfl ‹_›) ?_)
 refine ea rfl rfl (ea rfl rfl (d_done (e_then (c_seq (c_block (c_loopE (τ := TS) [(7, _), (6, _), (5, _), (4, _), (3, _), (2, _)] (fun Ek z0 => (8, z0.vp) :: (9, z0.vq) :: Ek) (fun z0 => [.blk b6 (.cells ((tBk a b [] [] 0 0).cells z0.vo).toArray 40 (0, 0)), .blk b7 (.cells [z0.vt, z0.vu].toArray 100 (0, 0)), .row z0.vo 84 5 z0.out.length z0.xo, .row z0.vt 25 1 z0.ta.length z0.xt, .row z0.vu 25 1 z0.tb.length z0.xu, .blk b4 (.cells [.string ⟨#[]⟩, .string ⟨#[]⟩, .int .u64 0, .int .u64 0, .slice none 0 0, .int .u64 0, .int .u64 0, .int .u64 0, .int .u64 0, .int .u64 0, .int .u64 0, .int .u64 0, .int .u64 0, .int .u64 0, .int .u64 0, .bool false, .bool false, .int .u64 0, .int .u64 0].toArray 40 (0, 0))]) (fun z0 => S2) (fun z0 => Recs S2 z0.vp z0.p ∧ Recs S2 z0.vq z0.q ∧ Flat S2 5 recC z0.xo z0.out ∧ Flat S2 1 natC z0.xt z0.ta ∧ Flat S2 1 natC z0.xu z0.tb ∧ z0.vo.oneCell' = true ∧ z0.vt.oneCell' = true ∧ z0.vu.oneCell' = true ∧ joinF (z0.p.length + z0.q.length) z0.p z0.q z0.out z0.ta z0.tb = joinL a.l b.l ∧ z0.out.length + z0.p.length + z0.q.length ≤ 200 ∧ z0.ta.length ≤ z0.out.length ∧ z0.tb.length ≤ z0.out.length) (fun z0 => z0.p.length + z0.q.length) (⟨a.l, b.l, [], [], [], .slice A0 a.l.length a0, .slice B0 b.l.length b0, .slice none 0 0, .slice none 0 0, .slice none 0 0, [], [], []⟩) (⟨hr2, hr2', Flat.nil, Flat.nil, Flat.nil, rfl, rfl, rfl, rfl, by simp only [List.length_nil]; omega, Nat.le_refl _, Nat.le_refl _⟩) (fun z0 hz0 K0l hr0 => ?_)))))))
 obtain ⟨p, q, out, ta, tb, vp, vq, vo, vt, vu, xo, xt, xu⟩ := z0
 obtain ⟨hp, hq, hfo, hft, hfu, ho1, ho2, ho3, hJ, hlen, hla, hlb⟩ := hz0
 simp only at hp hq hfo hft hfu ho1 ho2 ho3 hJ hlen hla hlb
 dsimp only
 obtain ⟨A, ac, rfl, hac, -⟩ := hp.shape
 obtain ⟨B, bc, rfl, hbc, -⟩ := hq.shape
 refine c_seq (sr (mv rfl (yy (y_ln sl_26 rfl) (mv rfl (yy (y_ln sl_26 rfl) (yy (y_addN rfl rfl om) (yy (y_gt rfl rfl) (nec rfl (fun g1 => ?_) (fun g1 => ?_)))))))))
 · have hpos : 0 < p.length + q.length := by simp at g1; omega
   refine c_skip (e_then (c_block (c_block (sr (mv rfl (yy (y_ln sl_26 rfl) (yy (y_gt rfl rfl) (mv rfl ?_))))))))
   apply l_and 7 (gd := 40) (d := 47) (r := !(blocked p q)) rfl
   · intro hb40 K2 hK2
     obtain ⟨r, p', rfl⟩ : ∃ r p', p = r :: p' := by
      cases p with
      | nil => simp at hb40
      | cons r p' => exact ⟨r, p', rfl⟩
     obtain ⟨p1, bv, rfl, hb, f0, f1, f2, f3, f4, f5⟩ := hp.at (i := 0) rfl
     refine qy hb40 (y_move rfl) (qy hb40 (y_move rfl) (qy hb40 (y_iaN (i := 0) sl_26 rfl rfl (by simp)) ?_))
     refine gl hb40 (ltm ld_84 rfl f5) ?_
     exact gw hb40 (t_callr' rfl (lower_ok hq om) en_35 (qy hb40 (y_not rfl) (yy (y_pick_t' rfl hb40 rfl) (lk_end hK2))))
   · intro hb40 K2 hK2
     exact qn hb40 (qn hb40 (qn hb40 (qn hb40 (qn hb40 (qn hb40 (yy (y_pick_f' rfl hb40 rfl) (lk_end hK2)))))))
   refine sa rfl (nec rfl (fun g3 => ?_) (fun g3 => ?_))
   · have hbp : blocked p q = false := by simp at g3; exact g3.2
     obtain ⟨r, p', rfl⟩ : ∃ r p', p = r :: p' := by
      cases p with
      | nil => cases hbp
      | cons r p' => exact ⟨r, p', rfl⟩
     obtain ⟨p1, bv, rfl, hb, f0, f1, f2, f3, f4, f5⟩ := hp.at (i := 0) rfl
     obtain ⟨pb, cb, rfl, -⟩ := id hb
     rw [joinF_x hbp] at hJ
     simp only [List.length_cons] at hlen hac
     refine sr (yy (y_iaaN (i := 0) ar_100 rfl rfl (by decide)) ?_)
     refine ll (lb ld_91) ?_
     refine yy (y_far fo_40_4 rfl) (ll (lb ld_26) ?_)
     refine ll (ld_ln sl_26 rfl pk) ?_
     refine yy (y_cvu cv_3_25 rfl om) (lw (t_bs1 ap_91 zc_25 rfl rfl rfl rfl rfl (fun b54 => lw (aR ap_91 (fun va55 ho55 => yy (y_iaaN (i := 0) ar_100 rfl rfl (by decide)) ?_)))))
     refine lw (t_st1' sz_91 rfl rfl (by first | assumption | exact Byt.one ‹_› | exact Sl.one ‹_›) pk rfl ?_)
     refine nes (dR ([.blk b6 (.cells ((tBk a b [] [] 0 0).cells vo).toArray 40 (0, 0))]) [1, 4] (.take 0 (.take 1 (.take 2 (.take 3 (.take 4 (.alt 5 (.alt 6 (.take 7 (.alt 8 .done .stop)) .stop) .stop)))))) ?_)
     refine ey rfl (y_far fo_40_4 rfl) (dl rfl (lb ld_26) ?_)
     refine em rfl rfl (ey rfl (y_iaN (i := 0) sl_26 rfl rfl (by simp)) ?_)
     refine dl rfl (ltm ld_84 rfl ‹_›) ?_
     refine da rfl (t_bs1 ap_26 zc_84 rfl rfl rfl rfl rfl (fun b62 => ?_))
     refine dA (Stone.le.refl _) (da rfl (aR ap_26 (fun va63 ho63 => ?_)))
     refine dA (Stone.le.refl _) (ey rfl (y_far fo_40_4 rfl) (da rfl (t_st1' sz_26 rfl rfl (by first | assumption | exact Byt.one ‹_› | exact Sl.one ‹_›) pk rfl ?_)))
     refine dA (Stone.le.refl _) (d_done (e_then (c_region (mv rfl (yy (y_sl sl_26 rfl (l := 1) (h := (r :: p').length) ⟨_, rfl⟩ rfl (by simp) (by simp; omega)) ?_)))))
     have hsl := Sl.sub hp (by simp : 1 ≤ (r :: p').length) (Nat.le_refl _)
     rw [List.take_length] at hsl
     obtain ⟨A2, a2, e2, -, -⟩ := hsl.shape
     rw [e2] at hsl ⊢
     exact sa rfl (l_nil (e_in (e_in (e_then (t_to (hr0 ⟨p', q, out ++ [r], ta ++ [out.length], tb, .slice A2 (List.drop 1 (r :: p')).length a2, .slice B q.length bc, va63, va55, vu, xo ++ Rec.cells r (.slice (some pb) 1 cb), xt ++ [u64 out.length], xu⟩ ⟨hsl, hq, hfo.snoc ⟨_, rfl, hb⟩ rfl, hft.snoc rfl rfl, hfu, ho63, ho55, ho3, hJ, by simp only [List.length_append, List.length_cons, List.length_nil]; omega, by simp only [List.length_append, List.length_cons, List.length_nil]; omega, by simp only [List.length_append, List.length_cons, List.length_nil]; omega⟩ (by simp only [List.length_cons]; omega)) (hs := by rw [List.length_append, List.length_append]; repeat (first | exact Sel.nil | exact Sel.refl _ | refine Sel.cons pk ?_ | refine Sel.skip ?_)))))))
   · have hbp : blocked p q = true := by
      cases p with
      | nil => rfl
      | cons r p' =>
       have h9 := g3
       simp at h9
       first | exact h9 | (rcases h9 with h9 | h9 <;> first | exact h9 | omega)
     refine sr (mv rfl (yy (y_ln sl_26 rfl) (yy (y_gt rfl rfl) (mv rfl ?_))))
     apply l_and 7 (gd := 71) (d := 78) (r := !(blocked q p)) rfl
     · intro hb71 K4 hK4
       obtain ⟨s, q', rfl⟩ : ∃ r p', q = r :: p' := by
        cases q with
        | nil => simp at hb71
        | cons r p' => exact ⟨r, p', rfl⟩
       obtain ⟨p1, bv, rfl, hb, f0, f1, f2, f3, f4, f5⟩ := hq.at (i := 0) rfl
       refine qy hb71 (y_move rfl) (qy hb71 (y_move rfl) (qy hb71 (y_iaN (i := 0) sl_26 rfl rfl (by simp)) ?_))
       refine gl hb71 (ltm ld_84 rfl f5) ?_
       exact gw hb71 (t_callr' rfl (lower_ok hp om) en_35 (qy hb71 (y_not rfl) (yy (y_pick_t' rfl hb71 rfl) (lk_end hK4))))
     · intro hb71 K4 hK4
       exact qn hb71 (qn hb71 (qn hb71 (qn hb71 (qn hb71 (qn hb71 (yy (y_pick_f' rfl hb71 rfl) (lk_end hK4)))))))
     refine sa rfl (nec rfl (fun g5 => ?_) (fun g5 => ?_))
     · have hbq : blocked q p = false := by simp at g5; exact g5.2
       obtain ⟨s, q', rfl⟩ : ∃ r p', q = r :: p' := by
        cases q with
        | nil => cases hbq
        | cons r p' => exact ⟨r, p', rfl⟩
       obtain ⟨p1, bv, rfl, hb, f0, f1, f2, f3, f4, f5⟩ := hq.at (i := 0) rfl
       obtain ⟨pb, cb, rfl, -⟩ := id hb
       rw [joinF_y hbp hbq] at hJ
       simp only [List.length_cons] at hlen hbc
       refine sr (yy (y_iaaN (i := 1) ar_100 rfl rfl (by decide)) ?_)
       refine ll (lb ld_91) ?_
       refine yy (y_far fo_40_4 rfl) (ll (lb ld_26) ?_)
       refine ll (ld_ln sl_26 rfl pk) ?_
       refine yy (y_cvu cv_3_25 rfl om) (lw (t_bs1 ap_91 zc_25 rfl rfl rfl rfl rfl (fun b85 => lw (aR ap_91 (fun va86 ho86 => yy (y_iaaN (i := 1) ar_100 rfl rfl (by decide)) ?_)))))
       refine lw (t_st1' sz_91 rfl rfl (by first | assumption | exact Byt.one ‹_› | exact Sl.one ‹_›) pk rfl ?_)
       refine nes (dR ([.blk b6 (.cells ((tBk a b [] [] 0 0).cells vo).toArray 40 (0, 0))]) [1, 4] (.take 0 (.take 1 (.take 2 (.take 3 (.take 4 (.alt 5 (.alt 6 (.take 7 (.alt 8 .done .stop)) .stop) .stop)))))) ?_)
       refine ey rfl (y_far fo_40_4 rfl) (dl rfl (lb ld_26) ?_)
       refine em rfl rfl (ey rfl (y_iaN (i := 0) sl_26 rfl rfl (by simp)) ?_)
       refine dl rfl (ltm ld_84 rfl ‹_›) ?_
       refine da rfl (t_bs1 ap_26 zc_84 rfl rfl rfl rfl rfl (fun b93 => ?_))
       refine dA (Stone.le.refl _) (da rfl (aR ap_26 (fun va94 ho94 => ?_)))
       refine dA (Stone.le.refl _) (ey rfl (y_far fo_40_4 rfl) (da rfl (t_st1' sz_26 rfl rfl (by first | assumption | exact Byt.one ‹_› | exact Sl.one ‹_›) pk rfl ?_)))
       refine dA (Stone.le.refl _) (d_done (e_then (c_region (mv rfl (yy (y_sl sl_26 rfl (l := 1) (h := (s :: q').length) ⟨_, rfl⟩ rfl (by simp) (by simp; omega)) ?_)))))
       have hsl := Sl.sub hq (by simp : 1 ≤ (s :: q').length) (Nat.le_refl _)
       rw [List.take_length] at hsl
       obtain ⟨A2, a2, e2, -, -⟩ := hsl.shape
       rw [e2] at hsl ⊢
       exact sa rfl (l_nil (e_in (e_in (e_then (t_to (hr0 ⟨p, q', out ++ [s], ta, tb ++ [out.length], .slice A p.length ac, .slice A2 (List.drop 1 (s :: q')).length a2, va94, vt, va86, xo ++ Rec.cells s (.slice (some pb) 1 cb), xt, xu ++ [u64 out.length]⟩ ⟨hp, hsl, hfo.snoc ⟨_, rfl, hb⟩ rfl, hft, hfu.snoc rfl rfl, ho94, ho2, ho86, hJ, by simp only [List.length_append, List.length_cons, List.length_nil]; omega, by simp only [List.length_append, List.length_cons, List.length_nil]; omega, by simp only [List.length_append, List.length_cons, List.length_nil]; omega⟩ (by simp only [List.length_cons]; omega)) (hs := by rw [List.length_append, List.length_append]; repeat (first | exact Sel.nil | exact Sel.refl _ | refine Sel.cons pk ?_ | refine Sel.skip ?_)))))))
     · have hbq : blocked q p = true := by
        cases q with
        | nil => rfl
        | cons r p' =>
         have h9 := g5
         simp at h9
         first | exact h9 | (rcases h9 with h9 | h9 <;> first | exact h9 | omega)
       rw [joinF_n hpos hbp hbq] at hJ
       rw [hJ0] at hJ
       cases hJ
 · have hp0 : p = [] := List.length_eq_zero_iff.1 (by simp at g1; omega)
   have hq0 : q = [] := List.length_eq_zero_iff.1 (by simp at g1; omega)
   subst hp0
   subst hq0
   have hJ' : joinL a.l b.l = some (out, ta, tb) := hJ.symm
   rw [hJ0] at hJ'
   injection hJ' with hJ'
   injection hJ' with e5 e6
   injection e6 with e6 e7
   subst e5
   subst e6
   subst e7
   refine t_pub (C := recC) (l := out0) pk (fun S' hle => hfo.monoR hle) rfl (fun S4 le4 hs4 => ?_)
   obtain ⟨AX, aX, rfl, hX1, hX2, -⟩ := hs4.shape
   have kA4' : ∀ (j : Nat) u, (a.cells (.slice A0 a.l.length a0))[j]? = some u → S4.cell ⟨b2, j, none⟩ = some u := fun j u hu => le4.cell (kA j u hu)
   have kB4' : ∀ (j : Nat) u, (b.cells (.slice B0 b.l.length b0))[j]? = some u → S4.cell ⟨b3, j, none⟩ = some u := fun j u hu => le4.cell (kB j u hu)
   have hl200 : out0.length ≤ 200 := by simp only [List.length_nil] at hlen; omega
   refine c_exit ?_
   refine e_then_exit (e_then_exit (e_in_same (e_then (c_seq (sr (sa rfl (ne (c_block (c_loopH (τ := Nat) [(34, _), (7, _), (6, _), (5, _), (4, _), (3, _), (2, _)] (fun Ek z1 => (10, i64 z1) :: Ek) (fun z1 => z1 ≤ out0.length ∧ (∀ (i k : Nat) r r', i < z1 → out0[i]? = some r → out0[k]? = some r' → k < i → r'.prod = r.prod → r'.seq < r.seq)) (fun z1 => out0.length - z1) (0) (⟨Nat.zero_le _, fun i k r r' hi => by omega⟩) (fun z1 hz1 K1l hr1 => ?_))))))))))
   refine c_seq (sr (mv rfl (yy (y_far fo_40_4 rfl) (ll (lb ld_26) ?_))))
   refine yy (y_ln sl_26 rfl) (yy (y_lt rfl rfl) (nec rfl (fun g6 => ?_) (fun g6 => ?_)))
   · have hil : z1 < out0.length := by simpa using g6
     obtain ⟨x, hx⟩ : ∃ r, out0[z1]? = some r := ⟨_, List.getElem?_eq_getElem hil⟩
     refine c_skip (e_then (c_seq (c_block (sr (sa rfl (ne (c_block (c_loopH (τ := Nat) [(102, _), (10, _), (34, _), (7, _), (6, _), (5, _), (4, _), (3, _), (2, _)] (fun Ek z2 => (11, i64 z2) :: Ek) (fun z2 => z2 ≤ z1 ∧ (∀ (k : Nat) r', k < z2 → out0[k]? = some r' → r'.prod = x.prod → r'.seq < x.seq)) (fun z2 => z1 - z2) (0) (⟨Nat.zero_le _, fun k r' hk => by omega⟩) (fun z2 hz2 K2l hr2 => ?_)))))))))
     refine c_seq (sr (mv rfl (mv rfl (yy (y_lt rfl rfl) (nec rfl (fun g7 => ?_) (fun g7 => ?_))))))
     · have hkl : z2 < z1 := by simpa using g7
       obtain ⟨y, hy⟩ : ∃ r, out0[z2]? = some r := ⟨_, List.getElem?_eq_getElem om⟩
       obtain ⟨px, bx, rfl, hbx, fx0, fx1, fx2, fx3, fx4, fx5⟩ := Recs.at hs4 hx
       obtain ⟨py, by', epy, hby, fy0, fy1, fy2, fy3, fy4, fy5⟩ := Recs.at hs4 hy
       injection epy with epy
       subst epy
       refine c_skip (e_then (c_seq (c_block (c_seq (c_cutv (d := 137) (v := .bool (decide (y.prod = x.prod ∧ x.seq ≤ y.seq))) (fun K8v hK8v => ?_) ?_)))))
       · -- the value
         refine dRa [1, 5, 7, 11, 15, 19, 21, 25] (.take 0 (.take 1 (.take 2 (.take 3 (.take 4 (.take 5 (.take 6 (.take 7 (.take 8 (.take 9 (.take 10 (.take 11 (.take 12 (.take 13 (.take 14 (.take 15 (.take 16 (.take 17 (.take 18 (.take 19 (.take 20 (.take 21 (.take 22 (.take 23 (.take 24 (.take 25 (.take 26 (.take 27 .done)))))))))))))))))))))))))))) ?_
         refine ey rfl (y_far fo_40_4 rfl) (dl rfl (lb ld_26) ?_)
         refine em rfl rfl (ey rfl (y_iaN sl_26 rfl rfl om) (ey rfl (y_fa fo_84_3 rfl) (dl rfl (ld_st ld_25 rfl fy3) ?_)))
         refine ey rfl (y_far fo_40_4 rfl) (dl rfl (lb ld_26) ?_)
         refine em rfl rfl (ey rfl (y_iaN sl_26 rfl rfl om) (ey rfl (y_fa fo_84_3 rfl) (dl rfl (ld_st ld_25 rfl fx3) ?_)))
         refine ey rfl (y_eq rfl rfl) (em rfl rfl (t_split (gd := 123) rfl (fun hb123 => ?_) (fun hb123 => ?_)))
         · -- hb123
           refine egy rfl hb123 (y_far fo_40_4 rfl) (dgl rfl hb123 (lb ld_26) ?_)
           refine egy rfl hb123 (y_move rfl) (egy rfl hb123 (y_iaN sl_26 rfl rfl om) (egy rfl hb123 (y_fa fo_84_4 rfl) (dgl rfl hb123 (ld_st ld_25 rfl fy4) ?_)))
           refine egy rfl hb123 (y_far fo_40_4 rfl) (dgl rfl hb123 (lb ld_26) ?_)
           refine egy rfl hb123 (y_move rfl) (egy rfl hb123 (y_iaN sl_26 rfl rfl om) (egy rfl hb123 (y_fa fo_84_4 rfl) (dgl rfl hb123 (ld_st ld_25 rfl fx4) ?_)))
           exact egy rfl hb123 (y_ge rfl rfl) (ey rfl (y_pick_t' rfl hb123 rfl) (d_done (lk_val hK8v rfl (congrArg Value.bool (by first | (have h9 := hb123; simp at h9; symm; rw [decide_eq_false_iff_not]; intro h8; omega) | (have h9 := hb123; simp at h9; rw [Bool.eq_iff_iff, decide_eq_true_eq, decide_eq_true_eq]; constructor <;> intro h8 <;> (try refine ⟨by omega, ?_⟩) <;> omega))))))
         · -- hb123
           exact zn rfl hb123 (zn rfl hb123 (zn rfl hb123 (zn rfl hb123 (zn rfl hb123 (zn rfl hb123 (zn rfl hb123 (zn rfl hb123 (zn rfl hb123 (zn rfl hb123 (zn rfl hb123 (zn rfl hb123 (zn rfl hb123 (ey rfl (y_pick_f' rfl hb123 rfl) (d_done (lk_val hK8v rfl (congrArg Value.bool (by first | (have h9 := hb123; simp at h9; symm; rw [decide_eq_false_iff_not]; intro h8; omega) | (have h9 := hb123; simp at h9; rw [Bool.eq_iff_iff, decide_eq_true_eq, decide_eq_true_eq]; constructor <;> intro h8 <;> (try refine ⟨by omega, ?_⟩) <;> omega))))))))))))))))))
       refine c_cond rfl (fun g9 => ?_) (fun g9 => ?_)
       · skip
         refine sr (ll (lbw ld_40) ?_)
         refine lw (sw sz_40 (sa rfl (netr (e_in_ret (e_then_ret (e_then_ret ?_))))))
         exact e_in_ret (e_in_ret (e_then_ret (e_then_ret (e_in_ret (e_then_ret (f_retR rfl (ResV.agg ld_40 rfl pk rfl (rt rfl)) ⟨_, rfl, _, rfl, rfl, rfl⟩))))))
       · have hno := g9
         refine c_skip (e_in (e_then (c_region (mv rfl (yy (y_addN (m := 1) rfl rfl om) (sa rfl (ne ?_)))))))
         exact t_to (hr2 (z2 + 1) ⟨by omega, fun k r' hk hr' hpr => by
          by_cases e : k = z2
          · subst e; rw [hy] at hr'; cases hr'; simp at hno; have := hno hpr; omega
          · exact hz2.2 k r' om hr' hpr⟩ om)
     · have hex := g7
       refine c_exit ?_
       refine e_then_exit (e_then_exit (e_in_same (e_in (e_then (c_region (mv rfl (yy (y_addN (m := 1) rfl rfl om) (sa rfl (ne ?_)))))))))
       have hze : z2 = z1 := by simp at hex; omega
       subst hze
       exact t_to (hr1 (z2 + 1) ⟨by omega, fun i k r r' hi hr hr' hki hpr => by
        by_cases e : i = z2
        · subst e; rw [hx] at hr; cases hr; exact hz2.2 k r' hki hr' hpr
        · exact hz1.2 i k r r' om hr hr' hki hpr⟩ om)
   · have hze : z1 = out0.length := by simp at g6; omega
     refine absurd (fun i k r r' hr hr' hki hpr => ?_) hbad
     have hi := (List.getElem?_eq_some_iff.1 hr).1
     exact hz1.2 i k r r' om hr hr' hki hpr
theorem tog_yes {S : Stone} {v w : Value} {a b : Bk} (h : BookR S v a) (h' : BookR S w b) (ho : BkOk a) (ho' : BkOk b) (he : a.epoch ≤ 1000000) (he' : b.epoch ≤ 1000000) (hl : a.l.length + b.l.length ≤ 200) {out0 : List Rec} {ta0 tb0 : List Nat} (hJ0 : joinL a.l b.l = some (out0, ta0, tb0)) (hgood : Rises out0) (hta : ta0.length = a.l.length) (htb : tb0.length = b.l.length) :
 Con Tryz.prog 22 #[v, w] [] S (RetR fun u S' => ∃ z, u = .tuple #[z, .int .i64 0] ∧ BookR S' z (togB a b out0 ta0 tb0)) := by
 have h0 := h
 have h0' := h'
 obtain ⟨rv, rfl, hr⟩ := h
 obtain ⟨wv, rfl, hr'⟩ := h'
 obtain ⟨A0, a0, rfl, -, -⟩ := hr.shape
 obtain ⟨B0, b0, rfl, -, -⟩ := hr'.shape
 refine con_of 219 Tryz.func22 rfl rfl rfl (fun w0 => ?_)
 refine sr (bx rfl rfl (fun b2 => bx rfl rfl (fun b3 => t_stone (b := b2) pk (fun S1 le1 hS1 => ?_))))
 refine t_stone (b := b3) pk (fun S2 le2 hS2 => ?_)
 have hS1' := le2 _ _ hS1
 have kA : ∀ (j : Nat) u, (a.cells (.slice A0 a.l.length a0))[j]? = some u → S2.cell ⟨b2, j, none⟩ = some u := fun j u hu => by simp [Stone.cell, hS1', hu]
 have kB : ∀ (j : Nat) u, (b.cells (.slice B0 b.l.length b0))[j]? = some u → S2.cell ⟨b3, j, none⟩ = some u := fun j u hu => by simp [Stone.cell, hS2, hu]
 have kA0 : S2.cell ⟨b2, 0 + 0, none⟩ = _ := kA 0 _ rfl
 have kA2 : S2.cell ⟨b2, 0 + 2, none⟩ = _ := kA 2 _ rfl
 have kA4 : S2.cell ⟨b2, 0 + 4, none⟩ = _ := kA 4 _ rfl
 have kB1 : S2.cell ⟨b3, 0 + 1, none⟩ = _ := kB 1 _ rfl
 have kB2 : S2.cell ⟨b3, 0 + 2, none⟩ = _ := kB 2 _ rfl
 have kB4 : S2.cell ⟨b3, 0 + 4, none⟩ = _ := kB 4 _ rfl
 have hr2 := hr.mono (le1.trans le2)
 have hr2' := hr'.mono (le1.trans le2)
 refine al zc_40 (fun b4 => sa rfl (nesr (yy (y_far fo_40_0 rfl) (ll (ld_st ld_9 rfl ‹_›) ?_))))
 refine yy (y_far fo_40_1 rfl) (ll (ld_st ld_9 rfl ‹_›) ?_)
 refine yy (y_far fo_40_2 rfl) (ll (ld_st ld_25 rfl ‹_›) ?_)
 refine yy (y_far fo_40_2 rfl) (ll (ld_st ld_25 rfl ‹_›) ?_)
 refine yy (y_maxN rfl rfl) (yy (y_addU (m := 1) rfl rfl om) (yy (y_build pl_40 zc_40 rfl rfl) (al zc_40 (fun b6 => lw (sw sz_40 (nesr (al zc_100 (fun b7 => t_nilrow 25 1 ?_))))))))
 refine t_nilrow 25 1 ?_
 refine t_nilrow 84 5 ?_
 refine nes (dRa [1, 3] (.take 0 (.take 1 (.take 2 (.take 3 (.take 4 (.take 5 .done)))))) ?_)
 refine ey rfl (y_far fo_40_4 rfl) (dl rfl (ld_st ld_26 rfl ‹_›) ?_)
 refine ey rfl (y_far fo_40_4 rfl) (dl rfl (ld_st ld_26 rfl ‹_›) ?_)
 refine ea rfl rfl (ea rfl rfl (d_done (e_then (c_seq (c_block (c_loopE (τ := TS) [(7, _), (6, _), (5, _), (4, _), (3, _), (2, _)] (fun Ek z0 => (8, z0.vp) :: (9, z0.vq) :: Ek) (fun z0 => [.blk b6 (.cells ((tBk a b [] [] 0 0).cells z0.vo).toArray 40 (0, 0)), .blk b7 (.cells [z0.vt, z0.vu].toArray 100 (0, 0)), .row z0.vo 84 5 z0.out.length z0.xo, .row z0.vt 25 1 z0.ta.length z0.xt, .row z0.vu 25 1 z0.tb.length z0.xu, .blk b4 (.cells [.string ⟨#[]⟩, .string ⟨#[]⟩, .int .u64 0, .int .u64 0, .slice none 0 0, .int .u64 0, .int .u64 0, .int .u64 0, .int .u64 0, .int .u64 0, .int .u64 0, .int .u64 0, .int .u64 0, .int .u64 0, .int .u64 0, .bool false, .bool false, .int .u64 0, .int .u64 0].toArray 40 (0, 0))]) (fun z0 => S2) (fun z0 => Recs S2 z0.vp z0.p ∧ Recs S2 z0.vq z0.q ∧ Flat S2 5 recC z0.xo z0.out ∧ Flat S2 1 natC z0.xt z0.ta ∧ Flat S2 1 natC z0.xu z0.tb ∧ z0.vo.oneCell' = true ∧ z0.vt.oneCell' = true ∧ z0.vu.oneCell' = true ∧ joinF (z0.p.length + z0.q.length) z0.p z0.q z0.out z0.ta z0.tb = joinL a.l b.l ∧ z0.out.length + z0.p.length + z0.q.length ≤ 200 ∧ z0.ta.length ≤ z0.out.length ∧ z0.tb.length ≤ z0.out.length) (fun z0 => z0.p.length + z0.q.length) (⟨a.l, b.l, [], [], [], .slice A0 a.l.length a0, .slice B0 b.l.length b0, .slice none 0 0, .slice none 0 0, .slice none 0 0, [], [], []⟩) (⟨hr2, hr2', Flat.nil, Flat.nil, Flat.nil, rfl, rfl, rfl, rfl, by simp only [List.length_nil]; omega, Nat.le_refl _, Nat.le_refl _⟩) (fun z0 hz0 K0l hr0 => ?_)))))))
 obtain ⟨p, q, out, ta, tb, vp, vq, vo, vt, vu, xo, xt, xu⟩ := z0
 obtain ⟨hp, hq, hfo, hft, hfu, ho1, ho2, ho3, hJ, hlen, hla, hlb⟩ := hz0
 simp only at hp hq hfo hft hfu ho1 ho2 ho3 hJ hlen hla hlb
 dsimp only
 obtain ⟨A, ac, rfl, hac, -⟩ := hp.shape
 obtain ⟨B, bc, rfl, hbc, -⟩ := hq.shape
 refine c_seq (sr (mv rfl (yy (y_ln sl_26 rfl) (mv rfl (yy (y_ln sl_26 rfl) (yy (y_addN rfl rfl om) (yy (y_gt rfl rfl) (nec rfl (fun g1 => ?_) (fun g1 => ?_)))))))))
 · have hpos : 0 < p.length + q.length := by simp at g1; omega
   refine c_skip (e_then (c_block (c_block (sr (mv rfl (yy (y_ln sl_26 rfl) (yy (y_gt rfl rfl) (mv rfl ?_))))))))
   apply l_and 7 (gd := 40) (d := 47) (r := !(blocked p q)) rfl
   · intro hb40 K2 hK2
     obtain ⟨r, p', rfl⟩ : ∃ r p', p = r :: p' := by
      cases p with
      | nil => simp at hb40
      | cons r p' => exact ⟨r, p', rfl⟩
     obtain ⟨p1, bv, rfl, hb, f0, f1, f2, f3, f4, f5⟩ := hp.at (i := 0) rfl
     refine qy hb40 (y_move rfl) (qy hb40 (y_move rfl) (qy hb40 (y_iaN (i := 0) sl_26 rfl rfl (by simp)) ?_))
     refine gl hb40 (ltm ld_84 rfl f5) ?_
     exact gw hb40 (t_callr' rfl (lower_ok hq om) en_35 (qy hb40 (y_not rfl) (yy (y_pick_t' rfl hb40 rfl) (lk_end hK2))))
   · intro hb40 K2 hK2
     exact qn hb40 (qn hb40 (qn hb40 (qn hb40 (qn hb40 (qn hb40 (yy (y_pick_f' rfl hb40 rfl) (lk_end hK2)))))))
   refine sa rfl (nec rfl (fun g3 => ?_) (fun g3 => ?_))
   · have hbp : blocked p q = false := by simp at g3; exact g3.2
     obtain ⟨r, p', rfl⟩ : ∃ r p', p = r :: p' := by
      cases p with
      | nil => cases hbp
      | cons r p' => exact ⟨r, p', rfl⟩
     obtain ⟨p1, bv, rfl, hb, f0, f1, f2, f3, f4, f5⟩ := hp.at (i := 0) rfl
     obtain ⟨pb, cb, rfl, -⟩ := id hb
     rw [joinF_x hbp] at hJ
     simp only [List.length_cons] at hlen hac
     refine sr (yy (y_iaaN (i := 0) ar_100 rfl rfl (by decide)) ?_)
     refine ll (lb ld_91) ?_
     refine yy (y_far fo_40_4 rfl) (ll (lb ld_26) ?_)
     refine ll (ld_ln sl_26 rfl pk) ?_
     refine yy (y_cvu cv_3_25 rfl om) (lw (t_bs1 ap_91 zc_25 rfl rfl rfl rfl rfl (fun b54 => lw (aR ap_91 (fun va55 ho55 => yy (y_iaaN (i := 0) ar_100 rfl rfl (by decide)) ?_)))))
     refine lw (t_st1' sz_91 rfl rfl (by first | assumption | exact Byt.one ‹_› | exact Sl.one ‹_›) pk rfl ?_)
     refine nes (dR ([.blk b6 (.cells ((tBk a b [] [] 0 0).cells vo).toArray 40 (0, 0))]) [1, 4] (.take 0 (.take 1 (.take 2 (.take 3 (.take 4 (.alt 5 (.alt 6 (.take 7 (.alt 8 .done .stop)) .stop) .stop)))))) ?_)
     refine ey rfl (y_far fo_40_4 rfl) (dl rfl (lb ld_26) ?_)
     refine em rfl rfl (ey rfl (y_iaN (i := 0) sl_26 rfl rfl (by simp)) ?_)
     refine dl rfl (ltm ld_84 rfl ‹_›) ?_
     refine da rfl (t_bs1 ap_26 zc_84 rfl rfl rfl rfl rfl (fun b62 => ?_))
     refine dA (Stone.le.refl _) (da rfl (aR ap_26 (fun va63 ho63 => ?_)))
     refine dA (Stone.le.refl _) (ey rfl (y_far fo_40_4 rfl) (da rfl (t_st1' sz_26 rfl rfl (by first | assumption | exact Byt.one ‹_› | exact Sl.one ‹_›) pk rfl ?_)))
     refine dA (Stone.le.refl _) (d_done (e_then (c_region (mv rfl (yy (y_sl sl_26 rfl (l := 1) (h := (r :: p').length) ⟨_, rfl⟩ rfl (by simp) (by simp; omega)) ?_)))))
     have hsl := Sl.sub hp (by simp : 1 ≤ (r :: p').length) (Nat.le_refl _)
     rw [List.take_length] at hsl
     obtain ⟨A2, a2, e2, -, -⟩ := hsl.shape
     rw [e2] at hsl ⊢
     exact sa rfl (l_nil (e_in (e_in (e_then (t_to (hr0 ⟨p', q, out ++ [r], ta ++ [out.length], tb, .slice A2 (List.drop 1 (r :: p')).length a2, .slice B q.length bc, va63, va55, vu, xo ++ Rec.cells r (.slice (some pb) 1 cb), xt ++ [u64 out.length], xu⟩ ⟨hsl, hq, hfo.snoc ⟨_, rfl, hb⟩ rfl, hft.snoc rfl rfl, hfu, ho63, ho55, ho3, hJ, by simp only [List.length_append, List.length_cons, List.length_nil]; omega, by simp only [List.length_append, List.length_cons, List.length_nil]; omega, by simp only [List.length_append, List.length_cons, List.length_nil]; omega⟩ (by simp only [List.length_cons]; omega)) (hs := by rw [List.length_append, List.length_append]; repeat (first | exact Sel.nil | exact Sel.refl _ | refine Sel.cons pk ?_ | refine Sel.skip ?_)))))))
   · have hbp : blocked p q = true := by
      cases p with
      | nil => rfl
      | cons r p' =>
       have h9 := g3
       simp at h9
       first | exact h9 | (rcases h9 with h9 | h9 <;> first | exact h9 | omega)
     refine sr (mv rfl (yy (y_ln sl_26 rfl) (yy (y_gt rfl rfl) (mv rfl ?_))))
     apply l_and 7 (gd := 71) (d := 78) (r := !(blocked q p)) rfl
     · intro hb71 K4 hK4
       obtain ⟨s, q', rfl⟩ : ∃ r p', q = r :: p' := by
        cases q with
        | nil => simp at hb71
        | cons r p' => exact ⟨r, p', rfl⟩
       obtain ⟨p1, bv, rfl, hb, f0, f1, f2, f3, f4, f5⟩ := hq.at (i := 0) rfl
       refine qy hb71 (y_move rfl) (qy hb71 (y_move rfl) (qy hb71 (y_iaN (i := 0) sl_26 rfl rfl (by simp)) ?_))
       refine gl hb71 (ltm ld_84 rfl f5) ?_
       exact gw hb71 (t_callr' rfl (lower_ok hp om) en_35 (qy hb71 (y_not rfl) (yy (y_pick_t' rfl hb71 rfl) (lk_end hK4))))
     · intro hb71 K4 hK4
       exact qn hb71 (qn hb71 (qn hb71 (qn hb71 (qn hb71 (qn hb71 (yy (y_pick_f' rfl hb71 rfl) (lk_end hK4)))))))
     refine sa rfl (nec rfl (fun g5 => ?_) (fun g5 => ?_))
     · have hbq : blocked q p = false := by simp at g5; exact g5.2
       obtain ⟨s, q', rfl⟩ : ∃ r p', q = r :: p' := by
        cases q with
        | nil => cases hbq
        | cons r p' => exact ⟨r, p', rfl⟩
       obtain ⟨p1, bv, rfl, hb, f0, f1, f2, f3, f4, f5⟩ := hq.at (i := 0) rfl
       obtain ⟨pb, cb, rfl, -⟩ := id hb
       rw [joinF_y hbp hbq] at hJ
       simp only [List.length_cons] at hlen hbc
       refine sr (yy (y_iaaN (i := 1) ar_100 rfl rfl (by decide)) ?_)
       refine ll (lb ld_91) ?_
       refine yy (y_far fo_40_4 rfl) (ll (lb ld_26) ?_)
       refine ll (ld_ln sl_26 rfl pk) ?_
       refine yy (y_cvu cv_3_25 rfl om) (lw (t_bs1 ap_91 zc_25 rfl rfl rfl rfl rfl (fun b85 => lw (aR ap_91 (fun va86 ho86 => yy (y_iaaN (i := 1) ar_100 rfl rfl (by decide)) ?_)))))
       refine lw (t_st1' sz_91 rfl rfl (by first | assumption | exact Byt.one ‹_› | exact Sl.one ‹_›) pk rfl ?_)
       refine nes (dR ([.blk b6 (.cells ((tBk a b [] [] 0 0).cells vo).toArray 40 (0, 0))]) [1, 4] (.take 0 (.take 1 (.take 2 (.take 3 (.take 4 (.alt 5 (.alt 6 (.take 7 (.alt 8 .done .stop)) .stop) .stop)))))) ?_)
       refine ey rfl (y_far fo_40_4 rfl) (dl rfl (lb ld_26) ?_)
       refine em rfl rfl (ey rfl (y_iaN (i := 0) sl_26 rfl rfl (by simp)) ?_)
       refine dl rfl (ltm ld_84 rfl ‹_›) ?_
       refine da rfl (t_bs1 ap_26 zc_84 rfl rfl rfl rfl rfl (fun b93 => ?_))
       refine dA (Stone.le.refl _) (da rfl (aR ap_26 (fun va94 ho94 => ?_)))
       refine dA (Stone.le.refl _) (ey rfl (y_far fo_40_4 rfl) (da rfl (t_st1' sz_26 rfl rfl (by first | assumption | exact Byt.one ‹_› | exact Sl.one ‹_›) pk rfl ?_)))
       refine dA (Stone.le.refl _) (d_done (e_then (c_region (mv rfl (yy (y_sl sl_26 rfl (l := 1) (h := (s :: q').length) ⟨_, rfl⟩ rfl (by simp) (by simp; omega)) ?_)))))
       have hsl := Sl.sub hq (by simp : 1 ≤ (s :: q').length) (Nat.le_refl _)
       rw [List.take_length] at hsl
       obtain ⟨A2, a2, e2, -, -⟩ := hsl.shape
       rw [e2] at hsl ⊢
       exact sa rfl (l_nil (e_in (e_in (e_then (t_to (hr0 ⟨p, q', out ++ [s], ta, tb ++ [out.length], .slice A p.length ac, .slice A2 (List.drop 1 (s :: q')).length a2, va94, vt, va86, xo ++ Rec.cells s (.slice (some pb) 1 cb), xt, xu ++ [u64 out.length]⟩ ⟨hp, hsl, hfo.snoc ⟨_, rfl, hb⟩ rfl, hft, hfu.snoc rfl rfl, ho94, ho2, ho86, hJ, by simp only [List.length_append, List.length_cons, List.length_nil]; omega, by simp only [List.length_append, List.length_cons, List.length_nil]; omega, by simp only [List.length_append, List.length_cons, List.length_nil]; omega⟩ (by simp only [List.length_cons]; omega)) (hs := by rw [List.length_append, List.length_append]; repeat (first | exact Sel.nil | exact Sel.refl _ | refine Sel.cons pk ?_ | refine Sel.skip ?_)))))))
     · have hbq : blocked q p = true := by
        cases q with
        | nil => rfl
        | cons r p' =>
         have h9 := g5
         simp at h9
         first | exact h9 | (rcases h9 with h9 | h9 <;> first | exact h9 | omega)
       rw [joinF_n hpos hbp hbq] at hJ
       rw [hJ0] at hJ
       cases hJ
 · have hp0 : p = [] := List.length_eq_zero_iff.1 (by simp at g1; omega)
   have hq0 : q = [] := List.length_eq_zero_iff.1 (by simp at g1; omega)
   subst hp0
   subst hq0
   have hJ' : joinL a.l b.l = some (out, ta, tb) := hJ.symm
   rw [hJ0] at hJ'
   injection hJ' with hJ'
   injection hJ' with e5 e6
   injection e6 with e6 e7
   subst e5
   subst e6
   subst e7
   refine t_pub (C := recC) (l := out0) pk (fun S' hle => hfo.monoR hle) rfl (fun S4 le4 hs4 => ?_)
   obtain ⟨AX, aX, rfl, hX1, hX2, -⟩ := hs4.shape
   have kA4' : ∀ (j : Nat) u, (a.cells (.slice A0 a.l.length a0))[j]? = some u → S4.cell ⟨b2, j, none⟩ = some u := fun j u hu => le4.cell (kA j u hu)
   have kB4' : ∀ (j : Nat) u, (b.cells (.slice B0 b.l.length b0))[j]? = some u → S4.cell ⟨b3, j, none⟩ = some u := fun j u hu => le4.cell (kB j u hu)
   have hl200 : out0.length ≤ 200 := by simp only [List.length_nil] at hlen; omega
   refine c_exit ?_
   refine e_then_exit (e_then_exit (e_in_same (e_then (c_seq (sr (sa rfl (ne (c_block (c_loopH (τ := Nat) [(34, _), (7, _), (6, _), (5, _), (4, _), (3, _), (2, _)] (fun Ek z1 => (10, i64 z1) :: Ek) (fun z1 => z1 ≤ out0.length ∧ (∀ (i k : Nat) r r', i < z1 → out0[i]? = some r → out0[k]? = some r' → k < i → r'.prod = r.prod → r'.seq < r.seq)) (fun z1 => out0.length - z1) (0) (⟨Nat.zero_le _, fun i k r r' hi => by omega⟩) (fun z1 hz1 K1l hr1 => ?_))))))))))
   refine c_seq (sr (mv rfl (yy (y_far fo_40_4 rfl) (ll (lb ld_26) ?_))))
   refine yy (y_ln sl_26 rfl) (yy (y_lt rfl rfl) (nec rfl (fun g6 => ?_) (fun g6 => ?_)))
   · have hil : z1 < out0.length := by simpa using g6
     obtain ⟨x, hx⟩ : ∃ r, out0[z1]? = some r := ⟨_, List.getElem?_eq_getElem hil⟩
     refine c_skip (e_then (c_seq (c_block (sr (sa rfl (ne (c_block (c_loopH (τ := Nat) [(102, _), (10, _), (34, _), (7, _), (6, _), (5, _), (4, _), (3, _), (2, _)] (fun Ek z2 => (11, i64 z2) :: Ek) (fun z2 => z2 ≤ z1 ∧ (∀ (k : Nat) r', k < z2 → out0[k]? = some r' → r'.prod = x.prod → r'.seq < x.seq)) (fun z2 => z1 - z2) (0) (⟨Nat.zero_le _, fun k r' hk => by omega⟩) (fun z2 hz2 K2l hr2 => ?_)))))))))
     refine c_seq (sr (mv rfl (mv rfl (yy (y_lt rfl rfl) (nec rfl (fun g7 => ?_) (fun g7 => ?_))))))
     · have hkl : z2 < z1 := by simpa using g7
       obtain ⟨y, hy⟩ : ∃ r, out0[z2]? = some r := ⟨_, List.getElem?_eq_getElem om⟩
       obtain ⟨px, bx, rfl, hbx, fx0, fx1, fx2, fx3, fx4, fx5⟩ := Recs.at hs4 hx
       obtain ⟨py, by', epy, hby, fy0, fy1, fy2, fy3, fy4, fy5⟩ := Recs.at hs4 hy
       injection epy with epy
       subst epy
       refine c_skip (e_then (c_seq (c_block (c_seq (c_cutv (d := 137) (v := .bool (decide (y.prod = x.prod ∧ x.seq ≤ y.seq))) (fun K8v hK8v => ?_) ?_)))))
       · -- the value
         refine dRa [1, 5, 7, 11, 15, 19, 21, 25] (.take 0 (.take 1 (.take 2 (.take 3 (.take 4 (.take 5 (.take 6 (.take 7 (.take 8 (.take 9 (.take 10 (.take 11 (.take 12 (.take 13 (.take 14 (.take 15 (.take 16 (.take 17 (.take 18 (.take 19 (.take 20 (.take 21 (.take 22 (.take 23 (.take 24 (.take 25 (.take 26 (.take 27 .done)))))))))))))))))))))))))))) ?_
         refine ey rfl (y_far fo_40_4 rfl) (dl rfl (lb ld_26) ?_)
         refine em rfl rfl (ey rfl (y_iaN sl_26 rfl rfl om) (ey rfl (y_fa fo_84_3 rfl) (dl rfl (ld_st ld_25 rfl fy3) ?_)))
         refine ey rfl (y_far fo_40_4 rfl) (dl rfl (lb ld_26) ?_)
         refine em rfl rfl (ey rfl (y_iaN sl_26 rfl rfl om) (ey rfl (y_fa fo_84_3 rfl) (dl rfl (ld_st ld_25 rfl fx3) ?_)))
         refine ey rfl (y_eq rfl rfl) (em rfl rfl (t_split (gd := 123) rfl (fun hb123 => ?_) (fun hb123 => ?_)))
         · -- hb123
           refine egy rfl hb123 (y_far fo_40_4 rfl) (dgl rfl hb123 (lb ld_26) ?_)
           refine egy rfl hb123 (y_move rfl) (egy rfl hb123 (y_iaN sl_26 rfl rfl om) (egy rfl hb123 (y_fa fo_84_4 rfl) (dgl rfl hb123 (ld_st ld_25 rfl fy4) ?_)))
           refine egy rfl hb123 (y_far fo_40_4 rfl) (dgl rfl hb123 (lb ld_26) ?_)
           refine egy rfl hb123 (y_move rfl) (egy rfl hb123 (y_iaN sl_26 rfl rfl om) (egy rfl hb123 (y_fa fo_84_4 rfl) (dgl rfl hb123 (ld_st ld_25 rfl fx4) ?_)))
           exact egy rfl hb123 (y_ge rfl rfl) (ey rfl (y_pick_t' rfl hb123 rfl) (d_done (lk_val hK8v rfl (congrArg Value.bool (by first | (have h9 := hb123; simp at h9; symm; rw [decide_eq_false_iff_not]; intro h8; omega) | (have h9 := hb123; simp at h9; rw [Bool.eq_iff_iff, decide_eq_true_eq, decide_eq_true_eq]; constructor <;> intro h8 <;> (try refine ⟨by omega, ?_⟩) <;> omega))))))
         · -- hb123
           exact zn rfl hb123 (zn rfl hb123 (zn rfl hb123 (zn rfl hb123 (zn rfl hb123 (zn rfl hb123 (zn rfl hb123 (zn rfl hb123 (zn rfl hb123 (zn rfl hb123 (zn rfl hb123 (zn rfl hb123 (zn rfl hb123 (ey rfl (y_pick_f' rfl hb123 rfl) (d_done (lk_val hK8v rfl (congrArg Value.bool (by first | (have h9 := hb123; simp at h9; symm; rw [decide_eq_false_iff_not]; intro h8; omega) | (have h9 := hb123; simp at h9; rw [Bool.eq_iff_iff, decide_eq_true_eq, decide_eq_true_eq]; constructor <;> intro h8 <;> (try refine ⟨by omega, ?_⟩) <;> omega))))))))))))))))))
       refine c_cond rfl (fun g9 => ?_) (fun g9 => ?_)
       · have h9 := g9
         simp at h9
         have := hgood z1 z2 x y hx hy hkl h9.1
         omega
       · have hno := g9
         refine c_skip (e_in (e_then (c_region (mv rfl (yy (y_addN (m := 1) rfl rfl om) (sa rfl (ne ?_)))))))
         exact t_to (hr2 (z2 + 1) ⟨by omega, fun k r' hk hr' hpr => by
          by_cases e : k = z2
          · subst e; rw [hy] at hr'; cases hr'; simp at hno; have := hno hpr; omega
          · exact hz2.2 k r' om hr' hpr⟩ om)
     · have hex := g7
       refine c_exit ?_
       refine e_then_exit (e_then_exit (e_in_same (e_in (e_then (c_region (mv rfl (yy (y_addN (m := 1) rfl rfl om) (sa rfl (ne ?_)))))))))
       have hze : z2 = z1 := by simp at hex; omega
       subst hze
       exact t_to (hr1 (z2 + 1) ⟨by omega, fun i k r r' hi hr hr' hki hpr => by
        by_cases e : i = z2
        · subst e; rw [hx] at hr; cases hr; exact hz2.2 k r' hki hr' hpr
        · exact hz1.2 i k r r' om hr hr' hki hpr⟩ om)
   · refine c_exit ?_
     refine e_then_exit (e_then_exit (e_in_same (e_then (sr (yy (y_iaaN (i := 0) ar_100 rfl rfl (by decide)) ?_)))))
     refine ll (lb ld_91) ?_
     refine yy (y_far fo_40_4 rfl) (ll (lb ld_26) ?_)
     refine yy (y_ln sl_26 rfl) (yy (y_cvu cv_3_25 rfl om) (lw (t_bs1 ap_91 zc_25 rfl rfl rfl rfl rfl (fun b145 => lw (aR ap_91 (fun va146 ho146 => yy (y_iaaN (i := 0) ar_100 rfl rfl (by decide)) ?_))))))
     refine lw (t_st1' sz_91 rfl rfl (by first | assumption | exact Byt.one ‹_› | exact Sl.one ‹_›) pk rfl ?_)
     refine nesr (yy (y_iaaN (i := 1) ar_100 rfl rfl (by decide)) ?_)
     refine ll (lb ld_91) ?_
     refine yy (y_far fo_40_4 rfl) (ll (lb ld_26) ?_)
     refine yy (y_ln sl_26 rfl) (yy (y_cvu cv_3_25 rfl om) (lw (t_bs1 ap_91 zc_25 rfl rfl rfl rfl rfl (fun b154 => lw (aR ap_91 (fun va155 ho155 => yy (y_iaaN (i := 1) ar_100 rfl rfl (by decide)) ?_))))))
     refine lw (t_st1' sz_91 rfl rfl (by first | assumption | exact Byt.one ‹_› | exact Sl.one ‹_›) pk rfl ?_)
     refine nes (sr (t_pub (C := natC) (l := ta0 ++ [out0.length]) (v := va146) pk (fun S' hle => (hft.mono fun _ _ h => h).snoc rfl rfl) (by simp) (fun S5 le5 hs5 => ?_)))
     refine t_pub (C := natC) (l := tb0 ++ [out0.length]) (v := va155) pk (fun S' hle => (hfu.mono fun _ _ h => h).snoc rfl rfl) (by simp) (fun S6 le6 hs6 => ?_)
     have hs5' := Nats.mono hs5 le6
     obtain ⟨AT, aT, rfl, hT1, -⟩ := hs5'.shape
     obtain ⟨AU, aU, rfl, hU1, -⟩ := hs6.shape
     have kA6 : ∀ (j : Nat) u, (a.cells (.slice A0 a.l.length a0))[j]? = some u → S6.cell ⟨b2, j, none⟩ = some u := fun j u hu => (le5.trans le6).cell (kA4' j u hu)
     have kB6 : ∀ (j : Nat) u, (b.cells (.slice B0 b.l.length b0))[j]? = some u → S6.cell ⟨b3, j, none⟩ = some u := fun j u hu => (le5.trans le6).cell (kB4' j u hu)
     refine sa rfl (ne (c_block (c_loopE (τ := Nat) [(102, _), (34, _), (7, _), (6, _), (5, _), (4, _), (3, _), (2, _)] (fun Ek z3 => (12, i64 z3) :: Ek) (fun z3 => [.blk b6 (.cells ((tBk a b (ta0 ++ [out0.length]) (tb0 ++ [out0.length]) z3 0).cells (.slice AX out0.length aX)).toArray 40 (0, 0)), .blk b7 (.cells [.slice AT (ta0 ++ [out0.length]).length aT, .slice AU (tb0 ++ [out0.length]).length aU].toArray 100 (0, 0)), .blk b4 (.cells [.string ⟨#[]⟩, .string ⟨#[]⟩, .int .u64 0, .int .u64 0, .slice none 0 0, .int .u64 0, .int .u64 0, .int .u64 0, .int .u64 0, .int .u64 0, .int .u64 0, .int .u64 0, .int .u64 0, .int .u64 0, .int .u64 0, .bool false, .bool false, .int .u64 0, .int .u64 0].toArray 40 (0, 0))]) (fun z3 => S6) (fun z3 => z3 ≤ 10) (fun z3 => 10 - z3) (0) (Nat.zero_le _) (fun z3 hz3 K3l hr3 => ?_))))
     refine c_seq (sr (mv rfl (yy (y_lt rfl rfl) (nec rfl (fun g10 => ?_) (fun g10 => ?_)))))
     · have hk10 : z3 < 10 := by simp at g10; omega
       refine c_skip (e_then (c_seq (c_block (dR ([]) [4, 8] (.take 0 (.take 1 (.take 2 (.take 3 (.take 4 (.take 5 (.take 6 (.take 7 (.take 8 (.take 9 (.take 10 (.take 11 (.alt 12 .done .stop))))))))))))) ?_))))
       refine em rfl rfl (em rfl rfl (ey rfl (y_far fo_40_5 rfl) (ey rfl (y_iaaN ar_36 rfl rfl ao) (dl rfl (ld_st ld_25 rfl (kA6 _ _ (book_last hk10))) ?_))))
       refine em rfl rfl (ey rfl (y_far fo_40_5 rfl) (ey rfl (y_iaaN ar_36 rfl rfl ao) (dl rfl (ld_st ld_25 rfl (kB6 _ _ (book_last hk10))) ?_)))
       refine ey rfl (y_maxN rfl rfl) (ey rfl (y_far fo_40_5 rfl) (ey rfl (y_iaaN ar_36 rfl rfl ao) (da rfl (t_st1' sz_25 rfl rfl rfl pk (by rw [book_len]; exact blt_of om) ?_))))
       refine t_eqblk pk (tBk_last hk10) ?_
       exact dA (Stone.le.refl _) (d_done (e_in (e_then (c_region (mv rfl (yy (y_addN (m := 1) rfl rfl om) (sa rfl (ne (t_to (hr3 (z3 + 1) om om))))))))))
     · have hk10 : z3 = 10 := by simp at g10; omega
       subst hk10
       refine c_exit ?_
       refine e_then_exit (e_then_exit (e_in_same (e_then (c_seq (sr (sa rfl (ne (c_block (c_loopE (τ := Nat) [(158, _), (102, _), (34, _), (7, _), (6, _), (5, _), (4, _), (3, _), (2, _)] (fun Ek z4 => (13, i64 z4) :: Ek) (fun z4 => [.blk b6 (.cells ((tBk a b (ta0 ++ [out0.length]) (tb0 ++ [out0.length]) 10 z4).cells (.slice AX out0.length aX)).toArray 40 (0, 0)), .blk b7 (.cells [.slice AT (ta0 ++ [out0.length]).length aT, .slice AU (tb0 ++ [out0.length]).length aU].toArray 100 (0, 0)), .blk b4 (.cells [.string ⟨#[]⟩, .string ⟨#[]⟩, .int .u64 0, .int .u64 0, .slice none 0 0, .int .u64 0, .int .u64 0, .int .u64 0, .int .u64 0, .int .u64 0, .int .u64 0, .int .u64 0, .int .u64 0, .int .u64 0, .int .u64 0, .bool false, .bool false, .int .u64 0, .int .u64 0].toArray 40 (0, 0))]) (fun z4 => S6) (fun z4 => z4 ≤ 2) (fun z4 => 2 - z4) (0) (Nat.zero_le _) (fun z4 hz4 K4l hr4 => ?_))))))))))
       refine c_seq (sr (mv rfl (yy (y_lt rfl rfl) (nec rfl (fun g11 => ?_) (fun g11 => ?_)))))
       · have hk2 : z4 < 2 := by simp at g11; omega
         have hat := ho.at_ z4
         have hat' := ho'.at_ z4
         obtain ⟨n1, hn1⟩ : ∃ n, (ta0 ++ [out0.length])[a.at_ z4]? = some n := ⟨_, List.getElem?_eq_getElem (by simp; omega)⟩
         obtain ⟨n2, hn2⟩ : ∃ n, (tb0 ++ [out0.length])[b.at_ z4]? = some n := ⟨_, List.getElem?_eq_getElem (by simp; omega)⟩
         have hd1 : (ta0 ++ [out0.length]).getD (a.at_ z4) 0 = n1 := by rw [List.getD_eq_getElem?_getD, hn1]; rfl
         have hd2 : (tb0 ++ [out0.length]).getD (b.at_ z4) 0 = n2 := by rw [List.getD_eq_getElem?_getD, hn2]; rfl
         have hb1 : a.at_ z4 < (ta0 ++ [out0.length]).length := (List.getElem?_eq_some_iff.1 hn1).1
         have hb2 : b.at_ z4 < (tb0 ++ [out0.length]).length := (List.getElem?_eq_some_iff.1 hn2).1
         obtain ⟨p5, rfl, -, f51⟩ := Nats.at hs5' hn1
         obtain ⟨p6, rfl, -, f61⟩ := Nats.at hs6 hn2
         refine c_skip (e_then (c_seq (c_block (sr (mv rfl (mv rfl (yy (y_far fo_40_6 rfl) (yy (y_iaaN ar_37 rfl rfl ao) (ll (ld_st ld_4 rfl (kA6 _ _ (book_there hk2))) ?_)))))))))
         refine mv rfl ?_
         apply l_or 5 (gd := 182) (d := 187) rfl
         · intro hb182 K12 hK12
           refine qy hb182 (y_move rfl) (qy hb182 (y_far fo_40_6 rfl) (qy hb182 (y_iaaN ar_37 rfl rfl ao) (gl hb182 (ld_st ld_4 rfl (kB6 _ _ (book_there hk2))) ?_)))
           exact yy (y_pick_f' rfl hb182 rfl) (lk_end hK12)
         · intro hb182 K12 hK12
           exact qn hb182 (qn hb182 (qn hb182 (qn hb182 (yy (y_pick_t' rfl hb182 rfl) (lk_end hK12)))))
         refine yy (y_far fo_40_6 rfl) (yy (y_iaaN ar_37 rfl rfl ao) (lw (t_st1' sz_4 rfl rfl rfl pk (by rw [book_len]; exact blt_of om) ?_)))
         refine t_eqblk pk (tBk_there hk2) ?_
         have hth : ((tBk1 a b (ta0 ++ [out0.length]) (tb0 ++ [out0.length]) z4).cells (.slice AX out0.length aX))[0 + 15 + z4 * 1]? = some (.bool (a.there z4 || b.there z4)) := by rw [book_there hk2]; simp [tBk1]
         refine nesr (mv rfl (yy (y_far fo_40_6 rfl) (yy (y_iaaN ar_37 rfl rfl ao) (ll (lb ld_4 (hc := hth)) ?_))))
         refine nec rfl (fun g13 => ?_) (fun g13 => ?_)
         · have hthere := g13
           refine dR ([.blk b7 (.cells [.slice (some p5) (ta0 ++ [out0.length]).length aT, .slice (some p6) (tb0 ++ [out0.length]).length aU].toArray 100 (0, 0))]) [2, 6, 8, 10, 14, 16] (.take 0 (.take 1 (.take 2 (.take 3 (.take 4 (.take 5 (.take 6 (.take 7 (.take 8 (.take 9 (.take 10 (.take 11 (.take 12 (.take 13 (.take 14 (.take 15 (.take 16 (.take 17 (.take 18 (.take 19 (.alt 20 .done .stop))))))))))))))))))))) ?_
           refine em rfl rfl (ey rfl (y_iaaN (i := 0) ar_100 rfl rfl (by decide)) ?_)
           refine dl rfl (lb ld_91) ?_
           refine em rfl rfl (ey rfl (y_far fo_40_7 rfl) (ey rfl (y_iaaN ar_38 rfl rfl ao) (dl rfl (ld_st ld_25 rfl (kA6 _ _ (book_at hk2))) ?_)))
           refine ey rfl (y_iaN sl_91 rfl rfl hb1) (dl rfl (ld_st ld_25 rfl f51) ?_)
           refine ey rfl (y_iaaN (i := 1) ar_100 rfl rfl (by decide)) ?_
           refine dl rfl (lb ld_91) ?_
           refine em rfl rfl (ey rfl (y_far fo_40_7 rfl) (ey rfl (y_iaaN ar_38 rfl rfl ao) (dl rfl (ld_st ld_25 rfl (kB6 _ _ (book_at hk2))) ?_)))
           refine ey rfl (y_iaN sl_91 rfl rfl hb2) (dl rfl (ld_st ld_25 rfl f61) ?_)
           refine ey rfl (y_minN rfl rfl) (ey rfl (y_far fo_40_7 rfl) (ey rfl (y_iaaN ar_38 rfl rfl ao) (da rfl (t_st1' sz_25 rfl rfl rfl pk (by rw [book_len]; exact blt_of om) ?_))))
           refine t_eqblk (cs' := (tBk a b (ta0 ++ [out0.length]) (tb0 ++ [out0.length]) 10 (z4 + 1)).cells (.slice AX out0.length aX)) pk (by have h9 := tBk_at (TA := ta0 ++ [out0.length]) (TB := tb0 ++ [out0.length]) (v := .slice AX out0.length aX) hk2 hthere; rw [hd1, hd2] at h9; exact h9) ?_
           exact dA (Stone.le.refl _) (d_done (e_in (e_then (c_region (mv rfl (yy (y_addN (m := 1) rfl rfl om) (sa rfl (ne (t_to (hr4 (z4 + 1) om om))))))))))
         · have hthere := g13
           refine t_eqblk pk (tBk_no hthere) ?_
           exact c_skip (e_in (e_then (c_region (mv rfl (yy (y_addN (m := 1) rfl rfl om) (sa rfl (ne (t_to (hr4 (z4 + 1) om om)))))))))
       · have hk2 : z4 = 2 := by simp at g11; omega
         subst hk2
         refine c_exit ?_
         refine e_then_exit (e_then_exit (e_in_same (e_then (sr (yy (y_far fo_40_4 rfl) (ll (lb ld_26) ?_))))))
         refine lw (t_callR rfl (numbered_ok (Recs.mono hs4 (le5.trans le6)) om) en_33 ?_)
         rintro v216 S216 le216 h216
         obtain ⟨A216, a216, rfl, -⟩ := h216.shape
         refine yy (y_far fo_40_4 rfl) (lw (s1 sz_26 (ne ?_)))
         refine sr (ll (lbw ld_40) ?_)
         refine lw (sw sz_40 (sa rfl (l_nil ?_)))
         exact e_then (c_ret (f_retR rfl (ResV.agg ld_40 rfl pk rfl (rt rfl)) ⟨_, rfl, _, rfl, h216⟩))
end Go.Proofs.YtkdmbimkanjbhaaGreatDoor.Eng

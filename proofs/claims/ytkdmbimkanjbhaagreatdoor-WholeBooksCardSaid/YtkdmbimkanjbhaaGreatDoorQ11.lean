/-
  Part 11 of the proof of WholeBooks: W50, W51.
-/
import Derived.Test.YtkdmbimkanjbhaaGreatDoorQ10
namespace Go.Proofs.YtkdmbimkanjbhaaGreatDoor.Eng
open Go Go.Proofs
set_option maxRecDepth 100000
attribute [local irreducible] Tr
theorem failed_0 {S : Stone} : Con Tryz.prog 57 #[.int .i64 0] [] S (Ret .nilIface S) := by
 refine con_of 7 Tryz.func57 rfl rfl rfl (fun w0 => ?_)
 exact sr (sa rfl (nes (sr (mv rfl (yy (y_eq rfl rfl) (ne (c_true rfl (sr (sa rfl (netr (e_then_ret (f_ret0 rfl (rt rfl) rfl rfl))))))))))))
theorem failed_e {S : Stone} {e : Nat} (he : 1 ≤ e) : Con Tryz.prog 57 #[i64 e] [] S (Ret (errno e) S) := by
 refine con_of 7 Tryz.func57 rfl rfl rfl (fun w0 => ?_)
 refine sr (sa rfl (nes (sr (mv rfl (yy (y_eq rfl rfl) (nec rfl (fun g1 => ?_) (fun g1 => ?_)))))))
 · simp at g1; omega
 · refine c_skip ?_
   exact e_then (sr (mv rfl (yy (y_mi co_31 rfl) (sa rfl (netr (f_ret0 rfl (rt rfl) rfl rfl))))))
theorem cl49_ok {S : Stone} {lo m hi b2 b3 b7 ep : Nat} (h1 : lo < m) (h2 : m < hi) (h3 : hi ≤ 6) (k1 : ∀ (j : Nat) u, ([.string (ky lo), .string (kh m)] : List Value)[j]? = some u → S.cell ((⟨b2, 0 + 0, none⟩ : Addr).add j) = some u) (k2 : ∀ (j : Nat) u, ([.string (ky m), .string (kh hi)] : List Value)[j]? = some u → S.cell ((⟨b3, 0 + 0, none⟩ : Addr).add j) = some u) :
 Con Tryz.prog 49 #[.pointer (some ⟨b2, 0, none⟩), .pointer (some ⟨b3, 0, none⟩), .pointer (some ⟨b7, 0, none⟩)] [.blk b7 (.cells [.string ⟨#[]⟩, .string ⟨#[]⟩, u64 ep, .int .u64 0, .slice none 0 0, .slice none 0 0, .slice none 0 0].toArray 30 (0, 0))] S
  (fun u I' S' => u = .int .i64 0 ∧ I' = [.blk b7 (.cells [.string (ky lo), .string (kh hi), u64 ep, .int .u64 0, .slice none 0 0, .slice none 0 0, .slice none 0 0].toArray 30 (0, 0))] ∧ S' = S) := by
 refine con_of 13 Tryz.func49 rfl rfl rfl (fun w0 => ?_)
 refine sr (sa rfl (nesr (yy (y_far fo_30_0 rfl) (ll (ltm ld_24 rfl k1) ?_))))
 refine yy (y_far fo_30_0 rfl) (ll (ltm ld_24 rfl k2) ?_)
 refine lw (t_callr' rfl (kmerge_ok h1 h2 h3) en_50 (mv rfl (yy (y_ext rfl rfl) (yy (y_ext rfl rfl) (yy (y_far fo_30_0 rfl) (lw (s0 sz_24 ?_)))))))
 exact sa rfl (netr (f_retS rfl (rt rfl) ⟨rfl, rfl, rfl⟩))
theorem cl51_no {S : Stone} {b2 b3 b7 b8 b9 : Nat} {lo hi ep : Value} {v w : Value} {a b : List Rec} (k1 : S.cell ⟨b2, 0 + 4, none⟩ = some v) (k2 : S.cell ⟨b3, 0 + 4, none⟩ = some w) (h : Recs S v a) (h' : Recs S w b) (hn : Num a) (hn' : Num b) (hl : a.length + b.length ≤ 200) (hJ : joinL a b = none) :
 Con Tryz.prog 51 #[.pointer (some ⟨b2, 0, none⟩), .pointer (some ⟨b3, 0, none⟩), .pointer (some ⟨b7, 0, none⟩), .pointer (some ⟨b8, 0, none⟩), .pointer (some ⟨b9, 0, none⟩)] [.blk b7 (.cells [lo, hi, ep, .int .u64 0, .slice none 0 0, .slice none 0 0, .slice none 0 0].toArray 30 (0, 0)), .blk b8 (.cells [.slice none 0 0].toArray 91 (0, 0)), .blk b9 (.cells [.slice none 0 0].toArray 91 (0, 0))] S
  (fun u I' _ => u = i64 145 ∧ I' = []) := by
 refine con_of 17 Tryz.func51 rfl rfl rfl (fun w0 => ?_)
 refine sr (sa rfl (nesr (yy (y_far fo_30_3 rfl) (ll (ld_st ld_26 rfl ‹_›) ?_))))
 refine yy (y_far fo_30_3 rfl) (ll (ld_st ld_26 rfl ‹_›) ?_)
 refine lw (t_callR rfl (join_ok h h' hn hn' hl) en_52 ?_)
 rintro v11 S11 le11 h11
 rw [hJ] at h11
 have h11 : v11 = _ := h11
 subst h11
 refine mv rfl (yy (y_ext rfl rfl) (yy (y_ext rfl rfl) (yy (y_ext rfl rfl) (yy (y_ext rfl rfl) (yy (y_far fo_30_3 rfl) (lw (s1 sz_26 ?_)))))))
 refine lw (s1 sz_91 ?_)
 refine lw (s1 sz_91 ?_)
 refine sa rfl (l_nil ?_)
 exact e_then (c_ret (f_retS rfl (rt rfl) ⟨rfl, rfl⟩))
theorem cl51_yes {S : Stone} {b2 b3 b7 b8 b9 : Nat} {lo hi ep : Value} {v w : Value} {a b out : List Rec} {ta tb : List Nat} (k1 : S.cell ⟨b2, 0 + 4, none⟩ = some v) (k2 : S.cell ⟨b3, 0 + 4, none⟩ = some w) (h : Recs S v a) (h' : Recs S w b) (hn : Num a) (hn' : Num b) (hl : a.length + b.length ≤ 200) (hJ : joinL a b = some (out, ta, tb)) :
 Con Tryz.prog 51 #[.pointer (some ⟨b2, 0, none⟩), .pointer (some ⟨b3, 0, none⟩), .pointer (some ⟨b7, 0, none⟩), .pointer (some ⟨b8, 0, none⟩), .pointer (some ⟨b9, 0, none⟩)] [.blk b7 (.cells [lo, hi, ep, .int .u64 0, .slice none 0 0, .slice none 0 0, .slice none 0 0].toArray 30 (0, 0)), .blk b8 (.cells [.slice none 0 0].toArray 91 (0, 0)), .blk b9 (.cells [.slice none 0 0].toArray 91 (0, 0))] S
  (fun u I' S' => ∃ rv va vb, u = .int .i64 0 ∧ I' = [.blk b7 (.cells [lo, hi, ep, .int .u64 0, rv, .slice none 0 0, .slice none 0 0].toArray 30 (0, 0)), .blk b8 (.cells [va].toArray 91 (0, 0)), .blk b9 (.cells [vb].toArray 91 (0, 0))] ∧ Recs S' rv (renum out) ∧ Nats S' va (ta ++ [out.length]) ∧ Nats S' vb (tb ++ [out.length])) := by
 refine con_of 17 Tryz.func51 rfl rfl rfl (fun w0 => ?_)
 refine sr (sa rfl (nesr (yy (y_far fo_30_3 rfl) (ll (ld_st ld_26 rfl ‹_›) ?_))))
 refine yy (y_far fo_30_3 rfl) (ll (ld_st ld_26 rfl ‹_›) ?_)
 refine lw (t_callR rfl (join_ok h h' hn hn' hl) en_52 ?_)
 rintro v11 S11 le11 h11
 rw [hJ] at h11
 obtain ⟨v1, v2, v3, rfl, g1, g2, g3⟩ := h11
 obtain ⟨A1, a1, rfl, -⟩ := g1.shape
 obtain ⟨A2, a2, rfl, -⟩ := g2.shape
 obtain ⟨A3, a3, rfl, -⟩ := g3.shape
 refine mv rfl (yy (y_ext rfl rfl) (yy (y_ext rfl rfl) (yy (y_ext rfl rfl) (yy (y_ext rfl rfl) (yy (y_far fo_30_3 rfl) (lw (s1 sz_26 ?_)))))))
 refine lw (s1 sz_91 ?_)
 refine lw (s1 sz_91 ?_)
 refine sa rfl (l_nil ?_)
 exact e_then (c_ret (f_retS rfl (rt rfl) ⟨_, _, _, rfl, rfl, g1, g2, g3⟩))
theorem cl53_ok {S : Stone} {b2 b3 b7 b8 b9 : Nat} {lo hi ep rv va vb : Value} {v w : Value} {a b : List Prd} {ta tb : List Nat} (k1 : S.cell ⟨b2, 0 + 5, none⟩ = some v) (k2 : S.cell ⟨b3, 0 + 5, none⟩ = some w) (h : Prds S v a) (h' : Prds S w b) (ht : Nats S va ta) (hu : Nats S vb tb) (hka : TabOk a) (hkb : TabOk b) (hla : a.length ≤ 50) (hlb : b.length ≤ 50)
 (ha : ∀ x ∈ a, x.here = true → x.off + 1 < ta.length) (hb : ∀ x ∈ b, x.here = true → x.off + 1 < tb.length) :
 Con Tryz.prog 53 #[.pointer (some ⟨b2, 0, none⟩), .pointer (some ⟨b3, 0, none⟩), .pointer (some ⟨b8, 0, none⟩), .pointer (some ⟨b9, 0, none⟩), .pointer (some ⟨b7, 0, none⟩)] [.blk b7 (.cells [lo, hi, ep, .int .u64 0, rv, .slice none 0 0, .slice none 0 0].toArray 30 (0, 0)), .blk b8 (.cells [va].toArray 91 (0, 0)), .blk b9 (.cells [vb].toArray 91 (0, 0))] S
  (fun u I' S' => ∃ pv, u = .int .i64 0 ∧ I' = [.blk b7 (.cells [lo, hi, ep, .int .u64 0, rv, pv, .slice none 0 0].toArray 30 (0, 0)), .blk b8 (.cells [va].toArray 91 (0, 0)), .blk b9 (.cells [vb].toArray 91 (0, 0))] ∧ Prds S' pv (bothP (a.map (moveP ta)) (b.map (moveP tb)))) := by
 refine con_of 17 Tryz.func53 rfl rfl rfl (fun w0 => ?_)
 refine sr (sa rfl (nesr (yy (y_far fo_30_4 rfl) (ll (ld_st ld_27 rfl ‹_›) ?_))))
 refine yy (y_far fo_30_4 rfl) (ll (ld_st ld_27 rfl ‹_›) ?_)
 refine ll (lb ld_91) ?_
 refine ll (lb ld_91) ?_
 refine lw (t_callR rfl (bothP_ok h h' ht hu hka hkb hla hlb ha hb) en_54 ?_)
 rintro v13 S13 le13 ⟨pv, rfl, g1⟩
 obtain ⟨A1, a1, rfl, -⟩ := g1.shape
 refine mv rfl (yy (y_ext rfl rfl) (yy (y_ext rfl rfl) (yy (y_far fo_30_4 rfl) (lw (s1 sz_27 ?_)))))
 exact sa rfl (netr (f_retS rfl (rt rfl) ⟨_, rfl, rfl, g1⟩))
theorem cl55_ok {S : Stone} {b2 b3 b7 b8 b9 : Nat} {lo hi ep rv pv va vb : Value} {v w : Value} {a b : List Cns} {ta tb : List Nat} (k1 : S.cell ⟨b2, 0 + 6, none⟩ = some v) (k2 : S.cell ⟨b3, 0 + 6, none⟩ = some w) (h : Cnss S v a) (h' : Cnss S w b) (ht : Nats S va ta) (hu : Nats S vb tb) (hka : CnsOk a) (hkb : CnsOk b) (hla : a.length ≤ 20) (hlb : b.length ≤ 20) (h1 : 1 ≤ ta.length) (h2 : 1 ≤ tb.length) :
 Con Tryz.prog 55 #[.pointer (some ⟨b2, 0, none⟩), .pointer (some ⟨b3, 0, none⟩), .pointer (some ⟨b8, 0, none⟩), .pointer (some ⟨b9, 0, none⟩), .pointer (some ⟨b7, 0, none⟩)] [.blk b7 (.cells [lo, hi, ep, .int .u64 0, rv, pv, .slice none 0 0].toArray 30 (0, 0)), .blk b8 (.cells [va].toArray 91 (0, 0)), .blk b9 (.cells [vb].toArray 91 (0, 0))] S
  (fun u I' S' => ∃ cv, u = .int .i64 0 ∧ I' = [.blk b7 (.cells [lo, hi, ep, .int .u64 0, rv, pv, cv].toArray 30 (0, 0)), .blk b8 (.cells [va].toArray 91 (0, 0)), .blk b9 (.cells [vb].toArray 91 (0, 0))] ∧ Cnss S' cv (bothC a b ta tb)) := by
 refine con_of 17 Tryz.func55 rfl rfl rfl (fun w0 => ?_)
 refine sr (sa rfl (nesr (yy (y_far fo_30_5 rfl) (ll (ld_st ld_28 rfl ‹_›) ?_))))
 refine yy (y_far fo_30_5 rfl) (ll (ld_st ld_28 rfl ‹_›) ?_)
 refine ll (lb ld_91) ?_
 refine ll (lb ld_91) ?_
 refine lw (t_callR rfl (bothC_ok h h' ht hu hka hkb hla hlb h1 h2) en_56 ?_)
 rintro v13 S13 le13 ⟨cv, rfl, g1⟩
 obtain ⟨A1, a1, rfl, -⟩ := g1.shape
 refine mv rfl (yy (y_ext rfl rfl) (yy (y_ext rfl rfl) (yy (y_far fo_30_5 rfl) (lw (s1 sz_28 ?_)))))
 exact sa rfl (netr (f_retS rfl (rt rfl) ⟨_, rfl, rfl, g1⟩))
end Go.Proofs.YtkdmbimkanjbhaaGreatDoor.Eng
namespace Go.Proofs.YtkdmbimkanjbhaaGreatDoor.Eng
open Go Go.Proofs
set_option maxRecDepth 100000
attribute [local irreducible] Tr
def valC (_ : Stone) (cs : List Value) (v : Value) : Prop := cs = [v]
theorem flat_val {S : Stone} : ∀ l : List Value, Flat S 1 valC l l
 | [] => Flat.nil
 | k :: l => (Flat.one (a := k) (cs := [k]) rfl rfl).app (flat_val l)
abbrev zeroPart : Value := .agg ([.string ⟨#[]⟩, .string ⟨#[]⟩, .int .u64 0, .int .u64 0, .slice none 0 0, .slice none 0 0, .slice none 0 0] : List Value).toArray
def mergeS (s t : Sh) (out : List Rec) (ta tb : List Nat) : Sh := ⟨s.lo, t.hi, max s.epoch t.epoch + 1, 0, renum out, bothP (s.p.map (moveP (ta ++ [out.length]))) (t.p.map (moveP (tb ++ [out.length]))), bothC s.c t.c (ta ++ [out.length]) (tb ++ [out.length])⟩
def MInv (lo hi ep : Value) (out : List Rec) (ta tb : List Nat) (P : List Prd) (Cn : List Cns) (i : Nat) (o : List Value) (va vb : Value) (S : Stone) : Prop :=
 match i with
 | 0 => o = [.string ⟨#[]⟩, .string ⟨#[]⟩, ep, .int .u64 0, .slice none 0 0, .slice none 0 0, .slice none 0 0] ∧ va = .slice none 0 0 ∧ vb = .slice none 0 0
 | 1 => o = [lo, hi, ep, .int .u64 0, .slice none 0 0, .slice none 0 0, .slice none 0 0] ∧ va = .slice none 0 0 ∧ vb = .slice none 0 0
 | 2 => ∃ rv, o = [lo, hi, ep, .int .u64 0, rv, .slice none 0 0, .slice none 0 0] ∧ Recs S rv (renum out) ∧ Nats S va (ta ++ [out.length]) ∧ Nats S vb (tb ++ [out.length])
 | 3 => ∃ rv pv, o = [lo, hi, ep, .int .u64 0, rv, pv, .slice none 0 0] ∧ Recs S rv (renum out) ∧ Nats S va (ta ++ [out.length]) ∧ Nats S vb (tb ++ [out.length]) ∧ Prds S pv P
 | _ => ∃ rv pv cv, o = [lo, hi, ep, .int .u64 0, rv, pv, cv] ∧ Recs S rv (renum out) ∧ Prds S pv P ∧ Cnss S cv Cn
theorem minv0 {lo hi ep : Value} {out : List Rec} {ta tb : List Nat} {P : List Prd} {Cn : List Cns} {S : Stone} : MInv lo hi ep out ta tb P Cn 0 [.string ⟨#[]⟩, .string ⟨#[]⟩, ep, .int .u64 0, .slice none 0 0, .slice none 0 0, .slice none 0 0] (.slice none 0 0) (.slice none 0 0) S := ⟨rfl, rfl, rfl⟩
theorem minv1 {lo hi ep : Value} {out : List Rec} {ta tb : List Nat} {P : List Prd} {Cn : List Cns} {S : Stone} : MInv lo hi ep out ta tb P Cn 1 [lo, hi, ep, .int .u64 0, .slice none 0 0, .slice none 0 0, .slice none 0 0] (.slice none 0 0) (.slice none 0 0) S := ⟨rfl, rfl, rfl⟩
theorem minv2 {lo hi ep rv va vb : Value} {out : List Rec} {ta tb : List Nat} {P : List Prd} {Cn : List Cns} {S : Stone} (h1 : Recs S rv (renum out)) (h2 : Nats S va (ta ++ [out.length])) (h3 : Nats S vb (tb ++ [out.length])) : MInv lo hi ep out ta tb P Cn 2 [lo, hi, ep, .int .u64 0, rv, .slice none 0 0, .slice none 0 0] va vb S := ⟨rv, rfl, h1, h2, h3⟩
theorem minv3 {lo hi ep rv pv va vb : Value} {out : List Rec} {ta tb : List Nat} {P : List Prd} {Cn : List Cns} {S : Stone} (h1 : Recs S rv (renum out)) (h2 : Nats S va (ta ++ [out.length])) (h3 : Nats S vb (tb ++ [out.length])) (h4 : Prds S pv P) : MInv lo hi ep out ta tb P Cn 3 [lo, hi, ep, .int .u64 0, rv, pv, .slice none 0 0] va vb S := ⟨rv, pv, rfl, h1, h2, h3, h4⟩
theorem minv4 {lo hi ep rv pv cv va vb : Value} {out : List Rec} {ta tb : List Nat} {P : List Prd} {Cn : List Cns} {S : Stone} (h1 : Recs S rv (renum out)) (h4 : Prds S pv P) (h5 : Cnss S cv Cn) : MInv lo hi ep out ta tb P Cn 4 [lo, hi, ep, .int .u64 0, rv, pv, cv] va vb S := ⟨rv, pv, cv, rfl, h1, h4, h5⟩
theorem merge_live {S : Stone} {v w : Value} {s t : Sh} (h : PartR S v s) (h' : PartR S w t) (ho : ShOk s) (ho' : ShOk t) (he : s.epoch ≤ 1000000) (he' : t.epoch ≤ 1000000) (hst : s.hi = t.lo) (hl : s.l.length + t.l.length ≤ 200) (hp1 : s.p.length ≤ 50) (hp2 : t.p.length ≤ 50) (hc1 : s.c.length ≤ 20) (hc2 : t.c.length ≤ 20) (hf : s.frozen = 0 ∨ t.frozen = 0) :
 Con Tryz.prog 34 #[v, w] [] S (RetR fun u S' => u = .tuple #[zeroPart, errno 171]) := by
 have h0 := h
 have h0' := h'
 obtain ⟨A, a, B, b, D, d, rfl, hr, hp, hcv⟩ := h.ex
 obtain ⟨A', a', B', b', D', d', rfl, hr', hp', hcv'⟩ := h'.ex
 refine con_of 54 Tryz.func34 rfl rfl rfl (fun w0 => ?_)
 refine sr (bx rfl rfl (fun b2 => bx rfl rfl (fun b3 => t_stone (b := b2) pk (fun S1 le1 hS1 => ?_))))
 refine t_stone (b := b3) pk (fun S2 le2 hS2 => ?_)
 have hS1' := le2 _ _ hS1
 have kA : ∀ (j : Nat) u, (s.cells (.slice A s.l.length a) (.slice B s.p.length b) (.slice D s.c.length d))[j]? = some u → S2.cell ((⟨b2, 0, none⟩ : Addr).add j) = some u := fun j u hu => by rw [add_lit]; simp [Stone.cell, hS1', hu]
 have kB : ∀ (j : Nat) u, (t.cells (.slice A' t.l.length a') (.slice B' t.p.length b') (.slice D' t.c.length d'))[j]? = some u → S2.cell ((⟨b3, 0, none⟩ : Addr).add j) = some u := fun j u hu => by rw [add_lit]; simp [Stone.cell, hS2, hu]
 refine al zc_30 (fun b4 => sa rfl (nes (sr (ll (ltm ld_30 rfl kA) ?_))))
 refine ll (ltm ld_30 rfl kB) ?_
 refine lw (t_bs (cs := (s.cells (.slice A s.l.length a) (.slice B s.p.length b) (.slice D s.c.length d)) ++ (t.cells (.slice A' t.l.length a') (.slice B' t.p.length b') (.slice D' t.c.length d'))) ap_35 zc_30 (by decide) rfl rfl rfl (lt_n rfl) (fun b16 => ?_))
 refine t_pub (C := partC) (l := [s, t]) Pick.hd (fun S' hle => (Flat.one (a := s) (cs := (s.cells (.slice A s.l.length a) (.slice B s.p.length b) (.slice D s.c.length d))) (h0.mono ((le1.trans le2).trans hle)) rfl).app (Flat.one (a := t) (cs := (t.cells (.slice A' t.l.length a') (.slice B' t.p.length b') (.slice D' t.c.length d'))) (h0'.mono ((le1.trans le2).trans hle)) rfl)) rfl (fun S3 le3 hs3 => ?_)
 have kA3 : ∀ (j : Nat) u, (s.cells (.slice A s.l.length a) (.slice B s.p.length b) (.slice D s.c.length d))[j]? = some u → S3.cell ⟨b2, 0 + j, none⟩ = some u := fun j u hu => by have := le3.cell (kA j u hu); rwa [add_lit] at this
 have kB3 : ∀ (j : Nat) u, (t.cells (.slice A' t.l.length a') (.slice B' t.p.length b') (.slice D' t.c.length d'))[j]? = some u → S3.cell ⟨b3, 0 + j, none⟩ = some u := fun j u hu => by have := le3.cell (kB j u hu); rwa [add_lit] at this
 have e1 := kA3 2 _ rfl
 have e2 := kB3 2 _ rfl
 refine lw (t_callr' rfl ((usable_ok hs3 (by intro x hx; simp at hx; rcases hx with rfl | rfl; exact ⟨ho, he⟩; exact ⟨ho', he'⟩) (by simp)).back) en_26 ?_)
 rw [show liveV [s, t] = errno 171 by unfold liveV; simp; omega]
 refine sa rfl (nesr (mv rfl (yy (y_innil if_86 rfl) (ne (c_true rfl (c_seq ?_))))))
 refine c_region (yy (y_build pl_30 zc_30 rfl rfl) (mv rfl (lw (sw sz_30 (sa rfl ?_)))))
 exact netr (e_then_ret (f_retR rfl (ResV.agg ld_30 rfl pk rfl (rt rfl)) rfl))
theorem merge_none {S : Stone} {v w : Value} {s t : Sh} (h : PartR S v s) (h' : PartR S w t) (ho : ShOk s) (ho' : ShOk t) (he : s.epoch ≤ 1000000) (he' : t.epoch ≤ 1000000) (hst : s.hi = t.lo) (hl : s.l.length + t.l.length ≤ 200) (hp1 : s.p.length ≤ 50) (hp2 : t.p.length ≤ 50) (hc1 : s.c.length ≤ 20) (hc2 : t.c.length ≤ 20) (hf : ¬ (s.frozen = 0 ∨ t.frozen = 0)) (hJ : joinL s.l t.l = none) :
 Con Tryz.prog 34 #[v, w] [] S (RetR fun u S' => u = .tuple #[zeroPart, errno 145]) := by
 have h0 := h
 have h0' := h'
 obtain ⟨A, a, B, b, D, d, rfl, hr, hp, hcv⟩ := h.ex
 obtain ⟨A', a', B', b', D', d', rfl, hr', hp', hcv'⟩ := h'.ex
 refine con_of 54 Tryz.func34 rfl rfl rfl (fun w0 => ?_)
 refine sr (bx rfl rfl (fun b2 => bx rfl rfl (fun b3 => t_stone (b := b2) pk (fun S1 le1 hS1 => ?_))))
 refine t_stone (b := b3) pk (fun S2 le2 hS2 => ?_)
 have hS1' := le2 _ _ hS1
 have kA : ∀ (j : Nat) u, (s.cells (.slice A s.l.length a) (.slice B s.p.length b) (.slice D s.c.length d))[j]? = some u → S2.cell ((⟨b2, 0, none⟩ : Addr).add j) = some u := fun j u hu => by rw [add_lit]; simp [Stone.cell, hS1', hu]
 have kB : ∀ (j : Nat) u, (t.cells (.slice A' t.l.length a') (.slice B' t.p.length b') (.slice D' t.c.length d'))[j]? = some u → S2.cell ((⟨b3, 0, none⟩ : Addr).add j) = some u := fun j u hu => by rw [add_lit]; simp [Stone.cell, hS2, hu]
 refine al zc_30 (fun b4 => sa rfl (nes (sr (ll (ltm ld_30 rfl kA) ?_))))
 refine ll (ltm ld_30 rfl kB) ?_
 refine lw (t_bs (cs := (s.cells (.slice A s.l.length a) (.slice B s.p.length b) (.slice D s.c.length d)) ++ (t.cells (.slice A' t.l.length a') (.slice B' t.p.length b') (.slice D' t.c.length d'))) ap_35 zc_30 (by decide) rfl rfl rfl (lt_n rfl) (fun b16 => ?_))
 refine t_pub (C := partC) (l := [s, t]) Pick.hd (fun S' hle => (Flat.one (a := s) (cs := (s.cells (.slice A s.l.length a) (.slice B s.p.length b) (.slice D s.c.length d))) (h0.mono ((le1.trans le2).trans hle)) rfl).app (Flat.one (a := t) (cs := (t.cells (.slice A' t.l.length a') (.slice B' t.p.length b') (.slice D' t.c.length d'))) (h0'.mono ((le1.trans le2).trans hle)) rfl)) rfl (fun S3 le3 hs3 => ?_)
 have kA3 : ∀ (j : Nat) u, (s.cells (.slice A s.l.length a) (.slice B s.p.length b) (.slice D s.c.length d))[j]? = some u → S3.cell ⟨b2, 0 + j, none⟩ = some u := fun j u hu => by have := le3.cell (kA j u hu); rwa [add_lit] at this
 have kB3 : ∀ (j : Nat) u, (t.cells (.slice A' t.l.length a') (.slice B' t.p.length b') (.slice D' t.c.length d'))[j]? = some u → S3.cell ⟨b3, 0 + j, none⟩ = some u := fun j u hu => by have := le3.cell (kB j u hu); rwa [add_lit] at this
 have e1 := kA3 2 _ rfl
 have e2 := kB3 2 _ rfl
 refine lw (t_callr' rfl ((usable_ok hs3 (by intro x hx; simp at hx; rcases hx with rfl | rfl; exact ⟨ho, he⟩; exact ⟨ho', he'⟩) (by simp)).back) en_26 ?_)
 rw [show liveV [s, t] = .nilIface by unfold liveV; simp; omega]
 refine sa rfl (nesr (mv rfl (yy (y_innil0 if_86 rfl) (ne (c_false rfl (c_skip (e_then (sr (yy (y_far fo_30_1 rfl) (ll (ld_st ld_25 rfl ‹_›) ?_))))))))))
 refine yy (y_far fo_30_1 rfl) (ll (ld_st ld_25 rfl ‹_›) ?_)
 refine yy (y_maxN rfl rfl) (yy (y_addU (m := 1) rfl rfl om) (yy (y_build pl_30 zc_30 rfl rfl) (al zc_30 (fun b7 => lw (sw sz_30 (nesr (al zc_91 (fun b8 => al zc_91 (fun b9 => nesr (yy (y_mf' rfl rfl) (yy (y_mf' rfl rfl) (yy (y_mf' rfl rfl) (yy (y_mf' rfl rfl) (lw (t_bs (cs := [.func (.func 49) #[] #[.pointer (some ⟨b2, 0, none⟩), .pointer (some ⟨b3, 0, none⟩), .pointer (some ⟨b7, 0, none⟩)], .func (.func 51) #[] #[.pointer (some ⟨b2, 0, none⟩), .pointer (some ⟨b3, 0, none⟩), .pointer (some ⟨b7, 0, none⟩), .pointer (some ⟨b8, 0, none⟩), .pointer (some ⟨b9, 0, none⟩)], .func (.func 53) #[] #[.pointer (some ⟨b2, 0, none⟩), .pointer (some ⟨b3, 0, none⟩), .pointer (some ⟨b8, 0, none⟩), .pointer (some ⟨b9, 0, none⟩), .pointer (some ⟨b7, 0, none⟩)], .func (.func 55) #[] #[.pointer (some ⟨b2, 0, none⟩), .pointer (some ⟨b3, 0, none⟩), .pointer (some ⟨b8, 0, none⟩), .pointer (some ⟨b9, 0, none⟩), .pointer (some ⟨b7, 0, none⟩)]]) ap_126 (by kernel_rfl : zcK Tryz.prog 119 = some [.nilFunc]) (by decide) rfl rfl rfl (lt_n rfl) (fun b33 => ?_))))))))))))))))
 refine t_pub (C := valC) (l := [.func (.func 49) #[] #[.pointer (some ⟨b2, 0, none⟩), .pointer (some ⟨b3, 0, none⟩), .pointer (some ⟨b7, 0, none⟩)], .func (.func 51) #[] #[.pointer (some ⟨b2, 0, none⟩), .pointer (some ⟨b3, 0, none⟩), .pointer (some ⟨b7, 0, none⟩), .pointer (some ⟨b8, 0, none⟩), .pointer (some ⟨b9, 0, none⟩)], .func (.func 53) #[] #[.pointer (some ⟨b2, 0, none⟩), .pointer (some ⟨b3, 0, none⟩), .pointer (some ⟨b8, 0, none⟩), .pointer (some ⟨b9, 0, none⟩), .pointer (some ⟨b7, 0, none⟩)], .func (.func 55) #[] #[.pointer (some ⟨b2, 0, none⟩), .pointer (some ⟨b3, 0, none⟩), .pointer (some ⟨b8, 0, none⟩), .pointer (some ⟨b9, 0, none⟩), .pointer (some ⟨b7, 0, none⟩)]]) Pick.hd (fun S' hle => flat_val _) rfl (fun S33 le33 hs33 => ?_)
 have hfk : ∀ (k : Nat) f, ([.func (.func 49) #[] #[.pointer (some ⟨b2, 0, none⟩), .pointer (some ⟨b3, 0, none⟩), .pointer (some ⟨b7, 0, none⟩)], .func (.func 51) #[] #[.pointer (some ⟨b2, 0, none⟩), .pointer (some ⟨b3, 0, none⟩), .pointer (some ⟨b7, 0, none⟩), .pointer (some ⟨b8, 0, none⟩), .pointer (some ⟨b9, 0, none⟩)], .func (.func 53) #[] #[.pointer (some ⟨b2, 0, none⟩), .pointer (some ⟨b3, 0, none⟩), .pointer (some ⟨b8, 0, none⟩), .pointer (some ⟨b9, 0, none⟩), .pointer (some ⟨b7, 0, none⟩)], .func (.func 55) #[] #[.pointer (some ⟨b2, 0, none⟩), .pointer (some ⟨b3, 0, none⟩), .pointer (some ⟨b8, 0, none⟩), .pointer (some ⟨b9, 0, none⟩), .pointer (some ⟨b7, 0, none⟩)]] : List Value)[k]? = some f → S33.cell ((⟨b33, 0, none⟩ : Addr).add (k * 1)) = some f := fun k f hk => by
  obtain ⟨A9, cap9, e9, -, -, h49⟩ := id hs33
  injection e9 with e91 e92 e93
  obtain ⟨p9, cs9, hpe, hcs, -, hcell⟩ := h49 k f hk
  have hcs : cs9 = [f] := hcs
  subst hcs
  rw [← e91] at hpe
  injection hpe with hpe
  subst hpe
  have := hcell 0 f rfl
  simpa [Addr.add] using this
 have kA4 : ∀ (j : Nat) u, (s.cells (.slice A s.l.length a) (.slice B s.p.length b) (.slice D s.c.length d))[j]? = some u → S33.cell ⟨b2, 0 + j, none⟩ = some u := fun j u hu => le33.cell (kA3 j u hu)
 have kB4 : ∀ (j : Nat) u, (t.cells (.slice A' t.l.length a') (.slice B' t.p.length b') (.slice D' t.c.length d'))[j]? = some u → S33.cell ⟨b3, 0 + j, none⟩ = some u := fun j u hu => le33.cell (kB3 j u hu)
 have leS : Stone.le S S33 := (((le1.trans le2).trans le3).trans le33)
 refine sa rfl (nes (sr (mv rfl (yy (y_ln sl_126 rfl) (mv rfl (ne (c_block (c_loopE (τ := Nat × List Value × Value × Value × Stone) [(35, _), (34, _), (7, _), (19, _), (5, _), (4, _)] (fun Ek z0 => (36, i64 z0.1) :: Ek) (fun z0 => [.blk b7 (.cells z0.2.1.toArray 30 (0, 0)), .blk b8 (.cells [z0.2.2.1].toArray 91 (0, 0)), .blk b9 (.cells [z0.2.2.2.1].toArray 91 (0, 0)), .blk b4 (.cells [.string ⟨#[]⟩, .string ⟨#[]⟩, .int .u64 0, .int .u64 0, .slice none 0 0, .slice none 0 0, .slice none 0 0].toArray 30 (0, 0))]) (fun z0 => z0.2.2.2.2) (fun z0 => z0.1 ≤ 1 ∧ Stone.le S33 z0.2.2.2.2 ∧ MInv (.string (ky s.lo)) (.string (kh t.hi)) (u64 (max s.epoch t.epoch + 1)) [] [] [] [] [] z0.1 z0.2.1 z0.2.2.1 z0.2.2.2.1 z0.2.2.2.2) (fun z0 => 4 - z0.1) ((0, [.string ⟨#[]⟩, .string ⟨#[]⟩, u64 (max s.epoch t.epoch + 1), .int .u64 0, .slice none 0 0, .slice none 0 0, .slice none 0 0], .slice none 0 0, .slice none 0 0, S33)) (⟨by simp, Stone.le.refl _, minv0⟩) (fun z0 hz0 K0l hr0 => ?_)))))))))
 obtain ⟨i, o, va, vb, S4⟩ := z0
 obtain ⟨hi4, hle, hinv⟩ := hz0
 dsimp only at hi4 hle hinv ⊢
 have hlt1 : s.lo < t.lo := by rw [← hst]; exact ho.lh
 have hlt2 : s.hi < t.hi := by rw [hst]; exact ho'.lh
 have kr1 : ∀ (j : Nat) u, ([.string (ky s.lo), .string (kh s.hi)] : List Value)[j]? = some u → S33.cell ((⟨b2, 0 + 0, none⟩ : Addr).add j) = some u := fun j u hu => by
  match j, hu with
  | 0, hu => cases hu; rw [add_lit]; exact kA4 0 _ rfl
  | 1, hu => cases hu; rw [add_lit]; exact kA4 1 _ rfl
 have kr2 : ∀ (j : Nat) u, ([.string (ky s.hi), .string (kh t.hi)] : List Value)[j]? = some u → S33.cell ((⟨b3, 0 + 0, none⟩ : Addr).add j) = some u := fun j u hu => by
  rw [hst] at hu
  match j, hu with
  | 0, hu => cases hu; rw [add_lit]; exact kB4 0 _ rfl
  | 1, hu => cases hu; rw [add_lit]; exact kB4 1 _ rfl
 rcases (by omega : i = 0 ∨ i = 1) with rfl | rfl
 · -- case c0
   refine sr ?_
   obtain ⟨rfl, rfl, rfl⟩ := hinv
   refine yy (y_lt rfl rfl) (nes (c_true rfl (c_skip (e_then (c_seq (c_block (sr (yy (y_iaN (i := 0) sl_126 rfl rfl (by decide)) ?_))))))))
   refine ll (ld_st (by kernel_rfl : ldK Tryz.prog 119 = some none) rfl (hle.cell (hfk 0 _ rfl))) ?_
   refine sa rfl (nesr (mv rfl (lw (t_callv (vs := []) (v1 := []) (v2 := [.pointer (some ⟨b2, 0, none⟩), .pointer (some ⟨b3, 0, none⟩), .pointer (some ⟨b7, 0, none⟩)]) rfl en_49 rfl (I := [.blk b7 (.cells [.string ⟨#[]⟩, .string ⟨#[]⟩, u64 (max s.epoch t.epoch + 1), .int .u64 0, .slice none 0 0, .slice none 0 0, .slice none 0 0].toArray 30 (0, 0))]) (List.Perm.refl _) (cl49_ok (ep := max s.epoch t.epoch + 1) (by rw [hst]; exact hlt1) hlt2 ho'.hi (fun j u hu => hle.cell (kr1 j u hu)) (fun j u hu => hle.cell (kr2 j u hu))) (lt_n rfl) ?_))))
   rintro v41 I41 S41 le41 ⟨rfl, rfl, rfl⟩
   exact lw (t_callr' rfl (failed_0) en_57 (sa rfl (nesr (mv rfl (yy (y_innil0 if_86 rfl) (ne (c_false rfl (c_skip (e_in (e_then (c_region (yy (y_addN (m := 1) rfl rfl om) (mv rfl (ne (t_to (hr0 (1, [.string (ky s.lo), .string (kh t.hi), u64 (max s.epoch t.epoch + 1), .int .u64 0, .slice none 0 0, .slice none 0 0, .slice none 0 0], .slice none 0 0, .slice none 0 0, S41) ⟨by simp, hle, minv1⟩ (by simp only; omega)))))))))))))))))
 · -- case c1
   refine sr ?_
   obtain ⟨rfl, rfl, rfl⟩ := hinv
   refine yy (y_lt rfl rfl) (nes (c_true rfl (c_skip (e_then (c_seq (c_block (sr (yy (y_iaN (i := 1) sl_126 rfl rfl (by decide)) ?_))))))))
   refine ll (ld_st (by kernel_rfl : ldK Tryz.prog 119 = some none) rfl (hle.cell (hfk 1 _ rfl))) ?_
   refine sa rfl (nesr (mv rfl (lw (t_callv (vs := []) (v1 := []) (v2 := [.pointer (some ⟨b2, 0, none⟩), .pointer (some ⟨b3, 0, none⟩), .pointer (some ⟨b7, 0, none⟩), .pointer (some ⟨b8, 0, none⟩), .pointer (some ⟨b9, 0, none⟩)]) rfl en_51 rfl (I := [.blk b7 (.cells [.string (ky s.lo), .string (kh t.hi), u64 (max s.epoch t.epoch + 1), .int .u64 0, .slice none 0 0, .slice none 0 0, .slice none 0 0].toArray 30 (0, 0)), .blk b8 (.cells [Value.slice none 0 0].toArray 91 (0, 0)), .blk b9 (.cells [Value.slice none 0 0].toArray 91 (0, 0))]) (List.Perm.refl _) (cl51_no (hle.cell (kA4 4 _ rfl)) (hle.cell (kB4 4 _ rfl)) (hr.mono (leS.trans hle)) (hr'.mono (leS.trans hle)) ho.num ho'.num hl hJ) (lt_n rfl) ?_))))
   rintro v41 I41 S41 le41 ⟨rfl, rfl⟩
   refine lw (t_callr' rfl (failed_e (e := 145) (by decide)) en_57 ?_)
   refine sa rfl (nesr (mv rfl (yy (y_innil if_86 rfl) (ne (c_true rfl (sr (yy (y_build pl_30 zc_30 rfl rfl) (mv rfl (lw (sw sz_30 (sa rfl (netr (e_in_ret (e_then_ret (e_then_ret (e_in_ret (e_then_ret ?_)))))))))))))))))
   exact f_retR rfl (ResV.agg ld_30 rfl pk rfl (rt rfl)) rfl
theorem merge_bad {S : Stone} {v w : Value} {s t : Sh} (h : PartR S v s) (h' : PartR S w t) (ho : ShOk s) (ho' : ShOk t) (he : s.epoch ≤ 1000000) (he' : t.epoch ≤ 1000000) (hst : s.hi = t.lo) (hl : s.l.length + t.l.length ≤ 200) (hp1 : s.p.length ≤ 50) (hp2 : t.p.length ≤ 50) (hc1 : s.c.length ≤ 20) (hc2 : t.c.length ≤ 20) {out : List Rec} {ta tb : List Nat} (hf : ¬ (s.frozen = 0 ∨ t.frozen = 0)) (hJ : joinL s.l t.l = some (out, ta, tb)) (hta : ta.length = s.l.length) (htb : tb.length = t.l.length) (hck : ∀ (S : Stone) v, PartR S v (mergeS s t out ta tb) → Con Tryz.prog 36 #[v] [] S (Ret (.int .i64 165) S)) :
 Con Tryz.prog 34 #[v, w] [] S (RetR fun u S' => u = .tuple #[zeroPart, errno 172]) := by
 have h0 := h
 have h0' := h'
 obtain ⟨A, a, B, b, D, d, rfl, hr, hp, hcv⟩ := h.ex
 obtain ⟨A', a', B', b', D', d', rfl, hr', hp', hcv'⟩ := h'.ex
 refine con_of 54 Tryz.func34 rfl rfl rfl (fun w0 => ?_)
 refine sr (bx rfl rfl (fun b2 => bx rfl rfl (fun b3 => t_stone (b := b2) pk (fun S1 le1 hS1 => ?_))))
 refine t_stone (b := b3) pk (fun S2 le2 hS2 => ?_)
 have hS1' := le2 _ _ hS1
 have kA : ∀ (j : Nat) u, (s.cells (.slice A s.l.length a) (.slice B s.p.length b) (.slice D s.c.length d))[j]? = some u → S2.cell ((⟨b2, 0, none⟩ : Addr).add j) = some u := fun j u hu => by rw [add_lit]; simp [Stone.cell, hS1', hu]
 have kB : ∀ (j : Nat) u, (t.cells (.slice A' t.l.length a') (.slice B' t.p.length b') (.slice D' t.c.length d'))[j]? = some u → S2.cell ((⟨b3, 0, none⟩ : Addr).add j) = some u := fun j u hu => by rw [add_lit]; simp [Stone.cell, hS2, hu]
 refine al zc_30 (fun b4 => sa rfl (nes (sr (ll (ltm ld_30 rfl kA) ?_))))
 refine ll (ltm ld_30 rfl kB) ?_
 refine lw (t_bs (cs := (s.cells (.slice A s.l.length a) (.slice B s.p.length b) (.slice D s.c.length d)) ++ (t.cells (.slice A' t.l.length a') (.slice B' t.p.length b') (.slice D' t.c.length d'))) ap_35 zc_30 (by decide) rfl rfl rfl (lt_n rfl) (fun b16 => ?_))
 refine t_pub (C := partC) (l := [s, t]) Pick.hd (fun S' hle => (Flat.one (a := s) (cs := (s.cells (.slice A s.l.length a) (.slice B s.p.length b) (.slice D s.c.length d))) (h0.mono ((le1.trans le2).trans hle)) rfl).app (Flat.one (a := t) (cs := (t.cells (.slice A' t.l.length a') (.slice B' t.p.length b') (.slice D' t.c.length d'))) (h0'.mono ((le1.trans le2).trans hle)) rfl)) rfl (fun S3 le3 hs3 => ?_)
 have kA3 : ∀ (j : Nat) u, (s.cells (.slice A s.l.length a) (.slice B s.p.length b) (.slice D s.c.length d))[j]? = some u → S3.cell ⟨b2, 0 + j, none⟩ = some u := fun j u hu => by have := le3.cell (kA j u hu); rwa [add_lit] at this
 have kB3 : ∀ (j : Nat) u, (t.cells (.slice A' t.l.length a') (.slice B' t.p.length b') (.slice D' t.c.length d'))[j]? = some u → S3.cell ⟨b3, 0 + j, none⟩ = some u := fun j u hu => by have := le3.cell (kB j u hu); rwa [add_lit] at this
 have e1 := kA3 2 _ rfl
 have e2 := kB3 2 _ rfl
 refine lw (t_callr' rfl ((usable_ok hs3 (by intro x hx; simp at hx; rcases hx with rfl | rfl; exact ⟨ho, he⟩; exact ⟨ho', he'⟩) (by simp)).back) en_26 ?_)
 rw [show liveV [s, t] = .nilIface by unfold liveV; simp; omega]
 refine sa rfl (nesr (mv rfl (yy (y_innil0 if_86 rfl) (ne (c_false rfl (c_skip (e_then (sr (yy (y_far fo_30_1 rfl) (ll (ld_st ld_25 rfl ‹_›) ?_))))))))))
 refine yy (y_far fo_30_1 rfl) (ll (ld_st ld_25 rfl ‹_›) ?_)
 refine yy (y_maxN rfl rfl) (yy (y_addU (m := 1) rfl rfl om) (yy (y_build pl_30 zc_30 rfl rfl) (al zc_30 (fun b7 => lw (sw sz_30 (nesr (al zc_91 (fun b8 => al zc_91 (fun b9 => nesr (yy (y_mf' rfl rfl) (yy (y_mf' rfl rfl) (yy (y_mf' rfl rfl) (yy (y_mf' rfl rfl) (lw (t_bs (cs := [.func (.func 49) #[] #[.pointer (some ⟨b2, 0, none⟩), .pointer (some ⟨b3, 0, none⟩), .pointer (some ⟨b7, 0, none⟩)], .func (.func 51) #[] #[.pointer (some ⟨b2, 0, none⟩), .pointer (some ⟨b3, 0, none⟩), .pointer (some ⟨b7, 0, none⟩), .pointer (some ⟨b8, 0, none⟩), .pointer (some ⟨b9, 0, none⟩)], .func (.func 53) #[] #[.pointer (some ⟨b2, 0, none⟩), .pointer (some ⟨b3, 0, none⟩), .pointer (some ⟨b8, 0, none⟩), .pointer (some ⟨b9, 0, none⟩), .pointer (some ⟨b7, 0, none⟩)], .func (.func 55) #[] #[.pointer (some ⟨b2, 0, none⟩), .pointer (some ⟨b3, 0, none⟩), .pointer (some ⟨b8, 0, none⟩), .pointer (some ⟨b9, 0, none⟩), .pointer (some ⟨b7, 0, none⟩)]]) ap_126 (by kernel_rfl : zcK Tryz.prog 119 = some [.nilFunc]) (by decide) rfl rfl rfl (lt_n rfl) (fun b33 => ?_))))))))))))))))
 refine t_pub (C := valC) (l := [.func (.func 49) #[] #[.pointer (some ⟨b2, 0, none⟩), .pointer (some ⟨b3, 0, none⟩), .pointer (some ⟨b7, 0, none⟩)], .func (.func 51) #[] #[.pointer (some ⟨b2, 0, none⟩), .pointer (some ⟨b3, 0, none⟩), .pointer (some ⟨b7, 0, none⟩), .pointer (some ⟨b8, 0, none⟩), .pointer (some ⟨b9, 0, none⟩)], .func (.func 53) #[] #[.pointer (some ⟨b2, 0, none⟩), .pointer (some ⟨b3, 0, none⟩), .pointer (some ⟨b8, 0, none⟩), .pointer (some ⟨b9, 0, none⟩), .pointer (some ⟨b7, 0, none⟩)], .func (.func 55) #[] #[.pointer (some ⟨b2, 0, none⟩), .pointer (some ⟨b3, 0, none⟩), .pointer (some ⟨b8, 0, none⟩), .pointer (some ⟨b9, 0, none⟩), .pointer (some ⟨b7, 0, none⟩)]]) Pick.hd (fun S' hle => flat_val _) rfl (fun S33 le33 hs33 => ?_)
 have hfk : ∀ (k : Nat) f, ([.func (.func 49) #[] #[.pointer (some ⟨b2, 0, none⟩), .pointer (some ⟨b3, 0, none⟩), .pointer (some ⟨b7, 0, none⟩)], .func (.func 51) #[] #[.pointer (some ⟨b2, 0, none⟩), .pointer (some ⟨b3, 0, none⟩), .pointer (some ⟨b7, 0, none⟩), .pointer (some ⟨b8, 0, none⟩), .pointer (some ⟨b9, 0, none⟩)], .func (.func 53) #[] #[.pointer (some ⟨b2, 0, none⟩), .pointer (some ⟨b3, 0, none⟩), .pointer (some ⟨b8, 0, none⟩), .pointer (some ⟨b9, 0, none⟩), .pointer (some ⟨b7, 0, none⟩)], .func (.func 55) #[] #[.pointer (some ⟨b2, 0, none⟩), .pointer (some ⟨b3, 0, none⟩), .pointer (some ⟨b8, 0, none⟩), .pointer (some ⟨b9, 0, none⟩), .pointer (some ⟨b7, 0, none⟩)]] : List Value)[k]? = some f → S33.cell ((⟨b33, 0, none⟩ : Addr).add (k * 1)) = some f := fun k f hk => by
  obtain ⟨A9, cap9, e9, -, -, h49⟩ := id hs33
  injection e9 with e91 e92 e93
  obtain ⟨p9, cs9, hpe, hcs, -, hcell⟩ := h49 k f hk
  have hcs : cs9 = [f] := hcs
  subst hcs
  rw [← e91] at hpe
  injection hpe with hpe
  subst hpe
  have := hcell 0 f rfl
  simpa [Addr.add] using this
 have kA4 : ∀ (j : Nat) u, (s.cells (.slice A s.l.length a) (.slice B s.p.length b) (.slice D s.c.length d))[j]? = some u → S33.cell ⟨b2, 0 + j, none⟩ = some u := fun j u hu => le33.cell (kA3 j u hu)
 have kB4 : ∀ (j : Nat) u, (t.cells (.slice A' t.l.length a') (.slice B' t.p.length b') (.slice D' t.c.length d'))[j]? = some u → S33.cell ⟨b3, 0 + j, none⟩ = some u := fun j u hu => le33.cell (kB3 j u hu)
 have leS : Stone.le S S33 := (((le1.trans le2).trans le3).trans le33)
 refine sa rfl (nes (sr (mv rfl (yy (y_ln sl_126 rfl) (mv rfl (ne (c_block (c_loopE (τ := Nat × List Value × Value × Value × Stone) [(35, _), (34, _), (7, _), (19, _), (5, _), (4, _)] (fun Ek z0 => (36, i64 z0.1) :: Ek) (fun z0 => [.blk b7 (.cells z0.2.1.toArray 30 (0, 0)), .blk b8 (.cells [z0.2.2.1].toArray 91 (0, 0)), .blk b9 (.cells [z0.2.2.2.1].toArray 91 (0, 0)), .blk b4 (.cells [.string ⟨#[]⟩, .string ⟨#[]⟩, .int .u64 0, .int .u64 0, .slice none 0 0, .slice none 0 0, .slice none 0 0].toArray 30 (0, 0))]) (fun z0 => z0.2.2.2.2) (fun z0 => z0.1 ≤ 4 ∧ Stone.le S33 z0.2.2.2.2 ∧ MInv (.string (ky s.lo)) (.string (kh t.hi)) (u64 (max s.epoch t.epoch + 1)) out ta tb (mergeS s t out ta tb).p (mergeS s t out ta tb).c z0.1 z0.2.1 z0.2.2.1 z0.2.2.2.1 z0.2.2.2.2) (fun z0 => 4 - z0.1) ((0, [.string ⟨#[]⟩, .string ⟨#[]⟩, u64 (max s.epoch t.epoch + 1), .int .u64 0, .slice none 0 0, .slice none 0 0, .slice none 0 0], .slice none 0 0, .slice none 0 0, S33)) (⟨by simp, Stone.le.refl _, minv0⟩) (fun z0 hz0 K0l hr0 => ?_)))))))))
 obtain ⟨i, o, va, vb, S4⟩ := z0
 obtain ⟨hi4, hle, hinv⟩ := hz0
 dsimp only at hi4 hle hinv ⊢
 have hlt1 : s.lo < t.lo := by rw [← hst]; exact ho.lh
 have hlt2 : s.hi < t.hi := by rw [hst]; exact ho'.lh
 have kr1 : ∀ (j : Nat) u, ([.string (ky s.lo), .string (kh s.hi)] : List Value)[j]? = some u → S33.cell ((⟨b2, 0 + 0, none⟩ : Addr).add j) = some u := fun j u hu => by
  match j, hu with
  | 0, hu => cases hu; rw [add_lit]; exact kA4 0 _ rfl
  | 1, hu => cases hu; rw [add_lit]; exact kA4 1 _ rfl
 have kr2 : ∀ (j : Nat) u, ([.string (ky s.hi), .string (kh t.hi)] : List Value)[j]? = some u → S33.cell ((⟨b3, 0 + 0, none⟩ : Addr).add j) = some u := fun j u hu => by
  rw [hst] at hu
  match j, hu with
  | 0, hu => cases hu; rw [add_lit]; exact kB4 0 _ rfl
  | 1, hu => cases hu; rw [add_lit]; exact kB4 1 _ rfl
 rcases (by omega : i = 0 ∨ i = 1 ∨ i = 2 ∨ i = 3 ∨ i = 4) with rfl | rfl | rfl | rfl | rfl
 · -- case c0
   refine sr ?_
   obtain ⟨rfl, rfl, rfl⟩ := hinv
   refine yy (y_lt rfl rfl) (nes (c_true rfl (c_skip (e_then (c_seq (c_block (sr (yy (y_iaN (i := 0) sl_126 rfl rfl (by decide)) ?_))))))))
   refine ll (ld_st (by kernel_rfl : ldK Tryz.prog 119 = some none) rfl (hle.cell (hfk 0 _ rfl))) ?_
   refine sa rfl (nesr (mv rfl (lw (t_callv (vs := []) (v1 := []) (v2 := [.pointer (some ⟨b2, 0, none⟩), .pointer (some ⟨b3, 0, none⟩), .pointer (some ⟨b7, 0, none⟩)]) rfl en_49 rfl (I := [.blk b7 (.cells [.string ⟨#[]⟩, .string ⟨#[]⟩, u64 (max s.epoch t.epoch + 1), .int .u64 0, .slice none 0 0, .slice none 0 0, .slice none 0 0].toArray 30 (0, 0))]) (List.Perm.refl _) (cl49_ok (ep := max s.epoch t.epoch + 1) (by rw [hst]; exact hlt1) hlt2 ho'.hi (fun j u hu => hle.cell (kr1 j u hu)) (fun j u hu => hle.cell (kr2 j u hu))) (lt_n rfl) ?_))))
   rintro v41 I41 S41 le41 ⟨rfl, rfl, rfl⟩
   exact lw (t_callr' rfl (failed_0) en_57 (sa rfl (nesr (mv rfl (yy (y_innil0 if_86 rfl) (ne (c_false rfl (c_skip (e_in (e_then (c_region (yy (y_addN (m := 1) rfl rfl om) (mv rfl (ne (t_to (hr0 (1, [.string (ky s.lo), .string (kh t.hi), u64 (max s.epoch t.epoch + 1), .int .u64 0, .slice none 0 0, .slice none 0 0, .slice none 0 0], .slice none 0 0, .slice none 0 0, S41) ⟨by simp, hle, minv1⟩ (by simp only; omega)))))))))))))))))
 · -- case c1
   refine sr ?_
   obtain ⟨rfl, rfl, rfl⟩ := hinv
   refine yy (y_lt rfl rfl) (nes (c_true rfl (c_skip (e_then (c_seq (c_block (sr (yy (y_iaN (i := 1) sl_126 rfl rfl (by decide)) ?_))))))))
   refine ll (ld_st (by kernel_rfl : ldK Tryz.prog 119 = some none) rfl (hle.cell (hfk 1 _ rfl))) ?_
   refine sa rfl (nesr (mv rfl (lw (t_callv (vs := []) (v1 := []) (v2 := [.pointer (some ⟨b2, 0, none⟩), .pointer (some ⟨b3, 0, none⟩), .pointer (some ⟨b7, 0, none⟩), .pointer (some ⟨b8, 0, none⟩), .pointer (some ⟨b9, 0, none⟩)]) rfl en_51 rfl (I := [.blk b7 (.cells [.string (ky s.lo), .string (kh t.hi), u64 (max s.epoch t.epoch + 1), .int .u64 0, .slice none 0 0, .slice none 0 0, .slice none 0 0].toArray 30 (0, 0)), .blk b8 (.cells [Value.slice none 0 0].toArray 91 (0, 0)), .blk b9 (.cells [Value.slice none 0 0].toArray 91 (0, 0))]) (List.Perm.refl _) (cl51_yes (hle.cell (kA4 4 _ rfl)) (hle.cell (kB4 4 _ rfl)) (hr.mono (leS.trans hle)) (hr'.mono (leS.trans hle)) ho.num ho'.num hl hJ) (lt_n rfl) ?_))))
   rintro v41 I41 S41 le41 ⟨rv, va, vb, rfl, rfl, g1, g2, g3⟩
   exact lw (t_callr' rfl (failed_0) en_57 (sa rfl (nesr (mv rfl (yy (y_innil0 if_86 rfl) (ne (c_false rfl (c_skip (e_in (e_then (c_region (yy (y_addN (m := 1) rfl rfl om) (mv rfl (ne (t_to (hr0 (2, [.string (ky s.lo), .string (kh t.hi), u64 (max s.epoch t.epoch + 1), .int .u64 0, rv, .slice none 0 0, .slice none 0 0], va, vb, S41) ⟨by simp, hle.trans le41, minv2 g1 g2 g3⟩ (by simp only; omega)))))))))))))))))
 · -- case c2
   refine sr ?_
   obtain ⟨rv, rfl, g1, g2, g3⟩ := hinv
   refine yy (y_lt rfl rfl) (nes (c_true rfl (c_skip (e_then (c_seq (c_block (sr (yy (y_iaN (i := 2) sl_126 rfl rfl (by decide)) ?_))))))))
   refine ll (ld_st (by kernel_rfl : ldK Tryz.prog 119 = some none) rfl (hle.cell (hfk 2 _ rfl))) ?_
   refine sa rfl (nesr (mv rfl (lw (t_callv (vs := []) (v1 := []) (v2 := [.pointer (some ⟨b2, 0, none⟩), .pointer (some ⟨b3, 0, none⟩), .pointer (some ⟨b8, 0, none⟩), .pointer (some ⟨b9, 0, none⟩), .pointer (some ⟨b7, 0, none⟩)]) rfl en_53 rfl (I := [.blk b7 (.cells [.string (ky s.lo), .string (kh t.hi), u64 (max s.epoch t.epoch + 1), .int .u64 0, rv, .slice none 0 0, .slice none 0 0].toArray 30 (0, 0)), .blk b8 (.cells [va].toArray 91 (0, 0)), .blk b9 (.cells [vb].toArray 91 (0, 0))]) (List.Perm.refl _) (cl53_ok (hle.cell (kA4 5 _ rfl)) (hle.cell (kB4 5 _ rfl)) (hp.mono (leS.trans hle)) (hp'.mono (leS.trans hle)) g2 g3 ho.tab ho'.tab hp1 hp2 (fun x hx hh => by obtain ⟨r, hrr, -⟩ := ho.here x hx hh; have := (List.getElem?_eq_some_iff.1 hrr).1; simp; omega) (fun x hx hh => by obtain ⟨r, hrr, -⟩ := ho'.here x hx hh; have := (List.getElem?_eq_some_iff.1 hrr).1; simp; omega)) (lt_n rfl) ?_))))
   rintro v41 I41 S41 le41 ⟨pv, rfl, rfl, g4⟩
   exact lw (t_callr' rfl (failed_0) en_57 (sa rfl (nesr (mv rfl (yy (y_innil0 if_86 rfl) (ne (c_false rfl (c_skip (e_in (e_then (c_region (yy (y_addN (m := 1) rfl rfl om) (mv rfl (ne (t_to (hr0 (3, [.string (ky s.lo), .string (kh t.hi), u64 (max s.epoch t.epoch + 1), .int .u64 0, rv, pv, .slice none 0 0], va, vb, S41) ⟨by simp, hle.trans le41, minv3 (Recs.mono g1 le41) (Nats.mono g2 le41) (Nats.mono g3 le41) g4⟩ (by simp only; omega)))))))))))))))))
 · -- case c3
   refine sr ?_
   obtain ⟨rv, pv, rfl, g1, g2, g3, g4⟩ := hinv
   refine yy (y_lt rfl rfl) (nes (c_true rfl (c_skip (e_then (c_seq (c_block (sr (yy (y_iaN (i := 3) sl_126 rfl rfl (by decide)) ?_))))))))
   refine ll (ld_st (by kernel_rfl : ldK Tryz.prog 119 = some none) rfl (hle.cell (hfk 3 _ rfl))) ?_
   refine sa rfl (nesr (mv rfl (lw (t_callv (vs := []) (v1 := []) (v2 := [.pointer (some ⟨b2, 0, none⟩), .pointer (some ⟨b3, 0, none⟩), .pointer (some ⟨b8, 0, none⟩), .pointer (some ⟨b9, 0, none⟩), .pointer (some ⟨b7, 0, none⟩)]) rfl en_55 rfl (I := [.blk b7 (.cells [.string (ky s.lo), .string (kh t.hi), u64 (max s.epoch t.epoch + 1), .int .u64 0, rv, pv, .slice none 0 0].toArray 30 (0, 0)), .blk b8 (.cells [va].toArray 91 (0, 0)), .blk b9 (.cells [vb].toArray 91 (0, 0))]) (List.Perm.refl _) (cl55_ok (hle.cell (kA4 6 _ rfl)) (hle.cell (kB4 6 _ rfl)) (hcv.mono (leS.trans hle)) (hcv'.mono (leS.trans hle)) g2 g3 ho.cns ho'.cns hc1 hc2 (by simp) (by simp)) (lt_n rfl) ?_))))
   rintro v41 I41 S41 le41 ⟨cv, rfl, rfl, g5⟩
   exact lw (t_callr' rfl (failed_0) en_57 (sa rfl (nesr (mv rfl (yy (y_innil0 if_86 rfl) (ne (c_false rfl (c_skip (e_in (e_then (c_region (yy (y_addN (m := 1) rfl rfl om) (mv rfl (ne (t_to (hr0 (4, [.string (ky s.lo), .string (kh t.hi), u64 (max s.epoch t.epoch + 1), .int .u64 0, rv, pv, cv], va, vb, S41) ⟨by simp, hle.trans le41, minv4 (Recs.mono g1 le41) (Prds.mono g4 le41) g5⟩ (by simp only; omega)))))))))))))))))
 · -- case c4
   refine sr ?_
   obtain ⟨rv, pv, cv, rfl, g1, g4, g5⟩ := hinv
   refine yy (y_lt rfl rfl) (nes (c_false rfl (c_exit ?_)))
   refine e_then_exit (e_then_exit (e_in_same (e_then (c_seq (sr ?_)))))
   have hM : PartR S4 (.agg ([.string (ky s.lo), .string (kh t.hi), u64 (max s.epoch t.epoch + 1), .int .u64 0, rv, pv, cv] : List Value).toArray) (mergeS s t out ta tb) := ⟨rv, pv, cv, rfl, g1, g4, g5⟩
   obtain ⟨E1, f1, rfl, -⟩ := g1.shape
   obtain ⟨E2, f2, rfl, -⟩ := g4.shape
   obtain ⟨E3, f3, rfl, -⟩ := g5.shape
   refine ll (lbw ld_30) ?_
   refine lw (t_callr' rfl (hck _ _ hM) en_36 (yy (y_ne rfl rfl) (ne (c_true rfl (sr (yy (y_build pl_30 zc_30 rfl rfl) ?_))))))
   refine yy (y_mi co_31 rfl) (lw (sw sz_30 (sa rfl (l_nil ?_))))
   exact e_then (c_ret (e_then_ret (f_retR rfl (ResV.agg ld_30 rfl pk rfl (rt rfl)) rfl)))
theorem merge_yes {S : Stone} {v w : Value} {s t : Sh} (h : PartR S v s) (h' : PartR S w t) (ho : ShOk s) (ho' : ShOk t) (he : s.epoch ≤ 1000000) (he' : t.epoch ≤ 1000000) (hst : s.hi = t.lo) (hl : s.l.length + t.l.length ≤ 200) (hp1 : s.p.length ≤ 50) (hp2 : t.p.length ≤ 50) (hc1 : s.c.length ≤ 20) (hc2 : t.c.length ≤ 20) {out : List Rec} {ta tb : List Nat} (hf : ¬ (s.frozen = 0 ∨ t.frozen = 0)) (hJ : joinL s.l t.l = some (out, ta, tb)) (hta : ta.length = s.l.length) (htb : tb.length = t.l.length) (hok : ShOk (mergeS s t out ta tb)) :
 Con Tryz.prog 34 #[v, w] [] S (RetR fun u S' => ∃ v', u = .tuple #[v', .nilIface] ∧ PartR S' v' (mergeS s t out ta tb)) := by
 have h0 := h
 have h0' := h'
 obtain ⟨A, a, B, b, D, d, rfl, hr, hp, hcv⟩ := h.ex
 obtain ⟨A', a', B', b', D', d', rfl, hr', hp', hcv'⟩ := h'.ex
 refine con_of 54 Tryz.func34 rfl rfl rfl (fun w0 => ?_)
 refine sr (bx rfl rfl (fun b2 => bx rfl rfl (fun b3 => t_stone (b := b2) pk (fun S1 le1 hS1 => ?_))))
 refine t_stone (b := b3) pk (fun S2 le2 hS2 => ?_)
 have hS1' := le2 _ _ hS1
 have kA : ∀ (j : Nat) u, (s.cells (.slice A s.l.length a) (.slice B s.p.length b) (.slice D s.c.length d))[j]? = some u → S2.cell ((⟨b2, 0, none⟩ : Addr).add j) = some u := fun j u hu => by rw [add_lit]; simp [Stone.cell, hS1', hu]
 have kB : ∀ (j : Nat) u, (t.cells (.slice A' t.l.length a') (.slice B' t.p.length b') (.slice D' t.c.length d'))[j]? = some u → S2.cell ((⟨b3, 0, none⟩ : Addr).add j) = some u := fun j u hu => by rw [add_lit]; simp [Stone.cell, hS2, hu]
 refine al zc_30 (fun b4 => sa rfl (nes (sr (ll (ltm ld_30 rfl kA) ?_))))
 refine ll (ltm ld_30 rfl kB) ?_
 refine lw (t_bs (cs := (s.cells (.slice A s.l.length a) (.slice B s.p.length b) (.slice D s.c.length d)) ++ (t.cells (.slice A' t.l.length a') (.slice B' t.p.length b') (.slice D' t.c.length d'))) ap_35 zc_30 (by decide) rfl rfl rfl (lt_n rfl) (fun b16 => ?_))
 refine t_pub (C := partC) (l := [s, t]) Pick.hd (fun S' hle => (Flat.one (a := s) (cs := (s.cells (.slice A s.l.length a) (.slice B s.p.length b) (.slice D s.c.length d))) (h0.mono ((le1.trans le2).trans hle)) rfl).app (Flat.one (a := t) (cs := (t.cells (.slice A' t.l.length a') (.slice B' t.p.length b') (.slice D' t.c.length d'))) (h0'.mono ((le1.trans le2).trans hle)) rfl)) rfl (fun S3 le3 hs3 => ?_)
 have kA3 : ∀ (j : Nat) u, (s.cells (.slice A s.l.length a) (.slice B s.p.length b) (.slice D s.c.length d))[j]? = some u → S3.cell ⟨b2, 0 + j, none⟩ = some u := fun j u hu => by have := le3.cell (kA j u hu); rwa [add_lit] at this
 have kB3 : ∀ (j : Nat) u, (t.cells (.slice A' t.l.length a') (.slice B' t.p.length b') (.slice D' t.c.length d'))[j]? = some u → S3.cell ⟨b3, 0 + j, none⟩ = some u := fun j u hu => by have := le3.cell (kB j u hu); rwa [add_lit] at this
 have e1 := kA3 2 _ rfl
 have e2 := kB3 2 _ rfl
 refine lw (t_callr' rfl ((usable_ok hs3 (by intro x hx; simp at hx; rcases hx with rfl | rfl; exact ⟨ho, he⟩; exact ⟨ho', he'⟩) (by simp)).back) en_26 ?_)
 rw [show liveV [s, t] = .nilIface by unfold liveV; simp; omega]
 refine sa rfl (nesr (mv rfl (yy (y_innil0 if_86 rfl) (ne (c_false rfl (c_skip (e_then (sr (yy (y_far fo_30_1 rfl) (ll (ld_st ld_25 rfl ‹_›) ?_))))))))))
 refine yy (y_far fo_30_1 rfl) (ll (ld_st ld_25 rfl ‹_›) ?_)
 refine yy (y_maxN rfl rfl) (yy (y_addU (m := 1) rfl rfl om) (yy (y_build pl_30 zc_30 rfl rfl) (al zc_30 (fun b7 => lw (sw sz_30 (nesr (al zc_91 (fun b8 => al zc_91 (fun b9 => nesr (yy (y_mf' rfl rfl) (yy (y_mf' rfl rfl) (yy (y_mf' rfl rfl) (yy (y_mf' rfl rfl) (lw (t_bs (cs := [.func (.func 49) #[] #[.pointer (some ⟨b2, 0, none⟩), .pointer (some ⟨b3, 0, none⟩), .pointer (some ⟨b7, 0, none⟩)], .func (.func 51) #[] #[.pointer (some ⟨b2, 0, none⟩), .pointer (some ⟨b3, 0, none⟩), .pointer (some ⟨b7, 0, none⟩), .pointer (some ⟨b8, 0, none⟩), .pointer (some ⟨b9, 0, none⟩)], .func (.func 53) #[] #[.pointer (some ⟨b2, 0, none⟩), .pointer (some ⟨b3, 0, none⟩), .pointer (some ⟨b8, 0, none⟩), .pointer (some ⟨b9, 0, none⟩), .pointer (some ⟨b7, 0, none⟩)], .func (.func 55) #[] #[.pointer (some ⟨b2, 0, none⟩), .pointer (some ⟨b3, 0, none⟩), .pointer (some ⟨b8, 0, none⟩), .pointer (some ⟨b9, 0, none⟩), .pointer (some ⟨b7, 0, none⟩)]]) ap_126 (by kernel_rfl : zcK Tryz.prog 119 = some [.nilFunc]) (by decide) rfl rfl rfl (lt_n rfl) (fun b33 => ?_))))))))))))))))
 refine t_pub (C := valC) (l := [.func (.func 49) #[] #[.pointer (some ⟨b2, 0, none⟩), .pointer (some ⟨b3, 0, none⟩), .pointer (some ⟨b7, 0, none⟩)], .func (.func 51) #[] #[.pointer (some ⟨b2, 0, none⟩), .pointer (some ⟨b3, 0, none⟩), .pointer (some ⟨b7, 0, none⟩), .pointer (some ⟨b8, 0, none⟩), .pointer (some ⟨b9, 0, none⟩)], .func (.func 53) #[] #[.pointer (some ⟨b2, 0, none⟩), .pointer (some ⟨b3, 0, none⟩), .pointer (some ⟨b8, 0, none⟩), .pointer (some ⟨b9, 0, none⟩), .pointer (some ⟨b7, 0, none⟩)], .func (.func 55) #[] #[.pointer (some ⟨b2, 0, none⟩), .pointer (some ⟨b3, 0, none⟩), .pointer (some ⟨b8, 0, none⟩), .pointer (some ⟨b9, 0, none⟩), .pointer (some ⟨b7, 0, none⟩)]]) Pick.hd (fun S' hle => flat_val _) rfl (fun S33 le33 hs33 => ?_)
 have hfk : ∀ (k : Nat) f, ([.func (.func 49) #[] #[.pointer (some ⟨b2, 0, none⟩), .pointer (some ⟨b3, 0, none⟩), .pointer (some ⟨b7, 0, none⟩)], .func (.func 51) #[] #[.pointer (some ⟨b2, 0, none⟩), .pointer (some ⟨b3, 0, none⟩), .pointer (some ⟨b7, 0, none⟩), .pointer (some ⟨b8, 0, none⟩), .pointer (some ⟨b9, 0, none⟩)], .func (.func 53) #[] #[.pointer (some ⟨b2, 0, none⟩), .pointer (some ⟨b3, 0, none⟩), .pointer (some ⟨b8, 0, none⟩), .pointer (some ⟨b9, 0, none⟩), .pointer (some ⟨b7, 0, none⟩)], .func (.func 55) #[] #[.pointer (some ⟨b2, 0, none⟩), .pointer (some ⟨b3, 0, none⟩), .pointer (some ⟨b8, 0, none⟩), .pointer (some ⟨b9, 0, none⟩), .pointer (some ⟨b7, 0, none⟩)]] : List Value)[k]? = some f → S33.cell ((⟨b33, 0, none⟩ : Addr).add (k * 1)) = some f := fun k f hk => by
  obtain ⟨A9, cap9, e9, -, -, h49⟩ := id hs33
  injection e9 with e91 e92 e93
  obtain ⟨p9, cs9, hpe, hcs, -, hcell⟩ := h49 k f hk
  have hcs : cs9 = [f] := hcs
  subst hcs
  rw [← e91] at hpe
  injection hpe with hpe
  subst hpe
  have := hcell 0 f rfl
  simpa [Addr.add] using this
 have kA4 : ∀ (j : Nat) u, (s.cells (.slice A s.l.length a) (.slice B s.p.length b) (.slice D s.c.length d))[j]? = some u → S33.cell ⟨b2, 0 + j, none⟩ = some u := fun j u hu => le33.cell (kA3 j u hu)
 have kB4 : ∀ (j : Nat) u, (t.cells (.slice A' t.l.length a') (.slice B' t.p.length b') (.slice D' t.c.length d'))[j]? = some u → S33.cell ⟨b3, 0 + j, none⟩ = some u := fun j u hu => le33.cell (kB3 j u hu)
 have leS : Stone.le S S33 := (((le1.trans le2).trans le3).trans le33)
 refine sa rfl (nes (sr (mv rfl (yy (y_ln sl_126 rfl) (mv rfl (ne (c_block (c_loopE (τ := Nat × List Value × Value × Value × Stone) [(35, _), (34, _), (7, _), (19, _), (5, _), (4, _)] (fun Ek z0 => (36, i64 z0.1) :: Ek) (fun z0 => [.blk b7 (.cells z0.2.1.toArray 30 (0, 0)), .blk b8 (.cells [z0.2.2.1].toArray 91 (0, 0)), .blk b9 (.cells [z0.2.2.2.1].toArray 91 (0, 0)), .blk b4 (.cells [.string ⟨#[]⟩, .string ⟨#[]⟩, .int .u64 0, .int .u64 0, .slice none 0 0, .slice none 0 0, .slice none 0 0].toArray 30 (0, 0))]) (fun z0 => z0.2.2.2.2) (fun z0 => z0.1 ≤ 4 ∧ Stone.le S33 z0.2.2.2.2 ∧ MInv (.string (ky s.lo)) (.string (kh t.hi)) (u64 (max s.epoch t.epoch + 1)) out ta tb (mergeS s t out ta tb).p (mergeS s t out ta tb).c z0.1 z0.2.1 z0.2.2.1 z0.2.2.2.1 z0.2.2.2.2) (fun z0 => 4 - z0.1) ((0, [.string ⟨#[]⟩, .string ⟨#[]⟩, u64 (max s.epoch t.epoch + 1), .int .u64 0, .slice none 0 0, .slice none 0 0, .slice none 0 0], .slice none 0 0, .slice none 0 0, S33)) (⟨by simp, Stone.le.refl _, minv0⟩) (fun z0 hz0 K0l hr0 => ?_)))))))))
 obtain ⟨i, o, va, vb, S4⟩ := z0
 obtain ⟨hi4, hle, hinv⟩ := hz0
 dsimp only at hi4 hle hinv ⊢
 have hlt1 : s.lo < t.lo := by rw [← hst]; exact ho.lh
 have hlt2 : s.hi < t.hi := by rw [hst]; exact ho'.lh
 have kr1 : ∀ (j : Nat) u, ([.string (ky s.lo), .string (kh s.hi)] : List Value)[j]? = some u → S33.cell ((⟨b2, 0 + 0, none⟩ : Addr).add j) = some u := fun j u hu => by
  match j, hu with
  | 0, hu => cases hu; rw [add_lit]; exact kA4 0 _ rfl
  | 1, hu => cases hu; rw [add_lit]; exact kA4 1 _ rfl
 have kr2 : ∀ (j : Nat) u, ([.string (ky s.hi), .string (kh t.hi)] : List Value)[j]? = some u → S33.cell ((⟨b3, 0 + 0, none⟩ : Addr).add j) = some u := fun j u hu => by
  rw [hst] at hu
  match j, hu with
  | 0, hu => cases hu; rw [add_lit]; exact kB4 0 _ rfl
  | 1, hu => cases hu; rw [add_lit]; exact kB4 1 _ rfl
 rcases (by omega : i = 0 ∨ i = 1 ∨ i = 2 ∨ i = 3 ∨ i = 4) with rfl | rfl | rfl | rfl | rfl
 · -- case c0
   refine sr ?_
   obtain ⟨rfl, rfl, rfl⟩ := hinv
   refine yy (y_lt rfl rfl) (nes (c_true rfl (c_skip (e_then (c_seq (c_block (sr (yy (y_iaN (i := 0) sl_126 rfl rfl (by decide)) ?_))))))))
   refine ll (ld_st (by kernel_rfl : ldK Tryz.prog 119 = some none) rfl (hle.cell (hfk 0 _ rfl))) ?_
   refine sa rfl (nesr (mv rfl (lw (t_callv (vs := []) (v1 := []) (v2 := [.pointer (some ⟨b2, 0, none⟩), .pointer (some ⟨b3, 0, none⟩), .pointer (some ⟨b7, 0, none⟩)]) rfl en_49 rfl (I := [.blk b7 (.cells [.string ⟨#[]⟩, .string ⟨#[]⟩, u64 (max s.epoch t.epoch + 1), .int .u64 0, .slice none 0 0, .slice none 0 0, .slice none 0 0].toArray 30 (0, 0))]) (List.Perm.refl _) (cl49_ok (ep := max s.epoch t.epoch + 1) (by rw [hst]; exact hlt1) hlt2 ho'.hi (fun j u hu => hle.cell (kr1 j u hu)) (fun j u hu => hle.cell (kr2 j u hu))) (lt_n rfl) ?_))))
   rintro v41 I41 S41 le41 ⟨rfl, rfl, rfl⟩
   exact lw (t_callr' rfl (failed_0) en_57 (sa rfl (nesr (mv rfl (yy (y_innil0 if_86 rfl) (ne (c_false rfl (c_skip (e_in (e_then (c_region (yy (y_addN (m := 1) rfl rfl om) (mv rfl (ne (t_to (hr0 (1, [.string (ky s.lo), .string (kh t.hi), u64 (max s.epoch t.epoch + 1), .int .u64 0, .slice none 0 0, .slice none 0 0, .slice none 0 0], .slice none 0 0, .slice none 0 0, S41) ⟨by simp, hle, minv1⟩ (by simp only; omega)))))))))))))))))
 · -- case c1
   refine sr ?_
   obtain ⟨rfl, rfl, rfl⟩ := hinv
   refine yy (y_lt rfl rfl) (nes (c_true rfl (c_skip (e_then (c_seq (c_block (sr (yy (y_iaN (i := 1) sl_126 rfl rfl (by decide)) ?_))))))))
   refine ll (ld_st (by kernel_rfl : ldK Tryz.prog 119 = some none) rfl (hle.cell (hfk 1 _ rfl))) ?_
   refine sa rfl (nesr (mv rfl (lw (t_callv (vs := []) (v1 := []) (v2 := [.pointer (some ⟨b2, 0, none⟩), .pointer (some ⟨b3, 0, none⟩), .pointer (some ⟨b7, 0, none⟩), .pointer (some ⟨b8, 0, none⟩), .pointer (some ⟨b9, 0, none⟩)]) rfl en_51 rfl (I := [.blk b7 (.cells [.string (ky s.lo), .string (kh t.hi), u64 (max s.epoch t.epoch + 1), .int .u64 0, .slice none 0 0, .slice none 0 0, .slice none 0 0].toArray 30 (0, 0)), .blk b8 (.cells [Value.slice none 0 0].toArray 91 (0, 0)), .blk b9 (.cells [Value.slice none 0 0].toArray 91 (0, 0))]) (List.Perm.refl _) (cl51_yes (hle.cell (kA4 4 _ rfl)) (hle.cell (kB4 4 _ rfl)) (hr.mono (leS.trans hle)) (hr'.mono (leS.trans hle)) ho.num ho'.num hl hJ) (lt_n rfl) ?_))))
   rintro v41 I41 S41 le41 ⟨rv, va, vb, rfl, rfl, g1, g2, g3⟩
   exact lw (t_callr' rfl (failed_0) en_57 (sa rfl (nesr (mv rfl (yy (y_innil0 if_86 rfl) (ne (c_false rfl (c_skip (e_in (e_then (c_region (yy (y_addN (m := 1) rfl rfl om) (mv rfl (ne (t_to (hr0 (2, [.string (ky s.lo), .string (kh t.hi), u64 (max s.epoch t.epoch + 1), .int .u64 0, rv, .slice none 0 0, .slice none 0 0], va, vb, S41) ⟨by simp, hle.trans le41, minv2 g1 g2 g3⟩ (by simp only; omega)))))))))))))))))
 · -- case c2
   refine sr ?_
   obtain ⟨rv, rfl, g1, g2, g3⟩ := hinv
   refine yy (y_lt rfl rfl) (nes (c_true rfl (c_skip (e_then (c_seq (c_block (sr (yy (y_iaN (i := 2) sl_126 rfl rfl (by decide)) ?_))))))))
   refine ll (ld_st (by kernel_rfl : ldK Tryz.prog 119 = some none) rfl (hle.cell (hfk 2 _ rfl))) ?_
   refine sa rfl (nesr (mv rfl (lw (t_callv (vs := []) (v1 := []) (v2 := [.pointer (some ⟨b2, 0, none⟩), .pointer (some ⟨b3, 0, none⟩), .pointer (some ⟨b8, 0, none⟩), .pointer (some ⟨b9, 0, none⟩), .pointer (some ⟨b7, 0, none⟩)]) rfl en_53 rfl (I := [.blk b7 (.cells [.string (ky s.lo), .string (kh t.hi), u64 (max s.epoch t.epoch + 1), .int .u64 0, rv, .slice none 0 0, .slice none 0 0].toArray 30 (0, 0)), .blk b8 (.cells [va].toArray 91 (0, 0)), .blk b9 (.cells [vb].toArray 91 (0, 0))]) (List.Perm.refl _) (cl53_ok (hle.cell (kA4 5 _ rfl)) (hle.cell (kB4 5 _ rfl)) (hp.mono (leS.trans hle)) (hp'.mono (leS.trans hle)) g2 g3 ho.tab ho'.tab hp1 hp2 (fun x hx hh => by obtain ⟨r, hrr, -⟩ := ho.here x hx hh; have := (List.getElem?_eq_some_iff.1 hrr).1; simp; omega) (fun x hx hh => by obtain ⟨r, hrr, -⟩ := ho'.here x hx hh; have := (List.getElem?_eq_some_iff.1 hrr).1; simp; omega)) (lt_n rfl) ?_))))
   rintro v41 I41 S41 le41 ⟨pv, rfl, rfl, g4⟩
   exact lw (t_callr' rfl (failed_0) en_57 (sa rfl (nesr (mv rfl (yy (y_innil0 if_86 rfl) (ne (c_false rfl (c_skip (e_in (e_then (c_region (yy (y_addN (m := 1) rfl rfl om) (mv rfl (ne (t_to (hr0 (3, [.string (ky s.lo), .string (kh t.hi), u64 (max s.epoch t.epoch + 1), .int .u64 0, rv, pv, .slice none 0 0], va, vb, S41) ⟨by simp, hle.trans le41, minv3 (Recs.mono g1 le41) (Nats.mono g2 le41) (Nats.mono g3 le41) g4⟩ (by simp only; omega)))))))))))))))))
 · -- case c3
   refine sr ?_
   obtain ⟨rv, pv, rfl, g1, g2, g3, g4⟩ := hinv
   refine yy (y_lt rfl rfl) (nes (c_true rfl (c_skip (e_then (c_seq (c_block (sr (yy (y_iaN (i := 3) sl_126 rfl rfl (by decide)) ?_))))))))
   refine ll (ld_st (by kernel_rfl : ldK Tryz.prog 119 = some none) rfl (hle.cell (hfk 3 _ rfl))) ?_
   refine sa rfl (nesr (mv rfl (lw (t_callv (vs := []) (v1 := []) (v2 := [.pointer (some ⟨b2, 0, none⟩), .pointer (some ⟨b3, 0, none⟩), .pointer (some ⟨b8, 0, none⟩), .pointer (some ⟨b9, 0, none⟩), .pointer (some ⟨b7, 0, none⟩)]) rfl en_55 rfl (I := [.blk b7 (.cells [.string (ky s.lo), .string (kh t.hi), u64 (max s.epoch t.epoch + 1), .int .u64 0, rv, pv, .slice none 0 0].toArray 30 (0, 0)), .blk b8 (.cells [va].toArray 91 (0, 0)), .blk b9 (.cells [vb].toArray 91 (0, 0))]) (List.Perm.refl _) (cl55_ok (hle.cell (kA4 6 _ rfl)) (hle.cell (kB4 6 _ rfl)) (hcv.mono (leS.trans hle)) (hcv'.mono (leS.trans hle)) g2 g3 ho.cns ho'.cns hc1 hc2 (by simp) (by simp)) (lt_n rfl) ?_))))
   rintro v41 I41 S41 le41 ⟨cv, rfl, rfl, g5⟩
   exact lw (t_callr' rfl (failed_0) en_57 (sa rfl (nesr (mv rfl (yy (y_innil0 if_86 rfl) (ne (c_false rfl (c_skip (e_in (e_then (c_region (yy (y_addN (m := 1) rfl rfl om) (mv rfl (ne (t_to (hr0 (4, [.string (ky s.lo), .string (kh t.hi), u64 (max s.epoch t.epoch + 1), .int .u64 0, rv, pv, cv], va, vb, S41) ⟨by simp, hle.trans le41, minv4 (Recs.mono g1 le41) (Prds.mono g4 le41) g5⟩ (by simp only; omega)))))))))))))))))
 · -- case c4
   refine sr ?_
   obtain ⟨rv, pv, cv, rfl, g1, g4, g5⟩ := hinv
   refine yy (y_lt rfl rfl) (nes (c_false rfl (c_exit ?_)))
   refine e_then_exit (e_then_exit (e_in_same (e_then (c_seq (sr ?_)))))
   have hM : PartR S4 (.agg ([.string (ky s.lo), .string (kh t.hi), u64 (max s.epoch t.epoch + 1), .int .u64 0, rv, pv, cv] : List Value).toArray) (mergeS s t out ta tb) := ⟨rv, pv, cv, rfl, g1, g4, g5⟩
   obtain ⟨E1, f1, rfl, -⟩ := g1.shape
   obtain ⟨E2, f2, rfl, -⟩ := g4.shape
   obtain ⟨E3, f3, rfl, -⟩ := g5.shape
   refine ll (lbw ld_30) ?_
   refine lw (t_callr' rfl ((check_ok hM hok).back) en_36 (yy (y_ne rfl rfl) (ne (c_false rfl (c_skip (e_then (sr (ll (lbw ld_30) ?_))))))))
   refine lw (sw sz_30 (sa rfl (l_nil ?_)))
   exact e_then (c_ret (f_retR rfl (ResV.agg ld_30 rfl pk rfl (rt rfl)) ⟨_, rfl, hM⟩))
theorem Merge_err {S : Stone} {v w : Value} {e : Nat} (he : e ∈ errs) (h : Con Tryz.prog 34 #[v, w] [] S (RetR fun u _ => u = .tuple #[zeroPart, errno e])) (hv : ∃ s, PartR S v s) (hw : ∃ s, PartR S w s) : Con Tryz.prog 21 #[v, w] [] S (RetR fun u _ => u = .tuple #[zeroPart, i64 e]) := by
 obtain ⟨s, hs⟩ := hv
 obtain ⟨t, ht⟩ := hw
 obtain ⟨A, a, B, b, D, d, rfl, -⟩ := hs.ex
 obtain ⟨A', a', B', b', D', d', rfl, -⟩ := ht.ex
 refine con_of 20 Tryz.func21 rfl rfl rfl (fun w0 => ?_)
 refine sr (bx rfl rfl (fun b2 => bx rfl rfl (fun b3 => al zc_30 (fun b4 => sa rfl (nesr (ll (lbw ld_30) ?_))))))
 refine ll (lbw ld_30) ?_
 refine lw (t_callR rfl (h) en_34 ?_)
 rintro v11 S11 le11 rfl
 refine mv rfl (yy (y_ext rfl rfl) (yy (y_ext rfl rfl) (al zc_30 (fun b6 => lw (sw sz_30 (sa rfl (nes (sr (mv rfl ?_)))))))))
 refine yy (y_innil if_86 rfl) (ne (c_true rfl (sr (yy (y_build pl_30 zc_30 rfl rfl) (mv rfl ?_)))))
 refine lw (t_callr' rfl ((number_of he).back) en_27 (lw (sw sz_30 (sa rfl (l_nil ?_)))))
 exact e_then (c_ret (e_then_ret (f_retR rfl (ResV.agg ld_30 rfl pk rfl (rt rfl)) rfl)))
theorem Merge_yes {S : Stone} {v w : Value} {m : Sh} (h : Con Tryz.prog 34 #[v, w] [] S (RetR fun u S' => ∃ v', u = .tuple #[v', .nilIface] ∧ PartR S' v' m)) (hv : ∃ s, PartR S v s) (hw : ∃ s, PartR S w s) : Con Tryz.prog 21 #[v, w] [] S (RetR fun u S' => ∃ v', u = .tuple #[v', .int .i64 0] ∧ PartR S' v' m) := by
 obtain ⟨s, hs⟩ := hv
 obtain ⟨t, ht⟩ := hw
 obtain ⟨A, a, B, b, D, d, rfl, -⟩ := hs.ex
 obtain ⟨A', a', B', b', D', d', rfl, -⟩ := ht.ex
 refine con_of 20 Tryz.func21 rfl rfl rfl (fun w0 => ?_)
 refine sr (bx rfl rfl (fun b2 => bx rfl rfl (fun b3 => al zc_30 (fun b4 => sa rfl (nesr (ll (lbw ld_30) ?_))))))
 refine ll (lbw ld_30) ?_
 refine lw (t_callR rfl (h) en_34 ?_)
 rintro v11 S11 le11 ⟨v11', rfl, h11⟩
 obtain ⟨A1, a1, B1, b1, D1, d1, rfl, -⟩ := h11.ex
 refine mv rfl (yy (y_ext rfl rfl) (yy (y_ext rfl rfl) (al zc_30 (fun b6 => lw (sw sz_30 (sa rfl (nes (sr ?_))))))))
 refine mv rfl (yy (y_innil0 if_86 rfl) (ne (c_false rfl (c_skip (e_then (sr (ll (lbw ld_30) ?_)))))))
 refine lw (sw sz_30 (sa rfl (l_nil ?_)))
 exact e_then (c_ret (f_retR rfl (ResV.agg ld_30 rfl pk rfl (rt rfl)) ⟨_, rfl, h11⟩))
end Go.Proofs.YtkdmbimkanjbhaaGreatDoor.Eng

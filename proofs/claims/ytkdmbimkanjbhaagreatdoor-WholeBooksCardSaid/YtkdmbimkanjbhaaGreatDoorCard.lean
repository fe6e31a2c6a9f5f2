/-
  WholeBooks, the tied card: for every slice of entries that can be read as data the law returns true, and its argument reads afterwards as it read before. Conditions: none but the given card's own (the three listed package-level variables start as the program's text lays them).
-/
import Derived.Test.YtkdmbimkanjbhaaGreatDoorQ17
import Derived.Test.YtkdmbimkanjbhaaGreatDoorCards
import Derived.Test.YtkdmbimkanjbhaaGreatDoorTie
import Derived.ProofKit
import Derived.OpenShut
import Derived.Deep.DeepHandedRow
import Derived.Deep.Slices
import Derived.ChangeSame
import Derived.LaidHandle
import Derived.Carry
import Derived.SizedLaws
import Derived.Deep.DeepWitnessRowRef
namespace Go.Proofs.YtkdmbimkanjbhaaGreatDoor.Eng
open Go Go.Proofs Go.Proofs.YtkdmbimkanjbhaaGreatDoor Go.ChangeShapes Go.WideShapes Go.ChangeAt Go.RowKit Go.Deep
set_option maxRecDepth 100000
theorem gEt : Tryz.prog.globalNamed "errors.errorType" = some 0 := by kernel_rfl
theorem gRt : (Tryz.prog.cutTypes.find? (·.1 == "internal/reflectlite.rtype")).map (·.2) = some 193 := by kernel_rfl
theorem gSize : Tryz.prog.types.size = 279 := by kernel_rfl
theorem gOne : ((List.range 279).filter fun t => Tryz.prog.rowNamed t [101, 114, 114, 111, 114]) = [86] := by kernel_rfl
theorem gHnd : typeHandle Tryz.prog 86 = .pointer (some ⟨4, 86, none⟩) := by kernel_rfl
/-- What the condition gives: the one cell that errors.As reads. -/
theorem gl_of_laid {W : World} (h : laidMetH Tryz.prog Rows.wholeBooksRow.laid W) : Gl fun b => W.heap[b]? := by
  have h' : laidMet Tryz.prog [("unicode/utf8.acceptRanges", Rows.laid_unicode_utf8_acceptRanges), ("unicode/utf8.first", Rows.laid_unicode_utf8_first)] W ∧ handlesMet Tryz.prog [("errors.errorType", Rows.laid_errors_errorType)] W := h
  obtain ⟨name, u, ty, e1, e2, e3, e4, e5⟩ := h'.2 _ (List.mem_singleton.2 rfl)
  have en : name = [101, 114, 114, 111, 114] := (Option.some.inj e1).symm
  subst en
  obtain rfl := Option.some.inj (gRt.symm.trans e2)
  have hm : ty ∈ (List.range 279).filter fun t => Tryz.prog.rowNamed t [101, 114, 114, 111, 114] := List.mem_filter.2 ⟨List.mem_range.2 (by rw [← gSize]; exact e3), e4⟩
  rw [gOne] at hm
  obtain rfl := List.mem_singleton.1 hm
  rw [gHnd] at e5
  have hc : W.cell? ⟨0, 0, none⟩ = some (rty 86) := by simpa using World.var?_cell gEt e5 0
  unfold Gl Stone.cell
  unfold World.cell? at hc
  exact hc
theorem int_in {n : Int} (h : (Lit.int .i64 n).wf = true) : In64 n := by simpa [Lit.wf, IntKind.min, IntKind.max, IntKind.signed, IntKind.bits, In64] using h
theorem cells46 : Tryz.prog.cellsOf 46 = 5 := by kernel_rfl
theorem cells3 : Tryz.prog.cellsOf 3 = 1 := by kernel_rfl
theorem bytes46 : Tryz.prog.bytesOf 46 = 40 := by kernel_rfl
/-- One entry, as its five cells read. -/
theorem ent_of {H : Type} {enc : TypeId × Value → H} {W : World} {sp : Nat → Bool} {hd : Bool} {fuel : Nat} {cs : List Value} {x : DataW H × List MemPlace} (h : DataW.trod enc Tryz.prog W 0 sp hd fuel 46 cs = some x) :
    ∃ e : Ent, cs = e.cells ∧ e.ok := by
  obtain ⟨ys, n, rfl, -, hl, hy, hf⟩ := DataW.trod_struct Tryz.underlying46 h
  rw [cells46] at hl
  have g : ∀ (i : Nat) (c : Value), i < 5 → DataW.trod enc Tryz.prog W 0 sp hd n 3 [c] = ys[i]? → ∃ m, c = .int .i64 m ∧ In64 m := fun i c hi hc => by
    have hi' : i < ys.length := by rw [hy]; exact hi
    rw [List.getElem?_eq_getElem hi'] at hc
    obtain ⟨m, e1, -, e3⟩ := DataW.trod_int Tryz.underlying3 hc
    exact ⟨m, List.singleton_inj.1 e1, int_in e3⟩
  match cs, hl with
  | [c0, c1, c2, c3, c4], _ =>
    have f0 := hf 0 ⟨ "What", 3, 0, false, "", "", 0⟩ rfl
    have f1 := hf 1 ⟨ "P", 3, 1, false, "", "", 8⟩ rfl
    have f2 := hf 2 ⟨ "K", 3, 2, false, "", "", 16⟩ rfl
    have f3 := hf 3 ⟨ "N", 3, 3, false, "", "", 24⟩ rfl
    have f4 := hf 4 ⟨ "M", 3, 4, false, "", "", 32⟩ rfl
    simp only [cells3] at f0 f1 f2 f3 f4
    obtain ⟨m0, rfl, k0⟩ := g 0 c0 (by omega) f0
    obtain ⟨m1, rfl, k1⟩ := g 1 c1 (by omega) f1
    obtain ⟨m2, rfl, k2⟩ := g 2 c2 (by omega) f2
    obtain ⟨m3, rfl, k3⟩ := g 3 c3 (by omega) f3
    obtain ⟨m4, rfl, k4⟩ := g 4 c4 (by omega) f4
    exact ⟨⟨m0, m1, m2, m3, m4⟩, rfl, ⟨k0, k1, k2, k3, k4⟩⟩
/-- The argument: a slice of entries in the stone that is the whole heap. -/
theorem arg_of {H : Type} {enc : TypeId × Value → H} {W : World} {base : Nat} {v : Value} {d : DataW H} {p : List MemPlace} (hv : Value.okWide Tryz.prog W .any base 22 v) (h : DataW.Trod enc Tryz.prog W 0 (fun _ => true) true 22 v d p) :
    ∃ A n cap es, v = .slice A n cap ∧ Sl (fun b => W.heap[b]?) 5 entC (.slice A n cap) es ∧ n = es.length ∧ (∀ e ∈ es, e.ok) ∧ (n = 0 ∨ ∃ el sp, d = .slice el sp ∧ n ≤ el.length) := by
  obtain ⟨A, len, cap, rfl⟩ := okWide_slice Tryz.underlying22 hv
  obtain ⟨fuel, h⟩ := h
  rcases open_slice Tryz.underlying22 h with ⟨e1, -⟩ | ⟨a, len', cap', m, n, D, Pl, e1, -, hl, hm, hmm, hx, hi⟩
  · have e2 : Value.slice A len cap = .slice none 0 0 := List.singleton_inj.1 e1
    cases e2
    exact ⟨none, 0, 0, [], rfl, Sl.nil, rfl, fun e he => (by cases he), .inl rfl⟩
  · have e2 : Value.slice A len cap = .slice (some a) len' cap' := List.singleton_inj.1 e1
    cases e2
    simp only [if_true] at hmm
    subst hmm
    rw [cells46] at hi
    have hex : ∀ i : Nat, ∃ e : Ent, i < len → e.ok ∧ ∀ (j : Nat) u, e.cells[j]? = some u → W.cell? ((a.add (i * 5)).add j) = some u := fun i => by
      by_cases hlt : i < len
      · obtain ⟨cs, hc, ht⟩ := hi i (by omega)
        obtain ⟨e, rfl, he⟩ := ent_of ht
        obtain ⟨-, hcl, hat⟩ := World.cells?_some hc
        refine ⟨e, fun _ => ⟨he, fun j u hj => ?_⟩⟩
        have hj5 : j < 5 := (List.getElem?_eq_some_iff.1 hj).1
        rw [hat j hj5, hj]
      · exact ⟨⟨0, 0, 0, 0, 0⟩, fun h => absurd h hlt⟩
    let E : Nat → Ent := fun i => Classical.choose (hex i)
    have hE : ∀ i, i < len → (E i).ok ∧ ∀ (j : Nat) u, (E i).cells[j]? = some u → W.cell? ((a.add (i * 5)).add j) = some u := fun i => Classical.choose_spec (hex i)
    have hlen : ((List.range len).map E).length = len := by simp
    refine ⟨some a, len, _, (List.range len).map E, rfl, ⟨some a, _, by rw [hlen], by rw [hlen]; exact hl, hm, fun i e he => ?_⟩, hlen.symm, fun e he => ?_, .inr ⟨_, _, congrArg Prod.fst hx, by simp⟩⟩
    · have hil : i < len := by have := (List.getElem?_eq_some_iff.1 he).1; rw [hlen] at this; exact this
      have e1 : E i = e := by simpa [List.getElem?_range hil] using he
      subst e1
      exact ⟨a, (E i).cells, rfl, rfl, rfl, (hE i hil).2⟩
    · obtain ⟨i, hi', rfl⟩ := List.mem_map.1 he
      exact (hE i (List.mem_range.1 hi')).1
theorem laidOut : laidOutB Tryz.prog = true := by kernel_rfl
theorem own : ownKnob Tryz.prog.godebug = none := by kernel_rfl
theorem weigh {H : Type} {ts : List TypeId} {ds : List (DataW H)} {el sp : List (DataW H)} (hz : (DataW.weightsEach Tryz.prog (22 :: ts) (.slice el sp :: ds)).all (· ≤ reachBytes) = true) : el.length * 40 ≤ 140737488351232 := by
  have h := sized_slice hz (j := 0) rfl rfl Tryz.underlying22
  rw [bytes46] at h
  have e : reachBytes = 140737488351232 := rfl
  have := Nat.le_add_right el.length sp.length
  omega
theorem contract (H : Type) (enc : TypeId × Value → H) (W : World) (base : Nat) (args : Array Value) (ds gs : List (DataW H)) (before : List MemPlace)
    (hval : ∀ (j : Nat) t v, Tryz.f3.params[j]? = some t → args[j]? = some v → Value.okWide Tryz.prog W .any base t v)
    (hW : DataW.Whole enc Tryz.prog Tryz.f3.params.toList Rows.wholeBooksSpec.vars false W args.toList ds gs before)
    (hz : (DataW.weightsEach Tryz.prog (Tryz.f3.params.toList ++ (OpenSpec.ofChange Rows.wholeBooksSpec).bare.plain.varTypes Tryz.prog) (ds ++ gs)).all (· ≤ reachBytes) = true)
    (hL : laidMetH Tryz.prog Rows.wholeBooksRow.laid W) :
    Calls Tryz.prog 3 args W fun e W' => ∃ v, e = .returned v ∧ Rows.wholeBooksSpec.post enc Tryz.prog Tryz.f3 false true false false W args v W' := by
  have hW' := hW
  obtain ⟨p, q, hA0, hV, rfl, hfz, hnd⟩ := hW
  have hA : DataW.TrodAll enc Tryz.prog W 0 (fun _ => true) true Tryz.f3.params.toList args.toList ds p := hA0
  rw [Tryz.params3] at hA hval hz
  obtain ⟨v0, d0, rfl, rfl, h0⟩ := trodAll_one hA
  obtain ⟨rfl, rfl⟩ := trodVars_none hV
  obtain ⟨A, n, cap, es, rfl, hS, hn, hok, hd⟩ := arg_of (hval 0 22 v0 rfl rfl) h0
  have hsz : n * 40 ≤ 140737488351232 := by
    rcases hd with rfl | ⟨el, sp, rfl, hle⟩
    · omega
    · have := weigh hz
      omega
  have hlt : ∀ x ∈ p, x.block < W.heap.size := fun x hx => by simpa using hW'.lt x (by simpa using hx)
  simp only [List.append_nil] at hW'
  have hOk : Ok [] (fun b => W.heap[b]?) W := ⟨fun _ h => (by cases h), List.nodup_nil, fun _ _ h => h, fun _ h => (by cases h)⟩
  refine (books_ok (gl_of_laid hL) hS hn hok hsz W hOk).mono fun e W' ⟨v, I', S', he, m, hv, _⟩ => ?_
  subst he hv
  have hb : Below W.heap.size W W' := ⟨m.step.os, m.step.tape, m.step.output, m.step.size, fun k hk => m.step.block k hk (by simp)⟩
  refine ⟨_, rfl, _, _, _, [], p, [], hW', trodAll_mk1 (shut_bool Tryz.underlying4 _), trodAll_mk1 (Below.trod laidOut (by kernel_rfl) (of_decide_eq_true (by kernel_rfl)) h0 hb hlt), rfl, hb.frame _, fun h => by cases h⟩
end Go.Proofs.YtkdmbimkanjbhaaGreatDoor.Eng
namespace Go.Proofs.YtkdmbimkanjbhaaGreatDoor.Eng
open Go Go.Proofs Go.Proofs.YtkdmbimkanjbhaaGreatDoor Go.ChangeShapes Go.WideShapes Go.ChangeAt Go.RowKit Go.Deep
set_option maxRecDepth 100000
def litV : DataW Unit → Value
  | .lit (.int k n) => .int k n
  | _ => .nilIface
def flatV : DataW Unit → List Value
  | .agg l => l.map litV
  | _ => []
def flatP : DataW Unit → List Value
  | .agg l => l.flatMap flatV
  | _ => []
/-- A world for the witness: the settled one, the three listed variables laid. -/
noncomputable def laidWorld (os : Os) : World :=
  let w0 := World.holding Tryz.prog os ⟨#[], #[], []⟩
  { w0 with heap := ((w0.heap.modify 0 fun
      | .cells _ t frozen => .cells #[rty 86] t frozen
      | o => o).modify 1 fun
      | .cells _ t frozen => .cells (flatV Pinned.utf8First).toArray t frozen
      | o => o).modify 2 fun
      | .cells _ t frozen => .cells (flatP Rows.laid_unicode_utf8_acceptRanges).toArray t frozen
      | o => o }
noncomputable abbrev laidW (os : Os) : World := (laidWorld os).forCall (fun _ _ => 0) ⟨#[], #[.slice none 0 0], []⟩
theorem met1 (os : Os) : laidMet Tryz.prog [("unicode/utf8.acceptRanges", Rows.laid_unicode_utf8_acceptRanges), ("unicode/utf8.first", Rows.laid_unicode_utf8_first)] (laidW os).memory :=
  laidMet_of_run' 8 (by kernel_rfl) (by kernel_rfl)
theorem met2 (os : Os) : handleAtB Tryz.prog (laidW os).memory ("errors.errorType", Rows.laid_errors_errorType) = true := by kernel_rfl
theorem met (os : Os) : laidMetH Tryz.prog Rows.wholeBooksRow.laid (laidW os).memory :=
  laidMetH_of_parts (met1 os) (by show ([("errors.errorType", Rows.laid_errors_errorType)].all (handleAtB Tryz.prog (laidW os).memory)) = true; simp only [List.all_cons, List.all_nil, Bool.and_true]; exact met2 os)
end Go.Proofs.YtkdmbimkanjbhaaGreatDoor.Eng
namespace Go.Proofs.YtkdmbimkanjbhaaGreatDoor
open Go Eng Go.ChangeShapes Go.WideShapes Go.ChangeAt Go.RowKit
set_option maxRecDepth 100000
theorem reads (os : Os) {H : Type} (enc : TypeId × Value → H) : ∃ places, DataW.whole enc Tryz.prog (laidW os).memory Tryz.f3.params.toList Rows.wholeBooksSpec.vars false #[Value.slice none 0 0].toList 8 = some ([.nil], [], places) :=
  ⟨[], by kernel_rfl⟩
theorem lifted (os : Os) (started : os.Started) (H : Type) (enc : TypeId × Value → H) (F : Stop.Interp) :
    ReturnsInHanded {} Tryz.checked os 3 .any ((OpenSpec.ofChange Rows.wholeBooksSpec).preRow enc Tryz.prog Tryz.f3 Rows.wholeBooksRow.domain false Rows.wholeBooksRow.laid) (((OpenSpec.ofChange Rows.wholeBooksSpec).at F).post enc Tryz.prog Tryz.f3 false true false false) := by
  obtain ⟨places, hx⟩ := reads os enc
  refine returnsInHanded_of_row (C := Tryz.checked) (s := OpenSpec.ofChange Rows.wholeBooksSpec) own started (by kernel_rfl) Tryz.func3
    (witness_row_at (enc := enc) (C := Tryz.checked) false (laidWorld os) #[.slice none 0 0] rfl (by kernel_rfl) (by kernel_rfl) (by kernel_rfl)
      (OpenSpec.preRow_of_cond 8 hx (by kernel_rfl) (fun k hk => by cases hk) (by kernel_rfl) (met os))) ?_
  intro W base args ds gs before hval hW _ _ hz hL _ _
  exact contract H enc W base args ds gs before hval hW hz hL
theorem said : Rows.WholeBooksSaid :=
  OpenClaim.holds_of_cond 3 Tryz.f3 rfl rfl rfl rfl rfl rfl rfl ⟨rfl, rfl, rfl, rfl, rfl⟩ rfl rfl rfl rfl rfl (by kernel_rfl) Tryz.func3 (by kernel_rfl)
    (of_decide_eq_true (by kernel_rfl)) (by unfold Func.isWrapper; first | (rw [if_pos (by decide +kernel)]; kernel_rfl) | (rw [if_neg (by decide +kernel)]; exact ⟨rfl, rfl⟩))
    (fun os started H enc _ F => by rw [OpenClaim.pre_eq_preRow]; exact lifted os started H enc F)
theorem plain (f : FuncId) (fn : Func) (hf : Tryz.pinned.checked.prog.funcNamed "gazette/gazettetop.WholeBooks" = some f) (hfn : Tryz.pinned.checked.prog.funcs[f]? = some fn) :
    true = Tryz.pinned.checked.prog.looks [] ∧ ∀ (j : Nat) t, fn.params[j]? = some t → Tryz.pinned.checked.prog.wantsStandIn t = false := by
  obtain rfl : f = 3 := Option.some.inj ((show Tryz.prog.funcNamed "gazette/gazettetop.WholeBooks" = some 3 by kernel_rfl).symm.trans hf) |>.symm
  obtain rfl : fn = Tryz.f3 := (Option.some.inj (Tryz.func3.symm.trans hfn)).symm
  refine ⟨by kernel_rfl, fun j t ht => ?_⟩
  rw [Tryz.params3] at ht
  obtain rfl : t = 22 := by simpa using Array.mem_of_getElem? ht
  exact (show Tryz.prog.wantsStandIn 22 = false by kernel_rfl)
theorem card : Rows.WholeBooksCardSaid :=
  Claim7.holds_tied_plain_at .later [] _ _ _ _ said (fun _ h => by cases h) (by kernel_rfl) (fun _ h => by cases h) wholeBooks_row_tie rfl ⟨rfl, rfl⟩ (by kernel_rfl) rfl plain (by kernel_rfl)
end Go.Proofs.YtkdmbimkanjbhaaGreatDoor

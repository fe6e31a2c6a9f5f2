/-
  Part 2 of the proof of WholeBooks: Dat, Eng9, Eng10, Eng11, Eng12, Eng13, Eng14, Eng15, Eng16.
-/
import Derived.Test.YtkdmbimkanjbhaaGreatDoorQ1
import Derived.Lib.AppendZerosOnto
import Derived.Laws.CopyRow
import Derived.Lib.Overlaps
import Derived.MapFrom
import Derived.Carry
import Derived.Laws.IdiomStrings
namespace Go.Proofs.YtkdmbimkanjbhaaGreatDoor.Eng
open Go
/-! ### keys and names -/
def ky (k : Nat) : ByteArray := if k = 0 then ⟨#[]⟩ else ⟨#[UInt8.ofNat (96 + k)]⟩
def kh (k : Nat) : ByteArray := if k = 6 then ⟨#[]⟩ else ky k
def nm (k : Nat) : ByteArray := ⟨#[UInt8.ofNat (99 + k)]⟩
theorem ky_list (k : Nat) : (ky k).toList = if k = 0 then [] else [UInt8.ofNat (96 + k)] := by
  rw [ByteArray.toList_eq]; unfold ky; split <;> rfl
theorem kh_lt {k : Nat} (h : k < 6) : kh k = ky k := by unfold kh; rw [if_neg (by omega)]
theorem kh_six : kh 6 = ky 0 := rfl
theorem nm_list (k : Nat) : (nm k).toList = [UInt8.ofNat (99 + k)] := by rw [ByteArray.toList_eq]; rfl
theorem ky_less {i j : Nat} (hi : i < 6) (hj : j < 6) : Op.bytesLess (ky i).toList (ky j).toList = decide (i < j) := by
  rw [ky_list, ky_list]
  have : ∀ i, i < 6 → ∀ j, j < 6 → Op.bytesLess (if i = 0 then [] else [UInt8.ofNat (96 + i)]) (if j = 0 then [] else [UInt8.ofNat (96 + j)]) = decide (i < j) := by decide
  exact this i hi j hj
theorem ky_eq {i j : Nat} (hi : i < 6) (hj : j < 6) : ((ky i).toList == (ky j).toList) = decide (i = j) := by
  rw [ky_list, ky_list]
  have : ∀ i, i < 6 → ∀ j, j < 6 → ((if i = 0 then [] else [UInt8.ofNat (96 + i)]) == (if j = 0 then [] else [UInt8.ofNat (96 + j)]) : Bool) = decide (i = j) := by decide
  exact this i hi j hj
theorem nm_less {i j : Nat} (hi : i < 2) (hj : j < 2) : Op.bytesLess (nm i).toList (nm j).toList = decide (i < j) := by
  rw [nm_list, nm_list]
  have : ∀ i, i < 2 → ∀ j, j < 2 → Op.bytesLess [UInt8.ofNat (99 + i)] [UInt8.ofNat (99 + j)] = decide (i < j) := by decide
  exact this i hi j hj
theorem nm_eq {i j : Nat} (hi : i < 2) (hj : j < 2) : ((nm i).toList == (nm j).toList) = decide (i = j) := by
  rw [nm_list, nm_list]
  have : ∀ i, i < 2 → ∀ j, j < 2 → ([UInt8.ofNat (99 + i)] == [UInt8.ofNat (99 + j)] : Bool) = decide (i = j) := by decide
  exact this i hi j hj
theorem empty_list : (⟨#[]⟩ : ByteArray).toList = [] := by rw [ByteArray.toList_eq]
theorem ky_size (k : Nat) : (ky k).size = if k = 0 then 0 else 1 := by unfold ky; split <;> rfl
theorem ky_size_le (k : Nat) : (ky k).size ≤ 1 := by rw [ky_size]; split <;> omega
theorem kh_size_le (k : Nat) : (kh k).size ≤ 1 := by unfold kh; split; exact Nat.zero_le _; exact ky_size_le k
theorem nm_size (k : Nat) : (nm k).size = 1 := rfl
/-- The upper end is none, or it is above. -/
theorem kh_empty {h : Nat} (h1 : 1 ≤ h) (h6 : h ≤ 6) : ((kh h).toList == (⟨#[]⟩ : ByteArray).toList) = decide (h = 6) := by
  by_cases e : h = 6
  · subst e; simp [kh]
  · rw [kh_lt (by omega), show (⟨#[]⟩ : ByteArray) = ky 0 from rfl, ky_eq (by omega) (by omega)]
    simp [e]; omega
/-! ### the structs -/
structure Rec where
  off : Nat
  key : Nat
  val : Nat
  prod : Nat
  seq : Nat
  deriving DecidableEq
structure Prd where
  id : Nat
  seq : Nat
  here : Bool
  off : Nat
  deriving DecidableEq
structure Cns where
  name : Nat
  off : Nat
  deriving DecidableEq
abbrev u64 (n : Nat) : Value := .int .u64 (n : Int)
abbrev i64 (n : Nat) : Value := .int .i64 (n : Int)
/-- One byte. -/
def Byt (S : Stone) (v : Value) (b : Nat) : Prop := ∃ p cap, v = .slice (some p) 1 cap ∧ 1 ≤ cap ∧ cap ≤ maxLen ∧ S.cell p = some (.int .u8 (b : Int))
theorem Byt.mono {S S' : Stone} {v : Value} {b : Nat} (h : Byt S v b) (hle : Stone.le S S') : Byt S' v b := let ⟨p, cap, e, h1, h2, h3⟩ := h; ⟨p, cap, e, h1, h2, hle.cell h3⟩
theorem Byt.one {S : Stone} {v : Value} {b : Nat} (h : Byt S v b) : v.oneCell' = true := by obtain ⟨_, _, rfl, _⟩ := h; rfl
theorem Sl.one {α : Type} {S : Stone} {size : Nat} {C : Stone → List Value → α → Prop} {v : Value} {l : List α} (h : Sl S size C v l) : v.oneCell' = true := by obtain ⟨_, _, rfl, _⟩ := h; rfl
def Rec.cells (r : Rec) (bv : Value) : List Value := [u64 r.off, .string (ky r.key), bv, u64 r.prod, u64 r.seq]
def recC (S : Stone) (cs : List Value) (r : Rec) : Prop := ∃ bv, cs = r.cells bv ∧ Byt S bv r.val
def Prd.cells (x : Prd) : List Value := [u64 x.id, u64 x.seq, .bool x.here, u64 x.off]
def prdC (_ : Stone) (cs : List Value) (x : Prd) : Prop := cs = x.cells
def Cns.cells (x : Cns) : List Value := [.string (nm x.name), u64 x.off]
def cnsC (_ : Stone) (cs : List Value) (x : Cns) : Prop := cs = x.cells
def natC (_ : Stone) (cs : List Value) (n : Nat) : Prop := cs = [u64 n]
abbrev Recs (S : Stone) (v : Value) (l : List Rec) : Prop := Sl S 5 recC v l
abbrev Prds (S : Stone) (v : Value) (l : List Prd) : Prop := Sl S 4 prdC v l
abbrev Cnss (S : Stone) (v : Value) (l : List Cns) : Prop := Sl S 2 cnsC v l
abbrev Nats (S : Stone) (v : Value) (l : List Nat) : Prop := Sl S 1 natC v l
theorem Recs.mono {S S' : Stone} {v : Value} {l : List Rec} (h : Recs S v l) (hle : Stone.le S S') : Recs S' v l := Sl.mono h hle fun _ _ ⟨bv, e, hb⟩ => ⟨bv, e, hb.mono hle⟩
theorem Prds.mono {S S' : Stone} {v : Value} {l : List Prd} (h : Prds S v l) (hle : Stone.le S S') : Prds S' v l := Sl.mono h hle fun _ _ e => e
theorem Cnss.mono {S S' : Stone} {v : Value} {l : List Cns} (h : Cnss S v l) (hle : Stone.le S S') : Cnss S' v l := Sl.mono h hle fun _ _ e => e
theorem Nats.mono {S S' : Stone} {v : Value} {l : List Nat} (h : Nats S v l) (hle : Stone.le S S') : Nats S' v l := Sl.mono h hle fun _ _ e => e
/-- What there is at a place. -/
theorem Recs.at {S : Stone} {A : Option Addr} {n cap : Nat} {l : List Rec} {i : Nat} {r : Rec} (h : Recs S (.slice A n cap) l) (hi : l[i]? = some r) :
    ∃ p bv, A = some p ∧ Byt S bv r.val ∧ S.cell ((p.add (i * 5)).add 0) = some (u64 r.off) ∧ S.cell ((p.add (i * 5)).add 1) = some (.string (ky r.key)) ∧ S.cell ((p.add (i * 5)).add 2) = some bv ∧ S.cell ((p.add (i * 5)).add 3) = some (u64 r.prod) ∧ S.cell ((p.add (i * 5)).add 4) = some (u64 r.seq) ∧
      ∀ (j : Nat) u, (r.cells bv)[j]? = some u → S.cell ((p.add (i * 5)).add j) = some u := by
  obtain ⟨A', cap', e, _, _, h3⟩ := h
  injection e with e1 e2 e3
  obtain ⟨p, cs, hp, ⟨bv, rfl, hb⟩, _, h4⟩ := h3 i r hi
  exact ⟨p, bv, by rw [e1, hp], hb, h4 0 _ rfl, h4 1 _ rfl, h4 2 _ rfl, h4 3 _ rfl, h4 4 _ rfl, h4⟩
theorem Prds.at {S : Stone} {A : Option Addr} {n cap : Nat} {l : List Prd} {i : Nat} {r : Prd} (h : Prds S (.slice A n cap) l) (hi : l[i]? = some r) :
    ∃ p, A = some p ∧ S.cell ((p.add (i * 4)).add 0) = some (u64 r.id) ∧ S.cell ((p.add (i * 4)).add 1) = some (u64 r.seq) ∧ S.cell ((p.add (i * 4)).add 2) = some (.bool r.here) ∧ S.cell ((p.add (i * 4)).add 3) = some (u64 r.off) ∧
      ∀ (j : Nat) u, r.cells[j]? = some u → S.cell ((p.add (i * 4)).add j) = some u := by
  obtain ⟨A', cap', e, _, _, h3⟩ := h
  injection e with e1 e2 e3
  obtain ⟨p, cs, hp, rfl, _, h4⟩ := h3 i r hi
  exact ⟨p, by rw [e1, hp], h4 0 _ rfl, h4 1 _ rfl, h4 2 _ rfl, h4 3 _ rfl, h4⟩
theorem Cnss.at {S : Stone} {A : Option Addr} {n cap : Nat} {l : List Cns} {i : Nat} {r : Cns} (h : Cnss S (.slice A n cap) l) (hi : l[i]? = some r) :
    ∃ p, A = some p ∧ S.cell ((p.add (i * 2)).add 0) = some (.string (nm r.name)) ∧ S.cell ((p.add (i * 2)).add 1) = some (u64 r.off) ∧
      ∀ (j : Nat) u, r.cells[j]? = some u → S.cell ((p.add (i * 2)).add j) = some u := by
  obtain ⟨A', cap', e, _, _, h3⟩ := h
  injection e with e1 e2 e3
  obtain ⟨p, cs, hp, rfl, _, h4⟩ := h3 i r hi
  exact ⟨p, by rw [e1, hp], h4 0 _ rfl, h4 1 _ rfl, h4⟩
theorem Nats.at {S : Stone} {A : Option Addr} {n cap : Nat} {l : List Nat} {i : Nat} {r : Nat} (h : Nats S (.slice A n cap) l) (hi : l[i]? = some r) :
    ∃ p, A = some p ∧ S.cell ((p.add (i * 1)).add 0) = some (u64 r) ∧ S.cell (p.add (i * 1)) = some (u64 r) := by
  obtain ⟨A', cap', e, _, _, h3⟩ := h
  injection e with e1 e2 e3
  obtain ⟨p, cs, hp, rfl, _, h4⟩ := h3 i r hi
  have := h4 0 _ rfl
  exact ⟨p, by rw [e1, hp], this, by simpa [Addr.add] using this⟩
end Go.Proofs.YtkdmbimkanjbhaaGreatDoor.Eng
namespace Go.Proofs.YtkdmbimkanjbhaaGreatDoor.Eng
open Go
section
variable {P : Program} {E : Env} {d : Option Tmp} {ty : TypeId} {pos : String} {aft : Array Edge} {g : Option (Nat × Bool)}
theorem run_equalIn_slnil {t e : TypeId} {size : Nat} {w : World} (m : Nat) {A : Option Addr} {n k : Nat} (hk : slK P t = some (e, size)) : (Op.equalIn (m + 1) t (.slice A n k) (.slice none 0 0)).run P w = .ok A.isNone w := by
  obtain ⟨i, hu, _, _⟩ := slK_spec hk
  cases A <;> simp [Op.equalIn, run_und hu]
theorem y_slnil {t u e : TypeId} {size : Nat} {x : Operand} {A : Option Addr} {n k : Nat} (hk : slK P t = some (e, size)) (hx : E.op x = some (.slice A n k)) : Yld P E ⟨d, .binOp .eql t x (.const (.slice none 0 0)) u, ty, pos, aft, g⟩ (.bool A.isNone) := fun _n _a _w ha =>
  run_bin (ha.eval hx) rfl rfl (run_eql_of rfl fun m => run_equalIn_slnil m hk)
theorem y_slnnil {t u e : TypeId} {size : Nat} {x : Operand} {A : Option Addr} {n k : Nat} (hk : slK P t = some (e, size)) (hx : E.op x = some (.slice A n k)) : Yld P E ⟨d, .binOp .neq t x (.const (.slice none 0 0)) u, ty, pos, aft, g⟩ (.bool (!A.isNone)) := fun _n _a _w ha =>
  run_bin (ha.eval hx) rfl rfl (run_neq_of rfl fun m => run_equalIn_slnil m hk)
theorem y_min3 {t : TypeId} {ts : Array TypeId} {x y z : Operand} {k k' k'' : IntKind} {p q r : Int} (hx : E.op x = some (.int k p)) (hy : E.op y = some (.int k' q)) (hz : E.op z = some (.int k'' r)) : Yld P E ⟨d, .call ⟨.builtin .min, #[x, y, z], ts⟩, t, pos, aft, g⟩ (.int k (min (min p q) r)) := fun n a w ha => by
  have hm : ∀ a b : Int, (if b < a then b else a) = min a b := by intro a b; simp only [Int.min_def]; split <;> split <;> omega
  simp [execOp, resolve, invoke, builtin, ha.eval hx, ha.eval hy, ha.eval hz, Builtin.min_, Builtin.min2, hm]
end
theorem pw_get {α : Type} {R : α → α → Prop} {l : List α} (h : l.Pairwise R) {i j : Nat} {a b : α} (ha : l[i]? = some a) (hb : l[j]? = some b) (hij : i < j) : R a b := by
  obtain ⟨hi, rfl⟩ := List.getElem?_eq_some_iff.1 ha
  obtain ⟨hj, rfl⟩ := List.getElem?_eq_some_iff.1 hb
  exact List.pairwise_iff_getElem.1 h i j hi hj hij
/-! ### the cells of a list -/
def Flat {α : Type} (S : Stone) (size : Nat) (C : Stone → List Value → α → Prop) (xs : List Value) (l : List α) : Prop :=
  xs.length = l.length * size ∧ ∀ (i : Nat) a, l[i]? = some a → ∃ cs, C S cs a ∧ cs.length = size ∧ ∀ (j : Nat) u, cs[j]? = some u → xs[i * size + j]? = some u
section
variable {α : Type} {S S' : Stone} {size : Nat} {C : Stone → List Value → α → Prop} {xs ys cs : List Value} {l l' : List α} {a : α}
theorem Flat.nil : Flat S size C [] ([] : List α) := ⟨by simp, fun _ _ h => by simp at h⟩
theorem Flat.app (h : Flat S size C xs l) (h' : Flat S size C ys l') : Flat S size C (xs ++ ys) (l ++ l') := by
  refine ⟨by simp [h.1, h'.1, Nat.add_mul], fun i a ha => ?_⟩
  by_cases hi : i < l.length
  · rw [List.getElem?_append_left hi] at ha
    obtain ⟨cs, h1, h2, h3⟩ := h.2 i a ha
    refine ⟨cs, h1, h2, fun j u hj => ?_⟩
    have := h3 j u hj
    rw [List.getElem?_append_left (List.getElem?_eq_some_iff.1 this).1]
    exact this
  · rw [List.getElem?_append_right (by omega)] at ha
    obtain ⟨cs, h1, h2, h3⟩ := h'.2 _ a ha
    refine ⟨cs, h1, h2, fun j u hj => ?_⟩
    have := h3 j u hj
    have hle : l.length * size ≤ i * size := Nat.mul_le_mul_right _ (by omega)
    rw [List.getElem?_append_right (by rw [h.1]; omega), h.1]
    rw [← this]
    congr 1
    rw [Nat.sub_mul]; omega
theorem Flat.one (hC : C S cs a) (hl : cs.length = size) : Flat S size C cs [a] := by
  refine ⟨by simp [hl], fun i b hb => ?_⟩
  cases i with
  | zero =>
    have : a = b := by simpa using hb
    subst this
    exact ⟨cs, hC, hl, fun j u hj => by simpa using hj⟩
  | succ i => simp at hb
theorem Flat.snoc (h : Flat S size C xs l) (hC : C S cs a) (hl : cs.length = size) : Flat S size C (xs ++ cs) (l ++ [a]) := h.app (Flat.one hC hl)
theorem Flat.mono (h : Flat S size C xs l) (hC : ∀ cs a, C S cs a → C S' cs a) : Flat S' size C xs l := ⟨h.1, fun i a ha => let ⟨cs, h1, h2, h3⟩ := h.2 i a ha; ⟨cs, hC _ _ h1, h2, h3⟩⟩
/-- What is given up reads the same. -/
theorem Flat.sl {v : Value} {e n : Nat} (h : Flat S' size C xs l) (hr : SRow S' v e size n xs) (hn : n = l.length) : Sl S' size C v l := by
  subst hn
  obtain ⟨hl, ⟨rfl, h0⟩ | ⟨g, cap, cur, rfl, hg, hc, hm, hs, ht⟩⟩ := hr
  · have : l = [] := List.length_eq_zero_iff.1 h0
    subst this; exact Sl.nil
  · refine ⟨some ⟨g, 0, none⟩, cap, rfl, hc, hm, fun i a ha => ?_⟩
    obtain ⟨cs, h1, h2, h3⟩ := h.2 i a ha
    refine ⟨_, cs, rfl, h1, h2, fun j u hj => ?_⟩
    have h4 := h3 j u hj
    rw [← ht, List.getElem?_take] at h4
    split at h4
    · rw [Addr.add_add, add_lit, Nat.zero_add]
      unfold Stone.cell
      simp only [hg]
      simpa using h4
    · cases h4
/-- The cells of what never changes. -/
theorem Sl.flat {A : Option Addr} {n m : Nat} (h : Sl S size C (.slice A n m) l) : ∃ xs, Flat S size C xs l ∧ n = l.length ∧ ∀ (j : Nat) u, xs[j]? = some u → ∃ p, A = some p ∧ S.cell (p.add j) = some u := by
  obtain ⟨A', cap, e, h1, h2, h3⟩ := h
  injection e with e1 e2 e3
  subst e1; subst e2; subst e3
  have key : ∀ k, k ≤ l.length → ∃ xs, Flat S size C xs (l.take k) ∧ ∀ (j : Nat) u, xs[j]? = some u → ∃ p, A = some p ∧ S.cell (p.add j) = some u := by
    intro k
    induction k with
    | zero => intro _; exact ⟨[], by simpa using Flat.nil, fun j u hj => by simp at hj⟩
    | succ k ih =>
      intro hk
      obtain ⟨xs, hf, hx⟩ := ih (by omega)
      obtain ⟨p, cs, e1, e2, e3, e4⟩ := h3 k _ (List.getElem?_eq_getElem (by omega))
      refine ⟨xs ++ cs, ?_, fun j u hj => ?_⟩
      · rw [List.take_succ_eq_append_getElem (by omega)]
        exact hf.snoc e2 e3
      · by_cases hj' : j < xs.length
        · rw [List.getElem?_append_left hj'] at hj; exact hx j u hj
        · rw [List.getElem?_append_right (by omega)] at hj
          refine ⟨p, e1, ?_⟩
          have := e4 _ u hj
          rw [Addr.add_add] at this
          have hl : xs.length = k * size := by rw [hf.1, List.length_take]; congr 1; omega
          rw [show j = k * size + (j - xs.length) by omega]
          exact this
  obtain ⟨xs, hf, hx⟩ := key l.length (Nat.le_refl _)
  rw [List.take_length] at hf
  exact ⟨xs, hf, rfl, hx⟩
end
/-- Each element's cells are plain. -/
def PlainC {α : Type} (C : Stone → List Value → α → Prop) : Prop := ∀ S cs a, C S cs a → cs.all Value.oneCell' = true
theorem plain_rec : PlainC recC := fun _ _ _ ⟨_, e, _, _, e', _⟩ => by subst e'; subst e; rfl
theorem plain_prd : PlainC prdC := fun _ _ _ e => by subst e; rfl
theorem plain_cns : PlainC cnsC := fun _ _ _ e => by subst e; rfl
theorem plain_nat : PlainC natC := fun _ _ _ e => by subst e; rfl
theorem Flat.plain {α : Type} {S : Stone} {size : Nat} {C : Stone → List Value → α → Prop} {xs : List Value} {l : List α} (h : Flat S size C xs l) (hp : PlainC C) : xs.all Value.oneCell' = true := by
  rw [List.all_eq_true]
  intro u hu
  obtain ⟨k, hk, rfl⟩ := List.getElem_of_mem hu
  rw [h.1] at hk
  have hs : 0 < size := Nat.pos_of_ne_zero fun e => by subst e; simp at hk
  have hi : k / size < l.length := (Nat.div_lt_iff_lt_mul hs).2 hk
  obtain ⟨cs, h1, h2, h3⟩ := h.2 _ _ (List.getElem?_eq_getElem hi)
  have hm : k % size < cs.length := by rw [h2]; exact Nat.mod_lt _ hs
  have h4 := h3 _ _ (List.getElem?_eq_getElem hm)
  have h5 : k / size * size + k % size = k := by rw [Nat.mul_comm]; exact Nat.div_add_mod k size
  rw [h5] at h4
  have h6 := (List.getElem?_eq_some_iff.1 h4).2
  rw [h6]
  exact List.all_eq_true.1 (hp _ _ _ h1) _ (List.getElem_mem hm)
section
variable {P : Program} {c : Cx} {K : Act → World → Prop} {Q : Exit → Act → World → Prop} {E : Env} {H : List Item} {S : Stone} {d : Tmp} {ty : TypeId} {pos : String} {aft : Array Edge} {g : Option (Nat × Bool)}
/-- A slice that is nil is one's own. -/
theorem t_nilrow (e size : Nat) (h : Tr c K E (.row (.slice none 0 0) e size 0 [] :: H) S) : Tr c K E H S := fun a w ha hr => h a w ha <| by
  have := Mv.frame (I := []) (H := H) hr (I' := [.row (.slice none 0 0) e size 0 []]) (S' := S) (w' := w)
    ⟨⟨fun it hit => by simp only [List.mem_singleton] at hit; subst hit; exact ⟨by simp, .inl ⟨rfl, rfl⟩⟩, by simp [Item.keys, Value.ownBlock], hr.ok.stone, by simp [Item.keys, Value.ownBlock]⟩, Step.refl _ _, by simp [Item.keys, Value.ownBlock], Stone.le.refl S, fun _ => .inl rfl⟩
  exact this
/-- Appends what lies in another row of one's own. -/
theorem t_appR {t e e' : TypeId} {size bytes : Nat} {x y : Operand} {v : Value} {n m k gb : Nat} {xs news : List Value} {H' H'' : List Item} (hk : apK P t = some (e, size, bytes)) (hx : E.op x = some v) (hy : E.op y = some (.slice (some ⟨gb, 0, none⟩) m k))
    (hp : Pick H (.row v e size n xs) H') (hq : Pick H' (.row (.slice (some ⟨gb, 0, none⟩) m k) e' size m news) H'') (hl : news.length = m * size) (h1 : news.all Value.oneCell' = true)
    (h63 : n + m ≤ maxLen) (hb : (n + m) * bytes ≤ 140737488355328) (hlt : Nat.blt d c.n = true)
    (h : ∀ v', v'.oneCell' = true → Tr c K ((d, v') :: E) (.row v' e size (n + m) (xs ++ news) :: H') S) : Tr c (OpW P ⟨some d, .call ⟨.builtin .append, #[x, y], #[t, t]⟩, ty, pos, aft, g⟩ K Q) E H S :=
  t_app hk hx hy hp hl (fun w hH _ j u hj => by
    obtain ⟨it, hit, hr⟩ : ∃ it, it ∈ H' ∧ it = .row (.slice (some ⟨gb, 0, none⟩) m k) e' size m news := ⟨_, hq.mem, rfl⟩
    have hw := hH it hit
    subst hr
    exact ⟨_, rfl, by rw [add_lit, Nat.zero_add]; exact row_cell hw hj⟩) h1 h63 hb (lt_n hlt) (fun v' _ h2 => h v' h2)
/-- Appends a slice that never changes. -/
theorem t_appS {α : Type} {C : Stone → List Value → α → Prop} {l : List α} {t e : TypeId} {size bytes : Nat} {x y : Operand} {v : Value} {n m k : Nat} {xs : List Value} {A : Option Addr} {H' : List Item} (hs : Sl S size C (.slice A m k) l) (hC : PlainC C) (hk : apK P t = some (e, size, bytes)) (hx : E.op x = some v) (hy : E.op y = some (.slice A m k))
    (hp : Pick H (.row v e size n xs) H') (h63 : n + m ≤ maxLen) (hb : (n + m) * bytes ≤ 140737488355328) (hlt : Nat.blt d c.n = true)
    (h : ∀ v' news, Flat S size C news l → m = l.length → v'.oneCell' = true → Tr c K ((d, v') :: E) (.row v' e size (n + m) (xs ++ news) :: H') S) : Tr c (OpW P ⟨some d, .call ⟨.builtin .append, #[x, y], #[t, t]⟩, ty, pos, aft, g⟩ K Q) E H S := by
  obtain ⟨news, hf, hm, hn⟩ := hs.flat
  refine t_app hk hx hy hp (by rw [hf.1, hm]) (fun w _ hS j u hj => ?_) (hf.plain hC) h63 hb (lt_n hlt) (fun v' _ h2 => h v' news hf hm h2)
  obtain ⟨p, e, hc⟩ := hn j u hj
  exact ⟨p, e, stone_cell hS hc⟩
/-- A row's content is given up: it is a slice that never changes. -/
theorem t_pub {α : Type} {C : Stone → List Value → α → Prop} {l : List α} {v : Value} {e : TypeId} {size n : Nat} {xs : List Value} {H' : List Item} (hp : Pick H (.row v e size n xs) H') (hf : ∀ S', Stone.le S S' → Flat S' size C xs l) (hn : n = l.length) (h : ∀ S', Stone.le S S' → Sl S' size C v l → Tr c K E H' S') : Tr c K E H S :=
  t_stone_row hp fun S' hle hr => h S' hle ((hf S' hle).sl hr hn)
theorem t_bs0 {t e : TypeId} {size bytes : Nat} {z : List Value} (hk : apK P t = some (e, size, bytes)) (hz : zcK P e = some z) (hlt : Nat.blt d c.n = true) (h : ∀ b, Tr c K ((d, .slice (some ⟨b, 0, none⟩) 0 0) :: E) (.row (.slice (some ⟨b, 0, none⟩) 0 0) e size 0 [] :: H) S) :
    Tr c (OpW P ⟨some d, .buildSlice t 0 #[], ty, pos, aft, g⟩ K Q) E H S :=
  t_bs (l := []) (vs := []) (cs := []) hk hz (by omega) rfl (by simp [fillL]) (by simp) (lt_n hlt) h
theorem t_bs1 {t e : TypeId} {size bytes : Nat} {z cs : List Value} {x : Operand} {v : Value} (hk : apK P t = some (e, size, bytes)) (hz : zcK P e = some z) (hx : E.op x = some v) (hv : v.cells = cs.toArray) (hl : cs.length = size) (hs : Nat.ble size 16777216 = true) (hlt : Nat.blt d c.n = true)
    (h : ∀ b, Tr c K ((d, .slice (some ⟨b, 0, none⟩) 1 1) :: E) (.row (.slice (some ⟨b, 0, none⟩) 1 1) e size 1 cs :: H) S) : Tr c (OpW P ⟨some d, .buildSlice t 1 #[(0, x)], ty, pos, aft, g⟩ K Q) E H S := by
  have hs' := Nat.le_of_ble_eq_true hs
  refine t_bs (l := [(0, x)]) (vs := [(0, v)]) (cs := cs) hk hz (by omega) (by simp [Env.parts, hx]) ?_ (by omega) (lt_n hlt) h
  simp [fillL, hv, hl]
theorem t_mk0 {t e : TypeId} {size bytes m : Nat} {y : Operand} {k : IntKind} {z : List Value} (hk : apK P t = some (e, size, bytes)) (hz : zcK P e = some z) (hy : E.op y = some (.int k (m : Int))) (hb : bytes * m ≤ 281474976710656) (hm : m ≤ maxLen) (hlt : Nat.blt d c.n = true)
    (h : ∀ b, Tr c K ((d, .slice (some ⟨b, 0, none⟩) 0 m) :: E) (.row (.slice (some ⟨b, 0, none⟩) 0 m) e size 0 [] :: H) S) : Tr c (OpW P ⟨some d, .makeSlice t (.const (.int .i64 0)) y, ty, pos, aft, g⟩ K Q) E H S :=
  t_mk (n := 0) (k := .i64) hk hz rfl hy (Nat.zero_le _) hb hm (lt_n hlt) (fun b => by simpa using h b)
end
def bytC (_ : Stone) (cs : List Value) (b : Nat) : Prop := cs = [.int .u8 (b : Int)]
theorem plain_byt : PlainC bytC := fun _ _ _ e => by subst e; rfl
theorem Byt.sl {S : Stone} {v : Value} {b : Nat} (h : Byt S v b) : Sl S 1 bytC v [b] := by
  obtain ⟨p, cap, rfl, h1, h2, h3⟩ := h
  refine ⟨some p, cap, rfl, h1, h2, fun i a ha => ?_⟩
  cases i with
  | zero =>
    have : b = a := by simpa using ha
    subst this
    refine ⟨p, [_], rfl, rfl, rfl, fun j u hj => ?_⟩
    cases j with
    | zero =>
      have : Value.int .u8 (b : Int) = u := by simpa using hj
      subst this
      simpa [Addr.add] using h3
    | succ j => simp at hj
  | succ i => simp at ha
theorem Sl.byt {S : Stone} {v : Value} {b : Nat} (h : Sl S 1 bytC v [b]) : Byt S v b := by
  obtain ⟨A, cap, rfl, h1, h2, h3⟩ := h
  obtain ⟨p, cs, rfl, rfl, _, h4⟩ := h3 0 b rfl
  have := h4 0 _ rfl
  exact ⟨p, cap, rfl, h1, h2, by simpa [Addr.add] using this⟩
theorem recC_mono {S S' : Stone} (hle : Stone.le S S') : ∀ cs a, recC S cs a → recC S' cs a := fun _ _ ⟨bv, e, hb⟩ => ⟨bv, e, hb.mono hle⟩
theorem Flat.monoR {S S' : Stone} {xs : List Value} {l : List Rec} (h : Flat S 5 recC xs l) (hle : Stone.le S S') : Flat S' 5 recC xs l := h.mono (recC_mono hle)
/-- A row of one's own that holds this list. -/
def RowR {α : Type} (e size : Nat) (C : Stone → List Value → α → Prop) (l : List α) : Value → List Item → Stone → Prop := fun u I' S' => ∃ xs, I' = [.row u e size l.length xs] ∧ Flat S' size C xs l ∧ u.oneCell' = true
section
variable {P : Program} {c : Cx} {K : Act → World → Prop} {Q : Exit → Act → World → Prop} {E : Env} {H : List Item} {S : Stone} {d : Tmp} {ty : TypeId} {pos : String} {aft : Array Edge} {g : Option (Nat × Bool)}
theorem t_callRow {α : Type} {C : Stone → List Value → α → Prop} {la : List α} {e size : Nat} {f : FuncId} {l : List Operand} {ts : Array TypeId} {vs : List Value} (hv : E.ops l = some vs) (hc : Con P f vs.toArray [] S (RowR e size C la)) (hk : enK P f = true)
    (h : ∀ v xs S', Stone.le S S' → Flat S' size C xs la → v.oneCell' = true → Tr c K ((d, v) :: E) (.row v e size la.length xs :: H) S') (hlt : Nat.blt d c.n = true := by rfl) :
    Tr c (OpW P ⟨some d, .call ⟨.value (.func f), l.toArray, ts⟩, ty, pos, aft, g⟩ K Q) E H S := t_call (I := []) hk hv (List.Perm.refl _) hc (lt_n hlt) (fun u I' S' hle ⟨xs, e2, hf, ho⟩ => by subst e2; exact h u xs S' hle hf ho)
theorem f_retS {fn : Func} {rs : List ResultVar} {vs : List Value} {I' : List Item} {R : Value → List Item → Stone → Prop} (hr : fn.results.toList = rs) (hv : ResV P E H rs vs) (hR : R (pack vs) I' S) (hs : Sel H I' := by repeat (first | exact Sel.nil | exact Sel.refl _ | refine Sel.cons (by repeat (first | exact Pick.hd | apply Pick.tl)) ?_ | refine Sel.skip ?_)) : Tr c (bodyPost P fn (PostR c R) .ret) E H S := by
  obtain ⟨G, hG⟩ := hs.perm
  exact f_ret hr hv hG hR
theorem f_endS {fn : Func} {rs : List ResultVar} {vs : List Value} {I' : List Item} {R : Value → List Item → Stone → Prop} (hr : fn.results.toList = rs) (hv : ResV P E H rs vs) (hR : R (pack vs) I' S) (hs : Sel H I' := by repeat (first | exact Sel.nil | exact Sel.refl _ | refine Sel.cons (by repeat (first | exact Pick.hd | apply Pick.tl)) ?_ | refine Sel.skip ?_)) : Tr c (bodyPost P fn (PostR c R) .normal) E H S := by
  obtain ⟨G, hG⟩ := hs.perm
  exact f_end hr hv hG hR
end
end Go.Proofs.YtkdmbimkanjbhaaGreatDoor.Eng
namespace Go.Proofs.YtkdmbimkanjbhaaGreatDoor.Eng
open Go
/-! ### rows whose block is known -/
section
variable {P : Program} {c : Cx} {K : Act → World → Prop} {Q : Exit → Act → World → Prop} {E : Env} {H : List Item} {S : Stone} {d : Tmp} {ty : TypeId} {pos : String} {aft : Array Edge} {g : Option (Nat × Bool)}
theorem row_open {w : World} {gb n cap e size : Nat} {xs : List Value} (h : w.ownsRow 0 e size (.slice (some ⟨gb, 0, none⟩) n cap) n xs) :
    ∃ cur : Array Value, w.heap[gb]? = some (.cells cur e (0, 0)) ∧ n ≤ cap ∧ cap ≤ maxLen ∧ cur.size = cap * size ∧ cur.toList.take (n * size) = xs ∧ xs.length = n * size := by
  obtain ⟨hl, hn | ⟨g', cap', cur, he, _, hg, h1, h2, h3, h4⟩⟩ := h
  · simp at hn
  · simp only [Value.slice.injEq, Option.some.injEq, Addr.mk.injEq, and_true, true_and] at he
    obtain ⟨rfl, rfl⟩ := he
    exact ⟨cur, hg, h1, h2, h3, h4, hl⟩
/-- What a row's value is. -/
theorem t_form {v : Value} {e size n : Nat} {xs : List Value} {H' : List Item} (hp : Pick H (.row v e size n xs) H') (h0 : v = .slice none 0 0 → n = 0 → Tr c K E H S)
    (h1 : ∀ gb cap, v = .slice (some ⟨gb, 0, none⟩) n cap → n ≤ cap → cap ≤ maxLen → xs.length = n * size → Tr c K E H S) : Tr c K E H S := fun a w ha hr => by
  have hrow : w.ownsRow 0 e size v n xs := hr.ok.item (.row v e size n xs) hp.mem
  obtain ⟨hl, ⟨hv, hn⟩ | ⟨g', cap', cur, he, _, hg, h2, h3, _⟩⟩ := hrow
  · exact h0 hv hn a w ha hr
  · exact h1 g' cap' he h2 h3 hl a w ha hr
theorem mv_same {S : Stone} {w : World} {gb n cap n' cap' e size : Nat} {xs xs' : List Value} (ho : Ok [.row (.slice (some ⟨gb, 0, none⟩) n cap) e size n xs] S w) (hrow : w.ownsRow 0 e size (.slice (some ⟨gb, 0, none⟩) n' cap') n' xs') :
    Mv (keys [Item.row (.slice (some ⟨gb, 0, none⟩) n cap) e size n xs]) S w [.row (.slice (some ⟨gb, 0, none⟩) n' cap') e size n' xs'] S w :=
  mv_row ho ⟨rfl, rfl, rfl, Nat.le_refl _, fun _ _ _ => rfl⟩ hrow (.inl rfl)
/-- A row, cut or made longer within what it has. -/
theorem t_reslice (n' : Nat) {gb n cap e size : Nat} {xs : List Value} {H' : List Item} (hp : Pick H (.row (.slice (some ⟨gb, 0, none⟩) n cap) e size n xs) H') (hn' : n' ≤ cap)
    (h : ∀ xs', xs'.length = n' * size → xs'.take (min n n' * size) = xs.take (min n n' * size) → Tr c K E (.row (.slice (some ⟨gb, 0, none⟩) n' cap) e size n' xs' :: H') S) : Tr c K E H S := fun a w ha hr => by
  have m := Mv.perm hr hp.perm
  obtain ⟨cur, hg, h1, h2, h3, h4, h5⟩ := row_open (m.ok.item (.row (.slice (some ⟨gb, 0, none⟩) n cap) e size n xs) (by simp))
  have hns : n' * size ≤ cap * size := Nat.mul_le_mul_right _ hn'
  refine h (cur.toList.take (n' * size)) (by simp; omega) ?_ a w ha (Mv.frame m (mv_same m.ok.left ⟨by simp; omega, .inr ⟨gb, cap, cur, rfl, Nat.zero_le _, hg, hn', h2, h3, rfl⟩⟩))
  rw [← h4, List.take_take, List.take_take]
  have e1 : min n n' * size ≤ n * size := Nat.mul_le_mul_right _ (Nat.min_le_left _ _)
  have e2 : min n n' * size ≤ n' * size := Nat.mul_le_mul_right _ (Nat.min_le_right _ _)
  rw [Nat.min_eq_left e2, Nat.min_eq_left e1]
/-- Some cells of a row are written. -/
theorem mv_write {S : Stone} {w : World} {gb n cap e size off : Nat} {xs vs : List Value} {cur : Array Value} (ho : Ok [.row (.slice (some ⟨gb, 0, none⟩) n cap) e size n xs] S w) (hg : w.heap[gb]? = some (.cells cur e (0, 0))) (hfit : off + vs.length ≤ n * size) :
    Mv (keys [Item.row (.slice (some ⟨gb, 0, none⟩) n cap) e size n xs]) S w [.row (.slice (some ⟨gb, 0, none⟩) n cap) e size n (xs.take off ++ vs ++ xs.drop (off + vs.length))] S (w.setRow gb (cur.toList.take off ++ vs ++ cur.toList.drop (off + vs.length)).toArray) := by
  obtain ⟨cur', hg', hnc, hcm, hcs, htake, hxl⟩ := row_open (ho.item (.row (.slice (some ⟨gb, 0, none⟩) n cap) e size n xs) (by simp))
  rw [hg] at hg'
  simp only [Option.some.injEq, Obj.cells.injEq, and_true] at hg'
  subst hg'
  have hns : n * size ≤ cap * size := Nat.mul_le_mul_right _ hnc
  refine mv_row ho ⟨rfl, rfl, rfl, by simp, fun k _ hk => setRow_other w gb k _ (fun e => hk (by simp [Value.ownBlock, e]))⟩ ⟨?_, .inr ⟨gb, cap, _, rfl, Nat.zero_le _, setRow_heap w gb cur _ e _ hg, hnc, hcm, ?_, ?_⟩⟩ (.inl rfl)
  · simp only [List.length_append, List.length_take, List.length_drop]; omega
  · simp only [List.size_toArray, List.length_append, List.length_take, List.length_drop, Array.length_toList]; omega
  · rw [← htake]
    apply List.ext_getElem?
    intro j
    simp only [List.getElem?_take, List.getElem?_append, List.length_take, List.length_append, Array.length_toList, List.getElem?_drop]
    have e1 : min off cur.size = off := by omega
    have e2 : min off (min (n * size) cur.size) = off := by omega
    simp only [e1, e2]
    by_cases hj : j < n * size
    · simp only [hj, if_true]
      by_cases hj1 : j < off
      · simp [hj1, show j < off + vs.length from by omega]
      · by_cases hj2 : j < off + vs.length
        · simp [hj1, hj2]
        · simp [hj2, show off + vs.length + (j - (off + vs.length)) < n * size from by omega]
    · simp only [hj, if_false]
      have hj2 : ¬ j < off + vs.length := by omega
      simp [hj2]
      omega
/-- 'copy' into a row. -/
theorem t_copy {dT sT elem : TypeId} {size : Nat} {x y : Operand} {gb off dLen dCap sLen sCap n cap : Nat} {sp : Option Addr} {xs cs : List Value} {H' : List Item} (hk : slK P dT = some (elem, size)) (hx : E.op x = some (.slice (some ⟨gb, off, none⟩) dLen dCap)) (hy : E.op y = some (.slice sp sLen sCap))
    (hp : Pick H (.row (.slice (some ⟨gb, 0, none⟩) n cap) elem size n xs) H') (hn : cs.length = min sLen dLen * size)
    (src : ∀ w, (∀ it ∈ H, it.holds w) → (∀ b o, S b = some o → w.heap[b]? = some o) → ∀ (j : Nat) u, cs[j]? = some u → ∃ p, sp = some p ∧ w.cell? (p.add j) = some u) (hfit : off + cs.length ≤ n * size) (h1 : cs.all Value.oneCell' = true) (hlt : Nat.blt d c.n = true)
    (h : Tr c K ((d, i64 (min sLen dLen)) :: E) (.row (.slice (some ⟨gb, 0, none⟩) n cap) elem size n (xs.take off ++ cs ++ xs.drop (off + cs.length)) :: H') S) : Tr c (OpW P ⟨some d, .call ⟨.builtin .copy, #[x, y], #[dT, sT]⟩, ty, pos, aft, g⟩ K Q) E H S := by
  obtain ⟨i, hu, hi, hs⟩ := slK_spec hk
  refine t_new (I := [.row (.slice (some ⟨gb, 0, none⟩) n cap) elem size n xs]) (H' := H') hp.perm (R := fun u I' S' => S' = S ∧ u = i64 (min sLen dLen) ∧ I' = [.row (.slice (some ⟨gb, 0, none⟩) n cap) elem size n (xs.take off ++ cs ++ xs.drop (off + cs.length))]) (fun a w ha ho => ?_) rfl (lt_n hlt)
    (fun u I' S' ⟨e1, e2, e3⟩ => by subst e1; subst e2; subst e3; exact h)
  have ho' := ho.perm hp.perm
  obtain ⟨cur, hg, hnc, hcm, hcs, htake, hxl⟩ := row_open (ho'.item (.row (.slice (some ⟨gb, 0, none⟩) n cap) elem size n xs) (by simp))
  have hns : n * size ≤ cap * size := Nat.mul_le_mul_right _ hnc
  refine ⟨i64 (min sLen dLen), w.setRow gb (cur.toList.take off ++ cs ++ cur.toList.drop (off + cs.length)).toArray, _, S, ?_, mv_write ho'.left hg hfit, rfl, rfl, rfl⟩
  have hsrc := src w ho.item ho.stone
  have hload : (Builtin.firstCells size (min sLen dLen) (.slice sp sLen sCap)).run P w = .ok cs.toArray w := by
    cases sp with
    | none =>
      have : cs = [] := by
        cases cs with
        | nil => rfl
        | cons u l => obtain ⟨p, hp', _⟩ := hsrc 0 u rfl; cases hp'
      subst this
      simp [Builtin.firstCells]
    | some p =>
      have : ∀ j u, cs[j]? = some u → w.cell? (p.add j) = some u := fun j u hj => by
        obtain ⟨p', e', hc⟩ := hsrc j u hj
        injection e' with e'
        subst e'
        exact hc
      have := run_loadCells_list (P := P) (w := w) p cs this
      simp only [Builtin.firstCells]
      rw [← hn]; exact this
  have hst := run_storeCells_at P gb off elem cs 0 cur w hg (by omega) (fun u hu => List.all_eq_true.1 h1 u hu)
  simp only [Nat.add_zero] at hst
  have hcopy : (Builtin.copy_ #[dT, sT] ty #[.slice (some ⟨gb, off, none⟩) dLen dCap, .slice sp sLen sCap]).run P w = .ok (goInt (min sLen dLen)) (w.setRow gb (cur.toList.take off ++ cs ++ cur.toList.drop (off + cs.length)).toArray) := by
    have hload' : (Builtin.firstCells size (sLen.min dLen) (.slice sp sLen sCap)).run P w = .ok cs.toArray w := hload
    simp [Builtin.copy_, run_underlying hu, Builtin.lenOf, sizeOf, typeInfo, hi, hs, hload', hst]
    show goInt ((min sLen dLen : Nat) : Int) = _
    congr 1; omega
  simp [execOp, resolve, invoke, builtin, ha.eval hx, ha.eval hy, hcopy, goInt]
  omega
/-- 'clear' of a part of a row. -/
theorem t_clear {t elem : TypeId} {size : Nat} {z : List Value} {x : Operand} {gb off k kc n cap : Nat} {xs : List Value} {H' : List Item} (hk : slK P t = some (elem, size)) (hz : zcK P elem = some z) (hzl : z.length = size) (hz1 : z.all Value.oneCell' = true)
    (hx : E.op x = some (.slice (some ⟨gb, off, none⟩) k kc)) (hp : Pick H (.row (.slice (some ⟨gb, 0, none⟩) n cap) elem size n xs) H') (hfit : off + k * size ≤ n * size)
    (h : ∀ cs : List Value, cs.length = k * size → Tr c K E (.row (.slice (some ⟨gb, 0, none⟩) n cap) elem size n (xs.take off ++ cs ++ xs.drop (off + cs.length)) :: H') S) : Tr c (OpW P ⟨none, .call ⟨.builtin .clear, #[x], #[t]⟩, ty, pos, aft, g⟩ K Q) E H S := fun a w ha hr => by
  obtain ⟨i, hu, hi, hs⟩ := slK_spec hk
  obtain ⟨z', hzc, hzr⟩ := zcK_spec hz
  have m := Mv.perm hr hp.perm
  obtain ⟨cur, hg, hnc, hcm, hcs, htake, hxl⟩ := row_open (m.ok.item (.row (.slice (some ⟨gb, 0, none⟩) n cap) elem size n xs) (by simp))
  have hns : n * size ≤ cap * size := Nat.mul_le_mul_right _ hnc
  have hcsl : ((Builtin.zeroCells z'.cells k).toList).length = k * size := by simp [Builtin.zeroCells, hzc, hzl]
  have h1 : ∀ u ∈ (Builtin.zeroCells z'.cells k).toList, u.oneCell' = true := by
    intro u hu
    simp only [Builtin.zeroCells, Array.toList_map, List.mem_map, hzc] at hu
    obtain ⟨j, hj, rfl⟩ := hu
    have hj' : j < k * z.length := by simpa using hj
    have h0 : 0 < z.length := Nat.pos_of_ne_zero fun e => by rw [e] at hj'; simp at hj'
    have hm : j % z.length < z.length := Nat.mod_lt _ h0
    have : (z.toArray[j % z.toArray.size]!) = z[j % z.length] := by simp [getElem!_pos, hm]
    rw [this]
    exact List.all_eq_true.1 hz1 _ (List.getElem_mem hm)
  have hst := run_storeCells_at P gb off elem (Builtin.zeroCells z'.cells k).toList 0 cur w hg (by omega) h1
  simp only [Nat.add_zero] at hst
  have hmv := mv_write (vs := (Builtin.zeroCells z'.cells k).toList) m.ok.left hg (by rw [hcsl]; exact hfit)
  have hclear : (Builtin.clear_ #[t] ty #[.slice (some ⟨gb, off, none⟩) k kc]).run P w = .ok (.tuple #[]) (w.setRow gb (cur.toList.take off ++ (Builtin.zeroCells z'.cells k).toList ++ cur.toList.drop (off + (Builtin.zeroCells z'.cells k).toList.length)).toArray) := by
    cases k with
    | zero =>
      have e0 : (Builtin.zeroCells z'.cells 0).toList = [] := by simp [Builtin.zeroCells]
      rw [e0]
      simp only [List.append_nil, List.length_nil, Nat.add_zero, List.take_append_drop, Array.toArray_toList]
      rw [setRow_self w gb cur elem (0, 0) hg]
      simp [Builtin.clear_, run_underlying hu]
    | succ k => simp [Builtin.clear_, run_underlying hu, hzr w, hst]
  show Oper.wp P _ a w K Q
  unfold Oper.wp
  have hrun : (execOp a.eval ⟨none, .call ⟨.builtin .clear, #[x], #[t]⟩, ty, pos, aft, g⟩).run P w = .ok (.value (.tuple #[])) (w.setRow gb (cur.toList.take off ++ (Builtin.zeroCells z'.cells k).toList ++ cur.toList.drop (off + (Builtin.zeroCells z'.cells k).toList.length)).toArray) := by
    simp [execOp, resolve, invoke, builtin, ha.eval hx, hclear]
  rw [hrun, Oper.upon_value]
  exact h _ hcsl _ _ (ha.putNone _) (Mv.frame m hmv)
end
end Go.Proofs.YtkdmbimkanjbhaaGreatDoor.Eng
namespace Go.Proofs.YtkdmbimkanjbhaaGreatDoor.Eng
open Go
theorem sizeOf_of {P : Program} {t : TypeId} {n : Nat} (hk : szK P t = some n) (w : World) : (sizeOf t).run P w = .ok n w := by
  unfold szK at hk
  cases hi : P.info? t with
  | none => rw [hi] at hk; cases hk
  | some i => rw [hi] at hk; simp at hk; simp [sizeOf, typeInfo, hi, hk]
/-- The cells of a list into which something was put. -/
theorem put_cells {xs cs : List Value} {n i s : Nat} (hx : xs.length = n * s) (hi : i ≤ n) (hc : cs.length = s) (ys : List Value) (hy : ys.length = (n + 1) * s) (hyx : ys.take (i * s) = xs.take (i * s)) :
    (((ys.take ((i + 1) * s) ++ xs.drop (i * s) ++ ys.drop ((i + 1) * s + (xs.drop (i * s)).length)).take (i * s)) ++ cs ++ (ys.take ((i + 1) * s) ++ xs.drop (i * s) ++ ys.drop ((i + 1) * s + (xs.drop (i * s)).length)).drop (i * s + cs.length)) = xs.take (i * s) ++ cs ++ xs.drop (i * s) := by
  have h1 : i * s ≤ n * s := Nat.mul_le_mul_right _ hi
  have h2 : (i + 1) * s = i * s + s := by rw [Nat.add_mul, Nat.one_mul]
  have h3 : (n + 1) * s = n * s + s := by rw [Nat.add_mul, Nat.one_mul]
  have hd : ys.drop ((i + 1) * s + (xs.drop (i * s)).length) = [] := by
    rw [List.drop_eq_nil_iff]; rw [List.length_drop]; omega
  rw [hd, List.append_nil, hc, ← h2]
  have ht : (ys.take ((i + 1) * s)).length = (i + 1) * s := by rw [List.length_take]; omega
  rw [List.drop_left' ht, List.take_append_of_le_length (by rw [ht]; omega), List.take_take, Nat.min_eq_left (by omega), hyx]
theorem put2_cells {xs cs : List Value} {n i s : Nat} (hx : xs.length = n * s) (hi : i ≤ n) (hc : cs.length = s) {ys : List Value} (hy : ys.length = (n + 1) * s) (hyx : ys.take (i * s) = xs.take (i * s)) :
    ((ys.take (0 + i * s) ++ cs ++ ys.drop (0 + i * s + cs.length)).take (0 + (i + 1) * s) ++ xs.drop (i * s) ++ (ys.take (0 + i * s) ++ cs ++ ys.drop (0 + i * s + cs.length)).drop (0 + (i + 1) * s + (xs.drop (i * s)).length)) = xs.take (i * s) ++ cs ++ xs.drop (i * s) := by
  have h1 : i * s ≤ n * s := Nat.mul_le_mul_right _ hi
  have h2 : (i + 1) * s = i * s + s := by rw [Nat.add_mul, Nat.one_mul]
  have h3 : (n + 1) * s = n * s + s := by rw [Nat.add_mul, Nat.one_mul]
  simp only [Nat.zero_add]
  have ht : (ys.take (i * s)).length = i * s := by rw [List.length_take]; omega
  have ht2 : (ys.take (i * s) ++ cs).length = (i + 1) * s := by rw [List.length_append, ht, hc, h2]
  rw [List.take_left' ht2, hyx]
  have hz : (xs.take (i * s) ++ cs ++ ys.drop (i * s + cs.length)).drop ((i + 1) * s + (xs.drop (i * s)).length) = [] := by
    rw [List.drop_eq_nil_iff]
    simp only [List.length_append, List.length_take, List.length_drop, hc]; omega
  rw [hz, List.append_nil]
section
variable {P : Program} {c : Cx} {K : Act → World → Prop} {Q : Exit → Act → World → Prop} {E : Env} {H : List Item} {S : Stone} {d : Tmp} {od : Option Tmp} {ty : TypeId} {pos : String} {aft : Array Edge} {g : Option (Nat × Bool)}
theorem y_cap {t u : TypeId} {x : Operand} {A : Option Addr} {n m : Nat} (hk : (slK P u).isSome = true) (hx : E.op x = some (.slice A n m)) : Yld P E ⟨od, .call ⟨.builtin .cap, #[x], #[u]⟩, t, pos, aft, g⟩ (.int .i64 m) := fun k a w ha => by
  unfold slK at hk
  split at hk
  · rename_i e hu
    have : (Builtin.cap_ #[u] t #[.slice A n m]).run P w = .ok (goInt m) w := by simp [Builtin.cap_, run_underlying hu]
    simp [execOp, resolve, invoke, builtin, ha.eval hx, this, goInt]
  · cases hk
/-- A function without a body that only computes. -/
structure NatOk (P : Program) (H : List Item) (S : Stone) (f : FuncId) (vs : List Value) (v : Value) : Prop where
  run : ∀ w, (∀ it ∈ H, it.holds w) → (∀ b o, S b = some o → w.heap[b]? = some o) → (callFunc f vs.toArray).run P w = .ok (.value v) w
theorem t_nat {f : FuncId} {l : List Operand} {ts : Array TypeId} {vs : List Value} {v : Value} (hv : E.ops l = some vs) (hrun : NatOk P H S f vs v)
    (h : Tr c K ((d, v) :: E) H S) (hlt : Nat.blt d c.n = true := by rfl) : Tr c (OpW P ⟨some d, .call ⟨.value (.func f), l.toArray, ts⟩, ty, pos, aft, g⟩ K Q) E H S := by
  refine t_ld (fun n a w ha hH hS => ?_) rfl (lt_n hlt) h
  have hev := ha.evals hv
  have := hrun.run w hH hS
  simp [execOp, resolve, invoke, Deferred.ofValue, Act.eval, List.map_toArray, hev, this]
/-- append(s, make([]T, k)...) where there is no room: a new row. -/
theorem t_appz {t tn e : TypeId} {size bytes : Nat} {kn : IntKind} {x y : Operand} {gb i n cap k off : Nat} {xs olds : List Value} {H' : List Item} (hk : apK P t = some (e, size, bytes)) (htn : cvK P t tn = some kn) (hx : E.op x = some (.slice (some ⟨gb, off, none⟩) i cap)) (hy : E.op y = some (i64 k))
    (hp : Pick H (.row (.slice (some ⟨gb, 0, none⟩) n cap) e size n xs) H') (hoff : off = 0) (hi : i ≤ n) (holds : olds = xs.take (i * size)) (h0 : 0 < k) (hg : cap < i + k) (hb : (i + k) * bytes ≤ 140737488355328) (h63 : i + k ≤ maxLen) (hlt : Nat.blt d c.n = true)
    (h : ∀ b cap' zs, zs.length = k * size → Tr c K ((d, .slice (some ⟨b, 0, none⟩) (i + k) cap') :: E) (.row (.slice (some ⟨b, 0, none⟩) (i + k) cap') e size (i + k) (olds ++ zs) :: H) S) : Tr c (OpW P ⟨some d, .call ⟨.builtin .append, #[x, y], #[t, tn]⟩, ty, pos, aft, g⟩ K Q) E H S := by
  subst hoff
  obtain ⟨inf, z, hu, hinf, hz, hs, hby, hzs, hs0⟩ := apK_spec hk
  have htn' : P.underlying tn = some (.int kn) := by
    unfold cvK at htn
    split at htn
    · rename_i hd; simp only [Option.some.injEq] at htn; subst htn; exact hd
    · cases htn
  refine t_new (I := []) (H' := H) (List.Perm.refl _) (R := fun u I' S' => S' = S ∧ ∃ b cap' zs, zs.length = k * size ∧ u = .slice (some ⟨b, 0, none⟩) (i + k) cap' ∧ I' = [.row (.slice (some ⟨b, 0, none⟩) (i + k) cap') e size (i + k) (olds ++ zs)]) (fun a w ha ho => ?_) rfl (lt_n hlt)
    (fun u I' S' ⟨e1, b, cap', zs, hzl, e2, e3⟩ => by subst e1; subst e2; subst e3; exact h b cap' zs hzl)
  have hrow := (ho.perm hp.perm).item (.row (.slice (some ⟨gb, 0, none⟩) n cap) e size n xs) (by simp)
  obtain ⟨cur, hg', hnc, hcm, hcs, htake, hxl⟩ := row_open hrow
  have hns : i * size ≤ n * size := Nat.mul_le_mul_right _ hi
  have hol : olds.length = i * size := by rw [holds, List.length_take]; omega
  have hcell : ∀ (j : Nat) u, olds[j]? = some u → w.cell? ((⟨gb, 0, none⟩ : Addr).add j) = some u := fun j u hj => by
    rw [add_lit, Nat.zero_add]
    rw [holds, List.getElem?_take] at hj
    split at hj
    · exact row_cell hrow hj
    · cases hj
  have hfirst : (Builtin.firstCells inf.size i (.slice (some ⟨gb, 0, none⟩) i cap)).run P w.drew = .ok olds.toArray w.drew := by
    have := run_loadCells_list (P := P) (w := w.drew) ⟨gb, 0, none⟩ olds hcell
    simp only [Builtin.firstCells]
    rw [hs, ← hol]; exact this
  have h63' : i + k ≤ 9223372036854775807 := by simp only [maxLen] at h63; omega
  have hkb : k * inf.bytes ≤ 281474976710656 := by
    have : k * inf.bytes ≤ (i + k) * bytes := by rw [hby]; exact Nat.mul_le_mul_right _ (by omega)
    omega
  have hr := Lib.run_append_grow_zeros (P := P) w t tn ty e inf z .i64 kn hu htn' hinf hz (some ⟨gb, 0, none⟩) i cap olds hfirst k h0 (by rw [hs]; exact hs0) hg (by omega) hkb (by rw [hby]; exact growslice_fits (by omega) hb)
  have hge := grownCap_ge w (i + k) cap e
  have hcm' : grownCap w (i + k) cap e ≤ maxLen := grownCap_le_maxLen w (i + k) cap e h63
  have hzl : (Builtin.zeroCells z.cells k).toList.length = k * size := by simp [Builtin.zeroCells, hzs]
  have m := mv_alloc (S := S) (w := w.drew) ho.stone (.cells (olds.toArray ++ Builtin.zeroCells z.cells k ++ Builtin.zeroCells z.cells (grownCap w (i + k) cap e - (i + k))) e (0, 0))
  refine ⟨.slice (some ⟨w.heap.size, 0, none⟩) (i + k) (grownCap w (i + k) cap e), w.drew.alloc (.cells (olds.toArray ++ Builtin.zeroCells z.cells k ++ Builtin.zeroCells z.cells (grownCap w (i + k) cap e - (i + k))) e (0, 0)), [.row (.slice (some ⟨w.heap.size, 0, none⟩) (i + k) (grownCap w (i + k) cap e)) e size (i + k) (olds ++ (Builtin.zeroCells z.cells k).toList)], S, ?_, ?_, rfl, w.heap.size, _, _, hzl, rfl, rfl⟩
  · simp [execOp, resolve, invoke, builtin, ha.eval hx, ha.eval hy, i64, hr]
  · refine ⟨⟨fun it hit => ?_, by simp [Item.keys, Value.ownBlock], m.ok.stone, fun b hb => m.ok.disj b (by simpa [keys, Item.keys, Value.ownBlock] using hb)⟩, ⟨m.step.os, m.step.tape, m.step.output, m.step.size, m.step.block⟩, fun b hb => m.key b (by simpa [keys, Item.keys, Value.ownBlock] using hb), m.le, m.new⟩
    simp only [List.mem_singleton] at hit
    subst hit
    have hlen : (olds ++ (Builtin.zeroCells z.cells k).toList).length = (i + k) * size := by rw [List.length_append, hol, hzl, Nat.add_mul]
    refine ⟨hlen, .inr ⟨w.heap.size, _, _, rfl, Nat.zero_le _, heap_alloc_new w.drew _, hge, hcm', ?_, ?_⟩⟩
    · have hzl' : (Builtin.zeroCells z.cells (grownCap w (i + k) cap e - (i + k))).size = (grownCap w (i + k) cap e - (i + k)) * size := by simp [Builtin.zeroCells, hzs]
      have hzl2 : (Builtin.zeroCells z.cells k).size = k * size := by simpa using hzl
      simp only [Array.size_append, List.size_toArray, hzl', hzl2, hol, ← Nat.add_mul]
      congr 1; omega
    · simp only [Array.toList_append]
      rw [← hlen]
      exact List.take_left
theorem sliced_zero (A : Option Addr) (h m s : Nat) : sliced A 0 h m s = .slice A h m := by
  unfold sliced
  cases A <;> simp [Addr.add]
theorem sliced_some {gb off l h m s : Nat} (hlm : l < m) : sliced (some ⟨gb, off, none⟩) l h m s = .slice (some ⟨gb, off + l * s, none⟩) (h - l) (m - l) := by
  unfold sliced
  rw [if_neg (by omega)]
  simp [add_lit]
theorem y_slh {t e : TypeId} {size : Nat} {x y : Operand} {A : Option Addr} {n m h : Nat} {k : IntKind} (hk : slK P t = some (e, size)) (hx : E.op x = some (.slice A n m)) (hy : E.op y = some (.int k (h : Int))) (h2 : h ≤ m) :
    Yld P E ⟨od, .slice t x none (some y) none, ty, pos, aft, g⟩ (.slice A h m) := by
  rw [← sliced_zero A h m size]; exact y_sl hk hx rfl ⟨k, hy⟩ (Nat.zero_le _) h2
theorem y_slr {t e : TypeId} {size : Nat} {x y : Operand} {gb off n m l : Nat} {k : IntKind} (hk : slK P t = some (e, size)) (hx : E.op x = some (.slice (some ⟨gb, off, none⟩) n m)) (hy : E.op y = some (.int k (l : Int))) (h1 : l ≤ n) (h2 : n ≤ m) (hlm : l < m) :
    Yld P E ⟨od, .slice t x (some y) none none, ty, pos, aft, g⟩ (.slice (some ⟨gb, off + l * size, none⟩) (n - l) (m - l)) := by
  rw [← sliced_some hlm]; exact y_sl hk hx ⟨k, hy⟩ rfl h1 h2
theorem src_row {gb off n cap e size : Nat} {xs cs : List Value} {H'' : List Item} (hq : Pick H (.row (.slice (some ⟨gb, 0, none⟩) n cap) e size n xs) H'') (hcs : ∀ (j : Nat) u, cs[j]? = some u → xs[off + j]? = some u) :
    ∀ w, (∀ it ∈ H, it.holds w) → (∀ b o, S b = some o → w.heap[b]? = some o) → ∀ (j : Nat) u, cs[j]? = some u → ∃ p, some (⟨gb, off, none⟩ : Addr) = some p ∧ w.cell? (p.add j) = some u := fun w hH _ j u hj => by
  have hw := hH _ hq.mem
  exact ⟨_, rfl, by rw [add_lit]; exact row_cell hw (hcs j u hj)⟩
theorem t_apart {gb vb n cap e size n' cap' e' size' : Nat} {xs xs' : List Value} {H' H'' : List Item} (hp : Pick H (.row (.slice (some ⟨gb, 0, none⟩) n cap) e size n xs) H') (hq : Pick H' (.row (.slice (some ⟨vb, 0, none⟩) n' cap') e' size' n' xs') H'') (h : vb ≠ gb → Tr c K E H S) : Tr c K E H S := fun a w ha hr => by
  refine h (fun e => ?_) a w ha hr
  have h1 := (hr.ok.perm hp.perm).nodup
  have hm := hq.mem
  simp only [keys_append, keys_cons, keys_nil, List.append_nil] at h1
  have h2 := (List.nodup_append.1 h1).2.2 gb (by simp [Item.keys, Value.ownBlock]) gb
  exact h2 (mem_keys.2 ⟨_, hm, by simp [Item.keys, Value.ownBlock, e]⟩) rfl
theorem t_eqrow {v : Value} {e size n : Nat} {xs xs' : List Value} {H' : List Item} (hp : Pick H (.row v e size n xs) H') (he : xs = xs') (h : Tr c K E (.row v e size n xs' :: H') S) : Tr c K E H S := by
  subst he; exact t_perm hp.perm h
end
end Go.Proofs.YtkdmbimkanjbhaaGreatDoor.Eng
namespace Go.Proofs.YtkdmbimkanjbhaaGreatDoor.Eng
open Go
/-- What lies behind an address, whoever holds it. -/
def Reads (I : List Item) (S : Stone) (q : Addr) (vs : List Value) : Prop := ∀ w, (∀ it ∈ I, it.holds w) → (∀ b o, S b = some o → w.heap[b]? = some o) → ∀ (j : Nat) u, vs[j]? = some u → w.cell? (q.add j) = some u
/-- A slice that can be read. -/
def Rd {α : Type} (I : List Item) (S : Stone) (size : Nat) (C : Stone → List Value → α → Prop) (v : Value) (l : List α) : Prop :=
  ∃ A cap, v = .slice A l.length cap ∧ l.length ≤ cap ∧ cap ≤ maxLen ∧ ∀ (i : Nat) a, l[i]? = some a → ∃ p cs, A = some p ∧ C S cs a ∧ cs.length = size ∧ Reads I S (p.add (i * size)) cs
section
variable {α : Type} {I : List Item} {S : Stone} {size : Nat} {C : Stone → List Value → α → Prop} {v : Value} {l : List α}
theorem Sl.rd (h : Sl S size C v l) : Rd I S size C v l := by
  obtain ⟨A, cap, e, h1, h2, h3⟩ := h
  exact ⟨A, cap, e, h1, h2, fun i a ha => let ⟨p, cs, e1, e2, e3, e4⟩ := h3 i a ha; ⟨p, cs, e1, e2, e3, fun w _ hS j u hj => stone_cell hS (e4 j u hj)⟩⟩
theorem Flat.rd {gb cap e : Nat} {xs : List Value} (h : Flat S size C xs l) (hc : l.length ≤ cap) (hm : cap ≤ maxLen) (hI : Item.row (.slice (some ⟨gb, 0, none⟩) l.length cap) e size l.length xs ∈ I) : Rd I S size C (.slice (some ⟨gb, 0, none⟩) l.length cap) l :=
  ⟨_, cap, rfl, hc, hm, fun i a ha => let ⟨cs, e1, e2, e3⟩ := h.2 i a ha; ⟨_, cs, rfl, e1, e2, fun w hH _ j u hj => by
    have hw := hH _ hI
    rw [add_lit, add_lit, Nat.zero_add]
    exact row_cell hw (e3 j u hj)⟩⟩
theorem Rd.nil : Rd I S size C (.slice none 0 0) ([] : List α) := ⟨none, 0, rfl, Nat.le_refl _, Nat.zero_le _, fun i a ha => by simp at ha⟩
theorem Rd.shape (h : Rd I S size C v l) : ∃ A cap, v = .slice A l.length cap ∧ l.length ≤ cap ∧ l.length ≤ 9223372036854775807 ∧ cap ≤ 9223372036854775807 := by
  obtain ⟨A, cap, e, h1, h2, _⟩ := h
  simp only [maxLen] at h2
  exact ⟨A, cap, e, h1, by omega, by omega⟩
theorem Rd.at {A : Option Addr} {n m i : Nat} {a : α} (h : Rd I S size C (.slice A n m) l) (hi : l[i]? = some a) : ∃ p cs, A = some p ∧ C S cs a ∧ Reads I S (p.add (i * size)) cs := by
  obtain ⟨A', cap, e, _, _, h3⟩ := h
  injection e with e1 _ _
  obtain ⟨p, cs, e2, e3, _, e4⟩ := h3 i a hi
  exact ⟨p, cs, by rw [e1, e2], e3, e4⟩
theorem ld_rd {P : Program} {E : Env} {H : List Item} {d : Option Tmp} {ty : TypeId} {pos : String} {aft : Array Edge} {g : Option (Nat × Bool)} {t : TypeId} {x : Operand} {q : Addr} {m : Nat} {vs : List Value} (hk : ldK P t = some (some m)) (hx : E.op x = some (.pointer (some q))) (hr : Reads I S q vs)
    (hI : ∀ it ∈ I, it ∈ H := by first | exact fun _ h => h | exact fun _ h => List.mem_cons_of_mem _ h | exact fun _ h => List.mem_cons_of_mem _ (List.mem_cons_of_mem _ h)) (hl : vs.length = m := by rfl) : Ld P E H S ⟨d, .load t x, ty, pos, aft, g⟩ (.agg vs.toArray) :=
  ld_cells hk hx hl fun w hH hS => hr w (fun it hit => hH it (hI it hit)) hS
end
/-- Where the first one stands for which something holds. -/
def indexOf {α : Type} (q : α → Bool) (l : List α) : Int := if l.any q then ((l.findIdx q : Nat) : Int) else -1
theorem indexOf_at {α : Type} {q : α → Bool} {l : List α} {i : Nat} {r : α} (h : (l.take i).any q = false) (hr : l[i]? = some r) (hq : q r = true) : indexOf q l = (i : Int) := by
  obtain ⟨hi, he⟩ := List.getElem?_eq_some_iff.1 hr
  have h1 : l.any q = true := List.any_eq_true.2 ⟨r, List.mem_of_getElem? hr, hq⟩
  have h2 : l.findIdx q = i := by
    rw [List.findIdx_eq hi]
    refine ⟨by rw [he]; exact hq, fun j hj => ?_⟩
    have := List.any_eq_false.1 h
    have hm : l[j] ∈ l.take i := List.mem_take_iff_getElem.2 ⟨j, by omega, rfl⟩
    simpa using this _ hm
  simp [indexOf, h1, h2]
theorem any_next {α : Type} {q : α → Bool} {l : List α} {i : Nat} {r : α} (h : (l.take i).any q = false) (hr : l[i]? = some r) (hq : q r = false) : (l.take (i + 1)).any q = false := by
  rw [List.take_add_one, hr, List.any_append, h]
  simp [hq]
theorem y_shr {P : Program} {E : Env} {od : Option Tmp} {ty : TypeId} {pos : String} {aft : Array Edge} {g : Option (Nat × Bool)} {t u : TypeId} {x y : Operand} {n : Nat} (hx : E.op x = some (u64 n)) (hy : E.op y = some (u64 1)) : Yld P E ⟨od, .binOp .shr t x y u, ty, pos, aft, g⟩ (u64 (n / 2)) := fun k a w ha => by
  have hf : Int.fdiv (n : Int) 2 = ((n / 2 : Nat) : Int) := by rw [Int.fdiv_eq_ediv_of_nonneg _ (by omega)]; omega
  simp [execOp, ha.eval hx, ha.eval hy, eqGuard, binOp, Op.shift, IntKind.bits, hf]
end Go.Proofs.YtkdmbimkanjbhaaGreatDoor.Eng
namespace Go.Proofs.YtkdmbimkanjbhaaGreatDoor.Eng
open Go
section
variable {α : Type} {S : Stone} {size : Nat} {C : Stone → List Value → α → Prop} {xs cs : List Value} {l : List α} {a : α}
theorem Flat.take (h : Flat S size C xs l) (k : Nat) : Flat S size C (xs.take (k * size)) (l.take k) := by
  refine ⟨?_, fun i a ha => ?_⟩
  · rw [List.length_take, List.length_take, h.1]
    rcases Nat.le_total k l.length with h1 | h1
    · have := Nat.mul_le_mul_right size h1
      rw [Nat.min_eq_left h1, Nat.min_eq_left this]
    · have := Nat.mul_le_mul_right size h1
      rw [Nat.min_eq_right h1, Nat.min_eq_right this]
  · rw [List.getElem?_take] at ha
    split at ha
    · rename_i hi
      obtain ⟨cs, h1, h2, h3⟩ := h.2 i a ha
      refine ⟨cs, h1, h2, fun j u hj => ?_⟩
      have hj' : j < size := by rw [← h2]; exact (List.getElem?_eq_some_iff.1 hj).1
      have : i * size + j < k * size := by
        have : (i + 1) * size ≤ k * size := Nat.mul_le_mul_right _ hi
        rw [Nat.add_mul, Nat.one_mul] at this
        omega
      rw [List.getElem?_take, if_pos this]
      exact h3 j u hj
    · cases ha
theorem Flat.set {i : Nat} (h : Flat S size C xs l) (hi : i < l.length) (hC : C S cs a) (hl : cs.length = size) : Flat S size C (xs.take (i * size) ++ cs ++ xs.drop (i * size + size)) (l.set i a) := by
  have hle : (i + 1) * size ≤ l.length * size := Nat.mul_le_mul_right _ hi
  rw [Nat.add_mul, Nat.one_mul] at hle
  have hx := h.1
  have ht : (xs.take (i * size)).length = i * size := by rw [List.length_take]; omega
  refine ⟨by simp only [List.length_append, List.length_drop, List.length_set, ht, hl]; omega, fun k b hb => ?_⟩
  rw [List.getElem?_set] at hb
  split at hb
  · rename_i hk
    subst hk
    simp only [Option.some.injEq] at hb
    subst hb
    refine ⟨cs, hC, hl, fun j u hj => ?_⟩
    have hj' := (List.getElem?_eq_some_iff.1 hj).1
    rw [List.getElem?_append_left (by rw [List.length_append, ht]; omega), List.getElem?_append_right (by omega), ht, Nat.add_sub_cancel_left]
    exact hj
  · rename_i hk
    obtain ⟨ds, h1, h2, h3⟩ := h.2 k b hb
    refine ⟨ds, h1, h2, fun j u hj => ?_⟩
    have hj' : j < size := by rw [← h2]; exact (List.getElem?_eq_some_iff.1 hj).1
    have h4 := h3 j u hj
    rcases Nat.lt_or_gt_of_ne hk with hk | hk
    · have : (i + 1) * size ≤ k * size := Nat.mul_le_mul_right _ hk
      rw [Nat.add_mul, Nat.one_mul] at this
      rw [List.getElem?_append_right (by rw [List.length_append, ht]; omega), List.getElem?_drop, List.length_append, ht, hl]
      rw [← h4]; congr 1; omega
    · have : (k + 1) * size ≤ i * size := Nat.mul_le_mul_right _ hk
      rw [Nat.add_mul, Nat.one_mul] at this
      rw [List.append_assoc, List.getElem?_append_left (by rw [ht]; omega), List.getElem?_take, if_pos (by omega)]
      exact h4
theorem Flat.drop (h : Flat S size C xs l) (k : Nat) : Flat S size C (xs.drop (k * size)) (l.drop k) := by
  refine ⟨by rw [List.length_drop, List.length_drop, h.1, Nat.sub_mul], fun i a ha => ?_⟩
  rw [List.getElem?_drop] at ha
  obtain ⟨cs, h1, h2, h3⟩ := h.2 _ a ha
  refine ⟨cs, h1, h2, fun j u hj => ?_⟩
  rw [List.getElem?_drop, ← h3 j u hj, Nat.add_mul, Nat.add_assoc]
theorem Flat.put (h : Flat S size C xs l) (k : Nat) (hC : C S cs a) (hl : cs.length = size) : Flat S size C (xs.take (k * size) ++ cs ++ xs.drop (k * size)) (l.take k ++ [a] ++ l.drop k) :=
  ((h.take k).snoc hC hl).app (h.drop k)
end
theorem ld_flat {P : Program} {E : Env} {H : List Item} {S : Stone} {d : Option Tmp} {ty : TypeId} {pos : String} {aft : Array Edge} {g : Option (Nat × Bool)} {t : TypeId} {x : Operand} {gb off n cap e size m : Nat} {xs vs : List Value} {H' : List Item} (hk : ldK P t = some (some m)) (hx : E.op x = some (.pointer (some ⟨gb, off, none⟩)))
    (hp : Pick H (.row (.slice (some ⟨gb, 0, none⟩) n cap) e size n xs) H') (hc : ∀ (j : Nat) u, vs[j]? = some u → xs[off + j]? = some u) (hl : vs.length = m) : Ld P E H S ⟨d, .load t x, ty, pos, aft, g⟩ (.agg vs.toArray) :=
  ld_cells hk hx hl fun w hH _ j v hj => by
    rw [add_lit]
    exact row_cell (hH _ hp.mem) (hc j v hj)
theorem t_rdrow {α : Type} {c : Cx} {K : Act → World → Prop} {E : Env} {H H' : List Item} {S : Stone} {C : Stone → List Value → α → Prop} {l : List α} {v : Value} {e size : Nat} {xs : List Value} (hp : Pick H (.row v e size l.length xs) H') (hf : Flat S size C xs l) (h : Rd [.row v e size l.length xs] S size C v l → Tr c K E H S) : Tr c K E H S :=
  t_form hp (fun hv hn => h (by
      have : l = [] := List.length_eq_zero_iff.1 hn
      subst this; subst hv; exact Rd.nil))
    (fun gb cap hv hnc hcm _ => h (by subst hv; exact hf.rd hnc hcm (List.mem_singleton.2 rfl)))
/-- A contract by what its row is. -/
theorem Con.form {P : Program} {f : FuncId} {args : Array Value} {v : Value} {e size n : Nat} {xs : List Value} {I : List Item} {S : Stone} {R : Value → List Item → Stone → Prop} (h0 : v = .slice none 0 0 → n = 0 → Con P f args (.row v e size n xs :: I) S R)
    (h1 : ∀ gb cap, v = .slice (some ⟨gb, 0, none⟩) n cap → n ≤ cap → cap ≤ 9223372036854775807 → Con P f args (.row v e size n xs :: I) S R) : Con P f args (.row v e size n xs :: I) S R := fun w hw => by
  have hrow : w.ownsRow 0 e size v n xs := hw.item (.row v e size n xs) (by simp)
  obtain ⟨hl, ⟨hv, hn⟩ | ⟨g', cap', cur, he, _, hg, h2, h3, _⟩⟩ := hrow
  · exact h0 hv hn w hw
  · exact h1 g' cap' he h2 (by simp only [maxLen] at h3; omega) w hw
theorem Con.eq {P : Program} {f : FuncId} {args args' : Array Value} {I : List Item} {S : Stone} {R : Value → List Item → Stone → Prop} (h : Con P f args I S R) (e : args = args') : Con P f args' I S R := e ▸ h
/-- What a deleting pass leaves. -/
theorem filter_next {α : Type} {q : α → Bool} {l ys : List α} {i j : Nat} {r : α} (hl : l[j]? = some r) (hq : q r = false) (h : ys.take i = (l.take j).filter (fun x => !q x)) (hi : i < ys.length) :
    (ys.set i r).take (i + 1) = (l.take (j + 1)).filter (fun x => !q x) := by
  rw [List.take_add_one (l := l), hl, List.filter_append, ← h]
  simp [hq, List.take_add_one, hi, List.take_set_of_le]
theorem filter_skip {α : Type} {q : α → Bool} {l : List α} {j : Nat} {r : α} (hl : l[j]? = some r) (hq : q r = true) : (l.take (j + 1)).filter (fun x => !q x) = (l.take j).filter (fun x => !q x) := by
  rw [List.take_add_one, hl, List.filter_append]
  simp [hq]
theorem indexOf_none {α : Type} {q : α → Bool} {l : List α} (h : indexOf q l = -1) : l.filter (fun x => !q x) = l := by
  unfold indexOf at h
  split at h
  · omega
  · rename_i hn
    rw [List.filter_eq_self]
    intro x hx
    have := List.any_eq_false.1 (Bool.not_eq_true _ ▸ hn) x hx
    simpa using this
theorem indexOf_some {α : Type} {q : α → Bool} {l : List α} (h : indexOf q l ≠ -1) : ∃ k : Nat, indexOf q l = (k : Int) ∧ k < l.length ∧ l.take k = (l.take (k + 1)).filter (fun x => !q x) := by
  unfold indexOf at h ⊢
  split at h
  · rename_i ha
    obtain ⟨x, hx, hqx⟩ := List.any_eq_true.1 ha
    have hlt : l.findIdx q < l.length := List.findIdx_lt_length_of_exists ⟨x, hx, hqx⟩
    refine ⟨l.findIdx q, by simp [ha], hlt, ?_⟩
    have hq : q l[l.findIdx q] = true := List.findIdx_getElem
    rw [filter_skip (List.getElem?_eq_getElem hlt) hq, List.filter_eq_self.2]
    intro y hy
    obtain ⟨j, hj, rfl⟩ := List.mem_take_iff_getElem.1 hy
    have hj' : j < l.findIdx q := by omega
    have : q l[j] = false := List.not_of_lt_findIdx hj'
    simpa using this
  · exact absurd rfl h
/-- A call that is handed all items. -/
theorem t_callA {P : Program} {c : Cx} {K : Act → World → Prop} {Q : Exit → Act → World → Prop} {E : Env} {H : List Item} {S : Stone} {d : Tmp} {ty : TypeId} {pos : String} {aft : Array Edge} {g : Option (Nat × Bool)} {f : FuncId} {l : List Operand} {ts : Array TypeId} {vs : List Value} {R : Value → List Item → Stone → Prop} (hv : E.ops l = some vs) (hc : Con P f vs.toArray H S R) (hk : enK P f = true) (h : ∀ v I' S', Stone.le S S' → R v I' S' → Tr c K ((d, v) :: E) I' S') (hlt : Nat.blt d c.n = true := by rfl) :
    Tr c (OpW P ⟨some d, .call ⟨.value (.func f), l.toArray, ts⟩, ty, pos, aft, g⟩ K Q) E H S := t_call (H' := []) hk hv (by simp) hc (lt_n hlt) (fun v I' S' hle hr => by rw [List.append_nil]; exact h v I' S' hle hr)
theorem Con.perm {P : Program} {f : FuncId} {args : Array Value} {I J : List Item} {S : Stone} {R : Value → List Item → Stone → Prop} (h : Con P f args I S R) (p : J.Perm I) : Con P f args J S R := fun w hw => by
  refine (h w (hw.perm p)).mono fun e w' ⟨v, I', S', he, m, r⟩ => ⟨v, I', S', he, ?_, r⟩
  exact ⟨m.ok, ⟨m.step.os, m.step.tape, m.step.output, m.step.size, fun b hb hne => m.step.block b hb (fun hk => hne ((perm_keys p).mem_iff.2 hk))⟩, fun b hb => (m.key b hb).imp (fun h => (perm_keys p).mem_iff.2 h) id, m.le, fun b => (m.new b).imp id (fun h => h.imp (fun h => (perm_keys p).mem_iff.2 h) id)⟩
theorem y_minN {P : Program} {E : Env} {od : Option Tmp} {pos : String} {aft : Array Edge} {g : Option (Nat × Bool)} {t : TypeId} {ts : Array TypeId} {x y : Operand} {k k' : IntKind} {n m : Nat} (hx : E.op x = some (.int k (n : Int))) (hy : E.op y = some (.int k' (m : Int))) : Yld P E ⟨od, .call ⟨.builtin .min, #[x, y], ts⟩, t, pos, aft, g⟩ (.int k ((min n m : Nat) : Int)) := by
  have h : (if (m : Int) < n then (m : Int) else n) = ((min n m : Nat) : Int) := by split <;> omega
  rw [← h]; exact y_min hx hy
theorem y_maxN {P : Program} {E : Env} {od : Option Tmp} {pos : String} {aft : Array Edge} {g : Option (Nat × Bool)} {t : TypeId} {ts : Array TypeId} {x y : Operand} {k k' : IntKind} {n m : Nat} (hx : E.op x = some (.int k (n : Int))) (hy : E.op y = some (.int k' (m : Int))) : Yld P E ⟨od, .call ⟨.builtin .max, #[x, y], ts⟩, t, pos, aft, g⟩ (.int k ((max n m : Nat) : Int)) := by
  have h : (if (n : Int) < m then (m : Int) else n) = ((max n m : Nat) : Int) := by split <;> omega
  rw [← h]; exact y_max hx hy
theorem find_at {α : Type} {q : α → Bool} {l : List α} {i : Nat} {r : α} (h : (l.take i).find? q = none) (hr : l[i]? = some r) (hq : q r = true) : l.find? q = some r := by
  have hl := (List.getElem?_eq_some_iff.1 hr)
  obtain ⟨hi, he⟩ := hl
  rw [← List.take_append_drop i l, List.find?_append, h, Option.none_or, List.drop_eq_getElem_cons hi, he, List.find?_cons, hq]
theorem find_next {α : Type} {q : α → Bool} {l : List α} {i : Nat} {r : α} (h : (l.take i).find? q = none) (hr : l[i]? = some r) (hq : q r = false) : (l.take (i + 1)).find? q = none := by
  rw [List.take_add_one, hr, List.find?_append, h]
  simp [hq]
theorem indexOf_find {α : Type} (q : α → Bool) (l : List α) : (∃ (i : Nat) (r : α), indexOf q l = (i : Int) ∧ l[i]? = some r ∧ l.find? q = some r) ∨ (indexOf q l = -1 ∧ l.find? q = none) := by
  unfold indexOf
  split
  · rename_i ha
    obtain ⟨x, hx, hqx⟩ := List.any_eq_true.1 ha
    have hlt : l.findIdx q < l.length := List.findIdx_lt_length_of_exists ⟨x, hx, hqx⟩
    refine .inl ⟨l.findIdx q, l[l.findIdx q], rfl, List.getElem?_eq_getElem hlt, ?_⟩
    have hq : q l[l.findIdx q] = true := List.findIdx_getElem
    have hno : (l.take (l.findIdx q)).find? q = none := by
      rw [List.find?_eq_none]
      intro y hy
      obtain ⟨j, hj, rfl⟩ := List.mem_take_iff_getElem.1 hy
      have hj' : j < l.findIdx q := by omega
      have : q l[j] = false := List.not_of_lt_findIdx hj'
      simp [this]
    exact find_at hno (List.getElem?_eq_getElem hlt) hq
  · rename_i hn
    refine .inr ⟨rfl, ?_⟩
    rw [List.find?_eq_none]
    intro x hx
    have := List.any_eq_false.1 (Bool.not_eq_true _ ▸ hn) x hx
    simpa using this
end Go.Proofs.YtkdmbimkanjbhaaGreatDoor.Eng
namespace Go.Proofs.YtkdmbimkanjbhaaGreatDoor.Eng
open Go
section
variable {P : Program} {E : Env} {od : Option Tmp} {ty : TypeId} {pos : String} {aft : Array Edge} {g : Option (Nat × Bool)}
/-- A part of a string. -/
theorem y_slst {t : TypeId} {x : Operand} {s : ByteArray} {lo hi : Option Operand} {l h : Nat} (hk : stK P t = true) (hx : E.op x = some (.string s))
    (hlo : match lo with | none => l = 0 | some y => ∃ k, E.op y = some (.int k (l : Int))) (hhi : match hi with | none => h = s.size | some y => ∃ k, E.op y = some (.int k (h : Int))) (h1 : l ≤ h) (h2 : h ≤ s.size) :
    Yld P E ⟨od, .slice t x lo hi none, ty, pos, aft, g⟩ (.string (s.extract l h)) := fun q a w ha => by
  unfold stK at hk
  split at hk
  · rename_i hu
    have hb : (Instr.sliceBounds false s.size s.size (lo.map a.eval) (hi.map a.eval) none).run P w = .ok (l, h, s.size) w := by
      cases lo with
      | none =>
        simp only at hlo
        subst hlo
        cases hi with
        | none => simp only at hhi; subst hhi; simp [Instr.sliceBounds]
        | some y =>
          obtain ⟨k, hk'⟩ := hhi
          simp [Instr.sliceBounds, ha.eval hk', run_sliceBound, h2]
      | some z =>
        obtain ⟨kz, hz⟩ := hlo
        cases hi with
        | none => simp only at hhi; subst hhi; simp [Instr.sliceBounds, ha.eval hz, run_sliceBound, h1]
        | some y =>
          obtain ⟨k, hk'⟩ := hhi
          simp [Instr.sliceBounds, ha.eval hk', ha.eval hz, run_sliceBound, h1, h2]
    simp only [execOp, Instr.sliceAt, Sem.run_bind, run_underlying hu, Result.andThen_ok, ha.eval hx, Instr.slice, Option.map_none, Option.isSome_none, Bool.false_eq_true, if_false, hb, Sem.run_bind, Sem.run_pure, Result.andThen_ok]
  · cases hk
end
/-- What a call only computes it computes with the stone that was. -/
theorem Con.back {P : Program} {f : FuncId} {args : Array Value} {S : Stone} {v : Value} (h : Con P f args [] S (RetR fun u _ => u = v)) : Con P f args [] S (Ret v S) := fun w hw => by
  refine (h w hw).mono fun e w' ⟨u, I', S', he, m, hu, hI⟩ => ?_
  subst hI
  exact ⟨u, [], S, he, ⟨⟨by simp, by simp, fun b o hb => m.ok.stone b o (m.le b o hb), by simp⟩, m.step, by simp, Stone.le.refl S, fun _ => .inl rfl⟩, hu, rfl, rfl⟩
theorem t_eqn {c : Cx} {K : Act → World → Prop} {E : Env} {H H' : List Item} {S : Stone} {v : Value} {e size n : Nat} {xs : List Value} (n' : Nat) (hp : Pick H (.row v e size n xs) H') (hn : n = n') (h : Tr c K E (.row v e size n' xs :: H') S) : Tr c K E H S := by
  subst hn; exact t_perm hp.perm h
/-- The length of a row of one's own. -/
theorem ld_len {P : Program} {E : Env} {H : List Item} {S : Stone} {d : Option Tmp} {pos : String} {aft : Array Edge} {g : Option (Nat × Bool)} {t u : TypeId} {x : Operand} {v : Value} {e size n : Nat} {xs : List Value} {H' : List Item} (hk : (slK P u).isSome = true) (hx : E.op x = some v) (hp : Pick H (.row v e size n xs) H') :
    Ld P E H S ⟨d, .call ⟨.builtin .len, #[x], #[u]⟩, t, pos, aft, g⟩ (i64 n) := fun k a w ha hH hS => by
  have hrow : w.ownsRow 0 e size v n xs := hH _ hp.mem
  obtain ⟨_, ⟨rfl, rfl⟩ | ⟨g', cap', cur, rfl, _⟩⟩ := hrow
  · exact y_len hk hx k a w ha
  · exact y_len hk hx k a w ha
end Go.Proofs.YtkdmbimkanjbhaaGreatDoor.Eng
namespace Go.Proofs.YtkdmbimkanjbhaaGreatDoor.Eng
open Go
/-! ### maps from numbers to numbers -/
def mpK (P : Program) (t : TypeId) : Bool :=
  match P.underlying t with
  | some (.map kt et) => (match P.underlying kt with | some (.int .u64) => true | _ => false) && (match zrK P et with | some (.int .u64 0) => true | _ => false)
  | _ => false
/-- A map's entries, the numbers of them. -/
def MapN (es : Array MapEntry) (m : List (Nat × Nat)) : Prop := es.toList.map (fun e => (e.key, e.val)) = m.map fun p => (u64 p.1, u64 p.2)
def setN (m : List (Nat × Nat)) (k v : Nat) : List (Nat × Nat) :=
  match m with
  | [] => [(k, v)]
  | (j, u) :: m => if j = k then (k, v) :: m else (j, u) :: setN m k v
theorem lookup_setN : ∀ (m : List (Nat × Nat)) (k v j : Nat), (setN m k v).lookup j = if j = k then some v else m.lookup j
  | [], k, v, j => by
    by_cases e : j = k
    · subst e; simp [setN]
    · have : (j == k) = false := by simpa using e
      simp [setN, List.lookup, this, e]
  | (i, u) :: m, k, v, j => by
    simp only [setN]
    by_cases h : i = k
    · subst h
      by_cases e : j = i
      · subst e; simp
      · have : (j == i) = false := by simpa using e
        simp [List.lookup, this, e]
    · rw [if_neg h]
      by_cases e : j = i
      · subst e; simp [h]
      · have : (j == i) = false := by simpa using e
        simp only [List.lookup, this]
        exact lookup_setN m k v j
theorem findNow_of (k : Nat) : ∀ (es : List MapEntry) (m : List (Nat × Nat)) (i : Nat), es.map (fun e => (e.key, e.val)) = m.map (fun p => (u64 p.1, u64 p.2)) →
    Instr.findNow (.int .u64) (u64 k) es i = some ((m.findIdx? (fun p => p.1 == k)).bind fun j => (m[j]?).map fun p => (i + j, u64 p.2))
  | [], [], i, _ => by simp [Instr.findNow]
  | [], _ :: _, _, h => by simp at h
  | _ :: _, [], _, h => by simp at h
  | e :: es, (a, b) :: m, i, h => by
    simp only [List.map_cons, List.cons.injEq, Prod.mk.injEq] at h
    obtain ⟨⟨h1, h2⟩, h3⟩ := h
    simp only [Instr.findNow, h1, Instr.sameNow, h2]
    by_cases hk : a = k
    · subst hk
      simp [List.findIdx?_cons]
    · have e1 : ((k : Int) == (a : Int)) = false := by simp; omega
      have e2 : (a == k) = false := by simpa using hk
      simp only [if_true, e1, findNow_of k es m (i + 1) h3, List.findIdx?_cons, e2]
      cases List.findIdx? (fun p : Nat × Nat => p.1 == k) m with
      | none => simp
      | some j => simp; rw [show i + 1 + j = i + (j + 1) by omega]
theorem mpK_spec {P : Program} {t : TypeId} (h : mpK P t = true) : ∃ kt et, P.underlying t = some (.map kt et) ∧ P.underlying kt = some (.int .u64) ∧ ∀ w, (zeroValue et).run P w = .ok (.int .u64 0) w := by
  unfold mpK at h
  split at h
  · rename_i kt et hu
    simp only [Bool.and_eq_true] at h
    refine ⟨kt, et, hu, ?_, ?_⟩
    · have h1 := h.1
      split at h1
      · assumption
      · cases h1
    · have h2 := h.2
      split at h2
      · rename_i hz
        intro w
        unfold zrK at hz
        cases hi : P.info? et with
        | none => rw [hi] at hz; cases hz
        | some i =>
          rw [hi] at hz
          have hz' : i.zero = some (.int .u64 0) := by simpa using hz
          simp [zeroValue, typeInfo, hi, hz']
      · cases h2
  · cases h
theorem lookup_find : ∀ (m : List (Nat × Nat)) (k : Nat), ((m.findIdx? (fun p => p.1 == k)).bind fun j => (m[j]?).map fun p => p.2) = m.lookup k
  | [], k => by simp
  | (a, b) :: m, k => by
    by_cases hk : a = k
    · subst hk; simp [List.findIdx?_cons]
    · have e2 : (a == k) = false := by simpa using hk
      have e3 : (k == a) = false := by simpa using fun e : k = a => hk e.symm
      simp only [List.findIdx?_cons, e2, List.lookup, e3, ← lookup_find m k]
      cases List.findIdx? (fun p : Nat × Nat => p.1 == k) m with
      | none => simp
      | some j => simp
theorem setN_none : ∀ {m : List (Nat × Nat)} {k v : Nat}, m.findIdx? (fun p => p.1 == k) = none → setN m k v = m ++ [(k, v)]
  | [], k, v, _ => rfl
  | (a, b) :: m, k, v, h => by
    simp only [List.findIdx?_cons] at h
    split at h
    · cases h
    · rename_i hk
      have hk' : ¬ a = k := by simpa using hk
      have h' : m.findIdx? (fun p => p.1 == k) = none := by simpa using h
      simp only [setN, if_neg hk', setN_none h', List.cons_append]
theorem setN_some : ∀ {m : List (Nat × Nat)} {k v j : Nat}, m.findIdx? (fun p => p.1 == k) = some j → setN m k v = m.set j (k, v) ∧ j < m.length ∧ ∃ u, m[j]? = some (k, u)
  | [], k, v, j, h => by simp at h
  | (a, b) :: m, k, v, j, h => by
    simp only [List.findIdx?_cons] at h
    split at h
    · rename_i hk
      have hk' : a = k := by simpa using hk
      simp only [Option.some.injEq] at h
      subst h; subst hk'
      simp [setN]
    · rename_i hk
      have hk' : ¬ a = k := by simpa using hk
      cases hf : m.findIdx? (fun p => p.1 == k) with
      | none => rw [hf] at h; simp at h
      | some i =>
        rw [hf] at h
        simp only [Option.map_some, Option.some.injEq] at h
        subst h
        obtain ⟨h1, h2, u, h3⟩ := setN_some (v := v) hf
        exact ⟨by simp only [setN, if_neg hk', h1, List.set_cons_succ], by simp; omega, u, by simpa using h3⟩
section
variable {P : Program} {c : Cx} {K : Act → World → Prop} {Q : Exit → Act → World → Prop} {E : Env} {H : List Item} {S : Stone} {d : Tmp} {od : Option Tmp} {ty : TypeId} {pos : String} {aft : Array Edge} {g : Option (Nat × Bool)}
theorem t_map {t : TypeId} (hlt : Nat.blt d c.n = true) (h : ∀ b, Tr c K ((d, .map (some b)) :: E) (.blk b (.map #[] 0) :: H) S) : Tr c (OpW P ⟨some d, .makeMap t none, ty, pos, aft, g⟩ K Q) E H S := by
  refine t_blk (v := fun b => .map (some b)) rfl (lt_n hlt) (fun a w ha ho => ?_) h
  have hmk : (Instr.makeMap t none).run P w = .ok (.map (some w.heap.size)) (w.alloc (.map #[] 0)) := rfl
  simp [execOp, hmk]
theorem ld_map {t : TypeId} {x y : Operand} {b k clock : Nat} {es : Array MapEntry} {m : List (Nat × Nat)} {H' : List Item} (hk : mpK P t = true) (hx : E.op x = some (.map (some b))) (hy : E.op y = some (u64 k)) (hp : Pick H (.blk b (.map es clock)) H') (hm : MapN es m) :
    Ld P E H S ⟨od, .lookup t x y false, ty, pos, aft, g⟩ (u64 ((m.lookup k).getD 0)) := fun n a w ha hH _ => by
  obtain ⟨kt, et, hu, hkt, hz⟩ := mpK_spec hk
  have hb : w.heap[b]? = some (.map es clock) := hH _ hp.mem
  have hf := findNow_of k es.toList m 0 hm
  have hck : ∀ e, (Instr.checkKey e 10000 kt (u64 k)).run P w = .ok () w := fun e => by unfold Instr.checkKey; simp [run_underlying hkt]
  have hfk : (Instr.findKey kt (u64 k) es.toList).run P w = .ok ((List.findIdx? (fun p : Nat × Nat => p.1 == k) m).bind fun j => Option.map (fun p : Nat × Nat => (0 + j, u64 p.2)) m[j]?) w := by
    unfold Instr.findKey
    simp only [Sem.run_bind, run_underlying hkt, Result.andThen_ok, hf, Sem.run_pure]
  have hgo : (getObj b).run P w = .ok (.map es clock) w := by simp [getObj, Sem.run, hb]
  have hr : (Instr.lookup t (.map (some b)) (u64 k) false).run P w = .ok (u64 ((m.lookup k).getD 0)) w := by
    simp only [Instr.lookup, Sem.run_bind, run_underlying hu, Result.andThen_ok, hgo, Sem.run_pure, hck, hfk]
    rw [← lookup_find]
    cases hfi : List.findIdx? (fun p : Nat × Nat => p.1 == k) m with
    | none => simp [hz]
    | some j =>
      obtain ⟨_, _, u, hj⟩ := setN_some (v := 0) hfi
      simp [hj]
  simp [execOp, ha.eval hx, ha.eval hy, hr]
theorem mv_setObj {S : Stone} {w : World} {b : Nat} {o o' : Obj} (ho : Ok [.blk b o] S w) : Mv (keys [Item.blk b o]) S w [.blk b o'] S { w with heap := w.heap.setIfInBounds b o' } := by
  have hb : w.heap[b]? = some o := ho.item (.blk b o) (by simp)
  have hlt := (Array.getElem?_eq_some_iff.1 hb).1
  have hst : Step [b] w { w with heap := w.heap.setIfInBounds b o' } := ⟨rfl, rfl, rfl, by simp, fun k _ hk => by
    show (w.heap.setIfInBounds b o')[k]? = w.heap[k]?
    exact Array.getElem?_setIfInBounds_ne (fun e => hk (by simp [e]))⟩
  refine ⟨⟨?_, by simp [Item.keys], fun k o hk => ?_, fun k hk => ho.disj k (by simpa [Item.keys] using hk)⟩, by simpa [keys, Item.keys] using hst, fun k hk => .inl (by simpa [keys, Item.keys] using hk), Stone.le.refl S, fun _ => .inl rfl⟩
  · intro it hit
    simp only [List.mem_singleton] at hit
    subst hit
    show (w.heap.setIfInBounds b o')[b]? = some o'
    simp [hlt]
  · have hne : k ≠ b := fun e => by
      subst e
      have := ho.disj k (by simp [Item.keys])
      rw [this] at hk
      cases hk
    have h1 := ho.stone k o hk
    exact (hst.block k (Array.getElem?_eq_some_iff.1 h1).1 (by simp [hne])).trans h1
theorem t_mapset {t : TypeId} {x y z : Operand} {b k v clock : Nat} {es : Array MapEntry} {m : List (Nat × Nat)} {H' : List Item} (hk : mpK P t = true) (hx : E.op x = some (.map (some b))) (hy : E.op y = some (u64 k)) (hz : E.op z = some (u64 v)) (hp : Pick H (.blk b (.map es clock)) H') (hm : MapN es m)
    (h : ∀ es' clock', MapN es' (setN m k v) → Tr c K E (.blk b (.map es' clock') :: H') S) : Tr c (OpW P ⟨none, .mapUpdate t x y z, ty, pos, aft, g⟩ K Q) E H S := by
  obtain ⟨kt, et, hu, hkt, _⟩ := mpK_spec hk
  have hf := findNow_of k es.toList m 0 hm
  have hck : ∀ w e, (Instr.checkKey e 10000 kt (u64 k)).run P w = .ok () w := fun w e => by unfold Instr.checkKey; simp [run_underlying hkt]
  have hfk : ∀ w, (Instr.findKey kt (u64 k) es.toList).run P w = .ok ((List.findIdx? (fun p : Nat × Nat => p.1 == k) m).bind fun j => Option.map (fun p : Nat × Nat => (0 + j, u64 p.2)) m[j]?) w := fun w => by
    unfold Instr.findKey
    simp only [Sem.run_bind, run_underlying hkt, Result.andThen_ok, hf, Sem.run_pure]
  cases hfi : List.findIdx? (fun p : Nat × Nat => p.1 == k) m with
  | none =>
    refine t_skip (I := [.blk b (.map es clock)]) (I' := [.blk b (.map (es.push ⟨u64 k, u64 v, clock⟩) (clock + 1))]) (H' := H') (S' := S) hp.perm (fun a w ha ho => ?_) rfl (h _ _ ?_)
    · have hb : w.heap[b]? = some (.map es clock) := (ho.perm hp.perm).item (.blk b (.map es clock)) (by simp)
      have hgo : (getObj b).run P w = .ok (.map es clock) w := by simp [getObj, Sem.run, hb]
      have hso : (setObj b (.map (es.push ⟨u64 k, u64 v, clock⟩) (clock + 1))).run P w = .ok () { w with heap := w.heap.setIfInBounds b (.map (es.push ⟨u64 k, u64 v, clock⟩) (clock + 1)) } := by simp [setObj, Sem.run, hb]
      refine ⟨_, ?_, mv_setObj ((ho.perm hp.perm).left)⟩
      have hr : (Instr.mapUpdate t (.map (some b)) (u64 k) (u64 v)).run P w = .ok () { w with heap := w.heap.setIfInBounds b (.map (es.push ⟨u64 k, u64 v, clock⟩) (clock + 1)) } := by
        simp only [Instr.mapUpdate, Sem.run_bind, run_underlying hu, Result.andThen_ok, hgo, hck, hfk, hfi, Option.bind_none, hso]
      simp [execOp, ha.eval hx, ha.eval hy, ha.eval hz, hr]
    · unfold MapN at hm ⊢
      rw [setN_none hfi]
      simp [hm]
  | some j =>
    obtain ⟨hs, hj, u, hju⟩ := setN_some (v := v) hfi
    have hel : es.toList.length = m.length := by have := congrArg List.length hm; simpa using this
    have hej : j < es.size := by have : es.toList.length = es.size := by simp
                                 omega
    have hkey : (es[j]?).map (·.key) = some (u64 k) := by
      have := congrArg (fun l => l[j]?) hm
      simp only [List.getElem?_map, hju, Option.map_some, Array.getElem?_toList] at this
      cases he : es[j]? with
      | none => rw [he] at this; cases this
      | some e => rw [he] at this; simp at this; simp [this.1]
    refine t_skip (I := [.blk b (.map es clock)]) (I' := [.blk b (.map (es.modify j fun e => { e with key := u64 k, val := u64 v }) clock)]) (H' := H') (S' := S) hp.perm (fun a w ha ho => ?_) rfl (h _ _ ?_)
    · have hb : w.heap[b]? = some (.map es clock) := (ho.perm hp.perm).item (.blk b (.map es clock)) (by simp)
      have hgo : (getObj b).run P w = .ok (.map es clock) w := by simp [getObj, Sem.run, hb]
      have hso : (setObj b (.map (es.modify j fun e => { e with key := u64 k, val := u64 v }) clock)).run P w = .ok () { w with heap := w.heap.setIfInBounds b (.map (es.modify j fun e => { e with key := u64 k, val := u64 v }) clock) } := by simp [setObj, Sem.run, hb]
      have hst : (Instr.keyThatStays (u64 k) (u64 k)).run P w = .ok (u64 k) w := by simp [Instr.keyThatStays, Instr.sameBits]
      refine ⟨_, ?_, mv_setObj ((ho.perm hp.perm).left)⟩
      have hr : (Instr.mapUpdate t (.map (some b)) (u64 k) (u64 v)).run P w = .ok () { w with heap := w.heap.setIfInBounds b (.map (es.modify j fun e => { e with key := u64 k, val := u64 v }) clock) } := by
        simp only [Instr.mapUpdate, Sem.run_bind, run_underlying hu, Result.andThen_ok, hgo, hck, hfk, hfi, Option.bind_some, hju, Option.map_some, Nat.zero_add, hkey, Option.getD_some, hst, hso]
      simp [execOp, ha.eval hx, ha.eval hy, ha.eval hz, hr]
    · unfold MapN at hm ⊢
      rw [hs, List.map_set, ← hm]
      apply List.ext_getElem?
      intro i
      simp only [List.getElem?_map, Array.getElem?_toList, Array.getElem?_modify, List.getElem?_set, List.length_map, Array.length_toList]
      by_cases e : j = i
      · subst e
        simp [hej]
      · simp [e]
end
end Go.Proofs.YtkdmbimkanjbhaaGreatDoor.Eng
namespace Go.Proofs.YtkdmbimkanjbhaaGreatDoor.Eng
open Go
def bsK (P : Program) (s t : TypeId) : Bool :=
  match P.underlying s, P.underlying t with
  | some (.slice e), some .string => (match P.underlying e with | some (.int .u8) => true | _ => false)
  | _, _ => false
/-- A byte as a string. -/
def bs (b : Nat) : ByteArray := ⟨#[UInt8.ofNat b]⟩
theorem bs_list (b : Nat) : (bs b).toList = [UInt8.ofNat b] := by rw [ByteArray.toList_eq]; rfl
theorem bs_eq {a b : Nat} (ha : a < 256) (hb : b < 256) : ((bs a).toList == (bs b).toList) = (a == b) := by
  rw [bs_list, bs_list, Bool.eq_iff_iff]
  simp only [beq_iff_eq, List.cons.injEq, and_true]
  constructor
  · intro h
    have := congrArg UInt8.toNat h
    simp only [UInt8.toNat_ofNat'] at this
    omega
  · intro h; rw [h]
theorem ld_bs {P : Program} {E : Env} {H : List Item} {S : Stone} {od : Option Tmp} {ty : TypeId} {pos : String} {aft : Array Edge} {g : Option (Nat × Bool)} {s t : TypeId} {x : Operand} {v : Value} {b : Nat} (hk : bsK P s t = true) (hx : E.op x = some v) (h : Byt S v b) (hb : b < 256) :
    Ld P E H S ⟨od, .convert s t x, ty, pos, aft, g⟩ (.string (bs b)) := fun n a w ha _ hS => by
  obtain ⟨p, cap, rfl, _, _, hc⟩ := h
  unfold bsK at hk
  split at hk
  · rename_i e hs hd
    split at hk
    · rename_i he
      have hcell := stone_cell hS hc
      have hr := run_convert_bytes_back w s t e p cap [UInt8.ofNat b] hs he hd (fun j hj => by
        have : j = 0 := by simpa using hj
        subst this
        simp only [Addr.add, if_true]
        rw [hcell]
        simp [UInt8.toNat_ofNat', Nat.mod_eq_of_lt hb])
      have hr' : (convert s t (.slice (some p) 1 cap)).run P w = .ok (.string (bs b)) w := hr
      simp [execOp, ha.eval hx, hr']
    · cases hk
  · cases hk
end Go.Proofs.YtkdmbimkanjbhaaGreatDoor.Eng

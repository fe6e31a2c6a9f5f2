/-
  Part 0 of the proof of WholeBooks: Eng0, Eng1, Eng2, Eng3.
-/
import Derived.OrdersHeld
import Derived.Below
import Derived.KernelRfl
import Derived.Maps.AppendAt
import Derived.Deep.AppendLies
import Derived.Laws.OwnMore
import Derived.Laws.Slices
import Derived.Tactics
import Derived.Laws.Entries
import Derived.Laws.Cells
import Derived.Laws.Build
import Derived.Laws.Strings
/-! A small logic for walks: a world is told by a list of items that the call owns ('H') and a stone of blocks that never change ('S'). -/
namespace Go.Proofs.YtkdmbimkanjbhaaGreatDoor.Eng
open Go
/-! ### slots -/
abbrev Env := List (Nat × Value)
def Env.lk : Env → Nat → Option Value
  | [], _ => none
  | (j, v) :: E, i => bif Nat.beq j i then some v else Env.lk E i
def Env.op (E : Env) : Operand → Option Value
  | .tmp t => E.lk t
  | .const v => some v
  | .global g => some (.pointer (some ⟨g, 0, none⟩))
  | .func f => some (.func (.func f) #[] #[])
structure Env.ok (n : Nat) (E : Env) (a : Act) : Prop where
  size : a.tmps.size = n
  defers : a.defers = []
  lk : ∀ i v, E.lk i = some v → a.tmps.getD i undef = v
theorem Env.ok.eval {n : Nat} {E : Env} {a : Act} {x : Operand} {v : Value} (h : E.ok n a) (hx : E.op x = some v) : a.eval x = v := by
  cases x with
  | tmp t => exact h.lk t v hx
  | const u => simpa [Env.op, Act.eval] using hx
  | global g => simpa [Env.op, Act.eval] using hx
  | func f => simpa [Env.op, Act.eval] using hx
theorem Env.ok.put {n : Nat} {E : Env} {a : Act} {d : Nat} (h : E.ok n a) (hd : d < n) (v : Value) : Env.ok n ((d, v) :: E) (a.put (some d) v) := by
  refine ⟨by simp [Act.put, h.size], by simp [Act.put, h.defers], fun i u hi => ?_⟩
  have hs := h.size
  by_cases e : d = i
  · subst e
    have : v = u := by simpa [Env.lk] using hi
    subst this
    simp [Act.put, Array.getD_eq_getD_getElem?, hs, hd]
  · have hb : Nat.beq d i = false := by
      cases hh : Nat.beq d i with
      | false => rfl
      | true => exact absurd (Nat.eq_of_beq_eq_true hh) e
    have hi' : Env.lk E i = some u := by simpa [Env.lk, hb] using hi
    have := h.lk i u hi'
    simp only [Act.put, Array.getD_eq_getD_getElem?] at this ⊢
    rw [Array.getElem?_setIfInBounds_ne e]
    exact this
theorem Env.ok.putNone {n : Nat} {E : Env} {a : Act} (h : E.ok n a) (v : Value) : Env.ok n E (a.put none v) := h
/-- Fewer slots are told. -/
def Env.sub (E' E : Env) : Prop := ∀ i v, E'.lk i = some v → E.lk i = some v
theorem Env.ok.sub {n : Nat} {E E' : Env} {a : Act} (h : E.ok n a) (hs : Env.sub E' E) : E'.ok n a := ⟨h.size, h.defers, fun i v hi => h.lk i v (hs i v hi)⟩
theorem Env.sub_nil (E : Env) : Env.sub [] E := fun _ _ h => by cases h
theorem Env.sub_cons {E E' : Env} {i : Nat} {v : Value} (hv : E.lk i = some v) (h : Env.sub E' E) : Env.sub ((i, v) :: E') E := fun j u hj => by
  cases hb : Nat.beq i j with
  | true =>
    have := Nat.eq_of_beq_eq_true hb
    subst this
    have : v = u := by simpa [Env.lk, hb] using hj
    subst this
    exact hv
  | false => exact h j u (by simpa [Env.lk, hb] using hj)
/-! ### items -/
inductive Item where
  | blk (b : Nat) (o : Obj)
  | row (v : Value) (e : TypeId) (size n : Nat) (xs : List Value)
def Item.keys : Item → List Nat
  | .blk b _ => [b]
  | .row v _ _ _ _ => v.ownBlock.toList
def Item.holds : Item → World → Prop
  | .blk b o, w => w.heap[b]? = some o
  | .row v e size n xs, w => w.ownsRow 0 e size v n xs
theorem Item.holds_of {it : Item} {w w' : World} (h : it.holds w) (hk : ∀ b ∈ it.keys, w'.heap[b]? = w.heap[b]?) : it.holds w' := by
  cases it with
  | blk b o => exact (hk b (by simp [Item.keys])).trans h
  | row v e size n xs =>
    obtain ⟨h1, h2⟩ := h
    refine ⟨h1, ?_⟩
    rcases h2 with hn | ⟨g, cap, cur, rfl, hb, hg, rest⟩
    · exact .inl hn
    · exact .inr ⟨g, cap, cur, rfl, hb, (hk g (by simp [Item.keys, Value.ownBlock])).trans hg, rest⟩
theorem Item.key_lt {it : Item} {w : World} (h : it.holds w) : ∀ b ∈ it.keys, b < w.heap.size := by
  intro b hb
  cases it with
  | blk b' o =>
    have : b = b' := by simpa [Item.keys] using hb
    subst this
    exact (Array.getElem?_eq_some_iff.1 (show w.heap[b]? = some o from h)).1
  | row v e size n xs =>
    exact (World.ownsRow.lt h b (by simpa [Item.keys] using hb)).2
def keys (H : List Item) : List Nat := H.flatMap Item.keys
@[simp] theorem keys_nil : keys [] = [] := rfl
@[simp] theorem keys_cons (it : Item) (H : List Item) : keys (it :: H) = it.keys ++ keys H := rfl
@[simp] theorem keys_append (H H' : List Item) : keys (H ++ H') = keys H ++ keys H' := by simp [keys]
abbrev Stone := Nat → Option Obj
def Stone.le (S S' : Stone) : Prop := ∀ b o, S b = some o → S' b = some o
theorem Stone.le.refl (S : Stone) : Stone.le S S := fun _ _ h => h
theorem Stone.le.trans {S S' S'' : Stone} (h : Stone.le S S') (h' : Stone.le S' S'') : Stone.le S S'' := fun b o hb => h' b o (h b o hb)
def Stone.cell (S : Stone) (a : Addr) : Option Value :=
  match S a.block with
  | some (.cells c _ _) => if a.spot.isSome then none else c[a.off]?
  | _ => none
theorem Stone.le.cell {S S' : Stone} (h : Stone.le S S') {a : Addr} {v : Value} (hv : S.cell a = some v) : S'.cell a = some v := by
  unfold Stone.cell at *
  cases hb : S a.block with
  | none => rw [hb] at hv; cases hv
  | some o => rw [hb] at hv; rw [h _ _ hb]; exact hv
structure Ok (H : List Item) (S : Stone) (w : World) : Prop where
  item : ∀ it ∈ H, it.holds w
  nodup : (keys H).Nodup
  stone : ∀ b o, S b = some o → w.heap[b]? = some o
  disj : ∀ b ∈ keys H, S b = none
theorem mem_keys {H : List Item} {b : Nat} : b ∈ keys H ↔ ∃ it ∈ H, b ∈ it.keys := by simp [keys]
theorem Ok.lt {H : List Item} {S : Stone} {w : World} (h : Ok H S w) : ∀ b ∈ keys H, b < w.heap.size := fun b hb => by
  obtain ⟨it, hit, hbi⟩ := mem_keys.1 hb
  exact Item.key_lt (h.item it hit) b hbi
theorem Ok.cell {H : List Item} {S : Stone} {w : World} (h : Ok H S w) {a : Addr} {v : Value} (hv : S.cell a = some v) : w.cell? a = some v := by
  unfold Stone.cell at hv
  cases hb : S a.block with
  | none => rw [hb] at hv; cases hv
  | some o =>
    rw [hb] at hv
    unfold World.cell?
    rw [h.stone _ _ hb]
    exact hv
theorem perm_keys {H H' : List Item} (p : H.Perm H') : (keys H).Perm (keys H') := p.flatMap_right _
theorem Ok.perm {H H' : List Item} {S : Stone} {w : World} (h : Ok H S w) (p : H.Perm H') : Ok H' S w :=
  ⟨fun it hit => h.item it (p.mem_iff.2 hit), (perm_keys p).nodup_iff.1 h.nodup, h.stone, fun b hb => h.disj b ((perm_keys p).mem_iff.2 hb)⟩
theorem Ok.drop {I H : List Item} {S : Stone} {w : World} (h : Ok (I ++ H) S w) : Ok H S w :=
  ⟨fun it hit => h.item it (List.mem_append_right _ hit), (List.nodup_append.1 (by simpa using h.nodup)).2.1, h.stone, fun b hb => h.disj b (by simp [hb])⟩
theorem Ok.left {I H : List Item} {S : Stone} {w : World} (h : Ok (I ++ H) S w) : Ok I S w :=
  ⟨fun it hit => h.item it (List.mem_append_left _ hit), (List.nodup_append.1 (by simpa using h.nodup)).1, h.stone, fun b hb => h.disj b (by simp [hb])⟩
/-- The world has moved: of what was there, the blocks K alone may have turned. -/
structure Step (K : List Nat) (w w' : World) : Prop where
  os : w'.os = w.os
  tape : w'.tape = w.tape
  output : w'.output = w.output
  size : w.heap.size ≤ w'.heap.size
  block : ∀ b, b < w.heap.size → b ∉ K → w'.heap[b]? = w.heap[b]?
theorem Step.refl (K : List Nat) (w : World) : Step K w w := ⟨rfl, rfl, rfl, Nat.le_refl _, fun _ _ _ => rfl⟩
/-- From the items of K and the stone S at w to the items H' and the stone S' at w'. -/
structure Mv (K : List Nat) (S : Stone) (w : World) (H' : List Item) (S' : Stone) (w' : World) : Prop where
  ok : Ok H' S' w'
  step : Step K w w'
  key : ∀ b ∈ keys H', b ∈ K ∨ w.heap.size ≤ b
  le : Stone.le S S'
  new : ∀ b, S' b = S b ∨ b ∈ K ∨ w.heap.size ≤ b
theorem Mv.perm {K : List Nat} {S S' : Stone} {w w' : World} {H H' : List Item} (h : Mv K S w H S' w') (p : H.Perm H') : Mv K S w H' S' w' :=
  ⟨h.ok.perm p, h.step, fun b hb => h.key b ((perm_keys p).mem_iff.2 hb), h.le, h.new⟩
theorem Mv.drop {K : List Nat} {S S' : Stone} {w w' : World} {I H : List Item} (h : Mv K S w (I ++ H) S' w') : Mv K S w H S' w' :=
  ⟨h.ok.drop, h.step, fun b hb => h.key b (by simp [hb]), h.le, h.new⟩
theorem Mv.init {H : List Item} {S : Stone} {w : World} (h : Ok H S w) : Mv (keys H) S w H S w :=
  ⟨h, Step.refl _ _, fun _ hb => .inl hb, Stone.le.refl _, fun _ => .inl rfl⟩
/-- THE FRAME: a part of the items moves, the others stay. -/
theorem Mv.frame {K : List Nat} {S0 S S' : Stone} {w0 w w' : World} {I I' H : List Item} (h : Mv K S0 w0 (I ++ H) S w) (m : Mv (keys I) S w I' S' w') :
    Mv K S0 w0 (I' ++ H) S' w' := by
  have hnd := List.nodup_append.1 (by simpa using h.ok.nodup)
  have hI : ∀ b ∈ keys I, b ∈ K ∨ w0.heap.size ≤ b := fun b hb => h.key b (by simp [hb])
  have hH : ∀ b ∈ keys H, b ∉ keys I := fun b hb hb' => hnd.2.2 b hb' b hb rfl
  have hlt : ∀ b ∈ keys H, b < w.heap.size := fun b hb => h.ok.lt b (by simp [hb])
  have keep : ∀ b ∈ keys H, w'.heap[b]? = w.heap[b]? := fun b hb => m.step.block b (hlt b hb) (hH b hb)
  have hnew : ∀ b ∈ keys I', b ∉ keys H := fun b hb hb' => by
    rcases m.key b hb with h1 | h1
    · exact hH b hb' h1
    · have := hlt b hb'; omega
  refine ⟨⟨fun it hit => ?_, ?_, m.ok.stone, fun b hb => ?_⟩, ⟨m.step.os.trans h.step.os, m.step.tape.trans h.step.tape, m.step.output.trans h.step.output, Nat.le_trans h.step.size m.step.size, fun b hb hbK => ?_⟩, fun b hb => ?_, h.le.trans m.le, fun b => ?_⟩
  · rcases List.mem_append.1 hit with h1 | h1
    · exact m.ok.item it h1
    · exact Item.holds_of (h.ok.item it (List.mem_append_right _ h1)) (fun b hb => keep b (mem_keys.2 ⟨it, h1, hb⟩))
  · simp only [keys_append]
    refine List.nodup_append.2 ⟨m.ok.nodup, hnd.2.1, fun a ha b hb e => hnew a ha (e ▸ hb)⟩
  · simp only [keys_append, List.mem_append] at hb
    rcases hb with h1 | h1
    · exact m.ok.disj b h1
    · rcases m.new b with h2 | h2 | h2
      · rw [h2]; exact h.ok.disj b (by simp [h1])
      · exact absurd h2 (hH b h1)
      · have := hlt b h1; omega
  · have hb1 : b < w.heap.size := Nat.lt_of_lt_of_le hb h.step.size
    have hbI : b ∉ keys I := fun hi => by
      rcases hI b hi with h1 | h1
      · exact hbK h1
      · omega
    exact (m.step.block b hb1 hbI).trans (h.step.block b hb hbK)
  · simp only [keys_append, List.mem_append] at hb
    rcases hb with h1 | h1
    · rcases m.key b h1 with h2 | h2
      · exact hI b h2
      · exact .inr (Nat.le_trans h.step.size h2)
    · exact h.key b (by simp [h1])
  · rcases m.new b with h2 | h2 | h2
    · rw [h2]; exact h.new b
    · exact .inr (hI b h2)
    · exact .inr (.inr (Nat.le_trans h.step.size h2))
/-- A CONTRACT: from the items I and the stone S the call comes back with a value, items and a stone of which R tells. -/
def Con (P : Program) (f : FuncId) (args : Array Value) (I : List Item) (S : Stone) (R : Value → List Item → Stone → Prop) : Prop :=
  ∀ w, Ok I S w → Calls P f args w fun e w' => ∃ v I' S', e = .returned v ∧ Mv (keys I) S w I' S' w' ∧ R v I' S'
theorem Con.mono {P : Program} {f : FuncId} {args : Array Value} {I : List Item} {S : Stone} {R R' : Value → List Item → Stone → Prop} (h : Con P f args I S R) (hr : ∀ v I' S', R v I' S' → R' v I' S') : Con P f args I S R' :=
  fun w hw => (h w hw).mono fun _ _ ⟨v, I', S', e, m, r⟩ => ⟨v, I', S', e, m, hr _ _ _ r⟩
/-! ### states -/
structure Cx where
  n : Nat
  w0 : World
  K : List Nat
  S0 : Stone
def Run (c : Cx) (H : List Item) (S : Stone) (w : World) : Prop := Mv c.K c.S0 c.w0 H S w
/-- K holds in every state that is told by E, H and S. -/
def Tr (c : Cx) (K : Act → World → Prop) (E : Env) (H : List Item) (S : Stone) : Prop := ∀ a w, Env.ok c.n E a → Run c H S w → K a w
/-- One of the items is 'it', the others are H'. -/
inductive Pick : List Item → Item → List Item → Prop
  | hd {it : Item} {H : List Item} : Pick (it :: H) it H
  | tl {x it : Item} {H H' : List Item} : Pick H it H' → Pick (x :: H) it (x :: H')
theorem Pick.perm {H : List Item} {it : Item} {H' : List Item} (h : Pick H it H') : H.Perm ([it] ++ H') := by
  induction h with
  | hd => exact List.Perm.refl _
  | tl _ ih => exact (List.Perm.cons _ ih).trans (List.Perm.swap _ _ _)
end Go.Proofs.YtkdmbimkanjbhaaGreatDoor.Eng
namespace Go.Proofs.YtkdmbimkanjbhaaGreatDoor.Eng
open Go
/-! ### what an operation yields whatever the world is -/
def Yld (P : Program) (E : Env) (o : Oper) (v : Value) : Prop := ∀ n a w, Env.ok n E a → (execOp a.eval o).run P w = .ok (.value v) w
/-- What it yields in every world that has these items and this stone. -/
def Ld (P : Program) (E : Env) (H : List Item) (S : Stone) (o : Oper) (v : Value) : Prop :=
  ∀ n a w, Env.ok n E a → (∀ it ∈ H, it.holds w) → (∀ b o, S b = some o → w.heap[b]? = some o) → (execOp a.eval o).run P w = .ok (.value v) w
theorem Yld.ld {P : Program} {E : Env} {o : Oper} {v : Value} (h : Yld P E o v) (H : List Item) (S : Stone) : Ld P E H S o v := fun n a w ha _ _ => h n a w ha
def OpW (P : Program) (o : Oper) (K : Act → World → Prop) (Q : Exit → Act → World → Prop) : Act → World → Prop := fun a w => o.wp P a w K Q
section
variable {P : Program} {c : Cx} {K : Act → World → Prop} {Q : Exit → Act → World → Prop} {E : Env} {H : List Item} {S : Stone} {ops : Array Oper} {rest : List Oper} {o : Oper}
/-! ### lists of operations -/
theorem l_nil (h : Tr c (Q .normal) E H S) : Tr c (wpList P ops Q []) E H S := h
theorem l_cons (hg : o.guard = none) (h : Tr c (OpW P o (wpList P ops Q rest) Q) E H S) : Tr c (wpList P ops Q (o :: rest)) E H S := fun a w ha hr => by
  have hw : Region.wanted o (yielded ops a.tmps) = true := by simp [Region.wanted, hg]
  show wpList P ops Q (o :: rest) a w
  unfold wpList
  rw [if_pos hw]
  exact .inl (h a w ha hr)
/-- The slot that a guard looks at. -/
def gslot (ops : Array Oper) (o : Oper) : Option (Nat × Bool) :=
  match o.guard with
  | none => none
  | some (j, want) => ((ops[j]?).bind (·.dst)).map fun d => (d, want)
theorem wanted_of {d : Nat} {want b : Bool} {n : Nat} {a : Act} (hg : gslot ops o = some (d, want)) (ha : Env.ok n E a) (hb : E.lk d = some (.bool b)) :
    Region.wanted o (yielded ops a.tmps) = (b == want) := by
  unfold gslot at hg
  cases hgd : o.guard with
  | none => rw [hgd] at hg; cases hg
  | some jw =>
    obtain ⟨j, wt⟩ := jw
    rw [hgd] at hg
    simp only [Option.map_eq_some_iff, Prod.mk.injEq] at hg
    obtain ⟨d', hd', rfl, rfl⟩ := hg
    have h1 := ha.lk d' _ hb
    unfold Region.wanted
    rw [hgd]
    have h2 : a.tmps[d']? = some (.bool b) := by
      rw [Array.getD_eq_getD_getElem?] at h1
      cases h3 : a.tmps[d']? with
      | none => rw [h3] at h1; cases h1
      | some u => rw [h3] at h1; exact congrArg some h1
    simp only [yielded, hd', Option.bind_some, h2]
    cases b <;> cases wt <;> rfl
theorem l_yes {d : Nat} {want : Bool} (hg : gslot ops o = some (d, want)) (hb : E.lk d = some (.bool want)) (h : Tr c (OpW P o (wpList P ops Q rest) Q) E H S) :
    Tr c (wpList P ops Q (o :: rest)) E H S := fun a w ha hr => by
  have hw := wanted_of hg ha hb
  show wpList P ops Q (o :: rest) a w
  unfold wpList
  rw [if_pos (by rw [hw]; simp)]
  exact .inl (h a w ha hr)
theorem l_no {d d' : Nat} {want : Bool} (hg : gslot ops o = some (d, want)) (hb : E.lk d = some (.bool (!want))) (hd : o.dst = some d') (hlt : d' < c.n)
    (h : Tr c (wpList P ops Q rest) ((d', undef) :: E) H S) : Tr c (wpList P ops Q (o :: rest)) E H S := fun a w ha hr => by
  have hw := wanted_of hg ha hb
  show wpList P ops Q (o :: rest) a w
  unfold wpList
  rw [if_neg (by rw [hw]; cases want <;> simp), hd]
  exact h _ w (ha.put hlt _) hr
/-! ### one operation -/
theorem t_ld {d : Nat} {v : Value} (hy : Ld P E H S o v) (hd : o.dst = some d) (hlt : d < c.n) (h : Tr c K ((d, v) :: E) H S) : Tr c (OpW P o K Q) E H S := fun a w ha hr => by
  have hrun := hy c.n a w ha hr.ok.item hr.ok.stone
  show o.wp P a w K Q
  unfold Oper.wp
  rw [hrun, Oper.upon_value, hd]
  exact h _ w (ha.put hlt v) hr
theorem t_y {d : Nat} {v : Value} (hy : Yld P E o v) (hd : o.dst = some d) (hlt : d < c.n) (h : Tr c K ((d, v) :: E) H S) : Tr c (OpW P o K Q) E H S := t_ld (hy.ld H S) hd hlt h
/-- An operation that yields nothing and moves a part of the items. -/
theorem t_skip {I I' H' : List Item} {S' : Stone} (hp : H.Perm (I ++ H')) (hrun : ∀ a w, Env.ok c.n E a → Ok H S w → ∃ w', (execOp a.eval o).run P w = .ok .skip w' ∧ Mv (keys I) S w I' S' w') (hd : o.dst = none)
    (h : Tr c K E (I' ++ H') S') : Tr c (OpW P o K Q) E H S := fun a w ha hr => by
  obtain ⟨w', hrun, m⟩ := hrun a w ha hr.ok
  show o.wp P a w K Q
  unfold Oper.wp
  rw [hrun, Oper.upon_skip, hd]
  exact h _ w' (ha.putNone _) ((Mv.perm hr hp).frame m)
/-- An operation that yields a value of which something is known, and moves a part of the items. -/
theorem t_new {d : Nat} {I H' : List Item} (hp : H.Perm (I ++ H')) {R : Value → List Item → Stone → Prop}
    (hrun : ∀ a w, Env.ok c.n E a → Ok H S w → ∃ v w' I' S', (execOp a.eval o).run P w = .ok (.value v) w' ∧ Mv (keys I) S w I' S' w' ∧ R v I' S') (hd : o.dst = some d) (hlt : d < c.n)
    (h : ∀ v I' S', R v I' S' → Tr c K ((d, v) :: E) (I' ++ H') S') : Tr c (OpW P o K Q) E H S := fun a w ha hr => by
  obtain ⟨v, w', I', S', hrun, m, r⟩ := hrun a w ha hr.ok
  show o.wp P a w K Q
  unfold Oper.wp
  rw [hrun, Oper.upon_value, hd]
  exact h v I' S' r _ w' (ha.put hlt v) ((Mv.perm hr hp).frame m)
/-! ### code -/
theorem c_seq {x y : Code} (h : Tr c (x.wp P (Exit.then (y.wp P Q) Q)) E H S) : Tr c ((Code.seq x y).wp P Q) E H S := fun a w ha hr => wp_seq (h a w ha hr)
theorem c_skip (h : Tr c (Q .normal) E H S) : Tr c (Code.skip.wp P Q) E H S := fun a w ha hr => wp_skip (h a w ha hr)
theorem c_ret (h : Tr c (Q .ret) E H S) : Tr c (Code.ret.wp P Q) E H S := fun a w ha hr => wp_ret (h a w ha hr)
theorem c_exit {id : Nat} (h : Tr c (Q (.exit id)) E H S) : Tr c ((Code.exit id).wp P Q) E H S := fun a w ha hr => wp_exit (h a w ha hr)
theorem c_block {id : Nat} {x : Code} (h : Tr c (x.wp P (Exit.inBlock id Q)) E H S) : Tr c ((Code.block id x).wp P Q) E H S := fun a w ha hr => wp_block (h a w ha hr)
theorem c_region {id : Nat} {l : List Oper} (h : Tr c (wpList P l.toArray Q l) E H S) : Tr c ((Code.region id l.toArray false).wp P Q) E H S := fun a w ha hr => wp_region_lit (h a w ha hr)
theorem c_cond {x : Operand} {s t : Code} {b : Bool} (hx : E.op x = some (.bool b)) (ht : b = true → Tr c (s.wp P Q) E H S) (hf : b = false → Tr c (t.wp P Q) E H S) : Tr c ((Code.cond x s t).wp P Q) E H S :=
  fun a w ha hr => wp_cond_split (ha.eval hx) (fun e => ht e a w ha hr) (fun e => hf e a w ha hr)
theorem c_true {x : Operand} {s t : Code} (hx : E.op x = some (.bool true)) (ht : Tr c (s.wp P Q) E H S) : Tr c ((Code.cond x s t).wp P Q) E H S := fun a w ha hr => wp_cond_true (ha.eval hx) (ht a w ha hr)
theorem c_false {x : Operand} {s t : Code} (hx : E.op x = some (.bool false)) (ht : Tr c (t.wp P Q) E H S) : Tr c ((Code.cond x s t).wp P Q) E H S := fun a w ha hr => wp_cond_false (ha.eval hx) (ht a w ha hr)
/-! ### exits -/
theorem e_then {next : Act → World → Prop} (h : Tr c next E H S) : Tr c (Exit.then next Q .normal) E H S := h
theorem e_then_exit {next : Act → World → Prop} {i : Nat} (h : Tr c (Q (.exit i)) E H S) : Tr c (Exit.then next Q (.exit i)) E H S := h
theorem e_then_ret {next : Act → World → Prop} (h : Tr c (Q .ret) E H S) : Tr c (Exit.then next Q .ret) E H S := h
theorem e_in {id : Nat} (h : Tr c (Q .normal) E H S) : Tr c (Exit.inBlock id Q .normal) E H S := h
theorem e_in_same {id : Nat} (h : Tr c (Q .normal) E H S) : Tr c (Exit.inBlock id Q (.exit id)) E H S := fun a w ha hr => by
  show (if id = id then Q .normal a w else Q (.exit id) a w)
  rw [if_pos rfl]
  exact h a w ha hr
theorem e_in_other {id i : Nat} (hne : Nat.beq i id = false) (h : Tr c (Q (.exit i)) E H S) : Tr c (Exit.inBlock id Q (.exit i)) E H S := fun a w ha hr => by
  show (if i = id then Q .normal a w else Q (.exit i) a w)
  rw [if_neg (fun e => by subst e; rw [Nat.beq_refl] at hne; cases hne)]
  exact h a w ha hr
theorem e_in_ret {id : Nat} (h : Tr c (Q .ret) E H S) : Tr c (Exit.inBlock id Q .ret) E H S := h
/-! ### states -/
theorem t_perm {H' : List Item} (p : H.Perm H') (h : Tr c K E H' S) : Tr c K E H S := fun a w ha hr => h a w ha (Mv.perm hr p)
/-- Fewer slots, fewer items. -/
theorem t_weak {E' : Env} {H' G : List Item} (he : Env.sub E' E) (hp : H.Perm (G ++ H')) (h : Tr c K E' H' S) : Tr c K E H S := fun a w ha hr => h a w (ha.sub he) (Mv.perm hr hp).drop
theorem t_env {E' : Env} (he : Env.sub E' E) (h : Tr c K E' H S) : Tr c K E H S := fun a w ha hr => h a w (ha.sub he) hr
/-- An item is given up: what is in it never changes any more. -/
theorem t_stone {b : Nat} {ob : Obj} {H' : List Item} (hp : Pick H (.blk b ob) H') (h : ∀ S', Stone.le S S' → S' b = some ob → Tr c K E H' S') : Tr c K E H S := fun a w ha hr => by
  have m := Mv.perm hr hp.perm
  have hb : w.heap[b]? = some ob := m.ok.item (.blk b ob) (by simp)
  have hS : S b = none := m.ok.disj b (by simp [Item.keys])
  have hle : Stone.le S (fun k => if k = b then some ob else S k) := fun k o hk => by
    by_cases e : k = b
    · subst e; rw [hS] at hk; cases hk
    · simp only [e, if_false]; exact hk
  refine h _ hle (by simp) a w ha ?_
  have hnd := List.nodup_append.1 (by simpa using m.ok.nodup)
  have hm : Mv (keys [Item.blk b ob]) S w [] (fun k => if k = b then some ob else S k) w :=
    ⟨⟨by simp, by simp, fun k o hk => by
        by_cases e : k = b
        · subst e; simp only [if_true] at hk; exact hb.trans hk
        · simp only [e, if_false] at hk; exact m.ok.stone k o hk, by simp⟩, Step.refl _ _, by simp, hle, fun k => by
        by_cases e : k = b
        · subst e; exact .inr (.inl (by simp [Item.keys]))
        · simp [e]⟩
  exact Mv.frame m hm
/-- What a stone has of a row. -/
def SRow (S : Stone) (v : Value) (e : TypeId) (size n : Nat) (xs : List Value) : Prop :=
  xs.length = n * size ∧
  ((v = .slice none 0 0 ∧ n = 0) ∨
   ∃ g cap cur, v = .slice (some ⟨g, 0, none⟩) n cap ∧ S g = some (.cells cur e (0, 0)) ∧ n ≤ cap ∧ cap ≤ maxLen ∧ cur.size = cap * size ∧ cur.toList.take (n * size) = xs)
theorem t_stone_row {v : Value} {e : TypeId} {size n : Nat} {xs : List Value} {H' : List Item} (hp : Pick H (.row v e size n xs) H') (h : ∀ S', Stone.le S S' → SRow S' v e size n xs → Tr c K E H' S') : Tr c K E H S := fun a w ha hr => by
  have m := Mv.perm hr hp.perm
  have hrow : w.ownsRow 0 e size v n xs := m.ok.item (.row v e size n xs) (by simp)
  obtain ⟨hl, hn | ⟨g, cap, cur, rfl, h0, hg, hnc, hcm, hcs, htake⟩⟩ := hrow
  · exact h S (Stone.le.refl S) ⟨hl, .inl hn⟩ a w ha (Mv.drop (I := [_]) m)
  · have hm2 : Run c (.blk g (.cells cur e (0, 0)) :: H') S w := by
      have hm : Mv (keys [Item.row (.slice (some ⟨g, 0, none⟩) n cap) e size n xs]) S w [Item.blk g (.cells cur e (0, 0))] S w :=
        ⟨⟨by simpa [Item.holds] using hg, by simp [keys, Item.keys], m.ok.stone, fun b hb => m.ok.disj b (by simpa [keys, Item.keys, Value.ownBlock] using .inl (by simpa [keys, Item.keys] using hb))⟩, Step.refl _ _,
          fun b hb => .inl (by simpa [keys, Item.keys, Value.ownBlock] using hb), Stone.le.refl S, fun _ => .inl rfl⟩
      exact Mv.frame m hm
    exact t_stone (K := K) (E := E) Pick.hd (fun S' hle hS' => h S' hle ⟨hl, .inr ⟨g, cap, cur, rfl, hS', hnc, hcm, hcs, htake⟩⟩) a w ha hm2
end
/-! ### functions -/
def PostR (c : Cx) (R : Value → List Item → Stone → Prop) : Ending → World → Prop := fun e w' => ∃ v I' S', e = .returned v ∧ Mv c.K c.S0 c.w0 I' S' w' ∧ R v I' S'
def argEnv : Nat → List Value → Env
  | _, [] => []
  | i, v :: l => (i, v) :: argEnv (i + 1) l
theorem argEnv_lk : ∀ (l : List Value) (i j : Nat) (v : Value), Env.lk (argEnv i l) j = some v → i ≤ j ∧ l[j - i]? = some v
  | [], _, _, _, h => by cases h
  | u :: l, i, j, v, h => by
    cases hb : Nat.beq i j with
    | true =>
      have := Nat.eq_of_beq_eq_true hb
      subst this
      have : u = v := by simpa [argEnv, Env.lk, hb] using h
      subst this
      exact ⟨Nat.le_refl _, by simp⟩
    | false =>
      have h' : Env.lk (argEnv (i + 1) l) j = some v := by simpa [argEnv, Env.lk, hb] using h
      obtain ⟨h1, h2⟩ := argEnv_lk l (i + 1) j v h'
      refine ⟨by omega, ?_⟩
      have : j - i = (j - (i + 1)) + 1 := by omega
      rw [this]
      simpa using h2
theorem con_of {P : Program} {f : FuncId} {fn : Func} {b : Code} {args : List Value} {I : List Item} {S : Stone} {R : Value → List Item → Stone → Prop} (n : Nat) (hf : P.funcs[f]? = some fn) (hb : fn.body = some b) (hn : fn.ntmps = n) (hl : Nat.ble args.length n = true)
    (h : ∀ w0, Tr ⟨n, w0, keys I, S⟩ (b.wp P (bodyPost P fn (PostR ⟨n, w0, keys I, S⟩ R))) (argEnv 0 args) I S) : Con P f args.toArray I S R := by
  intro w hw
  have hl' : args.length ≤ n := Nat.le_of_ble_eq_true hl
  refine calls_of_wp hf hb ?_
  refine h w _ w ?_ (Mv.init hw)
  refine ⟨by simp [hn]; omega, rfl, fun i v hi => ?_⟩
  obtain ⟨_, hv⟩ := argEnv_lk args 0 i v hi
  simp only [Nat.sub_zero] at hv
  have hlt : i < args.length := (List.getElem?_eq_some_iff.1 hv).1
  have hv' := (List.getElem?_eq_some_iff.1 hv).2
  simp [Array.getElem?_append, hlt, hv']
end Go.Proofs.YtkdmbimkanjbhaaGreatDoor.Eng
namespace Go.Proofs.YtkdmbimkanjbhaaGreatDoor.Eng
open Go
/-! ### closed looks at the program's tables -/
def fldK (P : Program) (s : TypeId) (f : Nat) : Option Nat :=
  match P.underlying s with
  | some (.struct fs) => (fs[f]?).bind fun fl => (P.info? fl.type).bind fun i => if i.size = 0 then none else some fl.offset
  | _ => none
/-- A type's load: one cell, or so many. -/
def ldK (P : Program) (t : TypeId) : Option (Option Nat) :=
  match P.underlying t, P.info? t with
  | some (.struct _), some i => some (some i.size)
  | some (.array _ _), some i => some (some i.size)
  | some _, some _ => some none
  | _, _ => none
def szK (P : Program) (t : TypeId) : Option Nat := (P.info? t).map (·.size)
def slK (P : Program) (t : TypeId) : Option (TypeId × Nat) :=
  match P.underlying t with
  | some (.slice e) => (P.info? e).map fun i => (e, i.size)
  | _ => none
def arK (P : Program) (t : TypeId) : Option (Nat × TypeId × Nat) :=
  match P.underlying t with
  | some (.array n e) => (P.info? e).map fun i => (n, e, i.size)
  | _ => none
/-- A field of a struct by value: where it lies, and its load. -/
def fvK (P : Program) (s : TypeId) (f : Nat) : Option (Nat × Option Nat) :=
  match P.underlying s with
  | some (.struct fs) => (fs[f]?).bind fun fl => (ldK P fl.type).map fun k => (fl.offset, k)
  | _ => none
def stK (P : Program) (t : TypeId) : Bool := match P.underlying t with | some .string => true | _ => false
def blK (P : Program) (t : TypeId) : Bool := match P.underlying t with | some .bool => true | _ => false
def ifK (P : Program) (t : TypeId) : Bool := match P.underlying t with | some (.interface _) => true | _ => false
def ptK (P : Program) (t : TypeId) : Bool := match P.underlying t with | some (.pointer _) => true | _ => false
def coK (P : Program) (t : TypeId) : Bool := match P.underlying t with | some (.interface _) => false | some _ => true | none => false
def cvK (P : Program) (s d : TypeId) : Option IntKind :=
  match P.underlying s, P.underlying d with
  | some _, some (.int k) => some k
  | _, _ => none
def zrK (P : Program) (t : TypeId) : Option Value := (P.info? t).bind (·.zero)
/-- A struct's fields: where each lies, and how many cells it has. -/
def plK (P : Program) (t : TypeId) : Option (List (Nat × Nat)) :=
  match P.underlying t with
  | some (.struct fs) => fs.toList.mapM fun f => (P.info? f.type).map fun i => (f.offset, i.size)
  | _ => none
section
variable {P : Program} {E : Env} {H : List Item} {S : Stone} {d : Option Tmp} {ty : TypeId} {pos : String} {aft : Array Edge} {g : Option (Nat × Bool)}
theorem i64_in {x : Int} (h0 : -9223372036854775808 ≤ x) (h1 : x ≤ 9223372036854775807) : IntKind.i64.wrap x = x := by
  simp [IntKind.wrap, IntKind.signed, IntKind.bits]; omega
theorem u64_in {x : Int} (h0 : 0 ≤ x) (h1 : x ≤ 18446744073709551615) : IntKind.u64.wrap x = x := by
  simp [IntKind.wrap, IntKind.signed, IntKind.bits]; omega
theorem u8_in {x : Int} (h0 : 0 ≤ x) (h1 : x ≤ 255) : IntKind.u8.wrap x = x := by
  simp [IntKind.wrap, IntKind.signed, IntKind.bits]; omega
theorem y_move {x : Operand} {v : Value} (hx : E.op x = some v) : Yld P E ⟨d, .move x, ty, pos, aft, g⟩ v := fun n a w ha => by simp [execOp, ha.eval hx]
theorem y_assign {x : Operand} {v : Value} (hx : E.op x = some v) : Yld P E ⟨d, .assign x, ty, pos, aft, g⟩ v := fun n a w ha => by simp [execOp, ha.eval hx]
theorem y_nil {x : Operand} {p : Addr} (hx : E.op x = some (.pointer (some p))) : Yld P E ⟨d, .nilCheck x, ty, pos, aft, g⟩ (.pointer (some p)) := fun n a w ha => by simp [execOp, ha.eval hx]
theorem y_nilf {x : Operand} {f : FuncId} {l1 l2 : Array Value} (hx : E.op x = some (.func (.func f) l1 l2)) : Yld P E ⟨d, .nilCheck x, ty, pos, aft, g⟩ (.func (.func f) l1 l2) := fun n a w ha => by simp [execOp, ha.eval hx]
theorem y_pick_t {x y z : Operand} {v : Value} (hx : E.op x = some (.bool true)) (hy : E.op y = some v) : Yld P E ⟨d, .pick x y z, ty, pos, aft, g⟩ v := fun n a w ha => by simp [execOp, ha.eval hx, ha.eval hy, asBool]
theorem y_pick_f {x y z : Operand} {v : Value} (hx : E.op x = some (.bool false)) (hz : E.op z = some v) : Yld P E ⟨d, .pick x y z, ty, pos, aft, g⟩ v := fun n a w ha => by simp [execOp, ha.eval hx, ha.eval hz, asBool]
theorem y_pick {x y z : Operand} {b : Bool} {u v : Value} (hx : E.op x = some (.bool b)) (hy : E.op y = some u) (hz : E.op z = some v) : Yld P E ⟨d, .pick x y z, ty, pos, aft, g⟩ (if b then u else v) := fun n a w ha => by
  cases b <;> simp [execOp, ha.eval hx, ha.eval hy, ha.eval hz, asBool]
theorem y_fa {s : TypeId} {f off : Nat} {x : Operand} {p : Addr} (hk : fldK P s f = some off) (hx : E.op x = some (.pointer (some p))) :
    Yld P E ⟨d, .fieldAddr s x f, ty, pos, aft, g⟩ (.pointer (some (p.add off))) := fun n a w ha => by
  unfold fldK at hk
  split at hk
  · rename_i fs hs
    cases hf : fs[f]? with
    | none => rw [hf] at hk; cases hk
    | some fl =>
      rw [hf] at hk
      simp only [Option.bind_some] at hk
      cases hi : P.info? fl.type with
      | none => rw [hi] at hk; cases hk
      | some i =>
        rw [hi] at hk
        simp only [Option.bind_some] at hk
        split at hk
        · cases hk
        · rename_i h0
          simp only [Option.some.injEq] at hk
          subst hk
          simp [execOp, ha.eval hx, Instr.fieldAt, run_underlying hs, hf, Instr.sureAddr, fieldPlace, sizeOf, typeInfo, hi, h0]
  · cases hk
theorem ite_cells {α β : Type} (b : Bool) (x y : β) (f : β → α) : (if b then f x else f y) = f (if b then x else y) := by cases b <;> rfl
theorem run_isAgg_one {t : TypeId} {w : World} (hk : ldK P t = some none) : (isAgg t).run P w = .ok false w := by
  unfold ldK at hk
  cases hu : P.underlying t with
  | none => rw [hu] at hk; cases hk
  | some u =>
    cases hi : P.info? t with
    | none => rw [hu, hi] at hk; cases u <;> cases hk
    | some i =>
      rw [hu, hi] at hk
      cases u <;> first | (simp [isAgg, run_underlying hu]; done) | cases hk
theorem run_isAgg_many {t : TypeId} {m : Nat} {w : World} (hk : ldK P t = some (some m)) : (isAgg t).run P w = .ok true w ∧ (sizeOf t).run P w = .ok m w := by
  unfold ldK at hk
  cases hu : P.underlying t with
  | none => rw [hu] at hk; cases hk
  | some u =>
    cases hi : P.info? t with
    | none => rw [hu, hi] at hk; cases u <;> cases hk
    | some i =>
      rw [hu, hi] at hk
      cases u <;> first
        | (simp only [Option.some.injEq] at hk; subst hk; exact ⟨by simp [isAgg, run_underlying hu], by simp [sizeOf, typeInfo, hi]⟩)
        | (simp at hk; done)
theorem run_loadVar_one {t : TypeId} {p : Addr} {v : Value} {w : World} (hk : ldK P t = some none) (hv : w.cell? p = some v) : (loadVar t p).run P w = .ok v w := by
  simp [loadVar, run_isAgg_one hk, run_load, hv]
theorem run_loadVar_many {t : TypeId} {m : Nat} {p : Addr} {vs : List Value} {w : World} (hk : ldK P t = some (some m)) (hl : vs.length = m) (hv : ∀ j v, vs[j]? = some v → w.cell? (p.add j) = some v) : (loadVar t p).run P w = .ok (.agg vs.toArray) w := by
  have h := run_loadCells_list (P := P) (w := w) p vs hv
  simp [loadVar, (run_isAgg_many hk).1, (run_isAgg_many (P := P) (w := w) hk).2, ← hl, h]
theorem ld_cell {t : TypeId} {x : Operand} {p : Addr} {v : Value} (hk : ldK P t = some none) (hx : E.op x = some (.pointer (some p)))
    (hv : ∀ w, (∀ it ∈ H, it.holds w) → (∀ b o, S b = some o → w.heap[b]? = some o) → w.cell? p = some v) : Ld P E H S ⟨d, .load t x, ty, pos, aft, g⟩ v := fun n a w ha hH hS => by
  simp [execOp, ha.eval hx, Instr.loadAt, Instr.sureAddr, run_loadVar_one hk (hv w hH hS)]
theorem ld_cells {t : TypeId} {x : Operand} {p : Addr} {m : Nat} {vs : List Value} (hk : ldK P t = some (some m)) (hx : E.op x = some (.pointer (some p))) (hl : vs.length = m)
    (hv : ∀ w, (∀ it ∈ H, it.holds w) → (∀ b o, S b = some o → w.heap[b]? = some o) → ∀ j v, vs[j]? = some v → w.cell? (p.add j) = some v) : Ld P E H S ⟨d, .load t x, ty, pos, aft, g⟩ (.agg vs.toArray) := fun n a w ha hH hS => by
  simp [execOp, ha.eval hx, Instr.loadAt, Instr.sureAddr, run_loadVar_many hk hl (hv w hH hS)]
theorem add_lit (b off k : Nat) : (⟨b, off, none⟩ : Addr).add k = ⟨b, off + k, none⟩ := by unfold Addr.add; split <;> simp_all
theorem cell_at {w : World} {b off : Nat} {cs : Array Value} {T : TypeId} {fz : Nat × Nat} (h : w.heap[b]? = some (.cells cs T fz)) : w.cell? ⟨b, off, none⟩ = cs[off]? := by simp [World.cell?, h]
theorem Pick.mem {H H' : List Item} {it : Item} (h : Pick H it H') : it ∈ H := h.perm.mem_iff.2 (by simp)
theorem ld_blk {t : TypeId} {x : Operand} {b off : Nat} {cs : List Value} {T : TypeId} {fz : Nat × Nat} {v : Value} {H' : List Item} (hk : ldK P t = some none) (hx : E.op x = some (.pointer (some ⟨b, off, none⟩)))
    (hp : Pick H (.blk b (.cells cs.toArray T fz)) H') (hc : cs[off]? = some v) : Ld P E H S ⟨d, .load t x, ty, pos, aft, g⟩ v :=
  ld_cell hk hx fun w hH _ => by
    have h : w.heap[b]? = some (.cells cs.toArray T fz) := hH _ hp.mem
    rw [cell_at h]
    simpa using hc
theorem ld_blks {t : TypeId} {x : Operand} {b off m : Nat} {cs : List Value} {T : TypeId} {fz : Nat × Nat} {vs : List Value} {H' : List Item} (hk : ldK P t = some (some m)) (hx : E.op x = some (.pointer (some ⟨b, off, none⟩)))
    (hp : Pick H (.blk b (.cells cs.toArray T fz)) H') (hc : (cs.drop off).take m = vs) (hl : vs.length = m) : Ld P E H S ⟨d, .load t x, ty, pos, aft, g⟩ (.agg vs.toArray) :=
  ld_cells hk hx hl fun w hH _ j v hj => by
    have h : w.heap[b]? = some (.cells cs.toArray T fz) := hH _ hp.mem
    have hjl : j < m := by rw [← hl]; exact (List.getElem?_eq_some_iff.1 hj).1
    rw [add_lit, cell_at h]
    rw [← hc, List.getElem?_take, if_pos hjl, List.getElem?_drop] at hj
    simpa using hj
theorem stone_cell {w : World} {p : Addr} {v : Value} (hS : ∀ b o, S b = some o → w.heap[b]? = some o) (hv : S.cell p = some v) : w.cell? p = some v := by
  unfold Stone.cell at hv
  cases hb : S p.block with
  | none => rw [hb] at hv; cases hv
  | some o => rw [hb] at hv; unfold World.cell?; rw [hS _ _ hb]; exact hv
theorem ld_st {t : TypeId} {x : Operand} {p : Addr} {v : Value} (hk : ldK P t = some none) (hx : E.op x = some (.pointer (some p))) (hv : S.cell p = some v) : Ld P E H S ⟨d, .load t x, ty, pos, aft, g⟩ v :=
  ld_cell hk hx fun _ _ hS => stone_cell hS hv
theorem ld_sts {t : TypeId} {x : Operand} {p : Addr} {m : Nat} {vs : List Value} (hk : ldK P t = some (some m)) (hx : E.op x = some (.pointer (some p))) (hl : vs.length = m)
    (hv : ∀ j v, vs[j]? = some v → S.cell (p.add j) = some v) : Ld P E H S ⟨d, .load t x, ty, pos, aft, g⟩ (.agg vs.toArray) :=
  ld_cells hk hx hl fun _ _ hS j v hj => stone_cell hS (hv j v hj)
/-- A cell of a row of the call's own. -/
theorem row_cell {w : World} {gb n cap e size : Nat} {xs : List Value} {j : Nat} {v : Value} (h : w.ownsRow 0 e size (.slice (some ⟨gb, 0, none⟩) n cap) n xs) (hv : xs[j]? = some v) : w.cell? ⟨gb, j, none⟩ = some v := by
  have := h.cells (g := gb) rfl j v hv
  rwa [add_lit, Nat.zero_add] at this
theorem ld_row {t : TypeId} {x : Operand} {gb off n cap e size : Nat} {xs : List Value} {v : Value} {H' : List Item} (hk : ldK P t = some none) (hx : E.op x = some (.pointer (some ⟨gb, off, none⟩)))
    (hp : Pick H (.row (.slice (some ⟨gb, 0, none⟩) n cap) e size n xs) H') (hc : xs[off]? = some v) : Ld P E H S ⟨d, .load t x, ty, pos, aft, g⟩ v :=
  ld_cell hk hx fun w hH _ => row_cell (hH _ hp.mem) hc
theorem ld_rows {t : TypeId} {x : Operand} {gb off n cap e size m : Nat} {xs vs : List Value} {H' : List Item} (hk : ldK P t = some (some m)) (hx : E.op x = some (.pointer (some ⟨gb, off, none⟩)))
    (hp : Pick H (.row (.slice (some ⟨gb, 0, none⟩) n cap) e size n xs) H') (hc : (xs.drop off).take m = vs) (hl : vs.length = m) : Ld P E H S ⟨d, .load t x, ty, pos, aft, g⟩ (.agg vs.toArray) :=
  ld_cells hk hx hl fun w hH _ j v hj => by
    have hjl : j < m := by rw [← hl]; exact (List.getElem?_eq_some_iff.1 hj).1
    rw [add_lit]
    rw [← hc, List.getElem?_take, if_pos hjl, List.getElem?_drop] at hj
    exact row_cell (hH _ hp.mem) hj
/-! ### numbers -/
theorem y_add {t u : TypeId} {x y : Operand} {k : IntKind} {p q r : Int} (hx : E.op x = some (.int k p)) (hy : E.op y = some (.int k q)) (hr : k.wrap (p + q) = r) : Yld P E ⟨d, .binOp .add t x y u, ty, pos, aft, g⟩ (.int k r) := fun n a w ha => by
  subst hr; simp [execOp, ha.eval hx, ha.eval hy, eqGuard, binOp, Op.intArith]
theorem y_sub {t u : TypeId} {x y : Operand} {k : IntKind} {p q r : Int} (hx : E.op x = some (.int k p)) (hy : E.op y = some (.int k q)) (hr : k.wrap (p - q) = r) : Yld P E ⟨d, .binOp .sub t x y u, ty, pos, aft, g⟩ (.int k r) := fun n a w ha => by
  subst hr; simp [execOp, ha.eval hx, ha.eval hy, eqGuard, binOp, Op.intArith]
theorem y_mul {t u : TypeId} {x y : Operand} {k : IntKind} {p q r : Int} (hx : E.op x = some (.int k p)) (hy : E.op y = some (.int k q)) (hr : k.wrap (p * q) = r) : Yld P E ⟨d, .binOp .mul t x y u, ty, pos, aft, g⟩ (.int k r) := fun n a w ha => by
  subst hr; simp [execOp, ha.eval hx, ha.eval hy, eqGuard, binOp, Op.intArith]
theorem y_rem {t u : TypeId} {x y : Operand} {k : IntKind} {p q : Int} (hx : E.op x = some (.int k p)) (hy : E.op y = some (.int k q)) (h0 : q ≠ 0) : Yld P E ⟨d, .binOp .rem t x y u, ty, pos, aft, g⟩ (.int k (p.tmod q)) := fun n a w ha => by
  simp [execOp, ha.eval hx, ha.eval hy, eqGuard, binOp, Op.intDiv, h0]
theorem y_quo {t u : TypeId} {x y : Operand} {k : IntKind} {p q r : Int} (hx : E.op x = some (.int k p)) (hy : E.op y = some (.int k q)) (h0 : q ≠ 0) (hr : k.wrap (p.tdiv q) = r) : Yld P E ⟨d, .binOp .quo t x y u, ty, pos, aft, g⟩ (.int k r) := fun n a w ha => by
  subst hr; simp [execOp, ha.eval hx, ha.eval hy, eqGuard, binOp, Op.intDiv, h0]
theorem y_eq {t u : TypeId} {x y : Operand} {k : IntKind} {p q : Int} (hx : E.op x = some (.int k p)) (hy : E.op y = some (.int k q)) : Yld P E ⟨d, .binOp .eql t x y u, ty, pos, aft, g⟩ (.bool (p == q)) := fun n a w ha => by
  simp [execOp, ha.eval hx, ha.eval hy, eqGuard, binOp, Op.intCmp]
theorem y_ne {t u : TypeId} {x y : Operand} {k : IntKind} {p q : Int} (hx : E.op x = some (.int k p)) (hy : E.op y = some (.int k q)) : Yld P E ⟨d, .binOp .neq t x y u, ty, pos, aft, g⟩ (.bool (p != q)) := fun n a w ha => by
  simp [execOp, ha.eval hx, ha.eval hy, eqGuard, binOp, Op.intCmp]
theorem y_lt {t u : TypeId} {x y : Operand} {k : IntKind} {p q : Int} (hx : E.op x = some (.int k p)) (hy : E.op y = some (.int k q)) : Yld P E ⟨d, .binOp .lss t x y u, ty, pos, aft, g⟩ (.bool (decide (p < q))) := fun n a w ha => by
  simp [execOp, ha.eval hx, ha.eval hy, eqGuard, binOp, Op.intCmp]
theorem y_le {t u : TypeId} {x y : Operand} {k : IntKind} {p q : Int} (hx : E.op x = some (.int k p)) (hy : E.op y = some (.int k q)) : Yld P E ⟨d, .binOp .leq t x y u, ty, pos, aft, g⟩ (.bool (decide (p ≤ q))) := fun n a w ha => by
  simp [execOp, ha.eval hx, ha.eval hy, eqGuard, binOp, Op.intCmp]
theorem y_gt {t u : TypeId} {x y : Operand} {k : IntKind} {p q : Int} (hx : E.op x = some (.int k p)) (hy : E.op y = some (.int k q)) : Yld P E ⟨d, .binOp .gtr t x y u, ty, pos, aft, g⟩ (.bool (decide (q < p))) := fun n a w ha => by
  simp [execOp, ha.eval hx, ha.eval hy, eqGuard, binOp, Op.intCmp]
theorem y_ge {t u : TypeId} {x y : Operand} {k : IntKind} {p q : Int} (hx : E.op x = some (.int k p)) (hy : E.op y = some (.int k q)) : Yld P E ⟨d, .binOp .geq t x y u, ty, pos, aft, g⟩ (.bool (decide (q ≤ p))) := fun n a w ha => by
  simp [execOp, ha.eval hx, ha.eval hy, eqGuard, binOp, Op.intCmp]
theorem y_not {t : TypeId} {x : Operand} {b : Bool} (hx : E.op x = some (.bool b)) : Yld P E ⟨d, .unOp .not t x, ty, pos, aft, g⟩ (.bool (!b)) := fun n a w ha => by simp [execOp, ha.eval hx, Op.unary]
theorem y_neg {t : TypeId} {x : Operand} {k : IntKind} {p r : Int} (hx : E.op x = some (.int k p)) (hr : k.wrap (0 - p) = r) : Yld P E ⟨d, .unOp .neg t x, ty, pos, aft, g⟩ (.int k r) := fun n a w ha => by
  subst hr; simp [execOp, ha.eval hx, Op.unary, Op.intArith]
theorem y_conv {s t : TypeId} {x : Operand} {j k : IntKind} {p r : Int} (hk : cvK P s t = some k) (hx : E.op x = some (.int j p)) (hr : k.wrap p = r) : Yld P E ⟨d, .convert s t x, ty, pos, aft, g⟩ (.int k r) := fun n a w ha => by
  subst hr
  unfold cvK at hk
  split at hk
  · rename_i u k' hs hd
    simp only [Option.some.injEq] at hk
    subst hk
    have : (convert s t (.int j p)).run P w = .ok (.int k' (k'.wrap p)) w := by
      simp only [convert, Sem.run_bind, run_underlying hs, run_underlying hd, Result.andThen_ok]
      cases u <;> rfl
    simp [execOp, ha.eval hx, this]
  · cases hk
/-! ### strings, bools, interfaces, pointers -/
theorem y_seq {t u : TypeId} {x y : Operand} {p q : ByteArray} (hx : E.op x = some (.string p)) (hy : E.op y = some (.string q)) : Yld P E ⟨d, .binOp .eql t x y u, ty, pos, aft, g⟩ (.bool (p.toList == q.toList)) := fun n a w ha => by
  simp [execOp, ha.eval hx, ha.eval hy, eqGuard, binOp, Op.stringOp]
theorem y_sne {t u : TypeId} {x y : Operand} {p q : ByteArray} (hx : E.op x = some (.string p)) (hy : E.op y = some (.string q)) : Yld P E ⟨d, .binOp .neq t x y u, ty, pos, aft, g⟩ (.bool (!(p.toList == q.toList))) := fun n a w ha => by
  simp [execOp, ha.eval hx, ha.eval hy, eqGuard, binOp, Op.stringOp]
theorem y_slt {t u : TypeId} {x y : Operand} {p q : ByteArray} (hx : E.op x = some (.string p)) (hy : E.op y = some (.string q)) : Yld P E ⟨d, .binOp .lss t x y u, ty, pos, aft, g⟩ (.bool (Op.bytesLess p.toList q.toList)) := fun n a w ha => by
  simp [execOp, ha.eval hx, ha.eval hy, eqGuard, binOp, Op.stringOp]
theorem y_sle {t u : TypeId} {x y : Operand} {p q : ByteArray} (hx : E.op x = some (.string p)) (hy : E.op y = some (.string q)) : Yld P E ⟨d, .binOp .leq t x y u, ty, pos, aft, g⟩ (.bool (Op.bytesLess p.toList q.toList || p.toList == q.toList)) := fun n a w ha => by
  simp [execOp, ha.eval hx, ha.eval hy, eqGuard, binOp, Op.stringOp]
theorem y_sgt {t u : TypeId} {x y : Operand} {p q : ByteArray} (hx : E.op x = some (.string p)) (hy : E.op y = some (.string q)) : Yld P E ⟨d, .binOp .gtr t x y u, ty, pos, aft, g⟩ (.bool (!(Op.bytesLess p.toList q.toList || p.toList == q.toList))) := fun n a w ha => by
  simp [execOp, ha.eval hx, ha.eval hy, eqGuard, binOp, Op.stringOp]
theorem y_sge {t u : TypeId} {x y : Operand} {p q : ByteArray} (hx : E.op x = some (.string p)) (hy : E.op y = some (.string q)) : Yld P E ⟨d, .binOp .geq t x y u, ty, pos, aft, g⟩ (.bool (!(Op.bytesLess p.toList q.toList))) := fun n a w ha => by
  simp [execOp, ha.eval hx, ha.eval hy, eqGuard, binOp, Op.stringOp]
theorem run_und {t : TypeId} {u : TypeDesc} {w : World} (h : P.underlying t = some u) : (underlying t).run P w = .ok u w := run_underlying h w
theorem run_equalIn_bool {t : TypeId} {w : World} (m : Nat) {p q : Bool} (hk : blK P t = true) : (Op.equalIn (m + 1) t (.bool p) (.bool q)).run P w = .ok (p == q) w := by
  unfold blK at hk
  split at hk
  · rename_i hu; simp [Op.equalIn, run_und hu]
  · cases hk
theorem run_equalIn_inil {t T : TypeId} {w : World} (m : Nat) {v : Value} (hk : ifK P t = true) : (Op.equalIn (m + 1) t (.iface T v) .nilIface).run P w = .ok false w := by
  unfold ifK at hk
  split at hk
  · rename_i hu; simp [Op.equalIn, run_und hu]
  · cases hk
theorem run_equalIn_nilnil {t : TypeId} {w : World} (m : Nat) (hk : ifK P t = true) : (Op.equalIn (m + 1) t .nilIface .nilIface).run P w = .ok true w := by
  unfold ifK at hk
  split at hk
  · rename_i hu; simp [Op.equalIn, run_und hu]
  · cases hk
theorem run_equalIn_pnil {t : TypeId} {w : World} (m : Nat) {p : Option Addr} (hk : ptK P t = true) : (Op.equalIn (m + 1) t (.pointer p) (.pointer none)).run P w = .ok p.isNone w := by
  unfold ptK at hk
  split at hk
  · rename_i hu; cases p <;> simp [Op.equalIn, run_und hu]
  · cases hk
theorem run_eql_of {t : TypeId} {w : World} {x y : Value} {b : Bool} (hb : binOp .eql t x y = (do pure (.bool (← Op.equal t x y)))) (h : ∀ m, (Op.equalIn (m + 1) t x y).run P w = .ok b w) : (binOp .eql t x y).run P w = .ok (.bool b) w := by
  rw [hb]
  have : (Op.equal t x y).run P w = .ok b w := h 9999
  simp only [Sem.run_bind, this, Result.andThen_ok, Sem.run_pure]
theorem run_neq_of {t : TypeId} {w : World} {x y : Value} {b : Bool} (hb : binOp .neq t x y = (do pure (.bool (!(← Op.equal t x y))))) (h : ∀ m, (Op.equalIn (m + 1) t x y).run P w = .ok b w) : (binOp .neq t x y).run P w = .ok (.bool (!b)) w := by
  rw [hb]
  have : (Op.equal t x y).run P w = .ok b w := h 9999
  simp only [Sem.run_bind, this, Result.andThen_ok, Sem.run_pure]
theorem run_bin {op : BinOp} {t u : TypeId} {x y : Operand} {p q r : Value} {a : Act} {w : World} (hx : a.eval x = p) (hy : a.eval y = q) (hg : (eqGuard op t x y p q).run P w = .ok () w) (hr : (binOp op t p q).run P w = .ok r w) :
    (execOp a.eval ⟨d, .binOp op t x y u, ty, pos, aft, g⟩).run P w = .ok (.value r) w := by
  subst hx; subst hy
  simp only [execOp, Sem.run_bind, hg, Result.andThen_ok, hr, Sem.run_pure]
theorem y_beq {t u : TypeId} {x y : Operand} {p q : Bool} (hk : blK P t = true) (hx : E.op x = some (.bool p)) (hy : E.op y = some (.bool q)) : Yld P E ⟨d, .binOp .eql t x y u, ty, pos, aft, g⟩ (.bool (p == q)) := fun _n _a _w ha =>
  run_bin (ha.eval hx) (ha.eval hy) rfl (run_eql_of rfl fun m => run_equalIn_bool m hk)
theorem y_bne {t u : TypeId} {x y : Operand} {p q : Bool} (hk : blK P t = true) (hx : E.op x = some (.bool p)) (hy : E.op y = some (.bool q)) : Yld P E ⟨d, .binOp .neq t x y u, ty, pos, aft, g⟩ (.bool (!(p == q))) := fun _n _a _w ha =>
  run_bin (ha.eval hx) (ha.eval hy) rfl (run_neq_of rfl fun m => run_equalIn_bool m hk)
theorem y_inil {t u T : TypeId} {x : Operand} {v : Value} (hk : ifK P t = true) (hx : E.op x = some (.iface T v)) : Yld P E ⟨d, .binOp .eql t x (.const .nilIface) u, ty, pos, aft, g⟩ (.bool false) := fun _n _a _w ha =>
  run_bin (ha.eval hx) rfl rfl (run_eql_of rfl fun m => run_equalIn_inil m hk)
theorem y_innil {t u T : TypeId} {x : Operand} {v : Value} (hk : ifK P t = true) (hx : E.op x = some (.iface T v)) : Yld P E ⟨d, .binOp .neq t x (.const .nilIface) u, ty, pos, aft, g⟩ (.bool true) := fun _n _a _w ha =>
  run_bin (ha.eval hx) rfl rfl (run_neq_of rfl fun m => run_equalIn_inil m hk)
theorem run_guard_nil {op : BinOp} {t : TypeId} {x : Operand} {w : World} : (eqGuard op t x (.const .nilIface) .nilIface .nilIface).run P w = .ok () w := by
  cases op <;> simp [eqGuard]
theorem y_inil0 {t u : TypeId} {x : Operand} (hk : ifK P t = true) (hx : E.op x = some .nilIface) : Yld P E ⟨d, .binOp .eql t x (.const .nilIface) u, ty, pos, aft, g⟩ (.bool true) := fun _n _a _w ha =>
  run_bin (ha.eval hx) rfl run_guard_nil (run_eql_of rfl fun m => run_equalIn_nilnil m hk)
theorem y_innil0 {t u : TypeId} {x : Operand} (hk : ifK P t = true) (hx : E.op x = some .nilIface) : Yld P E ⟨d, .binOp .neq t x (.const .nilIface) u, ty, pos, aft, g⟩ (.bool false) := fun _n _a _w ha =>
  run_bin (ha.eval hx) rfl run_guard_nil (run_neq_of rfl fun m => run_equalIn_nilnil m hk)
theorem y_pnil {t u : TypeId} {x : Operand} {p : Option Addr} (hk : ptK P t = true) (hx : E.op x = some (.pointer p)) : Yld P E ⟨d, .binOp .eql t x (.const (.pointer none)) u, ty, pos, aft, g⟩ (.bool p.isNone) := fun _n _a _w ha =>
  run_bin (ha.eval hx) rfl rfl (run_eql_of rfl fun m => run_equalIn_pnil m hk)
theorem y_mi {t : TypeId} {x : Operand} {v : Value} (hk : coK P t = true) (hx : E.op x = some v) : Yld P E ⟨d, .makeInterface t x, ty, pos, aft, g⟩ (.iface t v) := fun n a w ha => by
  unfold coK at hk
  cases hu : P.underlying t with
  | none => rw [hu] at hk; cases hk
  | some u =>
    rw [hu] at hk
    have : (Instr.makeInterface t v).run P w = .ok (.iface t v) w := by
      simp only [Instr.makeInterface, Sem.run_bind, run_und hu, Result.andThen_ok]
      cases u <;> first | rfl | (simp at hk; done)
    simp [execOp, ha.eval hx, this]
theorem y_ext {x : Operand} {vs : Array Value} {i : Nat} {v : Value} (hx : E.op x = some (.tuple vs)) (hi : vs[i]? = some v) : Yld P E ⟨d, .extract x i, ty, pos, aft, g⟩ v := fun n a w ha => by
  simp [execOp, ha.eval hx, Instr.extract, hi]
theorem y_fv {s : TypeId} {f off : Nat} {x : Operand} {cs : List Value} {v : Value} (hk : fvK P s f = some (off, none)) (hx : E.op x = some (.agg cs.toArray)) (hc : cs[off]? = some v) : Yld P E ⟨d, .field s x f, ty, pos, aft, g⟩ v := fun n a w ha => by
  unfold fvK at hk
  split at hk
  · rename_i fs hs
    cases hf : fs[f]? with
    | none => rw [hf] at hk; cases hk
    | some fl =>
      rw [hf] at hk
      simp only [Option.bind_some, Option.map_eq_some_iff, Prod.mk.injEq] at hk
      obtain ⟨k, hk1, rfl, rfl⟩ := hk
      simp [execOp, ha.eval hx, Instr.field, run_und hs, hf, asAgg, part, run_isAgg_one hk1, hc]
  · cases hk
theorem y_fvs {s : TypeId} {f off m : Nat} {x : Operand} {cs vs : List Value} (hk : fvK P s f = some (off, some m)) (hx : E.op x = some (.agg cs.toArray)) (hc : (cs.drop off).take m = vs) : Yld P E ⟨d, .field s x f, ty, pos, aft, g⟩ (.agg vs.toArray) := fun n a w ha => by
  unfold fvK at hk
  split at hk
  · rename_i fs hs
    cases hf : fs[f]? with
    | none => rw [hf] at hk; cases hk
    | some fl =>
      rw [hf] at hk
      simp only [Option.bind_some, Option.map_eq_some_iff, Prod.mk.injEq] at hk
      obtain ⟨k, hk1, rfl, rfl⟩ := hk
      subst hc
      simp [execOp, ha.eval hx, Instr.field, run_und hs, hf, asAgg, part, (run_isAgg_many (w := w) hk1).1, (run_isAgg_many (w := w) hk1).2, List.take_drop]
  · cases hk
theorem y_mf {fn : Fn} {l1 l2 : Array Operand} {v1 v2 : List Value} (h1 : l1.toList.map E.op = v1.map some) (h2 : l2.toList.map E.op = v2.map some) : Yld P E ⟨d, .makeFunc fn l1 l2, ty, pos, aft, g⟩ (.func fn v1.toArray v2.toArray) := fun n a w ha => by
  have key : ∀ (l : List Operand) (v : List Value), l.map E.op = v.map some → l.map a.eval = v := by
    intro l
    induction l with
    | nil => intro v h; cases v with | nil => rfl | cons _ _ => cases h
    | cons x l ih =>
      intro v h
      cases v with
      | nil => cases h
      | cons u v =>
        simp only [List.map_cons, List.cons.injEq] at h ⊢
        exact ⟨ha.eval h.1, ih v h.2⟩
  have e1 : l1.map a.eval = v1.toArray := by apply Array.ext'; simpa using key _ _ h1
  have e2 : l2.map a.eval = v2.toArray := by apply Array.ext'; simpa using key _ _ h2
  simp [execOp, Instr.makeFunc, e1, e2]
end
end Go.Proofs.YtkdmbimkanjbhaaGreatDoor.Eng
namespace Go.Proofs.YtkdmbimkanjbhaaGreatDoor.Eng
open Go
def zcK (P : Program) (t : TypeId) : Option (List Value) := ((P.info? t).bind (·.zero)).map (·.cells.toList)
/-- A slice type for append: its element's type, cells, bytes. -/
def apK (P : Program) (t : TypeId) : Option (TypeId × Nat × Nat) :=
  match P.underlying t with
  | some (.slice e) => (P.info? e).bind fun i => i.zero.bind fun z => if z.cells.size = i.size ∧ 0 < i.size then some (e, i.size, i.bytes) else none
  | _ => none
def enK (P : Program) (f : FuncId) : Bool := match P.funcs[f]? with | some fn => !(fn.name == "runtime.NumGoroutine") && fn.body.isSome | none => false
theorem zcK_spec {P : Program} {t : TypeId} {l : List Value} (h : zcK P t = some l) : ∃ z, z.cells = l.toArray ∧ ∀ w, (zeroValue t).run P w = .ok z w := by
  unfold zcK at h
  cases hi : P.info? t with
  | none => rw [hi] at h; cases h
  | some i =>
    rw [hi] at h
    cases hz : i.zero with
    | none => simp [hz] at h
    | some z =>
      simp only [Option.bind_some, hz, Option.map_some, Option.some.injEq] at h
      refine ⟨z, by subst h; simp, fun w => by simp [zeroValue, typeInfo, hi, hz]⟩
theorem apK_spec {P : Program} {t e : TypeId} {size bytes : Nat} (h : apK P t = some (e, size, bytes)) :
    ∃ i z, P.underlying t = some (.slice e) ∧ P.info? e = some i ∧ i.zero = some z ∧ i.size = size ∧ i.bytes = bytes ∧ z.cells.size = size ∧ 0 < size := by
  unfold apK at h
  split at h
  · rename_i e' hu
    cases hi : P.info? e' with
    | none => rw [hi] at h; cases h
    | some i =>
      rw [hi] at h
      cases hz : i.zero with
      | none => simp [hz] at h
      | some z =>
        simp only [Option.bind_some, hz] at h
        split at h
        · rename_i hc
          simp only [Option.some.injEq, Prod.mk.injEq] at h
          obtain ⟨rfl, rfl, rfl⟩ := h
          exact ⟨i, z, hu, hi, hz, rfl, rfl, hc.1, hc.2⟩
        · cases h
  · cases h
section
variable {P : Program} {c : Cx} {K : Act → World → Prop} {Q : Exit → Act → World → Prop} {E : Env} {H : List Item} {S : Stone}
variable {d : Tmp} {ty : TypeId} {pos : String} {aft : Array Edge} {g : Option (Nat × Bool)}
/-! ### new blocks -/
theorem mv_alloc {S : Stone} {w : World} (hS : ∀ b o, S b = some o → w.heap[b]? = some o) (o : Obj) : Mv [] S w [.blk w.heap.size o] S (w.alloc o) := by
  have hst : Step [] w (w.alloc o) := ⟨rfl, rfl, rfl, by simp, fun b hb _ => heap_alloc_old w o b hb⟩
  refine ⟨⟨?_, by simp [Item.keys], fun b o' hb => ?_, ?_⟩, hst, ?_, Stone.le.refl S, fun _ => .inl rfl⟩
  · intro it hit
    simp only [List.mem_singleton] at hit
    subst hit
    exact heap_alloc_new w o
  · have h1 := hS b o' hb
    exact (hst.block b (Array.getElem?_eq_some_iff.1 h1).1 (by simp)).trans h1
  · intro b hb
    simp [Item.keys] at hb
    subst hb
    cases hh : S w.heap.size with
    | none => rfl
    | some o' =>
      have := (Array.getElem?_eq_some_iff.1 (hS _ _ hh)).1
      omega
  · intro b hb
    simp [Item.keys] at hb
    exact .inr (by omega)
theorem mv_drew {K : List Nat} {S : Stone} {w w' : World} {H' : List Item} {S' : Stone} (h : Mv K S w.drew H' S' w') : Mv K S w H' S' w' := ⟨h.ok, ⟨h.step.os, h.step.tape, h.step.output, h.step.size, h.step.block⟩, h.key, h.le, h.new⟩
theorem Ok.none {H : List Item} {S : Stone} {w : World} (h : Ok H S w) : Ok [] S w := ⟨by simp, by simp, h.stone, by simp⟩
/-- A new block. -/
theorem t_blk {o : Oper} {ob : Obj} {v : Nat → Value} (hd : o.dst = some d) (hlt : d < c.n)
    (hrun : ∀ a w, Env.ok c.n E a → Ok H S w → (execOp a.eval o).run P w = .ok (.value (v w.heap.size)) (w.alloc ob))
    (h : ∀ b, Tr c K ((d, v b) :: E) (.blk b ob :: H) S) : Tr c (OpW P o K Q) E H S :=
  t_new (I := []) (H' := H) (List.Perm.refl _) (R := fun u I' S' => S' = S ∧ ∃ b, u = v b ∧ I' = [.blk b ob])
    (fun a w ha ho => ⟨_, _, _, _, hrun a w ha ho, mv_alloc ho.stone ob, rfl, _, rfl, rfl⟩) hd hlt
    (fun u I' S' ⟨e1, b, e2, e3⟩ => by subst e1; subst e2; subst e3; exact h b)
theorem t_alloc {e : TypeId} {zs : List Value} (hz : zcK P e = some zs) (hlt : d < c.n) (h : ∀ b, Tr c K ((d, .pointer (some ⟨b, 0, none⟩)) :: E) (.blk b (.cells zs.toArray e (0, 0)) :: H) S) :
    Tr c (OpW P ⟨some d, .alloc e, ty, pos, aft, g⟩ K Q) E H S := by
  obtain ⟨z, hzc, hzr⟩ := zcK_spec hz
  refine t_blk (v := fun b => .pointer (some ⟨b, 0, none⟩)) rfl hlt (fun a w ha ho => ?_) h
  simp [execOp, Instr.alloc, hzr w, newVar, newRow, hzc]
theorem t_box {e : TypeId} {x : Operand} {v : Value} {cs : List Value} (hx : E.op x = some v) (hc : v.cells = cs.toArray) (hlt : d < c.n) (h : ∀ b, Tr c K ((d, .pointer (some ⟨b, 0, none⟩)) :: E) (.blk b (.cells cs.toArray e (0, 0)) :: H) S) :
    Tr c (OpW P ⟨some d, .box e x, ty, pos, aft, g⟩ K Q) E H S := by
  refine t_blk (v := fun b => .pointer (some ⟨b, 0, none⟩)) rfl hlt (fun a w ha ho => ?_) h
  simp [execOp, Instr.box, newVar, newRow, ha.eval hx, hc]
/-! ### stores -/
theorem mv_set {S : Stone} {w : World} {b : Nat} {cs cs' : Array Value} {T : TypeId} (ho : Ok [.blk b (.cells cs T (0, 0))] S w) :
    Mv (keys [Item.blk b (.cells cs T (0, 0))]) S w [.blk b (.cells cs' T (0, 0))] S (w.setRow b cs') := by
  have hb : w.heap[b]? = some (.cells cs T (0, 0)) := ho.item (.blk b (.cells cs T (0, 0))) (by simp)
  have hst : Step [b] w (w.setRow b cs') := ⟨rfl, rfl, rfl, by simp, fun k _ hk => setRow_other w b k cs' (fun e => hk (by simp [e]))⟩
  refine ⟨⟨?_, by simp [Item.keys], fun k o hk => ?_, fun k hk => ho.disj k (by simpa [Item.keys] using hk)⟩, by simpa [keys, Item.keys] using hst, fun k hk => .inl (by simpa [keys, Item.keys] using hk), Stone.le.refl S, fun _ => .inl rfl⟩
  · intro it hit
    simp only [List.mem_singleton] at hit
    subst hit
    exact setRow_heap w b cs cs' T (0, 0) hb
  · have hne : k ≠ b := fun e => by
      subst e
      have := ho.disj k (by simp [Item.keys])
      rw [this] at hk
      cases hk
    have h1 := ho.stone k o hk
    exact (hst.block k (Array.getElem?_eq_some_iff.1 h1).1 (by simp [hne])).trans h1
theorem run_storeVar {t : TypeId} {b off m : Nat} {v : Value} {vs : List Value} {cs : Array Value} {T : TypeId} {w : World} (hk : szK P t = some m) (hv : v.cells = vs.toArray) (hl : vs.length = m) (h1 : vs.all Value.oneCell' = true)
    (hb : w.heap[b]? = some (.cells cs T (0, 0))) (hfit : off + m ≤ cs.size) : (storeVar t ⟨b, off, none⟩ v).run P w = .ok () (w.setRow b (cs.toList.take off ++ vs ++ cs.toList.drop (off + m)).toArray) := by
  unfold szK at hk
  cases hi : P.info? t with
  | none => rw [hi] at hk; cases hk
  | some i =>
    rw [hi] at hk
    have hs : i.size = m := by simpa using hk
    have hst := run_storeCells_at P b off T vs 0 cs w hb (by omega) (fun u hu => List.all_eq_true.1 h1 u hu)
    simp only [Nat.add_zero] at hst
    simp [storeVar, hv, sizeOf, typeInfo, hi, hs, hl, hst]
theorem t_st {t : TypeId} {x y : Operand} {b off m : Nat} {v : Value} {vs cs cs' : List Value} {T : TypeId} {H' : List Item} (hk : szK P t = some m) (hx : E.op x = some (.pointer (some ⟨b, off, none⟩))) (hy : E.op y = some v)
    (hv : v.cells = vs.toArray) (hl : vs.length = m) (h1 : vs.all Value.oneCell' = true) (hp : Pick H (.blk b (.cells cs.toArray T (0, 0))) H') (hfit : off + m ≤ cs.length) (hcs : cs.take off ++ vs ++ cs.drop (off + m) = cs')
    (h : Tr c K E (.blk b (.cells cs'.toArray T (0, 0)) :: H') S) : Tr c (OpW P ⟨none, .store t x y, ty, pos, aft, g⟩ K Q) E H S := by
  refine t_skip (I := [.blk b (.cells cs.toArray T (0, 0))]) (I' := [.blk b (.cells cs'.toArray T (0, 0))]) (H' := H') (S' := S) hp.perm (fun a w ha ho => ?_) rfl h
  have hb : w.heap[b]? = some (.cells cs.toArray T (0, 0)) := (ho.perm hp.perm).item (.blk b (.cells cs.toArray T (0, 0))) (by simp)
  refine ⟨_, ?_, mv_set ((ho.perm hp.perm).left)⟩
  have hr := run_storeVar (P := P) (t := t) (v := v) (off := off) hk hv hl h1 hb (by simpa using hfit)
  simp [execOp, ha.eval hx, ha.eval hy, Instr.storeAt, Instr.sureAddr, hr, ← hcs]
/-- A whole block. -/
theorem t_stw {t : TypeId} {x y : Operand} {b m : Nat} {v : Value} {vs cs : List Value} {T : TypeId} {H' : List Item} (hk : szK P t = some m) (hx : E.op x = some (.pointer (some ⟨b, 0, none⟩))) (hy : E.op y = some v)
    (hv : v.cells = vs.toArray) (hl : vs.length = m) (h1 : vs.all Value.oneCell' = true) (hp : Pick H (.blk b (.cells cs.toArray T (0, 0))) H') (hfit : cs.length = m)
    (h : Tr c K E (.blk b (.cells vs.toArray T (0, 0)) :: H') S) : Tr c (OpW P ⟨none, .store t x y, ty, pos, aft, g⟩ K Q) E H S :=
  t_st hk hx hy hv hl h1 hp (by omega) (by simp [← hfit]) h
/-- One cell. -/
theorem t_st1 {t : TypeId} {x y : Operand} {b off : Nat} {v : Value} {cs : List Value} {T : TypeId} {H' : List Item} (hk : szK P t = some 1) (hx : E.op x = some (.pointer (some ⟨b, off, none⟩))) (hy : E.op y = some v)
    (h1 : v.oneCell' = true) (hp : Pick H (.blk b (.cells cs.toArray T (0, 0))) H') (hfit : off < cs.length)
    (h : Tr c K E (.blk b (.cells (cs.set off v).toArray T (0, 0)) :: H') S) : Tr c (OpW P ⟨none, .store t x y, ty, pos, aft, g⟩ K Q) E H S := by
  refine t_st (vs := [v]) hk hx hy (by cases v <;> first | rfl | (simp [Value.oneCell'] at h1; done)) rfl (by simp [h1]) hp (by omega) ?_ h
  rw [List.set_eq_take_append_cons_drop, if_pos hfit]
  simp
/-- Into a row of the call's own. -/
theorem mv_row {S : Stone} {w w' : World} {v v' : Value} {e size n n' : Nat} {xs xs' : List Value} (ho : Ok [.row v e size n xs] S w) (hg : w.grownBy w' v.ownBlock) (hrow : w'.ownsRow 0 e size v' n' xs')
    (hat : v'.ownBlock = v.ownBlock ∨ v'.ownBlock = some w.heap.size) : Mv (keys [Item.row v e size n xs]) S w [.row v' e size n' xs'] S w' := by
  have hst : Step (keys [Item.row v e size n xs]) w w' := ⟨hg.os, hg.tape, hg.output, hg.size, fun k hk hne => hg.block k hk (fun e' => hne (by simp [Item.keys, ← e']))⟩
  have hkeys : ∀ b ∈ keys [Item.row v' e size n' xs'], b ∈ keys [Item.row v e size n xs] ∨ b = w.heap.size := fun b hb => by
    simp only [keys_cons, keys_nil, List.append_nil, Item.keys, Option.mem_toList] at hb ⊢
    rcases hat with h1 | h1
    · rw [h1] at hb; exact .inl hb
    · rw [h1] at hb; exact .inr (by simpa using hb.symm)
  have hSn : ∀ b, S b ≠ none → b ∉ keys [Item.row v e size n xs] := fun b hb hk => hb (ho.disj b hk)
  refine ⟨⟨fun it hit => ?_, ?_, fun k o hk => ?_, fun k hk => ?_⟩, hst, fun b hb => ?_, Stone.le.refl S, fun _ => .inl rfl⟩
  · simp only [List.mem_singleton] at hit
    subst hit
    exact hrow
  · simp only [keys_cons, keys_nil, List.append_nil, Item.keys]
    cases v'.ownBlock <;> simp
  · have h1 := ho.stone k o hk
    exact (hst.block k (Array.getElem?_eq_some_iff.1 h1).1 (hSn k (by rw [hk]; simp))).trans h1
  · rcases hkeys k hk with h1 | h1
    · exact ho.disj k h1
    · cases hh : S k with
      | none => rfl
      | some o =>
        have := (Array.getElem?_eq_some_iff.1 (ho.stone k o hh)).1
        omega
  · rcases hkeys b hb with h1 | h1
    · exact .inl h1
    · exact .inr (by omega)
theorem t_str {t : TypeId} {x y : Operand} {gb off m n cap e size : Nat} {v : Value} {vs xs : List Value} {H' : List Item} (hk : szK P t = some m) (hx : E.op x = some (.pointer (some ⟨gb, off, none⟩))) (hy : E.op y = some v)
    (hv : v.cells = vs.toArray) (hl : vs.length = m) (h1 : vs.all Value.oneCell' = true) (hp : Pick H (.row (.slice (some ⟨gb, 0, none⟩) n cap) e size n xs) H') (hfit : off + m ≤ n * size)
    (h : Tr c K E (.row (.slice (some ⟨gb, 0, none⟩) n cap) e size n (xs.take off ++ vs ++ xs.drop (off + m)) :: H') S) : Tr c (OpW P ⟨none, .store t x y, ty, pos, aft, g⟩ K Q) E H S := by
  refine t_skip (I := [.row (.slice (some ⟨gb, 0, none⟩) n cap) e size n xs]) (I' := [.row (.slice (some ⟨gb, 0, none⟩) n cap) e size n (xs.take off ++ vs ++ xs.drop (off + m))]) (H' := H') (S' := S) hp.perm (fun a w ha ho => ?_) rfl h
  have hrow : w.ownsRow 0 e size (.slice (some ⟨gb, 0, none⟩) n cap) n xs := (ho.perm hp.perm).item (.row (.slice (some ⟨gb, 0, none⟩) n cap) e size n xs) (by simp)
  obtain ⟨hxl, hn | ⟨gb', cap', cur, he, h0, hg, hnc, hcm, hcs, htake⟩⟩ := hrow
  · simp at hn
  simp only [Value.slice.injEq, Option.some.injEq, Addr.mk.injEq, and_true, true_and] at he
  obtain ⟨rfl, rfl⟩ := he
  have hns : n * size ≤ cap * size := Nat.mul_le_mul_right _ hnc
  have hr := run_storeVar (P := P) (t := t) (v := v) (off := off) hk hv hl h1 hg (by omega)
  refine ⟨w.setRow gb (cur.toList.take off ++ vs ++ cur.toList.drop (off + m)).toArray, by simp [execOp, ha.eval hx, ha.eval hy, Instr.storeAt, Instr.sureAddr, hr], mv_row ((ho.perm hp.perm).left) ⟨rfl, rfl, rfl, by simp, fun k _ hk => setRow_other w gb k _ (fun e => hk (by simp [Value.ownBlock, e]))⟩ ⟨?_, .inr ⟨gb, cap, _, rfl, h0, setRow_heap w gb cur _ e _ hg, hnc, hcm, ?_, ?_⟩⟩ (.inl rfl)⟩
  · simp only [List.length_append, List.length_take, List.length_drop]; omega
  · simp only [List.size_toArray, List.length_append, List.length_take, List.length_drop, Array.length_toList]; omega
  · rw [← htake]
    apply List.ext_getElem?
    intro j
    simp only [List.getElem?_take, List.getElem?_append, List.length_take, List.length_append, Array.length_toList, List.getElem?_drop]
    have hcl : off ≤ cur.size := by omega
    have e1 : min off cur.size = off := by omega
    have e2 : min off (min (n * size) cur.size) = off := by omega
    simp only [e1, e2]
    by_cases hj : j < n * size
    · simp only [hj, if_true]
      by_cases hj1 : j < off
      · simp [hj1, show j < off + vs.length from by omega]
      · by_cases hj2 : j < off + vs.length
        · simp [hj1, hj2]
        · simp [hj2, show off + m + (j - (off + vs.length)) < n * size from by omega]
    · simp only [hj, if_false]
      have hj1 : ¬ j < off := by omega
      have hj2 : ¬ j < off + vs.length := by omega
      simp [hj2]
      omega
end
end Go.Proofs.YtkdmbimkanjbhaaGreatDoor.Eng

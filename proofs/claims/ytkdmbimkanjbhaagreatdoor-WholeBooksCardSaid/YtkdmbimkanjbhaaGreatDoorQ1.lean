/-
  Part 1 of the proof of WholeBooks: Eng4, Eng5, Eng6, Eng7, Eng8.
-/
import Derived.Test.YtkdmbimkanjbhaaGreatDoorQ0
import Derived.Deep.LoopGhost
namespace Go.Proofs.YtkdmbimkanjbhaaGreatDoor.Eng
open Go
def Env.ops (E : Env) : List Operand → Option (List Value)
  | [] => some []
  | x :: l => match E.op x, Env.ops E l with
    | some v, some vs => some (v :: vs)
    | _, _ => none
theorem Env.ok.evals {n : Nat} {E : Env} {a : Act} (h : E.ok n a) : ∀ {l : List Operand} {vs : List Value}, E.ops l = some vs → l.map a.eval = vs
  | [], vs, hv => by simp only [Env.ops, Option.some.injEq] at hv; subst hv; rfl
  | x :: l, vs, hv => by
    simp only [Env.ops] at hv
    cases hx : E.op x with
    | none => rw [hx] at hv; cases hv
    | some u =>
      cases hl : E.ops l with
      | none => rw [hx, hl] at hv; cases hv
      | some us =>
        rw [hx, hl] at hv
        simp only [Option.some.injEq] at hv
        subst hv
        simp [h.eval hx, h.evals hl]
/-- The parts of a literal. -/
def Env.parts (E : Env) : List (Nat × Operand) → Option (List (Nat × Value))
  | [] => some []
  | (i, x) :: l => match E.op x, Env.parts E l with
    | some v, some vs => some ((i, v) :: vs)
    | _, _ => none
theorem Env.ok.evalParts {n : Nat} {E : Env} {a : Act} (h : E.ok n a) : ∀ {l : List (Nat × Operand)} {vs : List (Nat × Value)}, E.parts l = some vs → (l.map fun p => (p.1, a.eval p.2)) = vs
  | [], vs, hv => by simp only [Env.parts, Option.some.injEq] at hv; subst hv; rfl
  | (i, x) :: l, vs, hv => by
    simp only [Env.parts] at hv
    cases hx : E.op x with
    | none => rw [hx] at hv; cases hv
    | some u =>
      cases hl : E.parts l with
      | none => rw [hx, hl] at hv; cases hv
      | some us =>
        rw [hx, hl] at hv
        simp only [Option.some.injEq] at hv
        subst hv
        simp [h.eval hx, h.evalParts hl]
/-- 'Instr.fill' over lists. -/
def fillL (place : Nat → Option (Nat × Nat)) (cells : List Value) : List (Nat × Value) → Option (List Value)
  | [] => some cells
  | (i, v) :: rest =>
    match place i with
    | none => none
    | some (off, size) => if v.cells.size ≠ size ∨ cells.length < off + v.cells.size then none else fillL place (cells.take off ++ v.cells.toList ++ cells.drop (off + size)) rest
theorem foldl_set (off : Nat) : ∀ (vs : List Value) (i : Nat) (cs : Array Value), off + i + vs.length ≤ cs.size →
    ((vs.zipIdx i).foldl (fun cs (x : Value × Nat) => cs.setIfInBounds (off + x.2) x.1) cs).toList = cs.toList.take (off + i) ++ vs ++ cs.toList.drop (off + i + vs.length)
  | [], i, cs, _ => by simp
  | v :: vs, i, cs, h => by
    simp only [List.length_cons] at h
    have ih := foldl_set off vs (i + 1) (cs.setIfInBounds (off + i) v) (by simp; omega)
    simp only [List.zipIdx_cons, List.foldl_cons]
    rw [ih]
    have e := list_seg_step cs.toList (off + i) v vs (by simp; omega)
    simpa [Array.toList_setIfInBounds, Nat.add_assoc] using e
theorem fill_of_fillL {place : Nat → Option (Nat × Nat)} : ∀ (parts : List (Nat × Value)) (cells : List Value) (r : List Value), fillL place cells parts = some r → Instr.fill place cells.toArray parts = some r.toArray
  | [], cells, r, h => by simp only [fillL, Option.some.injEq] at h; subst h; rfl
  | (i, v) :: rest, cells, r, h => by
    simp only [fillL] at h
    cases hp : place i with
    | none => rw [hp] at h; cases h
    | some os =>
      obtain ⟨off, size⟩ := os
      rw [hp] at h
      simp only at h
      split at h
      · cases h
      · rename_i hc
        have hc1 : v.cells.size = size := Decidable.not_not.1 (fun e => hc (.inl e))
        have hc2 : off + v.cells.size ≤ cells.length := Nat.le_of_not_lt (fun e => hc (.inr e))
        have ih := fill_of_fillL rest _ r h
        have hf := foldl_set off v.cells.toList 0 cells.toArray (by simpa using hc2)
        have hf' : Array.foldl (fun cs (x : Value × Nat) => cs.setIfInBounds (off + x.2) x.1) cells.toArray v.cells.zipIdx = (cells.take off ++ v.cells.toList ++ cells.drop (off + size)).toArray := by
          apply Array.ext'
          rw [← Array.foldl_toList]
          simpa [hc1] using hf
        simp only [Instr.fill, hp]
        have hno : ¬ (v.cells.size ≠ size ∨ cells.toArray.size < off + v.cells.size) := by simp [hc1]; omega
        rw [if_neg (by simp [hc1]; omega)]
        rw [hf']
        exact ih
section
variable {P : Program} {c : Cx} {K : Act → World → Prop} {Q : Exit → Act → World → Prop} {E : Env} {H : List Item} {S : Stone}
variable {d : Tmp} {od : Option Tmp} {ty : TypeId} {pos : String} {aft : Array Edge} {g : Option (Nat × Bool)}
theorem y_build {t : TypeId} {l : List (Nat × Operand)} {pl : List (Nat × Nat)} {zs cs : List Value} {vs : List (Nat × Value)} (hp : plK P t = some pl) (hz : zcK P t = some zs) (hv : E.parts l = some vs) (hf : fillL (fun i => pl[i]?) zs vs = some cs) :
    Yld P E ⟨od, .build t l.toArray, ty, pos, aft, g⟩ (.agg cs.toArray) := fun n a w ha => by
  obtain ⟨z, hzc, hzr⟩ := zcK_spec hz
  unfold plK at hp
  split at hp
  · rename_i fs hu
    have hev := ha.evalParts hv
    have key : ∀ (F : Field → Sem (Nat × Nat)), (∀ f i, P.info? f.type = some i → (F f).run P w = .ok (f.offset, i.size) w) → ∀ (l : List Field) (r : List (Nat × Nat)), (l.mapM fun f => (P.info? f.type).map fun i => (f.offset, i.size)) = some r → (l.mapM F).run P w = .ok r w := by
      intro F hF l
      induction l with
      | nil => intro r h; simp at h; subst h; simp
      | cons f l ih =>
        intro r h
        simp only [List.mapM_cons] at h
        cases hi : P.info? f.type with
        | none => rw [hi] at h; simp at h
        | some i =>
          rw [hi] at h
          cases hr : (l.mapM fun f => (P.info? f.type).map fun i => (f.offset, i.size)) with
          | none => rw [hr] at h; simp at h
          | some r' =>
            rw [hr] at h
            simp at h
            subst h
            simp only [List.mapM_cons, Sem.run_bind, hF f i hi, ih r' hr, Result.andThen_ok, Sem.run_pure]
    have hm : (fs.mapM fun f => do pure (f.offset, ← sizeOf f.type) : Sem (Array (Nat × Nat))).run P w = .ok pl.toArray w := by
      have hk := key (fun f => do pure (f.offset, ← sizeOf f.type)) (fun f i hi => by simp [sizeOf, typeInfo, hi]) fs.toList pl hp
      rw [Array.mapM_eq_mapM_toList]
      simp only [Sem.run_map, hk]
      rfl
    have hfl := fill_of_fillL _ _ _ hf
    have hpl : (fun (i : Nat) => pl.toArray[i]?) = fun (i : Nat) => pl[i]? := by funext i; simp
    simp only [execOp, Instr.build, Sem.run_bind, hzr w, Result.andThen_ok, run_underlying hu, hzc, hm, List.map_toArray, hev, hpl, hfl, Sem.run_pure]
  · cases hp
theorem t_bs {t e : TypeId} {size bytes len : Nat} {l : List (Nat × Operand)} {z cs : List Value} {vs : List (Nat × Value)} (hk : apK P t = some (e, size, bytes)) (hz : zcK P e = some z) (hn : len * size ≤ 16777216) (hv : E.parts l = some vs)
    (hf : fillL (fun i => some (i * size, size)) ((List.range (len * size)).map fun i => z.getD (i % z.length) default) vs = some cs) (hl : cs.length = len * size) (hlt : d < c.n)
    (h : ∀ b, Tr c K ((d, .slice (some ⟨b, 0, none⟩) len len) :: E) (.row (.slice (some ⟨b, 0, none⟩) len len) e size len cs :: H) S) : Tr c (OpW P ⟨some d, .buildSlice t len l.toArray, ty, pos, aft, g⟩ K Q) E H S := by
  obtain ⟨i, z', hu, hi, hz0, hs, hby, hzs, h0⟩ := apK_spec hk
  have hzc : z'.cells = z.toArray := by
    unfold zcK at hz
    rw [hi] at hz
    simp only [Option.bind_some, hz0, Option.map_some, Option.some.injEq] at hz
    subst hz; simp
  refine t_new (I := []) (H' := H) (List.Perm.refl _) (R := fun u I' S' => S' = S ∧ ∃ b, u = .slice (some ⟨b, 0, none⟩) len len ∧ I' = [.row (.slice (some ⟨b, 0, none⟩) len len) e size len cs]) (fun a w ha ho => ?_) rfl hlt
    (fun u I' S' ⟨e1, b, e2, e3⟩ => by subst e1; subst e2; subst e3; exact h b)
  have m := mv_alloc (w := w) ho.stone (.cells cs.toArray e (0, 0))
  refine ⟨.slice (some ⟨w.heap.size, 0, none⟩) len len, w.alloc (.cells cs.toArray e (0, 0)), _, S, ?_, ⟨⟨fun it hit => ?_, by simp [Item.keys, Value.ownBlock], m.ok.stone, fun b hb => m.ok.disj b (by simpa [keys, Item.keys, Value.ownBlock] using hb)⟩, m.step, fun b hb => m.key b (by simpa [keys, Item.keys, Value.ownBlock] using hb), m.le, m.new⟩, rfl, _, rfl, rfl⟩
  · have hev := ha.evalParts hv
    have hfl := fill_of_fillL _ _ _ hf
    have hns : ¬ 2 ^ 24 < len * size := by omega
    have hzz : ((Array.range (len * size)).map (z'.cells[· % z'.cells.size]!)) = ((List.range (len * size)).map fun i => z.getD (i % z.length) default).toArray := by
      rw [hzc]
      apply Array.ext'
      simp [List.getD_eq_getElem?_getD, getElem!_def]
      intro i hi
      cases z[i % z.length]? <;> rfl
    have hzr : (zeroValue e).run P w = .ok z' w := by simp [zeroValue, typeInfo, hi, hz0]
    simp only [execOp, Instr.buildSlice, Sem.run_bind, run_underlying hu, Result.andThen_ok, sizeOf, typeInfo, run_program, hi, Sem.run_pure, hs]
    by_cases hz : len * size = 0
    · have hzl : ((List.range (len * size)).map fun i => z.getD (i % z.length) default) = [] := by rw [hz]; rfl
      rw [hzl] at hfl
      simp [hz, List.map_toArray, hev, newRow]
      have hre : (Array.map (fun _ => (default : Value)) (Array.range 0)) = #[] := by apply Array.ext'; simp
      have : Instr.fill (fun i => some (i * size, size)) #[] vs = some cs.toArray := hfl
      simp [hre, this]
    · simp only [hz, if_false, hns, Sem.run_bind, hzr, Result.andThen_ok, Sem.run_pure, hzz, List.map_toArray, hev, hfl, newRow]
      simp
  · simp only [List.mem_singleton] at hit
    subst hit
    refine ⟨hl, .inr ⟨w.heap.size, len, cs.toArray, rfl, Nat.zero_le _, heap_alloc_new w _, Nat.le_refl _, ?_, by simpa using hl, by simp [← hl]⟩⟩
    have : len ≤ len * size := Nat.le_mul_of_pos_right _ h0
    simp only [maxLen]; omega
/-! ### slices -/
theorem y_len {t u : TypeId} {x : Operand} {A : Option Addr} {n m : Nat} (hk : (slK P u).isSome = true) (hx : E.op x = some (.slice A n m)) : Yld P E ⟨od, .call ⟨.builtin .len, #[x], #[u]⟩, t, pos, aft, g⟩ (.int .i64 n) := fun k a w ha => by
  unfold slK at hk
  split at hk
  · rename_i e hu
    have : (Builtin.len_ #[u] t #[.slice A n m]).run P w = .ok (goInt n) w := by simp [Builtin.len_, run_underlying hu]
    simp [execOp, resolve, invoke, builtin, ha.eval hx, this, goInt]
  · cases hk
theorem y_slen {t u : TypeId} {x : Operand} {s : ByteArray} (hk : stK P u = true) (hx : E.op x = some (.string s)) : Yld P E ⟨od, .call ⟨.builtin .len, #[x], #[u]⟩, t, pos, aft, g⟩ (.int .i64 s.size) := fun k a w ha => by
  unfold stK at hk
  split at hk
  · rename_i hu
    have : (Builtin.len_ #[u] t #[.string s]).run P w = .ok (goInt s.size) w := by simp [Builtin.len_, run_underlying hu]
    simp [execOp, resolve, invoke, builtin, ha.eval hx, this, goInt]
  · cases hk
theorem y_min {t : TypeId} {ts : Array TypeId} {x y : Operand} {k k' : IntKind} {p q : Int} (hx : E.op x = some (.int k p)) (hy : E.op y = some (.int k' q)) : Yld P E ⟨od, .call ⟨.builtin .min, #[x, y], ts⟩, t, pos, aft, g⟩ (.int k (if q < p then q else p)) := fun n a w ha => by
  simp [execOp, resolve, invoke, builtin, ha.eval hx, ha.eval hy, Builtin.min_, Builtin.min2]
theorem y_max {t : TypeId} {ts : Array TypeId} {x y : Operand} {k k' : IntKind} {p q : Int} (hx : E.op x = some (.int k p)) (hy : E.op y = some (.int k' q)) : Yld P E ⟨od, .call ⟨.builtin .max, #[x, y], ts⟩, t, pos, aft, g⟩ (.int k (if p < q then q else p)) := fun n a w ha => by
  simp [execOp, resolve, invoke, builtin, ha.eval hx, ha.eval hy, Builtin.max_, Builtin.max2]
theorem slK_spec {t e : TypeId} {size : Nat} (h : slK P t = some (e, size)) : ∃ i, P.underlying t = some (.slice e) ∧ P.info? e = some i ∧ i.size = size := by
  unfold slK at h
  split at h
  · rename_i e' hu
    cases hi : P.info? e' with
    | none => rw [hi] at h; cases h
    | some i =>
      rw [hi] at h
      simp only [Option.map_some, Option.some.injEq, Prod.mk.injEq] at h
      obtain ⟨rfl, rfl⟩ := h
      exact ⟨i, hu, hi, rfl⟩
  · cases h
theorem y_ia {t e : TypeId} {size : Nat} {x y : Operand} {p : Addr} {n m : Nat} {k : IntKind} {i : Int} (hk : slK P t = some (e, size)) (hx : E.op x = some (.slice (some p) n m)) (hy : E.op y = some (.int k i)) (h0 : 0 ≤ i) (h1 : i < n) :
    Yld P E ⟨od, .indexAddr t x y, ty, pos, aft, g⟩ (.pointer (some (p.add (i.toNat * size)))) := fun q a w ha => by
  obtain ⟨inf, hu, hi, hs⟩ := slK_spec hk
  simp [execOp, ha.eval hx, ha.eval hy, Instr.indexAt, asIntOf, run_underlying hu, h0, h1, sizeOf, typeInfo, hi, hs]
theorem arK_spec {t e : TypeId} {n size : Nat} (h : arK P t = some (n, e, size)) : ∃ i, P.underlying t = some (.array n e) ∧ P.info? e = some i ∧ i.size = size := by
  unfold arK at h
  split at h
  · rename_i n' e' hu
    cases hi : P.info? e' with
    | none => rw [hi] at h; cases h
    | some i =>
      rw [hi] at h
      simp only [Option.map_some, Option.some.injEq, Prod.mk.injEq] at h
      obtain ⟨rfl, rfl, rfl⟩ := h
      exact ⟨i, hu, hi, rfl⟩
  · cases h
theorem y_iaa {t e : TypeId} {size n : Nat} {x y : Operand} {p : Addr} {k : IntKind} {i : Int} (hk : arK P t = some (n, e, size)) (hx : E.op x = some (.pointer (some p))) (hy : E.op y = some (.int k i)) (h0 : 0 ≤ i) (h1 : i < n) :
    Yld P E ⟨od, .indexAddr t x y, ty, pos, aft, g⟩ (.pointer (some (p.add (i.toNat * size)))) := fun q a w ha => by
  obtain ⟨inf, hu, hi, hs⟩ := arK_spec hk
  simp [execOp, ha.eval hx, ha.eval hy, Instr.indexAt, Instr.sureAddr, asIntOf, run_underlying hu, h0, h1, sizeOf, typeInfo, hi, hs]
theorem y_is {t : TypeId} {x y : Operand} {s : ByteArray} {k : IntKind} {i : Nat} {b : UInt8} (hk : stK P t = true) (hx : E.op x = some (.string s)) (hy : E.op y = some (.int k i)) (hb : s[i]? = some b) : Yld P E ⟨od, .index t x y, ty, pos, aft, g⟩ (.int .u8 b.toNat) := fun q a w ha => by
  unfold stK at hk
  split at hk
  · rename_i hu
    simp [execOp, ha.eval hx, ha.eval hy, Instr.index, asIntOf, run_underlying hu, hb]
  · cases hk
theorem y_sl {t e : TypeId} {size : Nat} {x : Operand} {A : Option Addr} {n m : Nat} (hk : slK P t = some (e, size)) (hx : E.op x = some (.slice A n m)) {lo hi : Option Operand} {l h : Nat}
    (hlo : match lo with | none => l = 0 | some y => ∃ k, E.op y = some (.int k (l : Int))) (hhi : match hi with | none => h = n | some y => ∃ k, E.op y = some (.int k (h : Int))) (h1 : l ≤ h) (h2 : h ≤ m) :
    Yld P E ⟨od, .slice t x lo hi none, ty, pos, aft, g⟩ (sliced A l h m size) := fun q a w ha => by
  obtain ⟨inf, hu, hi', hs⟩ := slK_spec hk
  have hb : (Instr.sliceBounds true n m (lo.map a.eval) (hi.map a.eval) none).run P w = .ok (l, h, m) w := by
    cases lo with
    | none =>
      simp only at hlo
      subst hlo
      cases hi with
      | none => simp only at hhi; subst hhi; simp [Instr.sliceBounds]
      | some y =>
        obtain ⟨k, hk'⟩ := hhi
        simp [Instr.sliceBounds, ha.eval hk', run_sliceBound, h2]
    | some z =>
      obtain ⟨kz, hz⟩ := hlo
      cases hi with
      | none => simp only at hhi; subst hhi; simp [Instr.sliceBounds, ha.eval hz, run_sliceBound, h1]
      | some y =>
        obtain ⟨k, hk'⟩ := hhi
        simp [Instr.sliceBounds, ha.eval hk', ha.eval hz, run_sliceBound, h1, h2]
  simp only [execOp, Instr.sliceAt, Sem.run_bind, run_underlying hu, Result.andThen_ok, ha.eval hx, Instr.slice, Option.map_none, hb, sizeOf, typeInfo, run_program, hi', Sem.run_pure, hs]
  rfl
/-! ### append, make -/
theorem t_app {t e : TypeId} {size bytes : Nat} {x y : Operand} {v : Value} {n m k : Nat} {xs news : List Value} {A : Option Addr} {H' : List Item} (hk : apK P t = some (e, size, bytes)) (hx : E.op x = some v) (hy : E.op y = some (.slice A m k))
    (hp : Pick H (.row v e size n xs) H') (hl : news.length = m * size)
    (src : ∀ w, (∀ it ∈ H', it.holds w) → (∀ b o, S b = some o → w.heap[b]? = some o) → ∀ j u, news[j]? = some u → ∃ p, A = some p ∧ w.cell? (p.add j) = some u) (h1 : news.all Value.oneCell' = true)
    (h63 : n + m ≤ maxLen) (hb : (n + m) * bytes ≤ 140737488355328) (hlt : d < c.n)
    (h : ∀ v', (v'.ownBlock = none → v' = .slice none 0 0 ∧ n + m = 0) → v'.oneCell' = true → Tr c K ((d, v') :: E) (.row v' e size (n + m) (xs ++ news) :: H') S) : Tr c (OpW P ⟨some d, .call ⟨.builtin .append, #[x, y], #[t, t]⟩, ty, pos, aft, g⟩ K Q) E H S := by
  obtain ⟨i, z, hu, hi, hz, hs, hby, hzs, h0⟩ := apK_spec hk
  refine t_new (I := [.row v e size n xs]) (H' := H') hp.perm (R := fun u I' S' => S' = S ∧ I' = [.row u e size (n + m) (xs ++ news)] ∧ (u.ownBlock = none → u = .slice none 0 0 ∧ n + m = 0) ∧ u.oneCell' = true) (fun a w ha ho => ?_) rfl hlt
    (fun u I' S' ⟨e1, e2, e3, e4⟩ => by subst e1; subst e2; exact h u e3 e4)
  have ho' := ho.perm hp.perm
  have hrow : w.ownsRow 0 e size v n xs := ho'.item (.row v e size n xs) (by simp)
  have hsrc := src w (fun it hit => ho'.item it (by simp [hit])) ho.stone
  have fin : ∀ (v' : Value) (w' : World), w'.ownsRow 0 e size v' (n + m) (xs ++ news) → ((v'.ownBlock = none → v' = .slice none 0 0 ∧ n + m = 0) ∧ v'.oneCell' = true) := fun v' w' hw => by
    rcases hw.2 with ⟨rfl, h3⟩ | ⟨g', cap', cur, rfl, _⟩
    · exact ⟨fun _ => ⟨rfl, h3⟩, rfl⟩
    · exact ⟨fun h => by simp [Value.ownBlock] at h, rfl⟩
  have hcall : ∀ (r : Result Value), (Builtin.append_ #[t, t] ty #[v, .slice A m k]).run P w = r → (execOp a.eval ⟨some d, .call ⟨.builtin .append, #[x, y], #[t, t]⟩, ty, pos, aft, g⟩).run P w = r.andThen fun u w' => .ok (.value u) w' := by
    intro r hr
    simp [execOp, resolve, invoke, builtin, ha.eval hx, ha.eval hy, hr]
  rcases A with _ | p
  · have hm : news = [] := by
      cases news with
      | nil => rfl
      | cons u l => obtain ⟨p, hp', _⟩ := hsrc 0 u rfl; cases hp'
    subst hm
    have hm0 : m = 0 := by
      have : m * size = 0 := by simpa using hl.symm
      rcases Nat.mul_eq_zero.1 this with h2 | h2
      · exact h2
      · omega
    subst hm0
    have hr : (Builtin.append_ #[t, t] ty #[v, .slice none 0 k]).run P w = .ok v w := by
      rcases hrow.2 with ⟨rfl, rfl⟩ | ⟨gb, cap, cur, rfl, _, _, hnc, _⟩
      · simp [Builtin.append_, run_underlying hu, sizeOf, typeInfo, hi, Builtin.lenOf, Builtin.firstCells]
      · simp [Builtin.append_, run_underlying hu, sizeOf, typeInfo, hi, Builtin.lenOf, Builtin.firstCells, hnc, storeCells]
    refine ⟨v, w, _, S, hcall _ hr, Mv.init (ho'.left), rfl, by simp, ?_⟩
    exact fin v w (by simpa using hrow)
  · have hnews : ∀ j u, news[j]? = some u → w.cell? (p.add j) = some u := fun j u hj => by
      obtain ⟨p', e', hc⟩ := hsrc j u hj
      injection e' with e'
      subst e'
      exact hc
    obtain ⟨v', w', hr, h2, h3, _, h5⟩ := run_append_own_at (P := P) w 0 t ty e i z size bytes hu hi hz hs hby hzs h0 v n xs hrow p m k news hl hnews (fun u hu => List.all_eq_true.1 h1 u hu) h63 hb (Nat.zero_le _)
    exact ⟨v', w', _, S, hcall _ hr, mv_row ho'.left h3 h2 h5, rfl, rfl, fin v' w' h2⟩
theorem t_mk {t e : TypeId} {size bytes n m : Nat} {x y : Operand} {k k' : IntKind} {z : List Value} (hk : apK P t = some (e, size, bytes)) (hz : zcK P e = some z) (hx : E.op x = some (.int k (n : Int))) (hy : E.op y = some (.int k' (m : Int))) (hnm : n ≤ m) (hb : bytes * m ≤ 281474976710656) (hm : m ≤ maxLen) (hlt : d < c.n)
    (h : ∀ b, Tr c K ((d, .slice (some ⟨b, 0, none⟩) n m) :: E) (.row (.slice (some ⟨b, 0, none⟩) n m) e size n (((List.range (m * size)).map fun i => z.getD (i % z.length) default).take (n * size)) :: H) S) :
    Tr c (OpW P ⟨some d, .makeSlice t x y, ty, pos, aft, g⟩ K Q) E H S := by
  obtain ⟨i, z', hu, hi, hz0, hs, hby, hzs, h0⟩ := apK_spec hk
  have hzc : z'.cells = z.toArray := by
    unfold zcK at hz
    rw [hi] at hz
    simp only [Option.bind_some, hz0, Option.map_some, Option.some.injEq] at hz
    subst hz; simp
  have hzz : madeCells z'.cells (m * size) = ((List.range (m * size)).map fun i => z.getD (i % z.length) default).toArray := by
    unfold madeCells
    rw [hzc]
    apply Array.ext'
    simp [List.getD_eq_getElem?_getD, getElem!_def]
    intro i hi
    cases z[i % z.length]? <;> rfl
  refine t_new (I := []) (H' := H) (List.Perm.refl _) (R := fun u I' S' => S' = S ∧ ∃ b, u = .slice (some ⟨b, 0, none⟩) n m ∧ I' = [.row (.slice (some ⟨b, 0, none⟩) n m) e size n (((List.range (m * size)).map fun i => z.getD (i % z.length) default).take (n * size))]) (fun a w ha ho => ?_) rfl hlt
    (fun u I' S' ⟨e1, b, e2, e3⟩ => by subst e1; subst e2; subst e3; exact h b)
  have mm := mv_alloc (w := w) ho.stone (.cells (madeCells z'.cells (m * size)) e (0, 0))
  have hb' : (i.bytes : Int) * (m : Int) ≤ 281474976710656 := by
    rw [hby]
    have h : ((bytes * m : Nat) : Int) ≤ 281474976710656 := by omega
    rwa [Int.natCast_mul] at h
  have hr := run_make (P := P) w t e i z' hu hi hz0 k k' n m (by omega) (by omega) hb' (by simp only [maxLen] at hm; omega)
  simp only [Int.toNat_natCast, hs] at hr
  refine ⟨.slice (some ⟨w.heap.size, 0, none⟩) n m, w.alloc (.cells (madeCells z'.cells (m * size)) e (0, 0)), _, S, by simp [execOp, ha.eval hx, ha.eval hy, hr], ⟨⟨fun it hit => ?_, by simp [Item.keys, Value.ownBlock], mm.ok.stone, fun b hb => mm.ok.disj b (by simpa [keys, Item.keys, Value.ownBlock] using hb)⟩, mm.step, fun b hb => mm.key b (by simpa [keys, Item.keys, Value.ownBlock] using hb), mm.le, mm.new⟩, rfl, _, rfl, rfl⟩
  simp only [List.mem_singleton] at hit
  subst hit
  have hnm' : n * size ≤ m * size := Nat.mul_le_mul_right _ hnm
  refine ⟨by rw [List.length_take, List.length_map, List.length_range]; omega, .inr ⟨w.heap.size, m, _, rfl, Nat.zero_le _, heap_alloc_new w _, hnm, hm, by simp [size_madeCells], by rw [hzz]⟩⟩
/-! ### calls -/
theorem run_enter {f : FuncId} {args : Array Value} {w : World} (hk : enK P f = true) : (callFunc f args).run P w = .ok (.enter f args) w := by
  unfold enK at hk
  cases hf : P.funcs[f]? with
  | none => rw [hf] at hk; cases hk
  | some fn =>
    rw [hf] at hk
    simp only [Bool.and_eq_true, Bool.not_eq_true'] at hk
    have hb : fn.body.isNone = false := by
      cases hh : fn.body with
      | none => rw [hh] at hk; simp at hk
      | some b => rfl
    have hne : ¬ fn.name = "runtime.NumGoroutine" := fun e => by rw [e] at hk; simp at hk
    have hbn : ¬ fn.body = none := fun e => by rw [e] at hb; simp at hb
    simp [callFunc, hf, hne, hbn]
theorem t_enter {o : Oper} {f : FuncId} {args : List Value} {I H' : List Item} {R : Value → List Item → Stone → Prop} (hrun : ∀ a w, Env.ok c.n E a → (execOp a.eval o).run P w = .ok (.enter f args.toArray) w) (hp : H.Perm (I ++ H')) (hc : Con P f args.toArray I S R) (hd : o.dst = some d) (hlt : d < c.n)
    (h : ∀ v I' S', Stone.le S S' → R v I' S' → Tr c K ((d, v) :: E) (I' ++ H') S') : Tr c (OpW P o K Q) E H S := fun a w ha hr => by
  have m := Mv.perm hr hp
  show o.wp P a w K Q
  unfold Oper.wp
  rw [hrun a w ha, Oper.upon_enter]
  refine (hc w m.ok.left).mono fun e w' ⟨v, I', S', he, m', r⟩ => ?_
  subst he
  rw [hd]
  exact h v I' S' m'.le r _ w' (ha.put hlt v) (Mv.frame m m')
theorem t_call {f : FuncId} {l : List Operand} {ts : Array TypeId} {vs : List Value} {I H' : List Item} {R : Value → List Item → Stone → Prop} (hk : enK P f = true) (hv : E.ops l = some vs) (hp : H.Perm (I ++ H')) (hc : Con P f vs.toArray I S R) (hlt : d < c.n)
    (h : ∀ v I' S', Stone.le S S' → R v I' S' → Tr c K ((d, v) :: E) (I' ++ H') S') : Tr c (OpW P ⟨some d, .call ⟨.value (.func f), l.toArray, ts⟩, ty, pos, aft, g⟩ K Q) E H S := by
  refine t_enter (fun a w ha => ?_) hp hc rfl hlt h
  have hev := ha.evals hv
  simp [execOp, resolve, invoke, Deferred.ofValue, Act.eval, List.map_toArray, hev, run_enter hk]
theorem t_callv {f : FuncId} {x : Operand} {l : List Operand} {ts : Array TypeId} {vs v1 v2 : List Value} {I H' : List Item} {R : Value → List Item → Stone → Prop} (hx : E.op x = some (.func (.func f) v1.toArray v2.toArray)) (hk : enK P f = true) (hv : E.ops l = some vs) (hp : H.Perm (I ++ H'))
    (hc : Con P f (v1 ++ vs ++ v2).toArray I S R) (hlt : d < c.n)
    (h : ∀ v I' S', Stone.le S S' → R v I' S' → Tr c K ((d, v) :: E) (I' ++ H') S') : Tr c (OpW P ⟨some d, .call ⟨.value x, l.toArray, ts⟩, ty, pos, aft, g⟩ K Q) E H S := by
  refine t_enter (fun a w ha => ?_) hp hc rfl hlt h
  have hev := ha.evals hv
  have hf := ha.eval hx
  simp [execOp, resolve, invoke, Deferred.ofValue, hf, List.map_toArray, hev, run_enter hk]
/-! ### loops -/
theorem c_loop {x : Code} {τ : Type} (Ei : τ → Env) (Hi : τ → List Item) (Si : τ → Stone) (pre : τ → Prop) (μ : τ → Nat) (x0 : τ) (h0 : pre x0) (hst : ∀ K, Tr c K (Ei x0) (Hi x0) (Si x0) → Tr c K E H S)
    (round : ∀ z, pre z → ∀ K : Act → World → Prop, (∀ y, pre y → μ y < μ z → Tr c K (Ei y) (Hi y) (Si y)) → Tr c (x.wp P (Exit.then K Q)) (Ei z) (Hi z) (Si z)) : Tr c ((Code.loop x).wp P Q) E H S := by
  refine hst _ fun a w ha hr => ?_
  refine wp_loop_ghost (fun k a w => ∃ z, pre z ∧ μ z = k ∧ Env.ok c.n (Ei z) a ∧ Run c (Hi z) (Si z) w) (μ x0) ⟨x0, h0, rfl, ha, hr⟩ ?_
  rintro k a w ⟨z, hz, rfl, ha, hr⟩
  exact round z hz _ (fun y hy hlt a' w' ha' hr' => ⟨μ y, hlt, y, hy, rfl, ha', hr'⟩) a w ha hr
end
end Go.Proofs.YtkdmbimkanjbhaaGreatDoor.Eng
namespace Go.Proofs.YtkdmbimkanjbhaaGreatDoor.Eng
open Go
/-! ### a region that draws its order -/
/-- An order in which a region's operations are taken: 'take': it does nothing to the world, and may come first; 'alt': one of those that may come up, with what follows; the chain ends in 'stop'. -/
inductive Plan where
  | done
  | stop
  | take (i : Nat) (p : Plan)
  | alt (i : Nat) (p q : Plan)
def Plan.firsts : Plan → List Nat
  | .alt i _ q => i :: q.firsts
  | _ => []
/-- Number j waits itself for all of T. -/
def lateB (ops : Array Oper) (T : List Nat) (j : Nat) : Bool :=
  T.all fun t => t == j || ((ops[j]?).map fun o => o.after.any fun e => Region.binds .any e && e.on == t).getD false
def Plan.chk (ops : Array Oper) (T : List Nat) : Bool → Plan → Array Bool → Bool
  | _, .done, listed => (Region.ready .any ops listed).isEmpty
  | top, .stop, _ => !top
  | _, .take i p, listed => (Region.ready .any ops listed).contains i && Region.free .any ops listed i && p.chk ops T true (listed.setIfInBounds i true)
  | top, .alt i p q, listed => (!top || (Region.ready .any ops listed == i :: q.firsts)) && p.chk ops T true (listed.setIfInBounds i true) && q.chk ops T false listed
section
variable {P : Program} {ops : Array Oper} {Q : Exit → Act → World → Prop} {W : World → Prop} {T : List Nat}
/-- What is to be shown along a plan: each operation that does not wait for all of T keeps W. -/
def planP (P : Program) (ops : Array Oper) (Q : Exit → Act → World → Prop) (W : World → Prop) (T : List Nat) : Plan → Act → World → Prop
  | .done, a, w => Q .normal a w
  | .stop, _, _ => True
  | .take i p, a, w => ∃ o v, ops[i]? = some o ∧ (YieldsIf P ops (fun _ => True) o v a ∨ (i ∈ T ∧ YieldsIf P ops W o v a ∧ W w)) ∧ planP P ops Q W T p (a.put o.dst v) w
  | .alt i p q, a, w => wpOp P ops Q i (fun a' w' => (lateB ops T i = false → W w → W w') ∧ planP P ops Q W T p a' w') a w ∧ planP P ops Q W T q a w
/-- Whatever order is picked from here on. -/
def wpAnyT (P : Program) (ops : Array Oper) (Q : Exit → Act → World → Prop) (W : World → Prop) (T : List Nat) : Nat → Array Bool → Act → World → Prop
  | 0, listed, a, w => Region.ready .any ops listed = [] ∧ Q .normal a w
  | fuel + 1, listed, a, w => (Region.ready .any ops listed = [] → Q .normal a w) ∧
    ∀ i ∈ Region.ready .any ops listed, wpOp P ops Q i (fun a' w' => (lateB ops T i = false → W w → W w') ∧ wpAnyT P ops Q W T fuel (listed.setIfInBounds i true) a' w') a w
theorem wpAny_of_T : ∀ (fuel : Nat) (listed : Array Bool) (a : Act) (w : World), wpAnyT P ops Q W T fuel listed a w → wpAny P .any ops Q fuel listed a w
  | 0, _, _, _, h => h
  | fuel + 1, _, _, _, h => ⟨h.1, fun i hi => wpOp_mono (fun a' w' h' => wpAny_of_T fuel _ a' w' h'.2) (h.2 i hi)⟩
theorem late_of_not {i j : Nat} {oj : Oper} (hi : i ∈ T) (hj : ops[j]? = some oj) (hne : j ≠ i) (hno : ∀ e ∈ oj.after, Region.binds .any e = true → e.on ≠ i) : lateB ops T j = false := by
  cases h : lateB ops T j with
  | false => rfl
  | true =>
    have := List.all_eq_true.1 h i hi
    simp only [hj, Option.map_some, Option.getD_some, Bool.or_eq_true, beq_iff_eq] at this
    rcases this with h1 | h1
    · exact absurd h1.symm hne
    · rw [Array.any_eq_true] at h1
      obtain ⟨k, hk, h2⟩ := h1
      simp only [Bool.and_eq_true, beq_iff_eq] at h2
      exact absurd h2.2 (hno _ (Array.getElem_mem hk) h2.1)
/-- Operation i may be taken first: what it yields hangs on W' alone, and W' is kept by whatever may come before it. -/
theorem wpAnyT_first {W' : World → Prop} {i : Nat} {oi : Oper} {v : Value} (hi : ops[i]? = some oi) (hsel : ∀ (j : Nat) (o : Oper) cs b, ops[j]? = some o → o.op ≠ .select cs b)
    (hQ : ∀ c a w, Q (.panic c) (a.put oi.dst v) w → Q (.panic c) a w)
    (hW : ∀ j oj w w', ops[j]? = some oj → j ≠ i → (∀ e ∈ oj.after, Region.binds .any e = true → e.on ≠ i) → (lateB ops T j = false → W w → W w') → W' w → W' w') :
    ∀ (fuel : Nat) (listed : Array Bool) (a : Act) (w : World),
      (∀ j oj, ops[j]? = some oj → j ≠ i → listed.getD j true = false → (∀ e ∈ oj.after, Region.binds .any e = true → e.on ≠ i) → oi.apart ops oj = true) →
      i ∈ Region.ready .any ops listed → YieldsIf P ops W' oi v a → W' w →
      wpAnyT P ops Q W T fuel (listed.setIfInBounds i true) (a.put oi.dst v) w → wpAnyT P ops Q W T (fuel + 1) listed a w := by
  intro fuel
  induction fuel with
  | zero =>
    intro listed a w _ hr hy hS H
    refine ⟨fun h => (by rw [h] at hr; cases hr), fun j hj => ?_⟩
    by_cases hji : j = i
    · subst hji; exact hy.wpOp hi hS ⟨fun _ h => h, H⟩
    · have := ready_mono hj hji
      rw [H.1] at this
      cases this
  | succ fuel ih =>
    intro listed a w hfree hr hy hS H
    refine ⟨fun h => (by rw [h] at hr; cases hr), fun j hj => ?_⟩
    by_cases hji : j = i
    · subst hji; exact hy.wpOp hi hS ⟨fun _ h => h, H⟩
    · have h1 := H.2 j (ready_mono hj hji)
      obtain ⟨hjun, oj, hoj, hall⟩ := mem_ready.1 hj
      have hnot : ∀ e ∈ oj.after, Region.binds .any e = true → e.on ≠ i := fun e he hb heq => by
        have h1 := hall e he hb
        have h0 := (mem_ready.1 hr).1
        rw [heq] at h1
        rcases Nat.lt_or_ge i listed.size with h' | h'
        · simp [h'] at h0 h1; rw [h0] at h1; cases h1
        · simp [Array.getElem?_eq_none h'] at h1
      have h2 := wpOp_putIf hoj (hfree j oj hoj hji hjun hnot) (fun cs b => hsel i oi cs b hi) (fun cs b => hsel j oj cs b hoj) hQ hy h1
      have hfree' : ∀ k ok, ops[k]? = some ok → k ≠ i → (listed.setIfInBounds j true).getD k true = false →
          (∀ e ∈ ok.after, Region.binds .any e = true → e.on ≠ i) → oi.apart ops ok = true := fun k ok hk hki hun hno => by
        refine hfree k ok hk hki ?_ hno
        by_cases hjk : j = k
        · subst hjk; exact hjun
        · rw [getD_set_ne true hjk] at hun; exact hun
      refine wpOp_mono (fun a' w' h3 => ⟨h3.2.1, ih (listed.setIfInBounds j true) a' w' hfree' (ready_mono hr (Ne.symm hji)) h3.1 (hW j oj w w' hoj hji hnot h3.2.1 hS) ?_⟩) h2
      rw [Array.setIfInBounds_comm _ _ hji]
      exact h3.2.2
def Plan.size : Plan → Nat
  | .done => 0
  | .stop => 0
  | .take _ p => p.size + 1
  | .alt _ p q => max (p.size + 1) q.size
/-- A chain of alternatives gives what each of its firsts comes to. -/
theorem planP_alt (hs : Region.noSelect ops = true) (hQ : ∀ c a a' w, Q (.panic c) a w → Q (.panic c) a' w) : ∀ (p : Plan) (top : Bool) (listed : Array Bool) (a : Act) (w : World) (fuel : Nat), p.chk ops T top listed = true → p.size ≤ fuel → planP P ops Q W T p a w →
    (top = true → wpAnyT P ops Q W T fuel listed a w) ∧ (∀ i ∈ p.firsts, ∀ fuel', fuel = fuel' + 1 → wpOp P ops Q i (fun a' w' => (lateB ops T i = false → W w → W w') ∧ wpAnyT P ops Q W T fuel' (listed.setIfInBounds i true) a' w') a w)
  | .done, top, listed, a, w, fuel, hc, _, h => by
    have hr : Region.ready .any ops listed = [] := by simpa [Plan.chk] using hc
    refine ⟨fun _ => ?_, fun i hi => by cases hi⟩
    cases fuel with
    | zero => exact ⟨hr, h⟩
    | succ fuel => exact ⟨fun _ => h, by rw [hr]; simp⟩
  | .stop, top, listed, a, w, fuel, hc, _, _ => by
    refine ⟨fun ht => ?_, fun i hi => by cases hi⟩
    subst ht
    simp [Plan.chk] at hc
  | .take i p, top, listed, a, w, fuel, hc, hsz, h => by
    refine ⟨fun _ => ?_, fun i hi => by cases hi⟩
    simp only [Plan.chk, Bool.and_eq_true] at hc
    simp only [Plan.size] at hsz
    obtain ⟨fuel, rfl⟩ : ∃ k, fuel = k + 1 := ⟨fuel - 1, by omega⟩
    obtain ⟨o, v, ho, hy, hp⟩ := h
    have hrec := (planP_alt hs hQ p true _ _ w fuel hc.2 (by omega) hp).1 rfl
    have hr : i ∈ Region.ready .any ops listed := by simpa using hc.1.1
    rcases hy with hy | ⟨hT, hy, hw⟩
    · exact wpAnyT_first (W' := fun _ => True) ho (Region.noSelect_spec hs) (fun c a w h => hQ c _ _ w h) (fun _ _ _ _ _ _ _ _ _ => trivial) fuel listed a w (Region.free_spec ho hc.1.2) hr hy trivial hrec
    · exact wpAnyT_first (W' := W) ho (Region.noSelect_spec hs) (fun c a w h => hQ c _ _ w h) (fun j oj w w' hj hne hno hk hW => hk (late_of_not hT hj hne hno) hW) fuel listed a w (Region.free_spec ho hc.1.2) hr hy hw hrec
  | .alt i p q, top, listed, a, w, fuel, hc, hsz, h => by
    simp only [Plan.chk, Bool.and_eq_true] at hc
    simp only [Plan.size] at hsz
    obtain ⟨fuel, rfl⟩ : ∃ k, fuel = k + 1 := ⟨fuel - 1, by omega⟩
    have hq := (planP_alt hs hQ q false listed a w (fuel + 1) hc.2 (by omega) h.2).2
    have hall : ∀ j ∈ (Plan.alt i p q).firsts, ∀ fuel', fuel + 1 = fuel' + 1 → wpOp P ops Q j (fun a' w' => (lateB ops T j = false → W w → W w') ∧ wpAnyT P ops Q W T fuel' (listed.setIfInBounds j true) a' w') a w := fun j hj fuel' hf => by
      rcases List.mem_cons.1 hj with rfl | hj
      · have : fuel' = fuel := by omega
        subst this
        exact wpOp_mono (fun a' w' h' => ⟨h'.1, (planP_alt hs hQ p true _ a' w' fuel' hc.1.2 (by omega) h'.2).1 rfl⟩) h.1
      · exact hq j hj fuel' hf
    refine ⟨fun ht => ⟨fun h0 => ?_, fun j hj => hall j ?_ fuel rfl⟩, hall⟩
    · have := hc.1.1
      rw [ht, h0] at this
      simp at this
    · have := hc.1.1
      rw [ht] at this
      simp only [Bool.not_true, Bool.false_or, beq_iff_eq] at this
      rw [this] at hj
      exact hj
theorem wp_region_plan {id : Nat} {a : Act} {w : World} (p : Plan) (hm : P.follows .mixedOrders = true) (hc : (Region.noSelect ops && p.chk ops T true (Array.replicate ops.size false) && decide (p.size ≤ ops.size)) = true)
    (hQ : ∀ c a a' w, Q (.panic c) a w → Q (.panic c) a' w) (h : planP P ops Q W T p a { w with drawn := w.drawn + 1 }) : (Code.region id ops true).wp P Q a w := by
  simp only [Bool.and_eq_true, decide_eq_true_eq] at hc
  exact wp_region_any hm (wpAny_of_T _ _ _ _ ((planP_alt hc.1.1 hQ p true _ _ _ _ hc.1.2 hc.2 h).1 rfl))
end
/-! ### the same, for states -/
section
variable {P : Program} {c : Cx} {Q : Exit → Act → World → Prop} {E : Env} {H : List Item} {S : Stone} {l : List Oper} {T : List Nat} {HT : List Item} {ST : Stone}
/-- The world has these items and this stone. -/
def Has (HT : List Item) (ST : Stone) (w : World) : Prop := (∀ it ∈ HT, it.holds w) ∧ ∀ b o, ST b = some o → w.heap[b]? = some o
theorem d_region {id : Nat} (HT : List Item) (T : List Nat) (p : Plan) (hm : P.follows .mixedOrders = true) (hc : (Region.noSelect l.toArray && p.chk l.toArray T true (Array.replicate l.toArray.size false) && decide (p.size ≤ l.toArray.size)) = true)
    (hQ : ∀ c a a' w, Q (.panic c) a w → Q (.panic c) a' w) (h : Tr c (planP P l.toArray Q (Has HT S) T p) E H S) : Tr c ((Code.region id l.toArray true).wp P Q) E H S := fun a _w ha hr =>
  wp_region_plan p hm hc hQ (h a _ ha ⟨⟨fun it hit => Item.holds_of (hr.ok.item it hit) (fun _ _ => rfl), hr.ok.nodup, hr.ok.stone, hr.ok.disj⟩, ⟨hr.step.os, hr.step.tape, hr.step.output, hr.step.size, hr.step.block⟩, hr.key, hr.le, hr.new⟩)
theorem d_done {W : World → Prop} (h : Tr c (Q .normal) E H S) : Tr c (planP P l.toArray Q W T .done) E H S := h
theorem d_stop {W : World → Prop} : Tr c (planP P l.toArray Q W T .stop) E H S := fun _ _ _ _ => trivial
theorem wanted_none {ops : Array Oper} {o : Oper} {a : Act} (hg : o.guard = none) : Region.wanted o (yielded ops a.tmps) = true := by simp [Region.wanted, hg]
theorem d_y {W : World → Prop} {p : Plan} {i d : Nat} {o : Oper} {v : Value} (ho : l[i]? = some o) (hg : o.guard = none) (hy : Yld P E o v) (hd : o.dst = some d) (hlt : d < c.n) (h : Tr c (planP P l.toArray Q W T p) ((d, v) :: E) H S) :
    Tr c (planP P l.toArray Q W T (.take i p)) E H S := fun a w ha hr =>
  ⟨o, v, by simpa using ho, .inl (.inl ⟨wanted_none hg, fun w' _ => hy c.n a w' ha⟩), by rw [hd]; exact h _ w (ha.put hlt v) hr⟩
/-- A guarded operation that is wanted. -/
theorem d_yg {W : World → Prop} {p : Plan} {i d gd : Nat} {want : Bool} {o : Oper} {v : Value} (ho : l[i]? = some o) (hg : gslot l.toArray o = some (gd, want)) (hb : E.lk gd = some (.bool want)) (hy : Yld P E o v) (hd : o.dst = some d) (hlt : d < c.n) (h : Tr c (planP P l.toArray Q W T p) ((d, v) :: E) H S) :
    Tr c (planP P l.toArray Q W T (.take i p)) E H S := fun a w ha hr =>
  ⟨o, v, by simpa using ho, .inl (.inl ⟨by rw [wanted_of hg ha hb]; simp, fun w' _ => hy c.n a w' ha⟩), by rw [hd]; exact h _ w (ha.put hlt v) hr⟩
/-- A guarded operation that is not wanted. -/
theorem d_no {W : World → Prop} {p : Plan} {i d gd : Nat} {want : Bool} {o : Oper} (ho : l[i]? = some o) (hg : gslot l.toArray o = some (gd, want)) (hb : E.lk gd = some (.bool (!want))) (hd : o.dst = some d) (hlt : d < c.n) (h : Tr c (planP P l.toArray Q W T p) ((d, undef) :: E) H S) :
    Tr c (planP P l.toArray Q W T (.take i p)) E H S := fun a w ha hr =>
  ⟨o, undef, by simpa using ho, .inl (.inr ⟨by rw [wanted_of hg ha hb]; cases want <;> simp, rfl⟩), by rw [hd]; exact h _ w (ha.put hlt _) hr⟩
theorem has_of {w : World} (hH : ∀ it ∈ HT, it ∈ H) (hS : Stone.le ST S) (h1 : ∀ it ∈ H, it.holds w) (h2 : ∀ b o, S b = some o → w.heap[b]? = some o) : Has HT ST w := ⟨fun it hit => h1 it (hH it hit), fun b o hb => h2 b o (hS b o hb)⟩
theorem d_ld {p : Plan} {i d : Nat} {o : Oper} {v : Value} (ho : l[i]? = some o) (hg : o.guard = none) (hT : T.contains i = true) (hy : Ld P E HT ST o v) (hd : o.dst = some d) (hlt : d < c.n) (hH : ∀ it ∈ HT, it ∈ H) (hS : Stone.le ST S) (h : Tr c (planP P l.toArray Q (Has HT ST) T p) ((d, v) :: E) H S) :
    Tr c (planP P l.toArray Q (Has HT ST) T (.take i p)) E H S := fun a w ha hr =>
  ⟨o, v, by simpa using ho, .inr ⟨by simpa using hT, .inl ⟨wanted_none hg, fun w hw => hy c.n a w ha hw.1 hw.2⟩, has_of hH hS hr.ok.item hr.ok.stone⟩, by rw [hd]; exact h _ w (ha.put hlt v) hr⟩
theorem d_ldg {p : Plan} {i d gd : Nat} {want : Bool} {o : Oper} {v : Value} (ho : l[i]? = some o) (hg : gslot l.toArray o = some (gd, want)) (hb : E.lk gd = some (.bool want)) (hT : T.contains i = true) (hy : Ld P E HT ST o v) (hd : o.dst = some d) (hlt : d < c.n) (hH : ∀ it ∈ HT, it ∈ H) (hS : Stone.le ST S) (h : Tr c (planP P l.toArray Q (Has HT ST) T p) ((d, v) :: E) H S) :
    Tr c (planP P l.toArray Q (Has HT ST) T (.take i p)) E H S := fun a w ha hr =>
  ⟨o, v, by simpa using ho, .inr ⟨by simpa using hT, .inl ⟨by rw [wanted_of hg ha hb]; simp, fun w hw => hy c.n a w ha hw.1 hw.2⟩, has_of hH hS hr.ok.item hr.ok.stone⟩, by rw [hd]; exact h _ w (ha.put hlt v) hr⟩
theorem d_alt {W : World → Prop} {p q : Plan} {i : Nat} {o : Oper} (ho : l[i]? = some o) (hg : o.guard = none)
    (h1 : Tr c (OpW P o (fun a' w' => (lateB l.toArray T i = false → W w') ∧ planP P l.toArray Q W T p a' w') Q) E H S) (h2 : Tr c (planP P l.toArray Q W T q) E H S) : Tr c (planP P l.toArray Q W T (.alt i p q)) E H S := fun a w ha hr => by
  refine ⟨?_, h2 a w ha hr⟩
  unfold wpOp
  have ho' : l.toArray[i]? = some o := by simpa using ho
  simp only [ho', wanted_none hg, if_true]
  exact .inl (Oper.wp_mono (fun a' w' h => ⟨fun hl _ => h.1 hl, h.2⟩) (h1 a w ha hr))
theorem d_altg {W : World → Prop} {p q : Plan} {i gd : Nat} {want : Bool} {o : Oper} (ho : l[i]? = some o) (hg : gslot l.toArray o = some (gd, want)) (hb : E.lk gd = some (.bool want))
    (h1 : Tr c (OpW P o (fun a' w' => (lateB l.toArray T i = false → W w') ∧ planP P l.toArray Q W T p a' w') Q) E H S) (h2 : Tr c (planP P l.toArray Q W T q) E H S) : Tr c (planP P l.toArray Q W T (.alt i p q)) E H S := fun a w ha hr => by
  refine ⟨?_, h2 a w ha hr⟩
  unfold wpOp
  have ho' : l.toArray[i]? = some o := by simpa using ho
  simp only [ho', wanted_of hg ha hb, beq_self_eq_true, if_true]
  exact .inl (Oper.wp_mono (fun a' w' h => ⟨fun hl _ => h.1 hl, h.2⟩) (h1 a w ha hr))
theorem d_altno {W : World → Prop} {p q : Plan} {i d gd : Nat} {want : Bool} {o : Oper} (ho : l[i]? = some o) (hg : gslot l.toArray o = some (gd, want)) (hb : E.lk gd = some (.bool (!want))) (hd : o.dst = some d) (hlt : d < c.n)
    (h1 : Tr c (planP P l.toArray Q W T p) ((d, undef) :: E) H S) (h2 : Tr c (planP P l.toArray Q W T q) E H S) : Tr c (planP P l.toArray Q W T (.alt i p q)) E H S := fun a w ha hr => by
  refine ⟨?_, h2 a w ha hr⟩
  unfold wpOp
  have ho' : l.toArray[i]? = some o := by simpa using ho
  simp only [ho', wanted_of hg ha hb]
  rw [if_neg (by cases want <;> simp)]
  refine ⟨fun _ h => h, ?_⟩
  rw [hd]
  exact h1 _ w (ha.put hlt _) hr
/-- Behind an operation that keeps what is held. -/
theorem d_and {K : Act → World → Prop} {b : Bool} (hk : b = true ∨ ((∀ it ∈ HT, it ∈ H) ∧ Stone.le ST S)) (h : Tr c K E H S) : Tr c (fun a' w' => (b = false → Has HT ST w') ∧ K a' w') E H S := fun a w ha hr => by
  refine ⟨fun hb => ?_, h a w ha hr⟩
  rcases hk with h1 | ⟨h1, h2⟩
  · rw [h1] at hb; cases hb
  · exact has_of h1 h2 hr.ok.item hr.ok.stone
end
end Go.Proofs.YtkdmbimkanjbhaaGreatDoor.Eng
namespace Go.Proofs.YtkdmbimkanjbhaaGreatDoor.Eng
open Go
theorem lt_n {d n : Nat} (h : Nat.blt d n = true) : d < n := Nat.le_of_ble_eq_true h
section
variable {P : Program} {c : Cx} {K : Act → World → Prop} {Q : Exit → Act → World → Prop} {E : Env} {H : List Item} {S : Stone} {ops : Array Oper} {l rest : List Oper} {o : Oper}
/-! ### what a function hands back -/
inductive ResV (P : Program) (E : Env) (H : List Item) : List ResultVar → List Value → Prop
  | nil : ResV P E H [] []
  | tmp {t : Nat} {v : Value} {rs : List ResultVar} {vs : List Value} (h : E.lk t = some v) (r : ResV P E H rs vs) : ResV P E H (.tmp t :: rs) (v :: vs)
  | one {t T T' b off : Nat} {cs : List Value} {fz : Nat × Nat} {v : Value} {H' : List Item} {rs : List ResultVar} {vs : List Value} (hk : ldK P T = some none) (h : E.lk t = some (.pointer (some ⟨b, off, none⟩)))
      (hp : Pick H (.blk b (.cells cs.toArray T' fz)) H') (hc : cs[off]? = some v) (r : ResV P E H rs vs) : ResV P E H (.cell t T :: rs) (v :: vs)
  | agg {t T T' b m : Nat} {cs : List Value} {fz : Nat × Nat} {H' : List Item} {rs : List ResultVar} {vs : List Value} (hk : ldK P T = some (some m)) (h : E.lk t = some (.pointer (some ⟨b, 0, none⟩)))
      (hp : Pick H (.blk b (.cells cs.toArray T' fz)) H') (hc : cs.length = m) (r : ResV P E H rs vs) : ResV P E H (.cell t T :: rs) (.agg cs.toArray :: vs)
def pack : List Value → Value
  | [v] => v
  | l => .tuple l.toArray
theorem run_results {fn : Func} {rs : List ResultVar} {vs : List Value} {n : Nat} {a : Act} {w : World} (hr : fn.results.toList = rs) (hv : ResV P E H rs vs) (ha : Env.ok n E a) (hH : ∀ it ∈ H, it.holds w) : (results fn a.tmps).run P w = .ok (pack vs) w := by
  have key : ∀ (F : ResultVar → Sem Value) , (∀ t, F (.tmp t) = pure (a.tmps.getD t undef)) → (∀ p t, F (.cell p t) = (do loadVar t (← asAddr (a.tmps.getD p undef)))) → ∀ (rs : List ResultVar) (vs : List Value), ResV P E H rs vs → (rs.mapM F).run P w = .ok vs w := by
    intro F h1 h2 rs vs hv
    induction hv with
    | nil => simp
    | tmp h r ih => simp only [List.mapM_cons, h1, ha.lk _ _ h, Sem.run_bind, Sem.run_pure, Result.andThen_ok, ih]
    | one hk h hp hc r ih =>
      have hb : w.cell? _ = some _ := (cell_at (hH _ hp.mem)).trans (by simpa using hc)
      simp only [List.mapM_cons, h2, ha.lk _ _ h, Sem.run_bind, asAddr, Sem.run_pure, Result.andThen_ok, run_loadVar_one hk hb, ih]
    | agg hk h hp hc r ih =>
      have hb : ∀ j v, (_ : List Value)[j]? = some v → w.cell? (Addr.add ⟨_, 0, none⟩ j) = some v := fun j v hj => by
        rw [add_lit, Nat.zero_add]
        exact (cell_at (hH _ hp.mem)).trans (by simpa using hj)
      simp only [List.mapM_cons, h2, ha.lk _ _ h, Sem.run_bind, asAddr, Sem.run_pure, Result.andThen_ok, run_loadVar_many hk hc hb, ih]
  have hm := key (fun | .tmp t => pure (a.tmps.getD t undef) | .cell p t => do loadVar t (← asAddr (a.tmps.getD p undef))) (fun _ => rfl) (fun _ _ => rfl) rs vs hv
  have hm' : (fn.results.mapM (fun | .tmp t => pure (a.tmps.getD t undef) | .cell p t => do loadVar t (← asAddr (a.tmps.getD p undef)) : ResultVar → Sem Value)).run P w = .ok vs.toArray w := by
    rw [Array.mapM_eq_mapM_toList, hr]
    simp only [Sem.run_map, hm]
    rfl
  have he : results fn a.tmps = (do
      let vs ← fn.results.mapM (fun | .tmp t => pure (a.tmps.getD t undef) | .cell p t => do loadVar t (← asAddr (a.tmps.getD p undef)) : ResultVar → Sem Value)
      pure (if h : vs.size = 1 then vs[0] else .tuple vs)) := rfl
  rw [he]
  simp only [Sem.run_bind, hm', Result.andThen_ok, Sem.run_pure]
  congr 1
  match vs with
  | [] => rfl
  | [v] => rfl
  | u :: v :: l => simp [pack]
theorem f_ret {fn : Func} {rs : List ResultVar} {vs : List Value} {G I' : List Item} {R : Value → List Item → Stone → Prop} (hr : fn.results.toList = rs) (hv : ResV P E H rs vs) (hp : H.Perm (G ++ I')) (hR : R (pack vs) I' S) : Tr c (bodyPost P fn (PostR c R) .ret) E H S := fun _a _w ha hr' =>
  ⟨ha.defers, pack vs, run_results hr hv ha hr'.ok.item, pack vs, I', S, rfl, Mv.drop (I := G) (Mv.perm hr' hp), hR⟩
theorem f_end {fn : Func} {rs : List ResultVar} {vs : List Value} {G I' : List Item} {R : Value → List Item → Stone → Prop} (hr : fn.results.toList = rs) (hv : ResV P E H rs vs) (hp : H.Perm (G ++ I')) (hR : R (pack vs) I' S) : Tr c (bodyPost P fn (PostR c R) .normal) E H S := fun _a _w ha hr' =>
  ⟨ha.defers, pack vs, run_results hr hv ha hr'.ok.item, pack vs, I', S, rfl, Mv.drop (I := G) (Mv.perm hr' hp), hR⟩
theorem post_panic {fn : Func} {R : Value → List Item → Stone → Prop} : ∀ ch (a a' : Act) (w : World), bodyPost P fn (PostR c R) (.panic ch) a w → bodyPost P fn (PostR c R) (.panic ch) a' w := fun _ _ _ _ ⟨_, _, _, _, h, _⟩ => by cases h
/-! ### guards, cuts -/
theorem l_yes' {d : Nat} {want b : Bool} (hg : gslot ops o = some (d, want)) (hb : E.lk d = some (.bool b)) (hw : b = want) (h : Tr c (OpW P o (wpList P ops Q rest) Q) E H S) : Tr c (wpList P ops Q (o :: rest)) E H S := by
  subst hw; exact l_yes hg hb h
theorem l_no' {d d' : Nat} {want b : Bool} (hg : gslot ops o = some (d, want)) (hb : E.lk d = some (.bool b)) (hw : b = !want) (hd : o.dst = some d') (hlt : d' < c.n) (h : Tr c (wpList P ops Q rest) ((d', undef) :: E) H S) : Tr c (wpList P ops Q (o :: rest)) E H S := by
  subst hw; exact l_no hg hb hd hlt h
theorem wanted_undef {d : Nat} {want : Bool} {n : Nat} {a : Act} (hg : gslot ops o = some (d, want)) (ha : Env.ok n E a) (hb : E.lk d = some undef) : Region.wanted o (yielded ops a.tmps) = false := by
  unfold gslot at hg
  cases hgd : o.guard with
  | none => rw [hgd] at hg; cases hg
  | some jw =>
    obtain ⟨j, wt⟩ := jw
    rw [hgd] at hg
    simp only [Option.map_eq_some_iff, Prod.mk.injEq] at hg
    obtain ⟨d', hd', rfl, rfl⟩ := hg
    have h1 := ha.lk d' _ hb
    unfold Region.wanted
    rw [hgd]
    have h2 : a.tmps[d']? = none ∨ a.tmps[d']? = some undef := by
      rw [Array.getD_eq_getD_getElem?] at h1
      cases h3 : a.tmps[d']? with
      | none => exact .inl rfl
      | some u => rw [h3] at h1; exact .inr (congrArg some h1)
    simp only [yielded, hd', Option.bind_some]
    rcases h2 with h2 | h2 <;> rw [h2] <;> rfl
theorem l_nou {d d' : Nat} {want : Bool} (hg : gslot ops o = some (d, want)) (hb : E.lk d = some undef) (hd : o.dst = some d') (hlt : d' < c.n) (h : Tr c (wpList P ops Q rest) ((d', undef) :: E) H S) : Tr c (wpList P ops Q (o :: rest)) E H S := fun a w ha hr => by
  show wpList P ops Q (o :: rest) a w
  unfold wpList
  rw [if_neg (by rw [wanted_undef hg ha hb]; simp), hd]
  exact h _ w (ha.put hlt _) hr
theorem t_split {gd : Nat} {b : Bool} (_hb : E.lk gd = some (.bool b)) (h1 : b = true → Tr c K E H S) (h0 : b = false → Tr c K E H S) : Tr c K E H S := by cases b with | true => exact h1 rfl | false => exact h0 rfl
theorem wpList_app : ∀ (l1 : List Oper) {l2 : List Oper} {a : Act} {w : World}, wpList P ops (Exit.then (wpList P ops Q l2) Q) l1 a w → wpList P ops Q (l1 ++ l2) a w
  | [], _, _, _, h => h
  | o :: l1, l2, a, w, h => by
    have hout : LetsOut (Exit.then (wpList P ops Q l2) Q) → LetsOut Q := fun ⟨a, w, h⟩ => ⟨a, w, h⟩
    have hup : ∀ r, Oper.upon P o a (wpList P ops (Exit.then (wpList P ops Q l2) Q) l1) (Exit.then (wpList P ops Q l2) Q) r → Oper.upon P o a (wpList P ops Q (l1 ++ l2)) Q r := by
      intro r hr
      cases r with
      | ok n w' =>
        cases n <;> simp only [Oper.upon] at hr ⊢ <;> first
          | exact wpList_app l1 hr
          | exact Calls.mono hr (fun e w'' he => by cases e <;> first | exact wpList_app l1 he | exact he | exact hout he)
          | exact Rows.mono hr (fun _ _ he => wpList_app l1 he)
      | halt x w' => cases x <;> simp only [Oper.upon] at hr ⊢; exact hr
    show wpList P ops Q (o :: (l1 ++ l2)) a w
    unfold wpList at h ⊢
    split at h
    · rename_i hw
      rw [if_pos hw]
      rcases h with h | ⟨h1, h2⟩
      · exact .inl (hup _ h)
      · exact .inr ⟨h1, hout h2⟩
    · rename_i hw
      rw [if_neg hw]
      exact wpList_app l1 h
/-- A part of a list of operations is walked for itself: it comes to one state. -/
theorem l_cut (k : Nat) {E' : Env} {H' : List Item} {S' : Stone} (h1 : ∀ K, Tr c K E' H' S' → Tr c (wpList P ops (Exit.then K Q) (l.take k)) E H S) (h2 : Tr c (wpList P ops Q (l.drop k)) E' H' S') : Tr c (wpList P ops Q l) E H S := fun a w ha hr => by
  have := wpList_app (l.take k) (h1 _ h2 a w ha hr)
  rwa [List.take_append_drop] at this
/-- 'x && y', 'x || y' whose right side does nothing but look: the slot of the result alone is kept. -/
theorem l_and (k : Nat) {gd d : Nat} {b r : Bool} (_hb : E.lk gd = some (.bool b)) (h1 : b = true → ∀ K, Tr c K ((d, .bool r) :: E) H S → Tr c (wpList P ops (Exit.then K Q) (l.take k)) E H S) (h0 : b = false → ∀ K, Tr c K ((d, .bool false) :: E) H S → Tr c (wpList P ops (Exit.then K Q) (l.take k)) E H S)
    (h2 : Tr c (wpList P ops Q (l.drop k)) ((d, .bool (b && r)) :: E) H S) : Tr c (wpList P ops Q l) E H S :=
  l_cut k (fun K hK => by cases b with | true => exact h1 rfl K hK | false => exact h0 rfl K hK) h2
theorem l_or (k : Nat) {gd d : Nat} {b r : Bool} (_hb : E.lk gd = some (.bool b)) (h1 : b = false → ∀ K, Tr c K ((d, .bool r) :: E) H S → Tr c (wpList P ops (Exit.then K Q) (l.take k)) E H S) (h0 : b = true → ∀ K, Tr c K ((d, .bool true) :: E) H S → Tr c (wpList P ops (Exit.then K Q) (l.take k)) E H S)
    (h2 : Tr c (wpList P ops Q (l.drop k)) ((d, .bool (b || r)) :: E) H S) : Tr c (wpList P ops Q l) E H S :=
  l_cut k (fun K hK => by cases b with | false => exact h1 rfl K hK | true => exact h0 rfl K hK) h2
theorem c_cut {x : Code} {K0 : Act → World → Prop} {E' : Env} {H' : List Item} {S' : Stone} (h1 : ∀ K, Tr c K E' H' S' → Tr c (x.wp P (Exit.then K Q)) E H S) (h2 : Tr c K0 E' H' S') : Tr c (x.wp P (Exit.then K0 Q)) E H S := h1 K0 h2
theorem c_cutx {x : Code} {K0 : Act → World → Prop} {τ : Sort _} (E' : τ → Env) (H' : τ → List Item) (S' : τ → Stone) (pre : τ → Prop) (h1 : ∀ K, (∀ z, pre z → Tr c K (E' z) (H' z) (S' z)) → Tr c (x.wp P (Exit.then K Q)) E H S) (h2 : ∀ z, pre z → Tr c K0 (E' z) (H' z) (S' z)) : Tr c (x.wp P (Exit.then K0 Q)) E H S := h1 K0 h2
theorem y_pick_t' {d : Option Tmp} {ty : TypeId} {pos : String} {aft : Array Edge} {g : Option (Nat × Bool)} {x y z : Operand} {b : Bool} {v : Value} (hx : E.op x = some (.bool b)) (hb : b = true) (hy : E.op y = some v) : Yld P E ⟨d, .pick x y z, ty, pos, aft, g⟩ v := by subst hb; exact y_pick_t hx hy
theorem y_pick_f' {d : Option Tmp} {ty : TypeId} {pos : String} {aft : Array Edge} {g : Option (Nat × Bool)} {x y z : Operand} {b : Bool} {v : Value} (hx : E.op x = some (.bool b)) (hb : b = false) (hz : E.op z = some v) : Yld P E ⟨d, .pick x y z, ty, pos, aft, g⟩ v := by subst hb; exact y_pick_f hx hz
theorem y_far {od : Option Tmp} {ty : TypeId} {pos : String} {aft : Array Edge} {g : Option (Nat × Bool)} {s : TypeId} {f k b off : Nat} {x : Operand} (hk : fldK P s f = some k) (hx : E.op x = some (.pointer (some ⟨b, off, none⟩))) :
    Yld P E ⟨od, .fieldAddr s x f, ty, pos, aft, g⟩ (.pointer (some ⟨b, off + k, none⟩)) := by
  rw [← add_lit]; exact y_fa hk hx
theorem y_iar {od : Option Tmp} {ty : TypeId} {pos : String} {aft : Array Edge} {g : Option (Nat × Bool)} {t e : TypeId} {size : Nat} {x y : Operand} {b off n m : Nat} {k : IntKind} {i : Int} (hk : slK P t = some (e, size)) (hx : E.op x = some (.slice (some ⟨b, off, none⟩) n m)) (hy : E.op y = some (.int k i)) (h0 : 0 ≤ i) (h1 : i < n) :
    Yld P E ⟨od, .indexAddr t x y, ty, pos, aft, g⟩ (.pointer (some ⟨b, off + i.toNat * size, none⟩)) := by
  rw [← add_lit]; exact y_ia hk hx hy h0 h1
theorem y_iaar {od : Option Tmp} {ty : TypeId} {pos : String} {aft : Array Edge} {g : Option (Nat × Bool)} {t e : TypeId} {size n : Nat} {x y : Operand} {b off : Nat} {k : IntKind} {i : Int} (hk : arK P t = some (n, e, size)) (hx : E.op x = some (.pointer (some ⟨b, off, none⟩))) (hy : E.op y = some (.int k i)) (h0 : 0 ≤ i) (h1 : i < n) :
    Yld P E ⟨od, .indexAddr t x y, ty, pos, aft, g⟩ (.pointer (some ⟨b, off + i.toNat * size, none⟩)) := by
  rw [← add_lit]; exact y_iaa hk hx hy h0 h1
theorem t_keep {d : Nat} {v : Value} {E0 : Env} (h : Tr c K ((d, v) :: E0) H S) (hv : E.lk d = some v) (hs : Env.sub E0 E) : Tr c K E H S := t_env (Env.sub_cons hv hs) h
theorem Env.sub_refl (E : Env) : Env.sub E E := fun _ _ h => h
theorem Env.sub_skip {E E' : Env} {d : Nat} {v : Value} (h : Env.sub E' E) (hn : E'.lk d = none) : Env.sub E' ((d, v) :: E) := fun i u hi => by
  cases hb : Nat.beq d i with
  | true =>
    have := Nat.eq_of_beq_eq_true hb
    subst this
    rw [hn] at hi; cases hi
  | false => simpa [Env.lk, hb] using h i u hi
/-! ### drawn regions, once more -/
theorem d_region_all {id : Nat} {l : List Oper} (T : List Nat) (p : Plan) (hm : P.follows .mixedOrders = true) (hc : (Region.noSelect l.toArray && p.chk l.toArray T true (Array.replicate l.toArray.size false) && decide (p.size ≤ l.toArray.size)) = true)
    (hQ : ∀ c a a' w, Q (.panic c) a w → Q (.panic c) a' w) (h : Tr c (planP P l.toArray Q (Has H S) T p) E H S) : Tr c ((Code.region id l.toArray true).wp P Q) E H S := d_region H T p hm hc hQ h
section
variable {T : List Nat} {HT : List Item} {ST : Stone} {W : World → Prop} {p q : Plan} {i d gd : Nat} {want b : Bool} {v : Value}
theorem d_yg' (ho : l[i]? = some o) (hg : gslot l.toArray o = some (gd, want)) (hb : E.lk gd = some (.bool b)) (hw : b = want) (hy : Yld P E o v) (hd : o.dst = some d) (hlt : d < c.n) (h : Tr c (planP P l.toArray Q W T p) ((d, v) :: E) H S) :
    Tr c (planP P l.toArray Q W T (.take i p)) E H S := by subst hw; exact d_yg ho hg hb hy hd hlt h
theorem d_no' (ho : l[i]? = some o) (hg : gslot l.toArray o = some (gd, want)) (hb : E.lk gd = some (.bool b)) (hw : b = !want) (hd : o.dst = some d) (hlt : d < c.n) (h : Tr c (planP P l.toArray Q W T p) ((d, undef) :: E) H S) :
    Tr c (planP P l.toArray Q W T (.take i p)) E H S := by subst hw; exact d_no ho hg hb hd hlt h
theorem d_nou (ho : l[i]? = some o) (hg : gslot l.toArray o = some (gd, want)) (hb : E.lk gd = some undef) (hd : o.dst = some d) (hlt : d < c.n) (h : Tr c (planP P l.toArray Q W T p) ((d, undef) :: E) H S) :
    Tr c (planP P l.toArray Q W T (.take i p)) E H S := fun a w ha hr =>
  ⟨o, undef, by simpa using ho, .inl (.inr ⟨wanted_undef hg ha hb, rfl⟩), by rw [hd]; exact h _ w (ha.put hlt _) hr⟩
theorem d_ldg' (ho : l[i]? = some o) (hg : gslot l.toArray o = some (gd, want)) (hb : E.lk gd = some (.bool b)) (hw : b = want) (hT : T.contains i = true) (hy : Ld P E HT ST o v) (hd : o.dst = some d) (hlt : d < c.n) (hH : ∀ it ∈ HT, it ∈ H) (hS : Stone.le ST S) (h : Tr c (planP P l.toArray Q (Has HT ST) T p) ((d, v) :: E) H S) :
    Tr c (planP P l.toArray Q (Has HT ST) T (.take i p)) E H S := by subst hw; exact d_ldg ho hg hb hT hy hd hlt hH hS h
theorem d_altg' (ho : l[i]? = some o) (hg : gslot l.toArray o = some (gd, want)) (hb : E.lk gd = some (.bool b)) (hw : b = want)
    (h1 : Tr c (OpW P o (fun a' w' => (lateB l.toArray T i = false → W w') ∧ planP P l.toArray Q W T p a' w') Q) E H S) (h2 : Tr c (planP P l.toArray Q W T q) E H S) : Tr c (planP P l.toArray Q W T (.alt i p q)) E H S := by subst hw; exact d_altg ho hg hb h1 h2
theorem d_altno' (ho : l[i]? = some o) (hg : gslot l.toArray o = some (gd, want)) (hb : E.lk gd = some (.bool b)) (hw : b = !want) (hd : o.dst = some d) (hlt : d < c.n)
    (h1 : Tr c (planP P l.toArray Q W T p) ((d, undef) :: E) H S) (h2 : Tr c (planP P l.toArray Q W T q) E H S) : Tr c (planP P l.toArray Q W T (.alt i p q)) E H S := by subst hw; exact d_altno ho hg hb hd hlt h1 h2
theorem d_altnou (ho : l[i]? = some o) (hg : gslot l.toArray o = some (gd, want)) (hb : E.lk gd = some undef) (hd : o.dst = some d) (hlt : d < c.n)
    (h1 : Tr c (planP P l.toArray Q W T p) ((d, undef) :: E) H S) (h2 : Tr c (planP P l.toArray Q W T q) E H S) : Tr c (planP P l.toArray Q W T (.alt i p q)) E H S := fun a w ha hr => by
  refine ⟨?_, h2 a w ha hr⟩
  unfold wpOp
  have ho' : l.toArray[i]? = some o := by simpa using ho
  simp only [ho', wanted_undef hg ha hb]
  rw [if_neg (by simp)]
  refine ⟨fun _ h => h, ?_⟩
  rw [hd]
  exact h1 _ w (ha.put hlt _) hr
end
/-! ### calls that only compute -/
def Ret (v : Value) (S : Stone) : Value → List Item → Stone → Prop := fun u I' S' => u = v ∧ I' = [] ∧ S' = S
section
variable {d : Tmp} {ty : TypeId} {pos : String} {aft : Array Edge} {g : Option (Nat × Bool)}
theorem t_callr {f : FuncId} {l : List Operand} {ts : Array TypeId} {vs : List Value} {v : Value} (hk : enK P f = true) (hv : E.ops l = some vs) (hc : Con P f vs.toArray [] S (Ret v S)) (hlt : d < c.n) (h : Tr c K ((d, v) :: E) H S) :
    Tr c (OpW P ⟨some d, .call ⟨.value (.func f), l.toArray, ts⟩, ty, pos, aft, g⟩ K Q) E H S := t_call (I := []) hk hv (List.Perm.refl _) hc hlt (fun u I' S' _ ⟨e1, e2, e3⟩ => by subst e1; subst e2; subst e3; exact h)
theorem t_callvr {f : FuncId} {x : Operand} {l : List Operand} {ts : Array TypeId} {vs v1 v2 : List Value} {v : Value} (hx : E.op x = some (.func (.func f) v1.toArray v2.toArray)) (hk : enK P f = true) (hv : E.ops l = some vs)
    (hc : Con P f (v1 ++ vs ++ v2).toArray [] S (Ret v S)) (hlt : d < c.n) (h : Tr c K ((d, v) :: E) H S) : Tr c (OpW P ⟨some d, .call ⟨.value x, l.toArray, ts⟩, ty, pos, aft, g⟩ K Q) E H S :=
  t_callv (I := []) hx hk hv (List.Perm.refl _) hc hlt (fun u I' S' _ ⟨e1, e2, e3⟩ => by subst e1; subst e2; subst e3; exact h)
end
/-- At a function's end: everything is dropped. -/
theorem f_ret0 {fn : Func} {rs : List ResultVar} {vs : List Value} {v : Value} {S0 : Stone} (hr : fn.results.toList = rs) (hv : ResV P E H rs vs) (he : pack vs = v) (hS : S = S0) : Tr c (bodyPost P fn (PostR c (Ret v S0)) .ret) E H S :=
  f_ret hr hv (G := H) (I' := []) (by simp) ⟨he, rfl, hS⟩
theorem f_end0 {fn : Func} {rs : List ResultVar} {vs : List Value} {v : Value} {S0 : Stone} (hr : fn.results.toList = rs) (hv : ResV P E H rs vs) (he : pack vs = v) (hS : S = S0) : Tr c (bodyPost P fn (PostR c (Ret v S0)) .normal) E H S :=
  f_end hr hv (G := H) (I' := []) (by simp) ⟨he, rfl, hS⟩
end
end Go.Proofs.YtkdmbimkanjbhaaGreatDoor.Eng
namespace Go.Proofs.YtkdmbimkanjbhaaGreatDoor.Eng
open Go
inductive Have : List Item → List Item → Prop
  | nil {H : List Item} : Have [] H
  | cons {it : Item} {HT H H1 : List Item} (h : Pick H it H1) (t : Have HT H) : Have (it :: HT) H
theorem Have.mem {HT H : List Item} (h : Have HT H) : ∀ it ∈ HT, it ∈ H := by
  induction h with
  | nil => intro it h; cases h
  | cons hp _ ih =>
    intro it h
    rcases List.mem_cons.1 h with rfl | h
    · exact hp.mem
    · exact ih it h
section
variable {P : Program} {c : Cx} {K : Act → World → Prop} {Q : Exit → Act → World → Prop} {E : Env} {H : List Item} {S : Stone} {ops : Array Oper} {l rest : List Oper} {o : Oper}
theorem ly {d : Nat} {v : Value} (hy : Yld P E o v) (h : Tr c (wpList P ops Q rest) ((d, v) :: E) H S) (hg : o.guard = none := by rfl) (hd : o.dst = some d := by rfl) (hlt : Nat.blt d c.n = true := by rfl) : Tr c (wpList P ops Q (o :: rest)) E H S :=
  l_cons hg (t_y hy hd (lt_n hlt) h)
theorem ll {d : Nat} {v : Value} (hy : Ld P E H S o v) (h : Tr c (wpList P ops Q rest) ((d, v) :: E) H S) (hg : o.guard = none := by rfl) (hd : o.dst = some d := by rfl) (hlt : Nat.blt d c.n = true := by rfl) : Tr c (wpList P ops Q (o :: rest)) E H S :=
  l_cons hg (t_ld hy hd (lt_n hlt) h)
theorem lw (h : Tr c (OpW P o (wpList P ops Q rest) Q) E H S) (hg : o.guard = none := by rfl) : Tr c (wpList P ops Q (o :: rest)) E H S := l_cons hg h
theorem gy {d gd : Nat} {want b : Bool} {v : Value} (hw : b = want) (hy : Yld P E o v) (h : Tr c (wpList P ops Q rest) ((d, v) :: E) H S) (hg : gslot ops o = some (gd, want) := by rfl) (hb : E.lk gd = some (.bool b) := by rfl) (hd : o.dst = some d := by rfl) (hlt : Nat.blt d c.n = true := by rfl) : Tr c (wpList P ops Q (o :: rest)) E H S :=
  l_yes' hg hb hw (t_y hy hd (lt_n hlt) h)
theorem gl {d gd : Nat} {want b : Bool} {v : Value} (hw : b = want) (hy : Ld P E H S o v) (h : Tr c (wpList P ops Q rest) ((d, v) :: E) H S) (hg : gslot ops o = some (gd, want) := by rfl) (hb : E.lk gd = some (.bool b) := by rfl) (hd : o.dst = some d := by rfl) (hlt : Nat.blt d c.n = true := by rfl) : Tr c (wpList P ops Q (o :: rest)) E H S :=
  l_yes' hg hb hw (t_ld hy hd (lt_n hlt) h)
theorem gw {gd : Nat} {want b : Bool} (hw : b = want) (h : Tr c (OpW P o (wpList P ops Q rest) Q) E H S) (hg : gslot ops o = some (gd, want) := by rfl) (hb : E.lk gd = some (.bool b) := by rfl) : Tr c (wpList P ops Q (o :: rest)) E H S := l_yes' hg hb hw h
theorem gn {d gd : Nat} {want b : Bool} (hw : b = !want) (h : Tr c (wpList P ops Q rest) ((d, undef) :: E) H S) (hg : gslot ops o = some (gd, want) := by rfl) (hb : E.lk gd = some (.bool b) := by rfl) (hd : o.dst = some d := by rfl) (hlt : Nat.blt d c.n = true := by rfl) : Tr c (wpList P ops Q (o :: rest)) E H S :=
  l_no' hg hb hw hd (lt_n hlt) h
theorem gu {d gd : Nat} {want : Bool} (h : Tr c (wpList P ops Q rest) ((d, undef) :: E) H S) (hg : gslot ops o = some (gd, want) := by rfl) (hb : E.lk gd = some undef := by rfl) (hd : o.dst = some d := by rfl) (hlt : Nat.blt d c.n = true := by rfl) : Tr c (wpList P ops Q (o :: rest)) E H S :=
  l_nou hg hb hd (lt_n hlt) h
theorem t_known {gd : Nat} {b v : Bool} (_hb : E.lk gd = some (.bool b)) (hv : b = v) (h : b = v → Tr c K E H S) : Tr c K E H S := h hv
/-- The end of a cut: the slots that were there, and one more. -/
theorem lk_end {d : Nat} {v : Value} {E0 : Env} (hK : Tr c K ((d, v) :: E0) H S) (hv : E.lk d = some v := by rfl) (hs : Env.sub E0 E := by repeat (first | exact Env.sub_refl _ | refine Env.sub_skip ?_ rfl)) : Tr c (wpList P ops (Exit.then K Q) []) E H S :=
  l_nil (e_then (t_keep hK hv hs))
section
variable {T : List Nat} {HT : List Item} {ST : Stone} {W : World → Prop} {p q : Plan} {i d gd : Nat} {want b : Bool} {v : Value}
theorem dy (ho : l[i]? = some o) (hy : Yld P E o v) (h : Tr c (planP P l.toArray Q W T p) ((d, v) :: E) H S) (hg : o.guard = none := by rfl) (hd : o.dst = some d := by rfl) (hlt : Nat.blt d c.n = true := by rfl) : Tr c (planP P l.toArray Q W T (.take i p)) E H S := d_y ho hg hy hd (lt_n hlt) h
theorem dl (ho : l[i]? = some o) (hy : Ld P E HT ST o v) (h : Tr c (planP P l.toArray Q (Has HT ST) T p) ((d, v) :: E) H S) (hg : o.guard = none := by rfl) (hd : o.dst = some d := by rfl) (hlt : Nat.blt d c.n = true := by rfl) (hT : T.contains i = true := by rfl)
    (hH : ∀ it ∈ HT, it ∈ H := by first | exact fun _ h => h | exact fun _ h => List.mem_cons_of_mem _ h | exact fun _ h => List.mem_cons_of_mem _ (List.mem_cons_of_mem _ h) | exact Have.mem (by repeat (first | exact Have.nil | refine Have.cons (by repeat (first | exact Pick.hd | apply Pick.tl)) ?_))) (hS : Stone.le ST S := by first | exact Stone.le.refl _ | assumption) : Tr c (planP P l.toArray Q (Has HT ST) T (.take i p)) E H S := d_ld ho hg hT hy hd (lt_n hlt) hH hS h
theorem dgy (ho : l[i]? = some o) (hw : b = want) (hy : Yld P E o v) (h : Tr c (planP P l.toArray Q W T p) ((d, v) :: E) H S) (hg : gslot l.toArray o = some (gd, want) := by rfl) (hb : E.lk gd = some (.bool b) := by rfl) (hd : o.dst = some d := by rfl) (hlt : Nat.blt d c.n = true := by rfl) : Tr c (planP P l.toArray Q W T (.take i p)) E H S := d_yg' ho hg hb hw hy hd (lt_n hlt) h
theorem dgl (ho : l[i]? = some o) (hw : b = want) (hy : Ld P E HT ST o v) (h : Tr c (planP P l.toArray Q (Has HT ST) T p) ((d, v) :: E) H S) (hg : gslot l.toArray o = some (gd, want) := by rfl) (hb : E.lk gd = some (.bool b) := by rfl) (hd : o.dst = some d := by rfl) (hlt : Nat.blt d c.n = true := by rfl) (hT : T.contains i = true := by rfl)
    (hH : ∀ it ∈ HT, it ∈ H := by first | exact fun _ h => h | exact fun _ h => List.mem_cons_of_mem _ h | exact fun _ h => List.mem_cons_of_mem _ (List.mem_cons_of_mem _ h) | exact Have.mem (by repeat (first | exact Have.nil | refine Have.cons (by repeat (first | exact Pick.hd | apply Pick.tl)) ?_))) (hS : Stone.le ST S := by first | exact Stone.le.refl _ | assumption) : Tr c (planP P l.toArray Q (Has HT ST) T (.take i p)) E H S := d_ldg' ho hg hb hw hT hy hd (lt_n hlt) hH hS h
theorem dn (ho : l[i]? = some o) (hw : b = !want) (h : Tr c (planP P l.toArray Q W T p) ((d, undef) :: E) H S) (hg : gslot l.toArray o = some (gd, want) := by rfl) (hb : E.lk gd = some (.bool b) := by rfl) (hd : o.dst = some d := by rfl) (hlt : Nat.blt d c.n = true := by rfl) : Tr c (planP P l.toArray Q W T (.take i p)) E H S := d_no' ho hg hb hw hd (lt_n hlt) h
theorem du (ho : l[i]? = some o) (h : Tr c (planP P l.toArray Q W T p) ((d, undef) :: E) H S) (hg : gslot l.toArray o = some (gd, want) := by rfl) (hb : E.lk gd = some undef := by rfl) (hd : o.dst = some d := by rfl) (hlt : Nat.blt d c.n = true := by rfl) : Tr c (planP P l.toArray Q W T (.take i p)) E H S := d_nou ho hg hb hd (lt_n hlt) h
/-- The one operation that may come next. -/
theorem da (ho : l[i]? = some o) (h1 : Tr c (OpW P o (fun a' w' => (lateB l.toArray T i = false → W w') ∧ planP P l.toArray Q W T p a' w') Q) E H S) (hg : o.guard = none := by rfl) : Tr c (planP P l.toArray Q W T (.alt i p .stop)) E H S := d_alt ho hg h1 d_stop
theorem dag (ho : l[i]? = some o) (hw : b = want) (h1 : Tr c (OpW P o (fun a' w' => (lateB l.toArray T i = false → W w') ∧ planP P l.toArray Q W T p a' w') Q) E H S) (hg : gslot l.toArray o = some (gd, want) := by rfl) (hb : E.lk gd = some (.bool b) := by rfl) : Tr c (planP P l.toArray Q W T (.alt i p .stop)) E H S := d_altg' ho hg hb hw h1 d_stop
theorem dan (ho : l[i]? = some o) (hw : b = !want) (h1 : Tr c (planP P l.toArray Q W T p) ((d, undef) :: E) H S) (hg : gslot l.toArray o = some (gd, want) := by rfl) (hb : E.lk gd = some (.bool b) := by rfl) (hd : o.dst = some d := by rfl) (hlt : Nat.blt d c.n = true := by rfl) : Tr c (planP P l.toArray Q W T (.alt i p .stop)) E H S := d_altno' ho hg hb hw hd (lt_n hlt) h1 d_stop
theorem dau (ho : l[i]? = some o) (h1 : Tr c (planP P l.toArray Q W T p) ((d, undef) :: E) H S) (hg : gslot l.toArray o = some (gd, want) := by rfl) (hb : E.lk gd = some undef := by rfl) (hd : o.dst = some d := by rfl) (hlt : Nat.blt d c.n = true := by rfl) : Tr c (planP P l.toArray Q W T (.alt i p .stop)) E H S := d_altnou ho hg hb hd (lt_n hlt) h1 d_stop
theorem dk {bb : Bool} (h : Tr c K E H S) (hk : bb = true ∨ ((∀ it ∈ HT, it ∈ H) ∧ Stone.le ST S) := by first | exact .inl rfl | exact .inr ⟨fun _ h => h, Stone.le.refl _⟩ | exact .inr ⟨fun _ h => List.mem_cons_of_mem _ h, Stone.le.refl _⟩ | exact .inr ⟨fun _ h => List.mem_cons_of_mem _ (List.mem_cons_of_mem _ h), Stone.le.refl _⟩) : Tr c (fun a' w' => (bb = false → Has HT ST w') ∧ K a' w') E H S := d_and hk h
end
/-! ### loads, with their items -/
section
variable {d : Option Tmp} {ty : TypeId} {pos : String} {aft : Array Edge} {g : Option (Nat × Bool)}
theorem lb {t : TypeId} {x : Operand} {b off : Nat} {cs : List Value} {T : TypeId} {fz : Nat × Nat} {v : Value} {H' : List Item} (hk : ldK P t = some none) (hx : E.op x = some (.pointer (some ⟨b, off, none⟩)) := by rfl)
    (hp : Pick H (.blk b (.cells cs.toArray T fz)) H' := by repeat (first | exact Pick.hd | apply Pick.tl)) (hc : cs[off]? = some v := by rfl) : Ld P E H S ⟨d, .load t x, ty, pos, aft, g⟩ v := ld_blk hk hx hp hc
theorem lbs {t : TypeId} {x : Operand} {b off m : Nat} {cs : List Value} {T : TypeId} {fz : Nat × Nat} {vs : List Value} {H' : List Item} (hk : ldK P t = some (some m)) (hx : E.op x = some (.pointer (some ⟨b, off, none⟩)) := by rfl)
    (hp : Pick H (.blk b (.cells cs.toArray T fz)) H' := by repeat (first | exact Pick.hd | apply Pick.tl)) (hc : (cs.drop off).take m = vs := by rfl) (hl : vs.length = m := by rfl) : Ld P E H S ⟨d, .load t x, ty, pos, aft, g⟩ (.agg vs.toArray) := ld_blks hk hx hp hc hl
end
end
end Go.Proofs.YtkdmbimkanjbhaaGreatDoor.Eng
namespace Go.Proofs.YtkdmbimkanjbhaaGreatDoor.Eng
open Go
/-- These items are there; the others may be dropped. -/
inductive Sel : List Item → List Item → Prop
  | nil {H : List Item} : Sel H []
  | cons {H H1 H' : List Item} {it : Item} (h : Pick H it H1) (s : Sel H1 H') : Sel H (it :: H')
theorem Sel.perm {H H' : List Item} (h : Sel H H') : ∃ G, H.Perm (G ++ H') := by
  induction h with
  | nil => exact ⟨_, by rw [List.append_nil]⟩
  | @cons H H1 H' it hp _ ih =>
    obtain ⟨G, hG⟩ := ih
    refine ⟨G, hp.perm.trans ((List.Perm.cons it hG).trans ?_)⟩
    exact (List.perm_middle (l₁ := G) (a := it) (l₂ := H')).symm
theorem Sel.of_perm : ∀ {H' H G : List Item}, H.Perm (H' ++ G) → Sel H H'
  | [], _, _, _ => .nil
  | it :: H', H, G, hp => by
    have hm : it ∈ H := hp.mem_iff.2 (by simp)
    have key : ∀ {H : List Item}, it ∈ H → ∃ H1, Pick H it H1 := by
      intro H hm
      induction H with
      | nil => cases hm
      | cons x H ih =>
        rcases List.mem_cons.1 hm with rfl | h
        · exact ⟨_, .hd⟩
        · obtain ⟨H1, h1⟩ := ih h; exact ⟨_, .tl h1⟩
    obtain ⟨H1, h1⟩ := key hm
    exact .cons h1 (Sel.of_perm (G := G) (List.Perm.cons_inv ((h1.perm.symm.trans hp))))
theorem Sel.refl (H : List Item) : Sel H H := Sel.of_perm (G := []) (by simp)
theorem Sel.skip {H H' : List Item} {x : Item} (h : Sel H H') : Sel (x :: H) H' := by
  obtain ⟨G, hG⟩ := h.perm
  refine Sel.of_perm (G := x :: G) ?_
  exact (List.Perm.cons x (hG.trans List.perm_append_comm)).trans (List.perm_middle (l₁ := H') (a := x) (l₂ := G)).symm
section
variable {P : Program} {c : Cx} {K : Act → World → Prop} {Q : Exit → Act → World → Prop} {E : Env} {H : List Item} {S : Stone} {ops : Array Oper} {l rest : List Oper} {o : Oper}
theorem t_to {E' : Env} {H' : List Item} (h : Tr c K E' H' S) (he : Env.sub E' E := by repeat (first | exact Env.sub_nil _ | refine Env.sub_cons rfl ?_)) (hs : Sel H H' := by repeat (first | exact Sel.nil | exact Sel.refl _ | refine Sel.cons (by repeat (first | exact Pick.hd | apply Pick.tl)) ?_ | refine Sel.skip ?_)) : Tr c K E H S := by
  obtain ⟨G, hG⟩ := hs.perm
  exact t_weak he hG h
theorem c_loopE {x : Code} {τ : Type} (Ek : Env) (Ei : Env → τ → Env) (Hi : τ → List Item) (Si : τ → Stone) (pre : τ → Prop) (μ : τ → Nat) (x0 : τ) (h0 : pre x0)
    (round : ∀ z, pre z → ∀ K : Act → World → Prop, (∀ y, pre y → μ y < μ z → Tr c K (Ei Ek y) (Hi y) (Si y)) → Tr c (x.wp P (Exit.then K Q)) (Ei Ek z) (Hi z) (Si z))
    (hS : S = Si x0 := by rfl) (he : Env.sub (Ei Ek x0) E := by repeat (first | exact Env.sub_nil _ | refine Env.sub_cons rfl ?_)) (hs : Sel H (Hi x0) := by repeat (first | exact Sel.nil | exact Sel.refl _ | refine Sel.cons (by repeat (first | exact Pick.hd | apply Pick.tl)) ?_ | refine Sel.skip ?_)) : Tr c ((Code.loop x).wp P Q) E H S := by
  subst hS
  exact c_loop (Ei Ek) Hi Si pre μ x0 h0 (fun K h => t_to h he hs) round
/-- A part that comes to one value, whichever way. -/
theorem c_cutv {x : Code} {K0 : Act → World → Prop} {d : Nat} {v : Value} (h1 : ∀ K, Tr c K ((d, v) :: E) H S → Tr c (x.wp P (Exit.then K Q)) E H S) (h2 : Tr c K0 ((d, v) :: E) H S) : Tr c (x.wp P (Exit.then K0 Q)) E H S := h1 K0 h2
theorem lk_val {d : Nat} {u v : Value} {E0 : Env} (hK : Tr c K ((d, v) :: E0) H S) (hu : E.lk d = some u) (he : u = v) (hs : Env.sub E0 E := by repeat (first | exact Env.sub_refl _ | refine Env.sub_skip ?_ rfl)) : Tr c (Exit.then K Q .normal) E H S := by
  subst he; exact e_then (t_keep hK hu hs)
/-- A loop that keeps its items and its stone. -/
theorem c_loopH {x : Code} {τ : Type} (Ek : Env) (Ei : Env → τ → Env) (pre : τ → Prop) (μ : τ → Nat) (x0 : τ) (h0 : pre x0)
    (round : ∀ z, pre z → ∀ K : Act → World → Prop, (∀ y, pre y → μ y < μ z → Tr c K (Ei Ek y) H S) → Tr c (x.wp P (Exit.then K Q)) (Ei Ek z) H S)
    (he : Env.sub (Ei Ek x0) E := by repeat (first | exact Env.sub_nil _ | refine Env.sub_cons rfl ?_)) : Tr c ((Code.loop x).wp P Q) E H S :=
  c_loop (Ei Ek) (fun _ => H) (fun _ => S) pre μ x0 h0 (fun _ h => t_env he h) round
section
variable {d : Option Tmp} {ty : TypeId} {pos : String} {aft : Array Edge} {g : Option (Nat × Bool)}
theorem ops_map : ∀ {l : List Operand} {vs : List Value}, E.ops l = some vs → l.map E.op = vs.map some
  | [], vs, h => by simp only [Env.ops, Option.some.injEq] at h; subst h; rfl
  | x :: l, vs, h => by
    simp only [Env.ops] at h
    cases hx : E.op x with
    | none => rw [hx] at h; cases h
    | some u =>
      cases hl : E.ops l with
      | none => rw [hx, hl] at h; cases h
      | some us =>
        rw [hx, hl] at h
        simp only [Option.some.injEq] at h
        subst h
        simp [hx, ops_map hl]
theorem y_mf' {fn : Fn} {l1 l2 : List Operand} {v1 v2 : List Value} (h1 : E.ops l1 = some v1) (h2 : E.ops l2 = some v2) : Yld P E ⟨d, .makeFunc fn l1.toArray l2.toArray, ty, pos, aft, g⟩ (.func fn v1.toArray v2.toArray) := y_mf (by simpa using ops_map h1) (by simpa using ops_map h2)
/-- Numbers that are no less than 0. -/
theorem y_inc {t u : TypeId} {x : Operand} {n : Nat} (hx : E.op x = some (.int .i64 (n : Int))) (h : n + 1 ≤ 9223372036854775807) : Yld P E ⟨d, .binOp .add t x (.const (.int .i64 1)) u, ty, pos, aft, g⟩ (.int .i64 ((n + 1 : Nat) : Int)) :=
  y_add hx (rfl : E.op (.const (.int .i64 1)) = some (.int .i64 1)) (by rw [i64_in (by omega) (by omega)]; simp)
theorem y_incu {t u : TypeId} {x : Operand} {n : Nat} (hx : E.op x = some (.int .u64 (n : Int))) (h : n + 1 ≤ 18446744073709551615) : Yld P E ⟨d, .binOp .add t x (.const (.int .u64 1)) u, ty, pos, aft, g⟩ (.int .u64 ((n + 1 : Nat) : Int)) :=
  y_add hx (rfl : E.op (.const (.int .u64 1)) = some (.int .u64 1)) (by rw [u64_in (by omega) (by omega)]; simp)
theorem y_addN {t u : TypeId} {x y : Operand} {n m : Nat} (hx : E.op x = some (.int .i64 (n : Int))) (hy : E.op y = some (.int .i64 (m : Int))) (h : n + m ≤ 9223372036854775807) : Yld P E ⟨d, .binOp .add t x y u, ty, pos, aft, g⟩ (.int .i64 ((n + m : Nat) : Int)) :=
  y_add hx hy (by rw [i64_in (by omega) (by omega)]; simp)
theorem y_addU {t u : TypeId} {x y : Operand} {n m : Nat} (hx : E.op x = some (.int .u64 (n : Int))) (hy : E.op y = some (.int .u64 (m : Int))) (h : n + m ≤ 18446744073709551615) : Yld P E ⟨d, .binOp .add t x y u, ty, pos, aft, g⟩ (.int .u64 ((n + m : Nat) : Int)) :=
  y_add hx hy (by rw [u64_in (by omega) (by omega)]; simp)
theorem y_subN {t u : TypeId} {x y : Operand} {n m : Nat} (hx : E.op x = some (.int .i64 (n : Int))) (hy : E.op y = some (.int .i64 (m : Int))) (h : m ≤ n) (h' : n ≤ 9223372036854775807) : Yld P E ⟨d, .binOp .sub t x y u, ty, pos, aft, g⟩ (.int .i64 ((n - m : Nat) : Int)) :=
  y_sub hx hy (by rw [i64_in (by omega) (by omega)]; omega)
theorem y_cvu {s t : TypeId} {x : Operand} {k : IntKind} {n : Nat} (hk : cvK P s t = some .u64) (hx : E.op x = some (.int k (n : Int))) (h : n ≤ 18446744073709551615) : Yld P E ⟨d, .convert s t x, ty, pos, aft, g⟩ (.int .u64 (n : Int)) := y_conv hk hx (u64_in (by omega) (by omega))
theorem y_cvi {s t : TypeId} {x : Operand} {k : IntKind} {n : Nat} (hk : cvK P s t = some .i64) (hx : E.op x = some (.int k (n : Int))) (h : n ≤ 9223372036854775807) : Yld P E ⟨d, .convert s t x, ty, pos, aft, g⟩ (.int .i64 (n : Int)) := y_conv hk hx (i64_in (by omega) (by omega))
/-- A slice's element, by a number that is no less than 0. -/
theorem y_iaN {t e : TypeId} {size : Nat} {x y : Operand} {p : Addr} {n m i : Nat} {k : IntKind} (hk : slK P t = some (e, size)) (hx : E.op x = some (.slice (some p) n m)) (hy : E.op y = some (.int k (i : Int))) (h1 : i < n) :
    Yld P E ⟨d, .indexAddr t x y, ty, pos, aft, g⟩ (.pointer (some (p.add (i * size)))) := by
  have := y_ia (od := d) (ty := ty) (pos := pos) (aft := aft) (g := g) hk hx hy (by omega) (by omega)
  simpa using this
theorem y_iaNr {t e : TypeId} {size : Nat} {x y : Operand} {b off : Nat} {n m i : Nat} {k : IntKind} (hk : slK P t = some (e, size)) (hx : E.op x = some (.slice (some ⟨b, off, none⟩) n m)) (hy : E.op y = some (.int k (i : Int))) (h1 : i < n) :
    Yld P E ⟨d, .indexAddr t x y, ty, pos, aft, g⟩ (.pointer (some ⟨b, off + i * size, none⟩)) := by
  rw [← add_lit]; exact y_iaN hk hx hy h1
theorem y_iaaN {t e : TypeId} {size n : Nat} {x y : Operand} {b off i : Nat} {k : IntKind} (hk : arK P t = some (n, e, size)) (hx : E.op x = some (.pointer (some ⟨b, off, none⟩))) (hy : E.op y = some (.int k (i : Int))) (h1 : i < n) :
    Yld P E ⟨d, .indexAddr t x y, ty, pos, aft, g⟩ (.pointer (some ⟨b, off + i * size, none⟩)) := by
  have := y_iaar (od := d) (ty := ty) (pos := pos) (aft := aft) (g := g) hk hx hy (by omega) (by omega)
  simpa using this
/-- A whole struct of five cells, and so on, out of the stone. -/
theorem ls {t : TypeId} {x : Operand} {p : Addr} {v : Value} (hv : S.cell p = some v) (hk : ldK P t = some none) (hx : E.op x = some (.pointer (some p)) := by rfl) : Ld P E H S ⟨d, .load t x, ty, pos, aft, g⟩ v := ld_st hk hx hv
theorem lbw {t : TypeId} {x : Operand} {b m : Nat} {cs : List Value} {T : TypeId} {fz : Nat × Nat} {H' : List Item} (hk : ldK P t = some (some m)) (hx : E.op x = some (.pointer (some ⟨b, 0, none⟩)) := by rfl)
    (hp : Pick H (.blk b (.cells cs.toArray T fz)) H' := by repeat (first | exact Pick.hd | apply Pick.tl)) (hl : cs.length = m := by rfl) : Ld P E H S ⟨d, .load t x, ty, pos, aft, g⟩ (.agg cs.toArray) := ld_blks hk hx hp (by simp [← hl]) hl
theorem ltm {t : TypeId} {x : Operand} {p : Addr} {m : Nat} {vs : List Value} (hk : ldK P t = some (some m)) (hx : E.op x = some (.pointer (some p))) (hv : ∀ j v, vs[j]? = some v → S.cell (p.add j) = some v) (hl : vs.length = m := by rfl) : Ld P E H S ⟨d, .load t x, ty, pos, aft, g⟩ (.agg vs.toArray) := ld_sts hk hx hl hv
end
/-! ### calls that hand back something new -/
def RetR (R : Value → Stone → Prop) : Value → List Item → Stone → Prop := fun u I' S' => R u S' ∧ I' = []
section
variable {d : Tmp} {ty : TypeId} {pos : String} {aft : Array Edge} {g : Option (Nat × Bool)}
theorem t_callR {f : FuncId} {l : List Operand} {ts : Array TypeId} {vs : List Value} {R : Value → Stone → Prop} (hv : E.ops l = some vs) (hc : Con P f vs.toArray [] S (RetR R)) (hk : enK P f = true) (h : ∀ v S', Stone.le S S' → R v S' → Tr c K ((d, v) :: E) H S') (hlt : Nat.blt d c.n = true := by rfl) :
    Tr c (OpW P ⟨some d, .call ⟨.value (.func f), l.toArray, ts⟩, ty, pos, aft, g⟩ K Q) E H S := t_call (I := []) hk hv (List.Perm.refl _) hc (lt_n hlt) (fun u I' S' hle ⟨hR, e2⟩ => by subst e2; exact h u S' hle hR)
theorem t_callr' {f : FuncId} {l : List Operand} {ts : Array TypeId} {vs : List Value} {v : Value} (hv : E.ops l = some vs) (hc : Con P f vs.toArray [] S (Ret v S)) (hk : enK P f = true) (h : Tr c K ((d, v) :: E) H S) (hlt : Nat.blt d c.n = true := by rfl) :
    Tr c (OpW P ⟨some d, .call ⟨.value (.func f), l.toArray, ts⟩, ty, pos, aft, g⟩ K Q) E H S := t_callr hk hv hc (lt_n hlt) h
theorem t_callvr' {f : FuncId} {x : Operand} {l : List Operand} {ts : Array TypeId} {vs v1 v2 : List Value} {v : Value} (hx : E.op x = some (.func (.func f) v1.toArray v2.toArray)) (hv : E.ops l = some vs)
    (hc : Con P f (v1 ++ vs ++ v2).toArray [] S (Ret v S)) (hk : enK P f = true) (h : Tr c K ((d, v) :: E) H S) (hlt : Nat.blt d c.n = true := by rfl) : Tr c (OpW P ⟨some d, .call ⟨.value x, l.toArray, ts⟩, ty, pos, aft, g⟩ K Q) E H S := t_callvr hx hk hv hc (lt_n hlt) h
/-- A call that hands back a row of its own. -/
theorem t_callI {f : FuncId} {l : List Operand} {ts : Array TypeId} {vs : List Value} {I H' : List Item} {R : Value → List Item → Stone → Prop} (hv : E.ops l = some vs) (hp : H.Perm (I ++ H')) (hc : Con P f vs.toArray I S R) (hk : enK P f = true) (h : ∀ v I' S', Stone.le S S' → R v I' S' → Tr c K ((d, v) :: E) (I' ++ H') S') (hlt : Nat.blt d c.n = true := by rfl) :
    Tr c (OpW P ⟨some d, .call ⟨.value (.func f), l.toArray, ts⟩, ty, pos, aft, g⟩ K Q) E H S := t_call hk hv hp hc (lt_n hlt) h
theorem t_stw' {t : TypeId} {x y : Operand} {b m : Nat} {v : Value} {vs cs : List Value} {T : TypeId} {H' : List Item} (hk : szK P t = some m) (hx : E.op x = some (.pointer (some ⟨b, 0, none⟩))) (hy : E.op y = some v)
    (hv : v.cells = vs.toArray) (hl : vs.length = m) (h1 : vs.all Value.oneCell' = true) (hp : Pick H (.blk b (.cells cs.toArray T (0, 0))) H') (hfit : cs.length = m)
    (h : Tr c K E (.blk b (.cells vs.toArray T (0, 0)) :: H') S) : Tr c (OpW P ⟨none, .store t x y, ty, pos, aft, g⟩ K Q) E H S := t_stw hk hx hy hv hl h1 hp hfit h
theorem t_st1' {t : TypeId} {x y : Operand} {b off : Nat} {v : Value} {cs : List Value} {T : TypeId} {H' : List Item} (hk : szK P t = some 1) (hx : E.op x = some (.pointer (some ⟨b, off, none⟩))) (hy : E.op y = some v)
    (h1 : v.oneCell' = true) (hp : Pick H (.blk b (.cells cs.toArray T (0, 0))) H') (hfit : Nat.blt off cs.length = true)
    (h : Tr c K E (.blk b (.cells (cs.set off v).toArray T (0, 0)) :: H') S) : Tr c (OpW P ⟨none, .store t x y, ty, pos, aft, g⟩ K Q) E H S := t_st1 hk hx hy h1 hp (lt_n hfit) h
theorem t_st' {t : TypeId} {x y : Operand} {b off m : Nat} {v : Value} {vs cs : List Value} {T : TypeId} {H' : List Item} (hk : szK P t = some m) (hx : E.op x = some (.pointer (some ⟨b, off, none⟩))) (hy : E.op y = some v)
    (hv : v.cells = vs.toArray) (hl : vs.length = m) (h1 : vs.all Value.oneCell' = true) (hp : Pick H (.blk b (.cells cs.toArray T (0, 0))) H') (hfit : Nat.ble (off + m) cs.length = true)
    (h : Tr c K E (.blk b (.cells (cs.take off ++ vs ++ cs.drop (off + m)).toArray T (0, 0)) :: H') S) : Tr c (OpW P ⟨none, .store t x y, ty, pos, aft, g⟩ K Q) E H S := t_st hk hx hy hv hl h1 hp (Nat.le_of_ble_eq_true hfit) rfl h
end
theorem f_retR {fn : Func} {rs : List ResultVar} {vs : List Value} {R : Value → Stone → Prop} (hr : fn.results.toList = rs) (hv : ResV P E H rs vs) (hR : R (pack vs) S) : Tr c (bodyPost P fn (PostR c (RetR R)) .ret) E H S := f_ret hr hv (G := H) (I' := []) (by simp) ⟨hR, rfl⟩
theorem f_endR {fn : Func} {rs : List ResultVar} {vs : List Value} {R : Value → Stone → Prop} (hr : fn.results.toList = rs) (hv : ResV P E H rs vs) (hR : R (pack vs) S) : Tr c (bodyPost P fn (PostR c (RetR R)) .normal) E H S := f_end hr hv (G := H) (I' := []) (by simp) ⟨hR, rfl⟩
end
/-! ### slices that never change any more -/
/-- A slice of such elements, each of so many cells. -/
def Sl {α : Type} (S : Stone) (size : Nat) (C : Stone → List Value → α → Prop) (v : Value) (l : List α) : Prop :=
  ∃ A cap, v = .slice A l.length cap ∧ l.length ≤ cap ∧ cap ≤ maxLen ∧ ∀ (i : Nat) a, l[i]? = some a → ∃ p cs, A = some p ∧ C S cs a ∧ cs.length = size ∧ ∀ (j : Nat) u, cs[j]? = some u → S.cell ((p.add (i * size)).add j) = some u
theorem Sl.shape {α : Type} {S : Stone} {size : Nat} {C : Stone → List Value → α → Prop} {v : Value} {l : List α} (h : Sl S size C v l) : ∃ A cap, v = .slice A l.length cap ∧ l.length ≤ cap ∧ l.length ≤ 9223372036854775807 ∧ cap ≤ 9223372036854775807 := by
  obtain ⟨A, cap, e, h1, h2, _⟩ := h
  simp only [maxLen] at h2
  exact ⟨A, cap, e, h1, by omega, by omega⟩
theorem Sl.nil {α : Type} {S : Stone} {size : Nat} {C : Stone → List Value → α → Prop} : Sl S size C (.slice none 0 0) [] := ⟨none, 0, rfl, Nat.le_refl _, Nat.zero_le _, fun _ _ h => by simp at h⟩
theorem Sl.mono {α : Type} {S S' : Stone} {size : Nat} {C : Stone → List Value → α → Prop} {v : Value} {l : List α} (h : Sl S size C v l) (hle : Stone.le S S') (hC : ∀ cs a, C S cs a → C S' cs a) : Sl S' size C v l := by
  obtain ⟨A, cap, e, h1, h2, h3⟩ := h
  exact ⟨A, cap, e, h1, h2, fun i a ha => let ⟨p, cs, e1, e2, e3, e4⟩ := h3 i a ha; ⟨p, cs, e1, hC _ _ e2, e3, fun j u hj => hle.cell (e4 j u hj)⟩⟩
theorem Sl.imp {α β : Type} {S : Stone} {size : Nat} {C : Stone → List Value → α → Prop} {D : Stone → List Value → β → Prop} {v : Value} {l : List α} {l' : List β} (h : Sl S size C v l) (hl : l'.length = l.length) (hC : ∀ (i : Nat) b, l'[i]? = some b → ∃ a, l[i]? = some a ∧ ∀ cs, C S cs a → D S cs b) : Sl S size D v l' := by
  obtain ⟨A, cap, e, h1, h2, h3⟩ := h
  exact ⟨A, cap, by rw [hl]; exact e, by omega, h2, fun i b hb => let ⟨a, ha, hab⟩ := hC i b hb; let ⟨p, cs, e1, e2, e3, e4⟩ := h3 i a ha; ⟨p, cs, e1, hab _ e2, e3, e4⟩⟩
theorem Addr.add_add (p : Addr) (i j : Nat) : (p.add i).add j = p.add (i + j) := by
  unfold Addr.add
  by_cases h1 : i = 0
  · subst h1; simp
  · by_cases h2 : j = 0
    · subst h2; simp [h1]
    · simp [h1, h2, Nat.add_assoc]
theorem Sl.sub {α : Type} {S : Stone} {size : Nat} {C : Stone → List Value → α → Prop} {A : Option Addr} {n m l' h' : Nat} {l : List α} (h : Sl S size C (.slice A n m) l) (h1 : l' ≤ h') (h2 : h' ≤ n) : Sl S size C (sliced A l' h' m size) ((l.take h').drop l') := by
  obtain ⟨A0, cap, e, h3, h4, h5⟩ := h
  injection e with e1 e2 e3
  subst e1; subst e2; subst e3
  have hlen : ((l.take h').drop l').length = h' - l' := by simp; omega
  unfold sliced
  refine ⟨_, m - l', by rw [hlen], by rw [hlen]; omega, by omega, fun i a ha => ?_⟩
  have hil := (List.getElem?_eq_some_iff.1 ha).1
  rw [hlen] at hil
  rw [List.getElem?_drop, List.getElem?_take, if_pos (by omega)] at ha
  obtain ⟨p, cs, e1, e2, e3, e4⟩ := h5 _ _ ha
  have hne : ¬ m = l' := by omega
  subst e1
  refine ⟨p.add (l' * size), cs, by simp [hne], e2, e3, fun j u hj => ?_⟩
  rw [Addr.add_add p, ← Nat.add_mul]
  exact e4 j u hj
end Go.Proofs.YtkdmbimkanjbhaaGreatDoor.Eng

/-
  Part 3 of the proof of WholeBooks: Eng17, Eng18.
-/
import Derived.Test.YtkdmbimkanjbhaaGreatDoorQ2
import Derived.Stop.Asserts
import Derived.LaidEql
import Derived.Laws.Externs
namespace Go.Proofs.YtkdmbimkanjbhaaGreatDoor.Eng
open Go
/-! ### interfaces: assertions, methods, natives -/
/-- What an assertion comes to. -/
structure TaOk (P : Program) (v : Value) (xT T : TypeId) (r : Value) : Prop where
  run : ∀ w, (Instr.typeAssert v xT T true).run P w = .ok r w
/-- What a method is. -/
structure MdOk (P : Program) (t : TypeId) (v : Value) (name : String) (f : FuncId) (r : Value) : Prop where
  run : ∀ w, (Go.method (P.types.size + Made.depth) t v name).run P w = .ok (f, r) w
/-- What a function without a body comes to, whatever the world is. -/
structure NatV (P : Program) (f : FuncId) (vs : List Value) (v : Value) : Prop where
  run : ∀ w, (callFunc f vs.toArray).run P w = .ok (.value v) w
/-- One that makes a block. -/
structure NatA (P : Program) (f : FuncId) (vs : List Value) (ob : Obj) (v : Nat → Value) : Prop where
  run : ∀ w, (callFunc f vs.toArray).run P w = .ok (.value (v w.heap.size)) (w.alloc ob)
section
variable {P : Program} {c : Cx} {K : Act → World → Prop} {Q : Exit → Act → World → Prop} {E : Env} {H : List Item} {S : Stone} {d : Tmp} {od : Option Tmp} {ty : TypeId} {pos : String} {aft : Array Edge} {g : Option (Nat × Bool)}
theorem y_ta {t T : TypeId} {x : Operand} {v r : Value} (hx : E.op x = some v) (h : TaOk P v t T r) : Yld P E ⟨od, .typeAssert x t T true, ty, pos, aft, g⟩ r := fun n a w ha => by
  simp [execOp, ha.eval hx, h.run w]
theorem y_ieq {t u T T' : TypeId} {x y : Operand} {v v' : Value} {b : Bool} (hx : E.op x = some (.iface T v)) (hy : E.op y = some (.iface T' v')) (h : ∀ w, (binOp .eql t (.iface T v) (.iface T' v')).run P w = .ok (.bool b) w) : Yld P E ⟨od, .binOp .eql t x y u, ty, pos, aft, g⟩ (.bool b) := fun _n _a w ha =>
  run_bin (ha.eval hx) (ha.eval hy) rfl (h w)
theorem y_ieqn {t u T' : TypeId} {x y : Operand} {v' : Value} (hk : ifK P t = true) (hx : E.op x = some .nilIface) (hy : E.op y = some (.iface T' v')) : Yld P E ⟨od, .binOp .eql t x y u, ty, pos, aft, g⟩ (.bool false) := fun _n _a _w ha =>
  run_bin (ha.eval hx) (ha.eval hy) rfl (run_eql_of rfl fun m => by
    unfold ifK at hk
    split at hk
    · rename_i hu; simp [Op.equalIn, run_und hu]
    · cases hk)
/-- A method that has a body. -/
theorem t_inv {f : FuncId} {x : Operand} {name : String} {l : List Operand} {ts : Array TypeId} {vs : List Value} {T : TypeId} {rv r : Value} {I H' : List Item} {R : Value → List Item → Stone → Prop} (hx : E.op x = some (.iface T rv)) (hv : E.ops l = some vs) (hm : MdOk P T rv name f r) (hk : enK P f = true) (hp : H.Perm (I ++ H')) (hc : Con P f (r :: vs).toArray I S R)
    (h : ∀ v I' S', Stone.le S S' → R v I' S' → Tr c K ((d, v) :: E) (I' ++ H') S') (hlt : Nat.blt d c.n = true := by rfl) : Tr c (OpW P ⟨some d, .call ⟨.invoke x name, l.toArray, ts⟩, ty, pos, aft, g⟩ K Q) E H S := by
  refine t_enter (args := r :: vs) (fun a w ha => ?_) hp hc rfl (lt_n hlt) h
  have hev := ha.evals hv
  simp [execOp, resolve, invoke, callMethod, ha.eval hx, List.map_toArray, hev, hm.run w, run_enter hk]
theorem t_invr {f : FuncId} {x : Operand} {name : String} {l : List Operand} {ts : Array TypeId} {vs : List Value} {T : TypeId} {rv r u : Value} (hx : E.op x = some (.iface T rv)) (hv : E.ops l = some vs) (hm : MdOk P T rv name f r) (hk : enK P f = true) (hc : Con P f (r :: vs).toArray [] S (Ret u S))
    (h : Tr c K ((d, u) :: E) H S) (hlt : Nat.blt d c.n = true := by rfl) : Tr c (OpW P ⟨some d, .call ⟨.invoke x name, l.toArray, ts⟩, ty, pos, aft, g⟩ K Q) E H S :=
  t_inv (I := []) hx hv hm hk (List.Perm.refl _) hc (fun u I' S' _ ⟨e1, e2, e3⟩ => by subst e1; subst e2; subst e3; exact h) hlt
/-- A method without a body. -/
theorem y_invn {f : FuncId} {x : Operand} {name : String} {l : List Operand} {ts : Array TypeId} {vs : List Value} {T : TypeId} {rv r u : Value} (hx : E.op x = some (.iface T rv)) (hv : E.ops l = some vs) (hm : MdOk P T rv name f r) (hn : NatV P f (r :: vs) u) : Yld P E ⟨od, .call ⟨.invoke x name, l.toArray, ts⟩, ty, pos, aft, g⟩ u := fun n a w ha => by
  have hev := ha.evals hv
  have := hn.run w
  simp [execOp, resolve, invoke, callMethod, ha.eval hx, List.map_toArray, hev, hm.run w] at this ⊢
  exact this
theorem y_natv {f : FuncId} {l : List Operand} {ts : Array TypeId} {vs : List Value} {v : Value} (hv : E.ops l = some vs) (hn : NatV P f vs v) : Yld P E ⟨od, .call ⟨.value (.func f), l.toArray, ts⟩, ty, pos, aft, g⟩ v := fun n a w ha => by
  have hev := ha.evals hv
  have := hn.run w
  simp [execOp, resolve, invoke, Deferred.ofValue, Act.eval, List.map_toArray, hev, this]
theorem ld_nat {f : FuncId} {l : List Operand} {ts : Array TypeId} {vs : List Value} {v : Value} (hv : E.ops l = some vs) (hrun : NatOk P H S f vs v) : Ld P E H S ⟨od, .call ⟨.value (.func f), l.toArray, ts⟩, ty, pos, aft, g⟩ v := fun n a w ha hH hS => by
  have hev := ha.evals hv
  have := hrun.run w hH hS
  simp [execOp, resolve, invoke, Deferred.ofValue, Act.eval, List.map_toArray, hev, this]
theorem t_nata {f : FuncId} {l : List Operand} {ts : Array TypeId} {vs : List Value} {ob : Obj} {v : Nat → Value} (hv : E.ops l = some vs) (hn : NatA P f vs ob v)
    (h : ∀ b, Tr c K ((d, v b) :: E) (.blk b ob :: H) S) (hlt : Nat.blt d c.n = true := by rfl) : Tr c (OpW P ⟨some d, .call ⟨.value (.func f), l.toArray, ts⟩, ty, pos, aft, g⟩ K Q) E H S := by
  refine t_blk rfl (lt_n hlt) (fun a w ha ho => ?_) h
  have hev := ha.evals hv
  have := hn.run w
  simp [execOp, resolve, invoke, Deferred.ofValue, Act.eval, List.map_toArray, hev, this]
/-- One that writes into a block. -/
theorem t_nats {f : FuncId} {l : List Operand} {ts : Array TypeId} {vs : List Value} {b : Nat} {cs cs' : Array Value} {T : TypeId} {u : Value} {H' : List Item} (hv : E.ops l = some vs) (hp : Pick H (.blk b (.cells cs T (0, 0))) H')
    (hrun : ∀ w, (∀ it ∈ H, it.holds w) → (callFunc f vs.toArray).run P w = .ok (.value u) (w.setRow b cs')) (h : Tr c K ((d, u) :: E) (.blk b (.cells cs' T (0, 0)) :: H') S) (hlt : Nat.blt d c.n = true := by rfl) : Tr c (OpW P ⟨some d, .call ⟨.value (.func f), l.toArray, ts⟩, ty, pos, aft, g⟩ K Q) E H S := by
  refine t_new (I := [.blk b (.cells cs T (0, 0))]) (H' := H') hp.perm (R := fun v I' S' => S' = S ∧ v = u ∧ I' = [.blk b (.cells cs' T (0, 0))]) (fun a w ha ho => ?_) rfl (lt_n hlt) (fun v I' S' ⟨e1, e2, e3⟩ => by subst e1; subst e2; subst e3; exact h)
  refine ⟨u, w.setRow b cs', _, _, ?_, mv_set ((ho.perm hp.perm).left), rfl, rfl, rfl⟩
  have hev := ha.evals hv
  have := hrun w ho.item
  simp [execOp, resolve, invoke, Deferred.ofValue, Act.eval, List.map_toArray, hev, this]
end
end Go.Proofs.YtkdmbimkanjbhaaGreatDoor.Eng
namespace Go.Proofs.YtkdmbimkanjbhaaGreatDoor.Eng
open Go
/-! ### a plan whose states are shared: its check, state by state -/
section
variable {ops : Array Oper} {T : List Nat}
def takes (ts : List Nat) (p : Plan) : Plan := ts.foldr .take p
def setAll (ts : List Nat) (D : Array Bool) : Array Bool := ts.foldl (fun D i => D.setIfInBounds i true) D
def tkB (ops : Array Oper) : List Nat → Array Bool → Bool
  | [], _ => true
  | i :: ts, D => (Region.ready .any ops D).contains i && Region.free .any ops D i && tkB ops ts (D.setIfInBounds i true)
def bm (n m : Nat) : Array Bool := ((List.range n).map m.testBit).toArray
theorem chk_takes {p : Plan} {D' : Array Bool} : ∀ (ts : List Nat) {b : Bool} {D : Array Bool}, ts ≠ [] → tkB ops ts D = true → setAll ts D = D' → p.chk ops T true D' = true → (takes ts p).chk ops T b D = true
  | [], _, _, h, _, _, _ => absurd rfl h
  | [i], b, D, _, h, hd, hp => by
    simp only [tkB, Bool.and_eq_true, and_true] at h
    subst hd
    show (_ && _ && _) = true
    simp only [Bool.and_eq_true]; exact ⟨h, hp⟩
  | i :: j :: ts, b, D, _, h, hd, hp => by
    rw [tkB, Bool.and_eq_true, Bool.and_eq_true] at h
    show (_ && _ && _) = true
    simp only [Bool.and_eq_true]
    exact ⟨h.1, chk_takes (j :: ts) (by simp) h.2 hd hp⟩
theorem chk_to {p : Plan} {b : Bool} {D D' : Array Bool} (hd : D = D') (h : p.chk ops T b D' = true) : p.chk ops T b D = true := hd ▸ h
theorem chk_alt {top : Bool} {i : Nat} {p q : Plan} {D : Array Bool} (h1 : (!top || (Region.ready .any ops D == i :: q.firsts)) = true) (h2 : p.chk ops T true (D.setIfInBounds i true) = true) (h3 : q.chk ops T false D = true) : (Plan.alt i p q).chk ops T top D = true := by
  show (_ && _ && _) = true
  simp only [Bool.and_eq_true]; exact ⟨⟨h1, h2⟩, h3⟩
theorem chk_stop {D : Array Bool} : Plan.stop.chk ops T false D = true := rfl
theorem chk_open {p0 : Plan} {D0 : Array Bool} {b0 : Bool} (h : ∀ C : Plan → Array Bool → Prop, (∀ {p D}, p.chk ops T true D = true → C p D) → (∀ {p D}, C p D → p.chk ops T true D = true) → p0.chk ops T b0 D0 = true) : p0.chk ops T b0 D0 = true := h (fun p D => p.chk ops T true D = true) (fun h => h) (fun h => h)
theorem chk_all {a b c : Bool} (h1 : a = true) (h2 : b = true) (h3 : c = true) : (a && b && c) = true := by subst h1 h2 h3; rfl
end
end Go.Proofs.YtkdmbimkanjbhaaGreatDoor.Eng

/- The rules that touch memory: cells of a block, slices that the call owns, calls. Over any program. -/
import Derived.Test.YtdpfdpmjnifanaaDoorOps
import Derived.Laws.Append
import Derived.Laws.CopyRow
namespace Go.Sb
open Go Go.RowKit
set_option linter.unusedSimpArgs false
set_option linter.unusedVariables false

/-! ### Where a part stands -/
class At (X : HP) (L : List HP) (F : outParam (HP → List HP)) : Prop where
  eq : ∃ i, L[i]? = some X ∧ ∀ Y, F Y = L.set i Y
instance At.head {X : HP} {L : List HP} : At X (X :: L) (fun Y => Y :: L) := ⟨0, rfl, fun _ => rfl⟩
instance (priority := low) At.tail {X A : HP} {L : List HP} {F : HP → List HP} [h : At X L F] : At X (A :: L) (fun Y => A :: F Y) :=
  let ⟨i, h1, h2⟩ := h.eq; ⟨i + 1, by simpa using h1, fun Y => by simp [h2 Y]⟩
class HasP (b : Nat) (L : List HP) (o : outParam Obj) (F : outParam (HP → List HP)) : Prop where
  eq : ∃ i, L[i]? = some (pts b o) ∧ ∀ Y, F Y = L.set i Y
instance HasP.head {b : Nat} {o : Obj} {L : List HP} : HasP b (pts b o :: L) o (fun Y => Y :: L) := ⟨0, rfl, fun _ => rfl⟩
instance (priority := low) HasP.tail {b : Nat} {o : Obj} {A : HP} {L : List HP} {F : HP → List HP} [h : HasP b L o F] : HasP b (A :: L) o (fun Y => A :: F Y) :=
  let ⟨i, h1, h2⟩ := h.eq; ⟨i + 1, by simpa using h1, fun Y => by simp [h2 Y]⟩
class Rem (X : HP) (L : List HP) (L' : outParam (List HP)) : Prop where
  perm : L.Perm (X :: L')
instance Rem.head {X : HP} {L : List HP} : Rem X (X :: L) L := ⟨.refl _⟩
instance (priority := low) Rem.tail {X A : HP} {L L' : List HP} [h : Rem X L L'] : Rem X (A :: L) (A :: L') := ⟨(h.perm.cons A).trans (.swap X A L')⟩
class RemP (b : Nat) (L : List HP) (o : outParam Obj) (L' : outParam (List HP)) : Prop where
  perm : L.Perm (pts b o :: L')
instance RemP.head {b : Nat} {o : Obj} {L : List HP} : RemP b (pts b o :: L) o L := ⟨.refl _⟩
instance (priority := low) RemP.tail {b : Nat} {o : Obj} {A : HP} {L L' : List HP} [h : RemP b L o L'] : RemP b (A :: L) o (A :: L') := ⟨(h.perm.cons A).trans (.swap _ A L')⟩
/-- From the parts L those of L' may be had; what is left is let go. -/
class Sub (L L' : List HP) : Prop where
  perm : ∃ D, L.Perm (L' ++ D)
instance Sub.refl {L : List HP} : Sub L L := ⟨[], by simp⟩
instance (priority := low) Sub.take {X : HP} {L L1 L' : List HP} [h : Rem X L L1] [k : Sub L1 L'] : Sub L (X :: L') :=
  let ⟨D, hD⟩ := k.perm; ⟨D, h.perm.trans (by simpa using hD.cons X)⟩
instance (priority := low) Sub.drop {A : HP} {L L' : List HP} [k : Sub L L'] : Sub (A :: L) L' :=
  let ⟨D, hD⟩ := k.perm; ⟨A :: D, (hD.cons A).trans (List.perm_middle.symm)⟩
theorem St.dropEnd {Z w : World} : ∀ {A D : List HP}, St Z w (A ++ D) → St Z w A
  | A, [], h => by simpa using h
  | A, X :: D, h => St.dropEnd (D := D) ((h.perm List.perm_middle).drop0)
theorem St.sub {Z w : World} {L L' : List HP} [k : Sub L L'] (h : St Z w L) : St Z w L' := by
  obtain ⟨D, hD⟩ := k.perm
  exact (h.perm hD).dropEnd
theorem set_erase {L : List HP} {i : Nat} (X Y : HP) (hi : L[i]? = some X) : (Y :: L.eraseIdx i).Perm (L.set i Y) := put_perm Y (List.getElem?_eq_some_iff.1 hi).1
theorem St.at_ {Z w : World} {X : HP} {L : List HP} {F : HP → List HP} [k : At X L F] (h : St Z w L) : ∃ L1, St Z w (X :: L1) ∧ ∀ Y, (Y :: L1).Perm (F Y) := by
  obtain ⟨i, h1, h2⟩ := k.eq
  exact ⟨L.eraseIdx i, h.front h1, fun Y => by rw [h2]; exact set_erase X Y h1⟩
theorem St.hasP {Z w : World} {b : Nat} {o : Obj} {L : List HP} {F : HP → List HP} [k : HasP b L o F] (h : St Z w L) : ∃ L1, St Z w (pts b o :: L1) ∧ ∀ Y, (Y :: L1).Perm (F Y) := by
  obtain ⟨i, h1, h2⟩ := k.eq
  exact ⟨L.eraseIdx i, h.front h1, fun Y => by rw [h2]; exact set_erase _ Y h1⟩
theorem St.blockP {Z w : World} {b : Nat} {o : Obj} {L : List HP} {F : HP → List HP} [HasP b L o F] (h : St Z w L) : w.heap[b]? = some o := by
  obtain ⟨L1, h1, _⟩ := h.hasP (b := b); exact h1.block0
theorem St.putP {Z w w' : World} {b : Nat} {o o' : Obj} {L : List HP} {F : HP → List HP} [HasP b L o F] (h : St Z w L)
    (hs : w'.os = w.os ∧ w'.tape = w.tape ∧ w'.output = w.output) (hb : w'.heap[b]? = some o') (ho : ∀ k, k ≠ b → w'.heap[k]? = w.heap[k]?) : St Z w' (F (pts b o')) := by
  obtain ⟨L1, h1, h2⟩ := h.hasP (b := b); exact (h1.set0 hs hb ho).perm (h2 _)

theorem cell_of_block {w : World} {b : Nat} {c : Array Value} {t : TypeId} {fr : Nat × Nat} {i : Nat} {v : Value} (h : w.heap[b]? = some (.cells c t fr)) (hi : c[i]? = some v) : w.cell? ⟨b, i, none⟩ = some v := by
  simp [World.cell?, h, hi]
/-- A list with one place turned. -/
class LSet (l : List Value) (n : Nat) (v : Value) (l' : outParam (List Value)) : Prop where
  eq : l' = l.set n v
  lt : n < l.length
instance LSet.zero {x v : Value} {l : List Value} : LSet (x :: l) 0 v (v :: l) := ⟨rfl, by simp⟩
instance LSet.succ {x v : Value} {l l' : List Value} {n : Nat} [h : LSet l n v l'] : LSet (x :: l) (n + 1) v (x :: l') := ⟨by simp [h.eq], by have := h.lt; simp; omega⟩

variable {P : Program} {N : Nat} {E : En} {Z : World} {L : List HP} {F : HP → List HP} {C D : World → Prop} {Q : Exit → Act → World → Prop} {ops : Array Oper} {rest : List Oper}
section
variable {d : Option Tmp} {x y z : Operand} {t ty : TypeId} {pos : String} {aft : Array Edge} {g : Option (Nat × Bool)} {v vx vy : Value}
/-- A field, an element of a block that is told. -/
theorem Rd.cell {b i : Nat} {c : List Value} {T : TypeId} {fr : Nat × Nat} {ds : TypeDesc} (hx : evE E x = some (.pointer (some ⟨b, i, none⟩))) [HasP b L (.cells c.toArray T fr) F] (hv : c[i]? = some v)
    (ht : P.underlying ty = some ds) (hi : (match ds with | .struct _ | .array _ _ => false | _ => true) = true) : Rd P N E (Sto Z L) ⟨d, .load ty x, t, pos, aft, g⟩ v :=
  Rd.load hx ht hi (fun w hC => cell_of_block (St.blockP (b := b) hC) (by simpa using hv))
theorem run_store1 {w : World} {b i : Nat} {c : List Value} {T : TypeId} {j : TypeInfo} (hj : P.info? ty = some j) (hs : j.size = 1) (h1 : v.oneCell' = true) (hb : w.heap[b]? = some (.cells c.toArray T (0, 0))) (hi : i < c.length) :
    (Instr.storeAt ty (.pointer (some ⟨b, i, none⟩)) v).run P w = .ok () (w.setCell ⟨b, i, none⟩ v) := by
  have hv : v.cells = #[v] := by cases v <;> first | rfl | (simp [Value.oneCell'] at h1)
  have hc : w.cell? ⟨b, i, none⟩ = some c[i] := cell_of_block hb (by simp [hi])
  have hf : w.frozen? ⟨b, i, none⟩ = false := by simp [World.frozen?, hb]
  have hadd : Addr.add ⟨b, i, none⟩ 0 = ⟨b, i, none⟩ := rfl
  simp only [Instr.storeAt, Instr.sureAddr, storeVar, sizeOf, typeInfo]
  simp [hv, hj, hs, storeCells, hadd, run_store P w _ v _ h1, hc, hf]
theorem heap_setCell_at {w : World} {b i : Nat} {c : Array Value} {T : TypeId} {fr : Nat × Nat} (hb : w.heap[b]? = some (.cells c T fr)) : (w.setCell ⟨b, i, none⟩ v).heap[b]? = some (.cells (c.setIfInBounds i v) T fr) := by
  simp [World.setCell, Array.getElem?_modify, hb]
theorem J.store {b i : Nat} {c c' : List Value} {T : TypeId} {j : TypeInfo} (hx : evE E x = some (.pointer (some ⟨b, i, none⟩))) (hy : evE E y = some v) [HasP b L (.cells c.toArray T (0, 0)) F] [hl : LSet c i v c']
    (hj : P.info? ty = some j) (hs : j.size = 1) (h1 : v.oneCell' = true) (hw : want ops E ⟨none, .store ty x y, t, pos, aft, g⟩ = some true)
    (k : J N E (Sto Z (F (pts b (.cells c'.toArray T (0, 0))))) (wpList P ops Q rest)) : J N E (Sto Z L) (wpList P ops Q (⟨none, .store ty x y, t, pos, aft, g⟩ :: rest)) :=
  J.stepU hw rfl (fun a w he hC => by
    have hb := St.blockP (b := b) hC
    refine ⟨w.setCell ⟨b, i, none⟩ v, ?_, ?_⟩
    · simp only [execOp, he.eval hx, he.eval hy]
      simp [run_store1 hj hs h1 hb hl.lt]
    · refine St.putP (b := b) hC ⟨rfl, rfl, rfl⟩ ?_ (fun k hk => Below.heap_setCell _ _ _ _ hk)
      rw [heap_setCell_at hb, hl.eq]
      simp) k

/-! ### New blocks -/
theorem J.new {f : Nat → Value} {o : Obj} {s : Nat} {op : Op} (hw : want ops E ⟨some s, op, t, pos, aft, g⟩ = some true) (hd : dstOk N (some s) = true)
    (hr : ∀ a w, Env N a E → (execOp a.eval ⟨some s, op, t, pos, aft, g⟩).run P w = .ok (.value (f w.heap.size)) (w.alloc o))
    (k : ∀ b, J N ((s, f b) :: E) (Sto Z (pts b o :: L)) (wpList P ops Q rest)) : J N E (Sto Z L) (wpList P ops Q (⟨some s, op, t, pos, aft, g⟩ :: rest)) :=
  J.step (α := Nat) f (fun b => Sto Z (pts b o :: L)) hw hd (fun a w he hC => ⟨w.heap.size, w.alloc o, hr a w he, St.new0 hC ⟨rfl, rfl, rfl⟩ rfl⟩) (fun b => k b)
theorem J.box {s : Nat} {cs : List Value} (hx : evE E x = some v) (hc : v.cells = cs.toArray) (hw : want ops E ⟨some s, .box ty x, t, pos, aft, g⟩ = some true) (hd : dstOk N (some s) = true)
    (k : ∀ b, J N ((s, .pointer (some ⟨b, 0, none⟩)) :: E) (Sto Z (pts b (.cells cs.toArray ty (0, 0)) :: L)) (wpList P ops Q rest)) : J N E (Sto Z L) (wpList P ops Q (⟨some s, .box ty x, t, pos, aft, g⟩ :: rest)) :=
  J.new (f := fun b => .pointer (some ⟨b, 0, none⟩)) hw hd (fun a w he => by
    simp only [execOp, he.eval hx, Instr.box, newVar, newRow, hc]
    simp) k
theorem J.alloc {s : Nat} {j : TypeInfo} (hj : P.info? ty = some j) (hz : j.zero = some v) (hw : want ops E ⟨some s, .alloc ty, t, pos, aft, g⟩ = some true) (hd : dstOk N (some s) = true)
    (k : ∀ b, J N ((s, .pointer (some ⟨b, 0, none⟩)) :: E) (Sto Z (pts b (.cells v.cells ty (0, 0)) :: L)) (wpList P ops Q rest)) : J N E (Sto Z L) (wpList P ops Q (⟨some s, .alloc ty, t, pos, aft, g⟩ :: rest)) :=
  J.new (f := fun b => .pointer (some ⟨b, 0, none⟩)) hw hd (fun a w he => by
    simp only [execOp, Instr.alloc, newVar, newRow]
    simp [zeroValue, typeInfo, hj, hz]) k
/-- The parts of a slice's literal. -/
def evParts (E : En) : List (Nat × Operand) → Option (List (Nat × Value))
  | [] => some []
  | (i, x) :: l => match evE E x, evParts E l with
    | some v, some vs => some ((i, v) :: vs)
    | _, _ => none
theorem evParts_map {a : Act} (he : Env N a E) : ∀ {ps : List (Nat × Operand)} {vs : List (Nat × Value)}, evParts E ps = some vs → ps.map (fun p => (p.1, a.eval p.2)) = vs
  | [], vs, h => by simp only [evParts, Option.some.injEq] at h; subst h; rfl
  | (i, x) :: ps, vs, h => by
    simp only [evParts] at h
    cases h1 : evE E x with
    | none => rw [h1] at h; cases h
    | some v =>
      cases h2 : evParts E ps with
      | none => rw [h1, h2] at h; cases h
      | some us =>
        rw [h1, h2] at h
        simp only [Option.some.injEq] at h
        subst h
        simp [he.eval h1, evParts_map he h2]
theorem J.buildSlice {s len e : Nat} {ps : List (Nat × Operand)} {vs : List (Nat × Value)} {cs : List Value} {j : TypeInfo} {zv : Value} (hp : evParts E ps = some vs) (ht : P.underlying ty = some (.slice e)) (hj : P.info? e = some j)
    (hz : j.zero = some zv) (hn : (len * j.size > 2 ^ 24) = False) (hn0 : (len * j.size = 0) = False)
    (hf : Instr.fill (fun i => some (i * j.size, j.size)) ((Array.range (len * j.size)).map (zv.cells[· % zv.cells.size]!)) vs = some cs.toArray)
    (hw : want ops E ⟨some s, .buildSlice ty len ps.toArray, t, pos, aft, g⟩ = some true) (hd : dstOk N (some s) = true)
    (k : ∀ b, J N ((s, .slice (some ⟨b, 0, none⟩) len len) :: E) (Sto Z (pts b (.cells cs.toArray e (0, 0)) :: L)) (wpList P ops Q rest)) : J N E (Sto Z L) (wpList P ops Q (⟨some s, .buildSlice ty len ps.toArray, t, pos, aft, g⟩ :: rest)) :=
  J.new (f := fun b => .slice (some ⟨b, 0, none⟩) len len) hw hd (fun a w he => by
    have h1 := evParts_map he hp
    have h2 : (ps.toArray.map fun p => (p.1, a.eval p.2)) = vs.toArray := by rw [List.map_toArray, h1]
    have h3 : (ps.toArray.map fun (i, x) => (i, a.eval x)) = vs.toArray := h2
    simp only [execOp, h3, Instr.buildSlice, newRow]
    simp [run_underlying ht, sizeOf, typeInfo, zeroValue, hj, hz, hn, hn0, hf]) k
end
end Go.Sb

/- Structs by value: built, taken apart, loaded and stored whole. Over any program. -/
import Derived.Test.YtdpfdpmjnifanaaDoorStr
namespace Go.Sb
open Go Go.RowKit
set_option linter.unusedSimpArgs false
set_option linter.unusedVariables false

/-- Parts put over cells, each at its place. -/
def fillL (places : List (Nat × Nat)) : List Value → List (Nat × Value) → Option (List Value)
  | cs, [] => some cs
  | cs, (i, v) :: rest => match places[i]? with
    | none => none
    | some (off, size) => match Nat.beq v.cells.toList.length size && Nat.ble (off + size) cs.length with
      | true => fillL places (cs.take off ++ v.cells.toList ++ cs.drop (off + size)) rest
      | false => none
theorem fold_splice : ∀ (vs cs : List Value) (off j : Nat), off + j + vs.length ≤ cs.length →
    (vs.zipIdx j).foldl (fun (cs : Array Value) (x : Value × Nat) => cs.setIfInBounds (off + x.2) x.1) cs.toArray = (cs.take (off + j) ++ vs ++ cs.drop (off + j + vs.length)).toArray
  | [], cs, off, j, _ => by simp
  | v :: vs, cs, off, j, h => by
    simp only [List.zipIdx_cons, List.foldl_cons]
    have hlt : off + j < cs.length := by simp at h; omega
    have e1 : cs.toArray.setIfInBounds (off + j) v = (cs.set (off + j) v).toArray := by simp
    rw [e1, fold_splice vs (cs.set (off + j) v) off (j + 1) (by simp at h ⊢; omega)]
    congr 1
    have e2 : cs.set (off + j) v = cs.take (off + j) ++ v :: cs.drop (off + j + 1) := by rw [List.set_eq_take_append_cons_drop, if_pos hlt]
    have hl : (cs.take (off + j)).length = off + j := by simp; omega
    rw [e2]
    have e3 : (cs.take (off + j) ++ v :: cs.drop (off + j + 1)).take (off + (j + 1)) = cs.take (off + j) ++ [v] := by
      rw [List.take_append, hl]
      rw [List.take_of_length_le (by omega)]
      congr 1
      rw [show off + (j + 1) - (off + j) = 1 by omega]
      rfl
    have e4 : (cs.take (off + j) ++ v :: cs.drop (off + j + 1)).drop (off + (j + 1) + vs.length) = cs.drop (off + j + (vs.length + 1)) := by
      rw [List.drop_append, hl]
      rw [List.drop_eq_nil_of_le (by omega)]
      rw [show off + (j + 1) + vs.length - (off + j) = vs.length + 1 by omega]
      simp only [List.nil_append, List.drop_succ_cons, List.drop_drop]
      congr 1
      omega
    rw [e3, e4]
    simp
theorem fill_L (places : List (Nat × Nat)) : ∀ (l : List (Nat × Value)) (cs : List Value), Instr.fill (fun i => places.toArray[i]?) cs.toArray l = (fillL places cs l).map (·.toArray)
  | [], cs => rfl
  | (i, v) :: l, cs => by
    have hpl : ∀ k : Nat, places.toArray[k]? = places[k]? := fun k => by simp
    simp only [Instr.fill, fillL, hpl]
    cases hp : places[i]? with
    | none => rfl
    | some p =>
      obtain ⟨off, size⟩ := p
      simp only
      by_cases h1 : v.cells.toList.length = size
      · by_cases h2 : off + size ≤ cs.length
        · have e1 : (Nat.beq v.cells.toList.length size && Nat.ble (off + size) cs.length) = true := by
            simp only [Bool.and_eq_true]
            exact ⟨by rw [h1]; exact Nat.beq_refl _, Nat.ble_eq ▸ h2⟩
          have hs : v.cells.size = size := by simpa using h1
          rw [e1]
          have hc : ¬ ((decide (v.cells.size ≠ size) || decide (off + v.cells.size > cs.toArray.size)) = true) := by simp [hs]; omega
          rw [if_neg hc]
          have hz : v.cells.zipIdx.foldl (fun cs (x : Value × Nat) => cs.setIfInBounds (off + x.2) x.1) cs.toArray = (cs.take off ++ v.cells.toList ++ cs.drop (off + size)).toArray := by
            have := fold_splice v.cells.toList cs off 0 (by simp at h1 ⊢; omega)
            simp only [Nat.add_zero, h1] at this
            rw [← this, ← Array.foldl_toList]
            simp
          have ih := fill_L places l (cs.take off ++ v.cells.toList ++ cs.drop (off + size))
          simp only [hpl] at ih
          rw [← ih, ← hz]
        · have e1 : (Nat.beq v.cells.toList.length size && Nat.ble (off + size) cs.length) = false := by
            have : Nat.ble (off + size) cs.length = false := by
              cases hb : Nat.ble (off + size) cs.length with
              | false => rfl
              | true => exact absurd (Nat.le_of_ble_eq_true hb) h2
            rw [this, Bool.and_false]
          rw [e1]
          have hs : v.cells.size = size := by simpa using h1
          rw [if_pos (by simp [hs]; omega)]
          rfl
      · have e1 : (Nat.beq v.cells.toList.length size && Nat.ble (off + size) cs.length) = false := by
          have : Nat.beq v.cells.toList.length size = false := by
            cases hb : Nat.beq v.cells.toList.length size with
            | false => rfl
            | true => exact absurd (Nat.eq_of_beq_eq_true hb) h1
          rw [this, Bool.false_and]
        rw [e1]
        have hs : v.cells.size ≠ size := by simpa using h1
        rw [if_pos (by simp [hs])]
        rfl
/-- A struct type's places and zero value. -/
def BD (P : Program) (t : Nat) (places : List (Nat × Nat)) (zc : List Value) : Prop :=
  ∃ fs j z, P.underlying t = some (.struct fs) ∧ (fs.toList.map fun f => (f.offset, (P.info? f.type).map (·.size))) = places.map (fun p => (p.1, some p.2)) ∧ P.info? t = some j ∧ j.zero = some z ∧ z.cells = zc.toArray
theorem BD.of {P : Program} {t : Nat} {places : List (Nat × Nat)} {zc : List Value} {fs : Array Field} (ht : P.underlying t = some (.struct fs))
    (h1 : (fs.toList.map fun f => (f.offset, (P.info? f.type).map (·.size))) = places.map (fun p => (p.1, some p.2))) (h2 : ((P.info? t).bind (·.zero)).map (·.cells) = some zc.toArray) : BD P t places zc := by
  obtain ⟨z, hz, hc⟩ := Option.map_eq_some_iff.1 h2
  obtain ⟨j, hj, hz⟩ := Option.bind_eq_some_iff.1 hz
  exact ⟨fs, j, z, ht, h1, hj, hz, hc⟩
variable {P : Program} {N : Nat} {E : En} {Z : World} {L : List HP} {F : HP → List HP} {C D : World → Prop} {Q : Exit → Act → World → Prop} {ops : Array Oper} {rest : List Oper}
section
variable {d : Option Tmp} {x y z : Operand} {t ty u : TypeId} {pos : String} {aft : Array Edge} {g : Option (Nat × Bool)} {v vx vy : Value}
theorem run_places {fs : List Field} {w : World} : ∀ {places : List (Nat × Nat)}, (fs.map fun f => (f.offset, (P.info? f.type).map (·.size))) = places.map (fun p => (p.1, some p.2)) →
    (fs.mapM (fun f => Prod.mk f.offset <$> sizeOf f.type : Field → Sem (Nat × Nat))).run P w = .ok places w := by
  induction fs with
  | nil => intro places h; cases places <;> first | rfl | (simp at h)
  | cons f fs ih =>
    intro places h
    cases places with
    | nil => simp at h
    | cons p places =>
      simp only [List.map_cons, List.cons.injEq, Prod.mk.injEq] at h
      obtain ⟨⟨h1, h2⟩, h3⟩ := h
      obtain ⟨j, hj, hs⟩ := Option.map_eq_some_iff.1 h2
      have := ih h3
      simp only [List.mapM_cons]
      have hsz : (sizeOf f.type).run P w = .ok p.2 w := by simp [sizeOf, typeInfo, hj, hs]
      simp only [Sem.run_bind, Sem.run_map, hsz, Sem.run_pure, Result.andThen_ok, this, h1]
theorem Rd.build {ps : List (Nat × Operand)} {vs : List (Nat × Value)} {places : List (Nat × Nat)} {zc cs : List Value} (bd : BD P ty places zc) (hp : evParts E ps = some vs) (hf : fillL places zc vs = some cs) : Rd P N E C ⟨d, .build ty ps.toArray, t, pos, aft, g⟩ (.agg cs.toArray) := fun a w he _ => by
  obtain ⟨fs, j, z, h1, h2, h3, h4, h5⟩ := bd
  have h6 := evParts_map he hp
  have h7 : (ps.toArray.map fun (i, x) => (i, a.eval x)) = vs.toArray := by
    show (ps.toArray.map fun p => (p.1, a.eval p.2)) = vs.toArray
    rw [List.map_toArray, h6]
  have h8 := run_places (P := P) (w := w) h2
  have h9 : (fs.mapM (fun f => Prod.mk f.offset <$> sizeOf f.type : Field → Sem (Nat × Nat))).run P w = .ok places.toArray w := by
    rw [← Array.toArray_toList (xs := fs), List.mapM_toArray]
    simp [h8]
  simp only [execOp, h7, Instr.build]
  have h10 := fill_L places vs zc
  rw [hf] at h10
  have hpl : ∀ k : Nat, places.toArray[k]? = places[k]? := fun k => by simp
  simp only [hpl] at h10
  simp [zeroValue, typeInfo, h3, h4, h5, run_underlying h1, h9, h10]
end
end Go.Sb

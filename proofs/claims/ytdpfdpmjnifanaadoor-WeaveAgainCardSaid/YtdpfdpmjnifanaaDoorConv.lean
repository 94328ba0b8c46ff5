/- Bytes made of a text: a row that is only read. Over any program. -/
import Derived.Test.YtdpfdpmjnifanaaDoorMap
import Derived.Lib.ConvBytes
import Derived.Laws.Runes
namespace Go.Sb
open Go Go.RowKit
set_option linter.unusedSimpArgs false
set_option linter.unusedVariables false
/-- THE SLICE v HOLDS xs (ELEMENTS OF ONE CELL), AND NOBODY ELSE WRITES ITS ROW; it is only read. -/
def ro (v : Value) (xs : List Value) : HP := fun h => (∃ c, v = .slice none 0 c ∧ xs = [] ∧ h = Hp.emp) ∨
  ∃ g off cap cur e fr, v = .slice (some ⟨g, off, none⟩) xs.length cap ∧ (cur.drop off).take xs.length = xs ∧ h = Hp.one g (.cells (List.toArray cur) e fr)
class HasR (v : Value) (L : List HP) (xs : outParam (List Value)) : Prop where
  eq : ∃ i : Nat, L[i]? = some (ro v xs)
instance HasR.head {v : Value} {xs : List Value} {L : List HP} : HasR v (ro v xs :: L) xs := ⟨0, rfl⟩
instance (priority := low) HasR.tail {v : Value} {xs : List Value} {A : HP} {L : List HP} [h : HasR v L xs] : HasR v (A :: L) xs := let ⟨i, h1⟩ := h.eq; ⟨i + 1, by simpa using h1⟩
theorem SlR_ro {Z w : World} {v : Value} {xs : List Value} {L : List HP} [k : HasR v L xs] (h : St Z w L) : SlR w v xs := by
  obtain ⟨i, hi⟩ := k.eq
  obtain ⟨g, hg, hs⟩ := h.part hi
  rcases hg with ⟨c, rfl, rfl, _⟩ | ⟨b, off, cap, cur, e, fr, rfl, hx, rfl⟩
  · exact SlR.nil rfl
  · refine ⟨_, cap, rfl, fun j u hj => ⟨_, rfl, ?_⟩⟩
    have hb : w.heap[b]? = some (.cells cur.toArray e fr) := hs b _ (by simp [Hp.one])
    have hlt := (List.getElem?_eq_some_iff.1 hj).1
    rw [← hx, List.getElem?_take, if_pos hlt, List.getElem?_drop] at hj
    rw [Addr.add_lit]
    exact cell_of_block (i := off + j) hb (by simpa using hj)
theorem ro_of_own {e n : Nat} {v : Value} {xs : List Value} : ∀ h, own e 1 v n xs h → ro v xs h := fun h ⟨hl, hh⟩ => by
  rcases hh with ⟨rfl, rfl, rfl⟩ | ⟨g, off, cap, cur, rfl, h1, h2, h3, rfl⟩
  · exact .inl ⟨0, rfl, List.eq_nil_of_length_eq_zero (by simpa using hl), rfl⟩
  · obtain rfl : xs.length = n := by simpa using hl
    exact .inr ⟨g, off, cap, cur, e, _, rfl, by simpa using h3, rfl⟩
section
variable {P : Program} {N : Nat} {E : En} {Z : World} {L : List HP} {Q : Exit → Act → World → Prop} {ops : Array Oper} {rest : List Oper}
variable {x : Operand} {t : TypeId} {pos : String} {aft : Array Edge} {g : Option (Nat × Bool)}
theorem Rd.convIS {C : World → Prop} {d : Option Tmp} {src dst : TypeId} {k : IntKind} {n : Int} (hs : (P.underlying src).isSome = true) (hd : P.underlying dst = some .string) (hx : evE E x = some (.int k n)) : Rd P N E C ⟨d, .convert src dst x, t, pos, aft, g⟩ (.string (Utf8.encode n)) := fun a w he _ => by
  simp only [execOp, he.eval hx]
  simp [run_convert_int_string w src dst k n hs hd]
theorem J.convSB {src dst e : TypeId} {s : Nat} {str : ByteArray} (hs : P.underlying src = some .string) (hd' : P.underlying dst = some (.slice e)) (he' : P.underlying e = some (.int .u8)) (hx : evE E x = some (.string str))
    (hw : want ops E ⟨some s, .convert src dst x, t, pos, aft, g⟩ = some true) (hd : dstOk N (some s) = true)
    (k : ∀ b c, J N ((s, .slice (some ⟨b, 0, none⟩) str.size c) :: E) (Sto Z (ro (.slice (some ⟨b, 0, none⟩) str.size c) (bytesV str.data.toList) :: L)) (wpList P ops Q rest)) :
    J N E (Sto Z L) (wpList P ops Q (⟨some s, .convert src dst x, t, pos, aft, g⟩ :: rest)) :=
  J.step (α := Nat × Nat) (fun q => .slice (some ⟨q.1, 0, none⟩) str.size q.2) (fun q => Sto Z (ro (.slice (some ⟨q.1, 0, none⟩) str.size q.2) (bytesV str.data.toList) :: L)) hw hd (fun a w he hC => by
    refine ⟨(w.heap.size, grownCap w str.size 0 e), Lib.bytesWorld w e str, ?_, ?_⟩
    · simp only [execOp, he.eval hx]
      simp [Lib.run_convert_string_bytes w src dst e str hs hd' he']
    · have hpush : (Lib.bytesWorld w e str).heap = w.heap.push (.cells (Lib.bytesCells w e str) e ((Lib.bytesCells w e str).size, (Lib.bytesCells w e str).size + 1)) := by
        apply Array.ext_getElem?
        intro i
        rw [Array.getElem?_push]
        by_cases hi : i = w.heap.size
        · subst hi; rw [Lib.bytesWorld_at_new]; simp
        · rw [if_neg hi]
          by_cases hlt : i < w.heap.size
          · rw [Lib.bytesWorld_at_old _ _ _ _ hlt]
          · rw [Array.getElem?_eq_none (by rw [Lib.bytesWorld_size]; omega), Array.getElem?_eq_none (by omega)]
      refine St.conv0 (fun h hh => ?_) (St.new0 hC ⟨rfl, rfl, rfl⟩ hpush)
      refine .inr ⟨w.heap.size, 0, grownCap w str.size 0 e, (Lib.bytesCells w e str).toList, e, ((Lib.bytesCells w e str).size, (Lib.bytesCells w e str).size + 1), ?_, ?_, ?_⟩
      · simp [bytesV]
      · simp only [List.drop_zero, Lib.bytesCells, Array.toList_append, bytesV]
        rw [List.take_append_of_le_length (by simp)]
        simp [List.take_of_length_le]
      · rw [Array.toArray_toList]; exact hh) (fun q => k q.1 q.2)
end
end Go.Sb

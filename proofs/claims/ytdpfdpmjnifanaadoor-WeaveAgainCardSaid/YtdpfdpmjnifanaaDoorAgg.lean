/- Structs and arrays, read and written whole. Over any program. -/
import Derived.Test.YtdpfdpmjnifanaaDoorConv
import Derived.Deep.MidRow
import Derived.Lib.ItoaLen
namespace Go.Sb
open Go Go.RowKit
set_option linter.unusedSimpArgs false
set_option linter.unusedVariables false
/-- n places of a list, from place o on. -/
class LTake (l : List Value) (o n : Nat) (l' : outParam (List Value)) : Prop where
  get : ∀ (j : Nat) v, l'[j]? = some v → l[o + j]? = some v
  len : l'.length = n
instance LTake.nil {l : List Value} : LTake l 0 0 [] := ⟨fun j v h => by simp at h, rfl⟩
instance LTake.cons {x : Value} {l l' : List Value} {n : Nat} [h : LTake l 0 n l'] : LTake (x :: l) 0 (n + 1) (x :: l') := ⟨fun j v hj => by
  cases j with
  | zero => simpa using hj
  | succ j => have := h.get j v (by simpa using hj); simpa using this, by simp [h.len]⟩
instance LTake.skip {x : Value} {l l' : List Value} {o n : Nat} [h : LTake l o n l'] : LTake (x :: l) (o + 1) n l' := ⟨fun j v hj => by
  have := h.get j v hj
  rw [show o + 1 + j = (o + j) + 1 by omega]; simpa using this, h.len⟩
def putL : List Value → Nat → List Value → List Value
  | l, _, [] => l
  | l, o, v :: r => putL (l.set o v) (o + 1) r
class LPut (l : List Value) (o : Nat) (vs : List Value) (l' : outParam (List Value)) : Prop where
  eq : l' = putL l o vs
  lt : vs = [] ∨ o + vs.length ≤ l.length
instance LPut.nil {l : List Value} {o : Nat} : LPut l o [] l := ⟨rfl, .inl rfl⟩
instance LPut.cons {l l1 l2 : List Value} {o : Nat} {v : Value} {r : List Value} [h : LSet l o v l1] [k : LPut l1 (o + 1) r l2] : LPut l o (v :: r) l2 := ⟨by rw [k.eq, h.eq]; rfl, .inr (by
  have h1 := h.lt
  rcases k.lt with rfl | h2
  · simp; omega
  · rw [h.eq, List.length_set] at h2; simp; omega)⟩
section
variable {P : Program} {N : Nat} {E : En} {Z : World} {L : List HP} {F : HP → List HP} {C : World → Prop} {Q : Exit → Act → World → Prop} {ops : Array Oper} {rest : List Oper}
variable {d : Option Tmp} {x y : Operand} {t ty : TypeId} {pos : String} {aft : Array Edge} {g : Option (Nat × Bool)} {v : Value}
theorem Rd.ldAgg {b o : Nat} {c cs : List Value} {T : TypeId} {fr : Nat × Nat} {ds : TypeDesc} (n : Nat) (ht : P.underlying ty = some ds) (hr : ds.isRow = true) (hz : (P.info? ty).map (·.size) = some n) (hx : evE E x = some (.pointer (some ⟨b, o, none⟩))) [HasP b L (.cells c.toArray T fr) F] [k : LTake c o n cs] :
    Rd P N E (Sto Z L) ⟨d, .load ty x, t, pos, aft, g⟩ (.agg cs.toArray) := fun a w he hC => by
  have hb := St.blockP (b := b) hC
  have hl := run_loadVar_mid (P := P) w b o ty cs ds (fun j v hv => cell_of_block (i := o + j) hb (by simpa using k.get j v hv)) ht hr (by rw [hz, k.len])
  simp only [execOp, he.eval hx, Instr.loadAt]
  simp [Instr.sureAddr, hl]
theorem setCells_heap {b : Nat} {T : TypeId} : ∀ (vs : List Value) (o : Nat) (c : List Value) (w : World), w.heap[b]? = some (.cells c.toArray T (0, 0)) →
    (w.setCells b o vs).heap[b]? = some (.cells (putL c o vs).toArray T (0, 0)) ∧ (∀ k, k ≠ b → (w.setCells b o vs).heap[k]? = w.heap[k]?) ∧ (w.setCells b o vs).os = w.os ∧ (w.setCells b o vs).tape = w.tape ∧ (w.setCells b o vs).output = w.output
  | [], o, c, w, h => ⟨h, fun _ _ => rfl, rfl, rfl, rfl⟩
  | v :: r, o, c, w, h => by
    have h1 := setCells_heap (T := T) r (o + 1) (c.set o v) (w.setCell ⟨b, o, none⟩ v) (by rw [heap_setCell_at h]; simp)
    refine ⟨h1.1, fun k hk => (h1.2.1 k hk).trans (Below.heap_setCell _ _ _ _ hk), h1.2.2⟩
theorem J.stoAgg {b o : Nat} {c c' vs : List Value} {T : TypeId} (hz : (P.info? ty).map (·.size) = some vs.length) (h1 : vs.all (·.oneCell') = true) (hx : evE E x = some (.pointer (some ⟨b, o, none⟩))) (hy : evE E y = some (.agg vs.toArray))
    [HasP b L (.cells c.toArray T (0, 0)) F] [hp : LPut c o vs c'] (hw : want ops E ⟨none, .store ty x y, t, pos, aft, g⟩ = some true)
    (k : J N E (Sto Z (F (pts b (.cells c'.toArray T (0, 0))))) (wpList P ops Q rest)) : J N E (Sto Z L) (wpList P ops Q (⟨none, .store ty x y, t, pos, aft, g⟩ :: rest)) :=
  J.stepU hw rfl (fun a w he hC => by
    have hb := St.blockP (b := b) hC
    obtain ⟨g1, g2, g3⟩ := setCells_heap (T := T) vs o c w hb
    refine ⟨w.setCells b o vs, ?_, ?_⟩
    · have hr := run_storeAt_mid (P := P) w b o ty vs.toArray (fun j hj => by
        have hlt : o + j < c.length := by
          rcases hp.lt with rfl | h2
          · simp at hj
          · simp at hj; omega
        exact ⟨by rw [cell_of_block (v := c[o + j]) hb (by simp [hlt])]; rfl, by simp [World.frozen?, hb]⟩) (by simpa using hz) (by simpa using h1)
      simp only [execOp, he.eval hx, he.eval hy]
      simp [hr]
    · exact St.putP (b := b) hC g3 (by rw [g1, hp.eq]) g2) k
end
end Go.Sb

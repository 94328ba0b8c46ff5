/- Rows of bytes, rows of such rows, that came in. Over any program. -/
import Derived.Test.YtdpfdpmjnifanaaDoorLaw
import Derived.Deep.Matrix
namespace Go.Sb
open Go Go.RowKit Go.WideShapes Go.ChangeShapes Go.ChangeAt
set_option linter.unusedSimpArgs false
set_option linter.unusedVariables false
section
variable {H : Type} {enc : TypeId × Value → H} {P : Program}
theorem SlR_ints {W : World} {a : Addr} {len cap : Nat} {zs : List Int} (hl : len ≤ cap) (hz : zs.length = cap) (hwz : ∀ n ∈ zs, (Lit.int .u8 n).wf = true) (hcell : ∀ c, c < cap → W.cell? (a.add c) = some (.int .u8 (zs.getD c 0))) :
    SlR W (.slice (some a) len cap) (bytesV ((zs.take len).map fun n => UInt8.ofNat n.toNat)) := by
  have hlen : ((zs.take len).map fun n => UInt8.ofNat n.toNat).length = len := by simp; omega
  refine ⟨some a, cap, by simp only [bytesV, List.length_map] at *; rw [hlen], fun j u hj => ⟨a, rfl, ?_⟩⟩
  have hj' : j < len := by
    have := (List.getElem?_eq_some_iff.1 hj).1
    simp only [bytesV, List.length_map] at this
    simp at this; omega
  have hb := range_u8 hwz j
  rw [hcell j (by omega)]
  have e : zs.getD j 0 = zs[j]'(by omega) := by simp [List.getD, List.getElem?_eq_getElem (show j < zs.length by omega)]
  rw [List.getD_eq_getElem?_getD] at e
  rw [e] at hb
  rw [List.getD_eq_getElem?_getD, e]
  have : (bytesV ((zs.take len).map fun n => UInt8.ofNat n.toNat))[j]? = some (.int .u8 (zs[j]'(by omega))) := by
    simp only [bytesV, List.map_map, List.getElem?_map, List.getElem?_take, hj', if_true, List.getElem?_eq_getElem (show j < zs.length by omega), Option.map_some, Function.comp]
    congr 2
    simp only [UInt8.toNat_ofNat']
    omega
  rw [this] at hj
  exact hj
/-- ROWS OF BYTES THAT CAME IN. -/
theorem open_byteRows {W : World} {base : Nat} {t e q : TypeId} {v : Value} {d : DataW H} {ps : List MemPlace} (ht : P.underlying t = some (.slice e)) (he : P.underlying e = some (.slice q)) (hq : P.underlying q = some (.int .u8)) (ce : P.cellsOf e = 1) (cq : P.cellsOf q = 1)
    (hval : Value.okWide P W .any base t v) (h1 : DataW.Trod enc P W 0 (fun _ => true) true t v d ps) :
    ∃ (ls : List (List UInt8)) (vs : List Value), SlR W v vs ∧ vs.length = ls.length ∧ ∀ (i : Nat) (l : List UInt8), ls[i]? = some l → ∃ u, vs[i]? = some u ∧ SlR W u (bytesV l) := by
  obtain ⟨a1, len1, cap1, rfl⟩ := okWide_slice ht hval
  obtain ⟨fuel, hf⟩ := h1
  rcases Deep.open_int_rows ht he hq ce cq hf with ⟨hcs, hx⟩ | ⟨a, len, cap, A, L, C, Z, hcs, _, hl, hm, hx, hr⟩
  · simp [Value.cells] at hcs
    obtain ⟨rfl, rfl, rfl⟩ := hcs
    exact ⟨[], [], SlR.nil rfl, rfl, fun i l h => by simp at h⟩
  · simp [Value.cells] at hcs
    obtain ⟨rfl, rfl, rfl⟩ := hcs
    refine ⟨(List.range len1).map fun r => ((Z r).take (L r)).map fun n => UInt8.ofNat n.toNat, (List.range len1).map fun r => Value.slice (A r) (L r) (C r), ⟨some a, cap1, by simp, fun j u hj => ⟨a, rfl, ?_⟩⟩, by simp, fun i l hil => ?_⟩
    · have hj' : j < len1 := by have := (List.getElem?_eq_some_iff.1 hj).1; simpa using this
      rw [List.getElem?_map, List.getElem?_range hj', Option.map_some, Option.some.injEq] at hj
      rw [← hj]
      exact (hr j (by omega)).1
    · have hi' : i < len1 := by have := (List.getElem?_eq_some_iff.1 hil).1; simpa using this
      rw [List.getElem?_map, List.getElem?_range hi', Option.map_some, Option.some.injEq] at hil
      subst hil
      refine ⟨Value.slice (A i) (L i) (C i), by rw [List.getElem?_map, List.getElem?_range hi', Option.map_some], ?_⟩
      obtain ⟨r1, r2, r3, r4, r5, r6, r7⟩ := hr i (by omega)
      cases hA : A i with
      | none =>
        have hC := r6 hA
        have hL : L i = 0 := by omega
        rw [hL]
        have : ((Z i).take 0).map (fun n => UInt8.ofNat n.toNat) = [] := by simp
        rw [this]
        exact SlR.nil rfl
      | some a' => exact SlR_ints r2 r4 r5 (r7 a' hA).2
end
end Go.Sb

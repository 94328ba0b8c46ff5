/- Rows of structs (a bool, a string, bytes) that came in. Over any program. -/
import Derived.Test.YtdpfdpmjnifanaaDoorLawRows
import Derived.Test.YtdpfdpmjnifanaaDoorMore
import Derived.Test.YtdpfdpmjnifanaaDoorElems
import Derived.Deep.Fields
namespace Go.Sb
open Go Go.RowKit Go.WideShapes Go.ChangeShapes Go.ChangeAt
set_option linter.unusedSimpArgs false
set_option linter.unusedVariables false
theorem flat3 (f : Nat → List Value) : ∀ n, (∀ i, i < n → (f i).length = 3) → ((List.range n).flatMap f).length = n * 3 ∧ ∀ k j, k < n → j < 3 → ((List.range n).flatMap f)[k * 3 + j]? = (f k)[j]?
  | 0, _ => ⟨rfl, fun k j hk => by omega⟩
  | n + 1, h => by
    obtain ⟨h1, h2⟩ := flat3 f n (fun i hi => h i (by omega))
    have hn := h n (by omega)
    rw [List.range_succ, List.flatMap_append]
    refine ⟨by rw [List.length_append, h1]; simp [hn]; omega, fun k j hk hj => ?_⟩
    by_cases e : k = n
    · subst e
      rw [List.getElem?_append_right (by omega), h1]
      simp [Nat.add_sub_cancel_left]
    · rw [List.getElem?_append_left (by omega)]
      exact h2 k j (by omega) hj
theorem SlS.was {W w : World} {v : Value} {n : Nat} {xs : List Value} (h : SlS W v n xs) (hw : St W w [Sb.was W]) : SlS w v n xs := by
  obtain ⟨a, c, rfl, hc⟩ := h
  refine ⟨a, c, rfl, fun j u hj => ?_⟩
  obtain ⟨g, off, e, h1⟩ := hc j u hj
  exact ⟨g, off, e, was_cell hw h1⟩
section
variable {H : Type} {enc : TypeId × Value → H} {P : Program}
theorem open_byteCell {W : World} {t q : TypeId} {fuel : Nat} {V : Value} {y : DataW H × List MemPlace} (ht : P.underlying t = some (.slice q)) (hq : P.underlying q = some (.int .u8)) (cq : P.cellsOf q = 1) (h : DataW.trod enc P W 0 (fun _ => true) true fuel t [V] = some y) :
    ∃ l : List UInt8, SlR W V (bytesV l) := by
  rcases open_ints ht hq cq h with ⟨hcs, _⟩ | ⟨a, len, cap, zs, hcs, _, hl, hm, hz, _, hcell, hwz⟩
  · obtain rfl : V = .slice none 0 0 := by simpa using hcs
    exact ⟨[], SlR.nil rfl⟩
  · obtain rfl : V = .slice (some a) len cap := by simpa using hcs
    simp only [if_true] at hz
    exact ⟨_, SlR_ints hl hz hwz (fun c hc => hcell c (by omega))⟩
/-- ACTS THAT CAME IN. -/
theorem open_acts {W : World} {base : Nat} {t e q : TypeId} {f0 f1 f2 : Field} {v : Value} {d : DataW H} {ps : List MemPlace} (ht : P.underlying t = some (.slice e)) (he : P.underlying e = some (.struct #[f0, f1, f2]))
    (hone : ∀ (i : Nat) (f : Field), (#[f0, f1, f2] : Array Field)[i]? = some f → f.offset = i ∧ P.cellsOf f.type = 1) (ce : P.cellsOf e = 3) (t0 : P.underlying f0.type = some .bool) (t1 : P.underlying f1.type = some .string) (t2 : P.underlying f2.type = some (.slice q)) (hq : P.underlying q = some (.int .u8)) (cq : P.cellsOf q = 1)
    (hval : Value.okWide P W .any base t v) (h1 : DataW.Trod enc P W 0 (fun _ => true) true t v d ps) :
    ∃ (acts : List (Bool × ByteArray × Value × List UInt8)) (us : List Value), acts.length ≤ 9223372036854775807 ∧ SlS W v acts.length us ∧ ∀ (k : Nat) (a : Bool × ByteArray × Value × List UInt8), acts[k]? = some a → us[k * 3 + 0]? = some (.bool a.1) ∧ us[k * 3 + 1]? = some (.string a.2.1) ∧ us[k * 3 + 2]? = some a.2.2.1 ∧ SlR W a.2.2.1 (bytesV a.2.2.2) := by
  obtain ⟨a1, len1, cap1, rfl⟩ := okWide_slice ht hval
  obtain ⟨fuel, hf⟩ := h1
  rcases Deep.open_slice ht hf with ⟨hcs, _⟩ | ⟨a, len, cap, m, n, D, Pl, hcs, _, hl, hm, hmm, _, hx⟩
  · simp [Value.cells] at hcs
    obtain ⟨rfl, rfl, rfl⟩ := hcs
    exact ⟨[], [], by simp, ⟨none, 0, rfl, fun j u hj => by simp at hj⟩, fun k a h => by simp at h⟩
  · simp [Value.cells] at hcs
    obtain ⟨rfl, rfl, rfl⟩ := hcs
    simp only [if_true] at hmm
    subst hmm
    rw [ce] at hx
    have key : ∀ i, i < len1 → ∃ y : List Value × Bool × ByteArray × Value × List UInt8, y.1.length = 3 ∧ (∀ j, j < 3 → W.cell? ((a.add (i * 3)).add j) = y.1[j]?) ∧ y.1[0]? = some (.bool y.2.1) ∧ y.1[1]? = some (.string y.2.2.1) ∧ y.1[2]? = some y.2.2.2.1 ∧ SlR W y.2.2.2.1 (bytesV y.2.2.2.2) := by
      intro i hi
      obtain ⟨cs, hcs, htr⟩ := hx i (by omega)
      obtain ⟨_, hlen, hcell⟩ := World.cells?_some hcs
      obtain ⟨xs, n', _, _, _, hxl, hfd⟩ := DataW.trod_struct he htr
      have fld : ∀ j f, (#[f0, f1, f2] : Array Field)[j]? = some f → ∃ y, DataW.trod enc P W 0 (fun _ => true) true n' f.type [cs.getD j undef] = some y := fun j f hj => by
        obtain ⟨ho, hc⟩ := hone j f hj
        have g := hfd j f hj
        have hlt : j < 3 := (Array.getElem?_eq_some_iff.1 hj).1
        rw [ho, hc, Deep.take1_drop cs j undef (by omega)] at g
        have hxl' : xs.length = 3 := hxl
        exact ⟨_, g.trans (List.getElem?_eq_getElem (by omega))⟩
      obtain ⟨y0, g0⟩ := fld 0 f0 rfl
      obtain ⟨y1, g1⟩ := fld 1 f1 rfl
      obtain ⟨y2, g2⟩ := fld 2 f2 rfl
      obtain ⟨b, e0, _⟩ := DataW.trod_bool t0 g0
      obtain ⟨s, e1, _⟩ := DataW.trod_string t1 g1
      obtain ⟨l, hl2⟩ := open_byteCell t2 hq cq g2
      have gd : ∀ j, j < 3 → cs[j]? = some (cs.getD j undef) := fun j hj => by simp [List.getD, List.getElem?_eq_getElem (show j < cs.length by omega)]
      refine ⟨(cs, b, s, cs.getD 2 undef, l), hlen, hcell, ?_, ?_, gd 2 (by omega), hl2⟩
      · rw [gd 0 (by omega)]; simpa using e0
      · rw [gd 1 (by omega)]; simpa using e1
    obtain ⟨Y, hY⟩ := Deep.choose_lt (α := List Value × Bool × ByteArray × Value × List UInt8) key
    obtain ⟨u1, u2⟩ := flat3 (fun i => (Y i).1) len1 (fun i hi => (hY i hi).1)
    unfold maxLen at hm
    refine ⟨(List.range len1).map fun i => (Y i).2, (List.range len1).flatMap fun i => (Y i).1, by simp; omega, ⟨some a, m, by simp, fun j u hj => ?_⟩, fun k x hk => ?_⟩
    · have hlt : j < len1 * 3 := by rw [← u1]; exact (List.getElem?_eq_some_iff.1 hj).1
      have hj2 : j = j / 3 * 3 + j % 3 := by omega
      have h3 := hY (j / 3) (by omega)
      rw [hj2, u2 _ _ (by omega) (by omega), ← h3.2.1 _ (by omega), Deep.add_add, ← hj2] at hj
      have h00 := hY 0 (by omega)
      have h0 := h00.2.1 0 (by omega)
      rw [h00.2.2.1] at h0
      have hsp : a.spot = none := by simpa [Addr.add] using World.cell?_spot h0
      obtain ⟨g, o, sp⟩ := a
      simp only at hsp
      subst hsp
      exact ⟨g, o, rfl, by simpa [Addr.add_lit] using hj⟩
    · have hk' : k < len1 := by have := (List.getElem?_eq_some_iff.1 hk).1; simpa using this
      rw [List.getElem?_map, List.getElem?_range hk', Option.map_some, Option.some.injEq] at hk
      subst hk
      obtain ⟨_, _, q0, q1, q2, q3⟩ := hY k hk'
      refine ⟨?_, ?_, ?_, q3⟩
      · rw [u2 k 0 hk' (by omega)]; exact q0
      · rw [u2 k 1 hk' (by omega)]; exact q1
      · rw [u2 k 2 hk' (by omega)]; exact q2
end
end Go.Sb

/- A text's number, on bytes; and the numeral of a number. -/
import Derived.Test.YtdpfdpmjnifanaaDoorLinesPure
import Derived.Lib.ItoaNum
namespace Go.Sb
open Go Go.RowKit
set_option linter.unusedSimpArgs false
set_option linter.unusedVariables false
/-- One sign more; none: it is no number, or beyond 'most'. -/
def numStep (most : Int) (s : Option Int) (c : UInt8) : Option Int :=
  match s with
  | none => none
  | some n => if c.toNat < 48 ∨ 57 < c.toNat ∨ most < (c.toNat : Int) - 48 ∨ (most - ((c.toNat : Int) - 48)) / 10 < n then none else some (10 * n + ((c.toNat : Int) - 48))
def numGo (l : List UInt8) (most : Int) : Option Int := l.foldl (numStep most) (some 0)
def numF (l : List UInt8) (most : Int) : Int :=
  match numGo l most with
  | none => -1
  | some n => if l = [] ∨ (1 < l.length ∧ l.getD 0 0 = 48) ∨ most < 0 then -1 else n
theorem numGo_none (most : Int) (l : List UInt8) : l.foldl (numStep most) none = none := by
  induction l with
  | nil => rfl
  | cons c l ih => simpa [numStep] using ih
theorem numGo_take {l : List UInt8} {k : Nat} {c : UInt8} {most : Int} (h : l[k]? = some c) : numGo (l.take (k + 1)) most = numStep most (numGo (l.take k) most) c := by
  rw [take_succ_of h]; simp [numGo]
theorem numGo_bad {l : List UInt8} {k : Nat} {c : UInt8} {most : Int} (h : l[k]? = some c) (hs : numStep most (numGo (l.take k) most) c = none) : numF l most = -1 := by
  have e : l = l.take (k + 1) ++ l.drop (k + 1) := (List.take_append_drop _ _).symm
  have : numGo l most = none := by
    have h2 := numGo_take (most := most) h
    rw [hs] at h2
    unfold numGo at h2 ⊢
    rw [e, List.foldl_append, h2, numGo_none]
  unfold numF; rw [this]
theorem numGo_dec (most : Nat) : ∀ (k u : Nat), u ≤ k → u ≤ most → numGo (Lib.decDigits u) most = some (u : Int) := by
  intro k
  induction k with
  | zero =>
    intro u hu _
    have : u = 0 := by omega
    subst this
    have e : (UInt8.ofNat 48).toNat = 48 := by decide
    rw [Lib.decDigits, dif_pos (by omega)]
    simp only [numGo, List.foldl_cons, List.foldl_nil, numStep, Nat.add_zero, e]
    rw [if_neg (by omega)]; rfl
  | succ k ih =>
    intro u hu hm
    by_cases h : u < 10
    · rw [Lib.decDigits, dif_pos h]
      have e : (UInt8.ofNat (48 + u)).toNat = 48 + u := by have := ofN (48 + u) (by omega); omega
      simp only [numGo, List.foldl_cons, List.foldl_nil, numStep, e]
      rw [if_neg (by omega)]
      simp; omega
    · rw [Lib.decDigits, dif_neg h]
      have e : (UInt8.ofNat (48 + u % 10)).toNat = 48 + u % 10 := by have := ofN (48 + u % 10) (by omega); omega
      have h2 := ih (u / 10) (by omega) (by omega)
      unfold numGo at h2 ⊢
      rw [List.foldl_append, h2]
      simp only [List.foldl_cons, List.foldl_nil, numStep, e]
      rw [if_neg (by omega)]
      simp; omega
theorem dec_head : ∀ (k u : Nat), u ≤ k → 1 ≤ u → (Lib.decDigits u).getD 0 0 ≠ 48 ∧ 0 < (Lib.decDigits u).length := by
  intro k
  induction k with
  | zero => intro u hu h1; omega
  | succ k ih =>
    intro u hu h1
    by_cases h : u < 10
    · rw [Lib.decDigits, dif_pos h]
      refine ⟨fun e => ?_, by simp⟩
      simp only [List.getD_cons_zero] at e
      have e1 : (UInt8.ofNat (48 + u)).toNat = 48 + u := by have := ofN (48 + u) (by omega); omega
      rw [e] at e1
      have : (48 : UInt8).toNat = 48 := rfl
      omega
    · rw [Lib.decDigits, dif_neg h]
      obtain ⟨g1, g2⟩ := ih (u / 10) (by omega) (by omega)
      refine ⟨?_, by simp⟩
      rw [List.getD_eq_getElem?_getD, List.getElem?_append_left g2, ← List.getD_eq_getElem?_getD]
      exact g1
theorem numF_itoa {n : Int} {most : Nat} (h0 : 0 ≤ n) (h1 : n ≤ most) : numF (Lib.itoa n) most = n := by
  obtain ⟨u, rfl⟩ : ∃ u : Nat, n = u := ⟨n.toNat, by omega⟩
  have e : Lib.itoa (u : Int) = Lib.decDigits u := by unfold Lib.itoa; rw [if_neg (by omega)]; rfl
  unfold numF
  rw [e, numGo_dec most u u (Nat.le_refl _) (by omega)]
  simp only
  by_cases h : u < 10
  · rw [Lib.decDigits, dif_pos h, if_neg]
    simp
    try omega
  · obtain ⟨g1, g2⟩ := dec_head u u (Nat.le_refl _) (by omega)
    rw [if_neg]
    rintro (h2 | h2 | h2)
    · rw [h2] at g2; simp at g2
    · exact g1 h2.2
    · omega
theorem dec_bytes : ∀ (k u : Nat), u ≤ k → ∀ x ∈ Lib.decDigits u, 48 ≤ x.toNat ∧ x.toNat ≤ 57 := by
  intro k
  induction k with
  | zero =>
    intro u hu x hx
    have : u = 0 := by omega
    subst this
    rw [Lib.decDigits, dif_pos (by omega)] at hx
    simp only [List.mem_singleton] at hx
    subst hx; decide
  | succ k ih =>
    intro u hu x hx
    rw [Lib.decDigits] at hx
    split at hx
    · simp only [List.mem_singleton] at hx
      subst hx
      have e1 : (UInt8.ofNat (48 + u)).toNat = 48 + u := by have := ofN (48 + u) (by omega); omega
      omega
    · rcases List.mem_append.1 hx with hx | hx
      · exact ih (u / 10) (by omega) x hx
      · simp only [List.mem_singleton] at hx
        subst hx
        have e1 : (UInt8.ofNat (48 + u % 10)).toNat = 48 + u % 10 := by have := ofN (48 + u % 10) (by omega); omega
        omega
theorem itoa_bytes {n : Int} (h0 : 0 ≤ n) : ∀ x ∈ Lib.itoa n, 48 ≤ x.toNat ∧ x.toNat ≤ 57 := by
  unfold Lib.itoa
  rw [if_neg (by omega)]
  exact dec_bytes _ _ (Nat.le_refl _)
end Go.Sb

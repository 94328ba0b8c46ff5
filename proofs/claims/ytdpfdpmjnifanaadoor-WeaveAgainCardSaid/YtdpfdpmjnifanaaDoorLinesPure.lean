/- Texts cut at the ends of their lines: on lists of bytes. -/
import Derived.Test.YtdpfdpmjnifanaaDoorRefPure
import Derived.Lib.Split
namespace Go.Sb
open Go Go.RowKit
set_option linter.unusedSimpArgs false
set_option linter.unusedVariables false
def crlf : List UInt8 := [13, 10]
def crlf2 : List UInt8 := [13, 10, 13, 10]
theorem index_skip1 {b c : UInt8} {l tl : List UInt8} (h : b ≠ c) : Lib.index (b :: l) (c :: tl) = if Lib.index l (c :: tl) == -1 then -1 else Lib.index l (c :: tl) + 1 := by
  rw [Lib.index, if_neg (by simp [List.isPrefixOf, Ne.symm h])]
theorem index_skip {c : UInt8} {tl s : List UInt8} : ∀ {a : List UInt8}, (∀ x ∈ a, x ≠ c) → Lib.index (a ++ s) (c :: tl) = if Lib.index s (c :: tl) == -1 then -1 else Lib.index s (c :: tl) + a.length
  | [], _ => by
    by_cases e : Lib.index s (c :: tl) = -1
    · simp [e]
    · simp [e]
  | b :: a, h => by
    have ih := index_skip (c := c) (tl := tl) (s := s) (a := a) (fun x hx => h x (by simp [hx]))
    have hge := Lib.index_ge s (c :: tl)
    rw [List.cons_append, index_skip1 (h b (by simp)), ih]
    by_cases e : Lib.index s (c :: tl) = -1
    · simp [e]
    · have h1 : ¬ (Lib.index s (c :: tl) == -1) = true := by simpa using e
      rw [if_neg h1, if_neg h1, if_neg (by simp only [beq_iff_eq]; omega)]
      simp only [List.length_cons]; omega
theorem index_here {sub t : List UInt8} (h : sub ≠ []) : Lib.index (sub ++ t) sub = 0 := by
  cases sub with
  | nil => exact absurd rfl h
  | cons c s =>
    rw [List.cons_append, Lib.index, if_pos (by rw [← List.cons_append]; simp)]
theorem index_none {c : UInt8} {tl a : List UInt8} (h : ∀ x ∈ a, x ≠ c) : Lib.index a (c :: tl) = -1 := by
  have := index_skip (c := c) (tl := tl) (s := []) h
  simpa [Lib.index] using this
/-- A line, its end, and what stands behind. -/
theorem index_crlf {a s : List UInt8} (h : ∀ x ∈ a, x ≠ 13) : Lib.index (a ++ crlf ++ s) crlf = a.length := by
  rw [List.append_assoc, show crlf = 13 :: [10] from rfl, index_skip h, ← show crlf = 13 :: [10] from rfl, index_here (by decide)]
  simp
theorem split_one {a : List UInt8} (h : ∀ x ∈ a, x ≠ 13) : Lib.split a crlf = [a] := by
  have hi : Lib.index a crlf = -1 := index_none h
  rw [Lib.split, Lib.count_miss hi]; rfl
theorem split_line {a s : List UInt8} (h : ∀ x ∈ a, x ≠ 13) : Lib.split (a ++ crlf ++ s) crlf = a :: Lib.split s crlf := by
  have hi := index_crlf (s := s) h
  have hd : (a ++ crlf ++ s).drop (a.length + crlf.length) = s := by
    rw [← List.length_append, List.drop_left]
  rw [Lib.split, Lib.count_hit (by decide) hi, hd, Nat.add_comm, Lib.splitK, if_neg (by rw [hi]; simp only [beq_iff_eq]; omega), hi]
  simp only [Int.toNat_natCast, hd, Nat.add_zero]
  rw [List.append_assoc, List.take_left]
  rfl
/-- Where a text of such lines ends. -/
theorem index_end {a s : List UInt8} (h : ∀ x ∈ a, x ≠ 13) : Lib.index (a ++ crlf2 ++ s) crlf2 = a.length := by
  rw [List.append_assoc, show crlf2 = 13 :: [10, 13, 10] from rfl, index_skip h, ← show crlf2 = 13 :: [10, 13, 10] from rfl, index_here (by decide)]
  simp
theorem index_more {a s : List UInt8} {x : UInt8} {i : Nat} (h : ∀ x ∈ a, x ≠ 13) (hx : x ≠ 13) (hi : Lib.index (x :: s) crlf2 = i) : Lib.index (a ++ crlf ++ (x :: s)) crlf2 = ((a.length + 2 + i : Nat) : Int) := by
  have e2 : Lib.index (10 :: x :: s) crlf2 = i + 1 := by
    rw [show crlf2 = 13 :: [10, 13, 10] from rfl, index_skip1 (by decide), ← show crlf2 = 13 :: [10, 13, 10] from rfl, hi, if_neg (by simp only [beq_iff_eq]; omega)]
  have e1 : Lib.index (13 :: 10 :: x :: s) crlf2 = i + 2 := by
    rw [Lib.index, if_neg (by simp [crlf2, List.isPrefixOf, Ne.symm hx]), e2, if_neg (by simp only [beq_iff_eq]; omega)]
    omega
  rw [List.append_assoc, show crlf2 = 13 :: [10, 13, 10] from rfl, index_skip h, ← show crlf2 = 13 :: [10, 13, 10] from rfl, show crlf ++ (x :: s) = 13 :: 10 :: x :: s from rfl, e1, if_neg (by simp only [beq_iff_eq]; omega)]
  omega
theorem index_take {s sub : List UInt8} {i k : Nat} (hs : sub ≠ []) (h : Lib.index s sub = i) (hk : k < i + sub.length) : Lib.index (s.take k) sub = -1 := by
  have hsl : 0 < sub.length := List.length_pos_iff.2 hs
  rcases Lib.index_spec (s.take k) sub with ⟨h1, _⟩ | ⟨j, h1, h2, h3, _⟩
  · exact h1
  · exfalso
    have hr := Lib.index_room (s.take k) sub (by rw [h1]; omega)
    rw [h1] at hr
    have hl : (s.take k).length ≤ k := by simp; omega
    have ho : Lib.occAt s sub j = true := by
      unfold Lib.occAt at h3 ⊢
      rw [List.isPrefixOf_iff_prefix] at h3 ⊢
      obtain ⟨t, ht⟩ := h3
      have : (s.take k).drop j <+: s.drop j := by rw [List.drop_take]; exact List.take_prefix _ _
      exact List.IsPrefix.trans ⟨t, ht⟩ this
    rcases Lib.index_spec s sub with ⟨g1, _⟩ | ⟨j', g1, g2, g3, g4⟩
    · rw [h] at g1; omega
    · have : j' = i := by rw [h] at g1; omega
      subst this
      by_cases hj : j < j'
      · rw [g4 j hj] at ho; cases ho
      · omega
theorem bytes_ge {r : Nat} (h : Clean r) : ∀ x ∈ runeB r, 32 ≤ x.toNat ∧ x ≠ 59 ∧ x ≠ 39 := by
  intro x hx
  unfold Clean at h
  have key : ∀ n : Nat, 32 ≤ n → n < 256 → n ≠ 59 → n ≠ 39 → x = UInt8.ofNat n → 32 ≤ x.toNat ∧ x ≠ 59 ∧ x ≠ 39 := by
    intro n h1 h2 h3 h4 e
    have ht : x.toNat = n := by subst e; simp; omega
    refine ⟨by omega, fun e2 => h3 ?_, fun e2 => h4 ?_⟩ <;> (rw [← ht, e2]; rfl)
  unfold runeB at hx
  repeat' split at hx
  all_goals simp only [List.mem_cons, List.not_mem_nil, or_false] at hx
  · exact key r (by omega) (by omega) (by omega) (by omega) hx
  · rcases hx with hx | hx
    · exact key _ (by omega) (by omega) (by omega) (by omega) hx
    · exact key _ (by omega) (by omega) (by omega) (by omega) hx
  · rcases hx with hx | hx | hx
    · exact key _ (by omega) (by omega) (by omega) (by omega) hx
    · exact key _ (by omega) (by omega) (by omega) (by omega) hx
    · exact key _ (by omega) (by omega) (by omega) (by omega) hx
  · rcases hx with hx | hx | hx | hx
    · exact key _ (by omega) (by omega) (by omega) (by omega) hx
    · exact key _ (by omega) (by omega) (by omega) (by omega) hx
    · exact key _ (by omega) (by omega) (by omega) (by omega) hx
    · exact key _ (by omega) (by omega) (by omega) (by omega) hx
/-- What may stand in a title. -/
theorem titleF_bytes (l : List UInt8) : ∀ x ∈ titleF l, 32 ≤ x.toNat ∧ x ≠ 59 ∧ x ≠ 39 := by
  obtain ⟨rs, h1, h2⟩ := titleGo_runes l.length l [] [] (by simp) rfl
  have h3 : titleF l = rs.flatMap runeB := h2
  rw [h3]
  intro x hx
  obtain ⟨r, hr, hx⟩ := List.mem_flatMap.1 hx
  exact bytes_ge (h1 r hr) x hx
end Go.Sb

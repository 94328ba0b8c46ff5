/- A title, on bytes. -/
import Derived.Test.YtdpfdpmjnifanaaDoorRunePure
import Derived.Lib.TrimUEq
import Derived.Lib.MapLaws
import Derived.Lib.QuoteLoop
import Derived.Lib.TrimU
import Derived.Lib.RuneCountTail
import Derived.Shelf.Unicode.DecodeSlow
namespace Go.Sb
open Go Go.RowKit
set_option linter.unusedSimpArgs false
set_option linter.unusedVariables false
/-- What stands for a rune in a title. -/
def tRune (c wd : Nat) : Nat := if c = 65533 ∧ wd = 1 ∨ c < 32 ∨ c = 127 ∨ c = 59 then 32 else if c = 39 then 8217 else c
def titleGo : Nat → List UInt8 → List UInt8 → List UInt8
  | 0, _, out => out
  | f + 1, l, out => if l = [] then out else
    if 60 < out.length + (runeB (tRune (Lib.decodeL l).1 (Lib.decodeL l).2)).length then out
    else titleGo f (l.drop (Lib.decodeL l).2) (out ++ runeB (tRune (Lib.decodeL l).1 (Lib.decodeL l).2))
def titleF (l : List UInt8) : List UInt8 := titleGo l.length l []
theorem decodeL_valid (l : List UInt8) : (Lib.decodeL l).1 < 55296 ∨ (57343 < (Lib.decodeL l).1 ∧ (Lib.decodeL l).1 ≤ 1114111) := by
  rw [Lib.decodeL_N]
  exact Lib.decodeN_valid _ _ _ _ _ (by have := (l.getD 0 0).toNat_lt; omega)
theorem titleGo_fuel : ∀ (n f g : Nat) (l out : List UInt8), l.length ≤ n → n ≤ f → n ≤ g → titleGo f l out = titleGo g l out := by
  intro n
  induction n with
  | zero =>
    intro f g l out hl _ _
    have : l = [] := List.eq_nil_of_length_eq_zero (by omega)
    subst this
    cases f <;> cases g <;> simp [titleGo]
  | succ n ih =>
    intro f g l out hl hf hg
    obtain ⟨f, rfl⟩ : ∃ k, f = k + 1 := ⟨f - 1, by omega⟩
    obtain ⟨g, rfl⟩ : ∃ k, g = k + 1 := ⟨g - 1, by omega⟩
    simp only [titleGo]
    split
    · rfl
    · rename_i hne
      split
      · rfl
      · refine ih f g _ _ ?_ (by omega) (by omega)
        have := Lib.decodeL_width l
        simp only [List.length_drop]
        omega
/-- How far a title has come: what is left, and what came out. -/
def TitleAt (s : List UInt8) (pos : Nat) (out : List UInt8) : Prop := ∀ f, (s.drop pos).length ≤ f → titleGo f (s.drop pos) out = titleF s
theorem TitleAt.start (s : List UInt8) : TitleAt s 0 [] := fun f hf => titleGo_fuel (s.drop 0).length _ _ _ _ (Nat.le_refl _) hf (by simp)
theorem TitleAt.over {s : List UInt8} {pos : Nat} {out : List UInt8} (h : TitleAt s pos out) (hp : ¬ pos < s.length) : titleF s = out := by
  have e : s.drop pos = [] := List.drop_eq_nil_of_le (by omega)
  rw [← h 0 (by rw [e]; simp)]
  rfl
theorem drop_ne {s : List UInt8} {pos : Nat} (hp : pos < s.length) : s.drop pos ≠ [] := by
  intro e
  have := List.drop_eq_nil_iff.1 e
  omega
theorem TitleAt.full {s : List UInt8} {pos c wd : Nat} {out : List UInt8} (h : TitleAt s pos out) (hp : pos < s.length) (hd : Lib.decodeL (s.drop pos) = (c, wd)) (hf : 60 < out.length + (runeB (tRune c wd)).length) : titleF s = out := by
  have hl : 0 < (s.drop pos).length := by simp; omega
  obtain ⟨f, hf'⟩ : ∃ k, (s.drop pos).length = k + 1 := ⟨(s.drop pos).length - 1, by omega⟩
  rw [← h _ (Nat.le_refl _), hf']
  simp only [titleGo, hd]
  rw [if_neg (drop_ne hp), if_pos hf]
theorem TitleAt.next {s : List UInt8} {pos c wd : Nat} {out : List UInt8} (h : TitleAt s pos out) (hp : pos < s.length) (hd : Lib.decodeL (s.drop pos) = (c, wd)) (hf : ¬ 60 < out.length + (runeB (tRune c wd)).length) :
    TitleAt s (pos + wd) (out ++ runeB (tRune c wd)) := by
  intro f hf2
  rw [← h (f + 1 + (s.drop pos).length) (by omega)]
  obtain ⟨k, hk⟩ : ∃ k, f + 1 + (s.drop pos).length = k + 1 := ⟨f + (s.drop pos).length, by omega⟩
  rw [hk]
  simp only [titleGo, hd]
  rw [if_neg (drop_ne hp), if_neg hf, List.drop_drop]
  exact titleGo_fuel _ _ _ _ _ (Nat.le_refl _) hf2 (by have := List.length_drop (i := pos) (l := s); simp only [List.length_drop] at *; omega)
theorem tRune_le {c wd : Nat} (h : c < 55296 ∨ (57343 < c ∧ c ≤ 1114111)) : tRune c wd ≤ 1114111 ∧ (tRune c wd < 55296 ∨ 57343 < tRune c wd) := by
  unfold tRune
  repeat' split
  all_goals omega
theorem runeLen_B {r : Nat} (h1 : r ≤ 1114111) (h2 : r < 55296 ∨ 57343 < r) : Lib.runeLen (r : Int) = ((runeB r).length : Int) := by
  unfold Lib.runeLen runeB
  rw [if_neg (by omega)]
  by_cases a : r < 128
  · rw [if_pos (by omega), if_pos a]; rfl
  · rw [if_neg (by omega), if_neg a]
    by_cases b : r < 2048
    · rw [if_pos (by omega), if_pos b]; rfl
    · rw [if_neg (by omega), if_neg b, if_neg (by omega)]
      by_cases c : r < 65536
      · rw [if_pos (by omega), if_pos c]; rfl
      · rw [if_neg (by omega), if_pos (by omega), if_neg c]; rfl
theorem runeB_le (r : Nat) : (runeB r).length ≤ 4 := by
  unfold runeB
  repeat' split
  all_goals simp
theorem runeB_pos (r : Nat) : 0 < (runeB r).length := by
  unfold runeB
  repeat' split
  all_goals simp
theorem titleGo_le : ∀ (f : Nat) (l out : List UInt8), out.length ≤ 60 → (titleGo f l out).length ≤ 60
  | 0, _, _, h => h
  | f + 1, l, out, h => by
    simp only [titleGo]
    split
    · exact h
    · split
      · exact h
      · exact titleGo_le f _ _ (by simp; omega)
theorem titleF_le (l : List UInt8) : (titleF l).length ≤ 60 := titleGo_le _ _ _ (by simp)
theorem decodeGo_drop (s : ByteArray) (pos : Nat) (h : pos < s.size) : Lib.decodeGo (s.extract pos s.size) = Utf8.decode s pos := by
  unfold Lib.decodeGo
  rw [if_neg (by rw [ByteArray.size_extract]; omega), Lib.tail_decode]
  rfl
end Go.Sb

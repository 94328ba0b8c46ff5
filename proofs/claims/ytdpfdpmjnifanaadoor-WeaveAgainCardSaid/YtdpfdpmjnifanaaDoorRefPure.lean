/- The document's way with runes and titles, on bytes: it is the program's. -/
import Derived.Test.YtdpfdpmjnifanaaDoorBlockPure
namespace Go.Sb
open Go Go.RowKit
set_option linter.unusedSimpArgs false
set_option linter.unusedVariables false
set_option maxRecDepth 100000
theorem map_toByte (l : List Int) (m : List UInt8) (h : l.length = m.length) (h2 : ∀ i (hi : i < l.length), l[i] = ((m[i]'(h ▸ hi)).toNat : Int)) : l.map (fun x => x.toNat.toUInt8) = m := by
  apply List.ext_getElem (by simpa using h)
  intro i h3 h4
  rw [List.getElem_map, h2 i (by simpa using h3)]
  simp
theorem runeB_enc {r : Nat} (h1 : r ≤ 1114111) (h2 : r < 55296 ∨ 57343 < r) : Lib.encodeRune (r : Int) = runeB r := by
  unfold Lib.encodeRune
  by_cases a : r < 128
  · rw [Lib.encodeRuneZ_one (by omega) (by omega), runeB_1 a]; simp
  by_cases b : r < 2048
  · rw [Lib.encodeRuneZ_two (by omega) (by omega)]
    have e : runeB r = [UInt8.ofNat (192 + r / 64), UInt8.ofNat (128 + r % 64)] := by unfold runeB; rw [if_neg a, if_pos b]
    rw [e]
    simp only [List.map_cons, List.map_nil]
    rw [Lib.toByte _ (UInt8.ofNat (192 + r / 64)) (by rw [ofN _ (by omega)]; omega), Lib.toByte _ (UInt8.ofNat (128 + r % 64)) (by rw [ofN _ (by omega)]; omega)]
  by_cases c : r < 65536
  · rw [Lib.encodeRuneZ_three (by omega)]
    have e : runeB r = [UInt8.ofNat (224 + r / 4096), UInt8.ofNat (128 + r / 64 % 64), UInt8.ofNat (128 + r % 64)] := by unfold runeB; rw [if_neg a, if_neg b, if_pos c]
    rw [e]
    simp only [List.map_cons, List.map_nil]
    rw [Lib.toByte _ (UInt8.ofNat (224 + r / 4096)) (by rw [ofN _ (by omega)]; omega), Lib.toByte _ (UInt8.ofNat (128 + r / 64 % 64)) (by rw [ofN _ (by omega)]; omega), Lib.toByte _ (UInt8.ofNat (128 + r % 64)) (by rw [ofN _ (by omega)]; omega)]
  · rw [Lib.encodeRuneZ_four (by omega) (by omega)]
    have e : runeB r = [UInt8.ofNat (240 + r / 262144), UInt8.ofNat (128 + r / 4096 % 64), UInt8.ofNat (128 + r / 64 % 64), UInt8.ofNat (128 + r % 64)] := by unfold runeB; rw [if_neg a, if_neg b, if_neg c]
    rw [e]
    simp only [List.map_cons, List.map_nil]
    rw [Lib.toByte _ (UInt8.ofNat (240 + r / 262144)) (by rw [ofN _ (by omega)]; omega), Lib.toByte _ (UInt8.ofNat (128 + r / 4096 % 64)) (by rw [ofN _ (by omega)]; omega), Lib.toByte _ (UInt8.ofNat (128 + r / 64 % 64)) (by rw [ofN _ (by omega)]; omega), Lib.toByte _ (UInt8.ofNat (128 + r % 64)) (by rw [ofN _ (by omega)]; omega)]
/-- The rune that bytes begin with, and how many it has; none: a stray byte. -/
def refRune (l : List UInt8) : Nat × Nat := if (Lib.decodeL l).1 = 65533 ∧ (Lib.decodeL l).2 = 1 then (0, 0) else Lib.decodeL l
/-- What stands for it in a title. -/
def refX (l : List UInt8) : List UInt8 :=
  if 0 < (refRune l).2 ∧ (refRune l).1 = 39 then [226, 128, 153]
  else if 0 < (refRune l).2 ∧ 32 ≤ (refRune l).1 ∧ (refRune l).1 ≠ 127 ∧ (refRune l).1 ≠ 59 then l.take (refRune l).2 else [32]
theorem refX_eq {l : List UInt8} (hl : l ≠ []) : refX l = runeB (tRune (Lib.decodeL l).1 (Lib.decodeL l).2) := by
  have hw := Lib.decodeL_width l
  unfold refX refRune
  by_cases h : (Lib.decodeL l).1 = 65533 ∧ (Lib.decodeL l).2 = 1
  · rw [if_pos h, if_neg (by simp), if_neg (by simp)]
    have : tRune (Lib.decodeL l).1 (Lib.decodeL l).2 = 32 := by unfold tRune; rw [if_pos (by omega)]
    rw [this]; rfl
  · rw [if_neg h]
    by_cases h1 : (Lib.decodeL l).1 = 39
    · rw [if_pos (by omega)]
      have : tRune (Lib.decodeL l).1 (Lib.decodeL l).2 = 8217 := by unfold tRune; rw [if_neg (by omega), if_pos h1]
      rw [this]; rfl
    · rw [if_neg (by omega)]
      by_cases h2 : 32 ≤ (Lib.decodeL l).1 ∧ (Lib.decodeL l).1 ≠ 127 ∧ (Lib.decodeL l).1 ≠ 59
      · rw [if_pos (by omega)]
        have : tRune (Lib.decodeL l).1 (Lib.decodeL l).2 = (Lib.decodeL l).1 := by unfold tRune; rw [if_neg (by omega), if_neg h1]
        rw [this, ← Lib.encode_decode l hl h]
        have hv := decodeL_valid l
        exact runeB_enc (by omega) (by omega)
      · rw [if_neg (by omega)]
        have : tRune (Lib.decodeL l).1 (Lib.decodeL l).2 = 32 := by unfold tRune; rw [if_pos (by omega)]
        rw [this]; rfl
theorem refRune_n (l : List UInt8) : (if (refRune l).2 = 0 then 1 else (refRune l).2) = (Lib.decodeL l).2 := by
  have hw := Lib.decodeL_width l
  unfold refRune
  split
  · rename_i h; rw [if_pos rfl]; exact h.2.symm
  · rw [if_neg (by omega)]
/-- The document's decoding, as its text goes: c the first byte, so many bytes, the least, what of c counts. -/
def rrN (c : Nat) : Nat × Nat × Nat := if 194 ≤ c ∧ c < 224 then (2, 128, c - 192) else if 224 ≤ c ∧ c < 240 then (3, 2048, c - 224) else if 240 ≤ c ∧ c < 245 then (4, 65536, c - 240) else (0, 0, 0)
def rrGo (l : List UInt8) (r0 : Nat) : Nat → Nat
  | 0 => r0
  | k + 1 => 64 * rrGo l r0 k + (l.getD (k + 1) 0).toNat - 128
def tailOk (l : List UInt8) (k : Nat) : Prop := ∀ j, j < k → 128 ≤ (l.getD (j + 1) 0).toNat ∧ (l.getD (j + 1) 0).toNat ≤ 191
theorem rr_one {l : List UInt8} (h : (l.getD 0 0).toNat < 128) : refRune l = ((l.getD 0 0).toNat, 1) := by
  have : Lib.decodeL l = ((l.getD 0 0).toNat, 1) := by rw [Lib.decodeL_N]; unfold Lib.decodeN; rw [if_pos h]
  unfold refRune; rw [this, if_neg (by simp only; omega)]
theorem rr_stray {l : List UInt8} (h : 128 ≤ (l.getD 0 0).toNat) (h2 : (rrN (l.getD 0 0).toNat).1 = 0 ∨ l.length < (rrN (l.getD 0 0).toNat).1) : refRune l = (0, 0) := by
  have hb := (l.getD 0 0).toNat_lt
  have h1 := (l.getD 1 0).toNat_lt
  have : Lib.decodeL l = (65533, 1) := by
    rw [Lib.decodeL_N]
    generalize l.length = n at *
    generalize (l.getD 0 0).toNat = c at *
    unfold rrN at h2
    unfold Lib.decodeN
    repeat' split at h2
    all_goals (repeat' split)
    all_goals first | rfl | (exfalso; simp only at h2; omega)
  unfold refRune; rw [this, if_pos ⟨rfl, rfl⟩]
theorem rr_tail {l : List UInt8} {k : Nat} (h : 128 ≤ (l.getD 0 0).toNat) (hk : k + 1 < (rrN (l.getD 0 0).toNat).1) (hb : (l.getD (k + 1) 0).toNat < 128 ∨ 191 < (l.getD (k + 1) 0).toNat) : refRune l = (0, 0) := by
  have : Lib.decodeL l = (65533, 1) := by
    rw [Lib.decodeL_N]
    have hbb := (l.getD 0 0).toNat_lt
    have hk4 : k = 0 ∨ k = 1 ∨ k = 2 := by
      unfold rrN at hk
      repeat' split at hk
      all_goals (simp only at hk; omega)
    generalize l.length = n at *
    rcases hk4 with rfl | rfl | rfl <;> simp only [Nat.zero_add, Nat.reduceAdd] at * <;> generalize (l.getD 0 0).toNat = c at * <;> generalize (l.getD 1 0).toNat = c1 at * <;> generalize (l.getD 2 0).toNat = c2 at * <;> generalize (l.getD 3 0).toNat = c3 at * <;>
      (unfold rrN at hk; unfold Lib.decodeN; repeat' split at hk) <;> (repeat' split) <;> first | rfl | (exfalso; simp only at hk; omega)
  unfold refRune; rw [this, if_pos ⟨rfl, rfl⟩]
theorem rrN_cases (c : Nat) : (rrN c).1 = 0 ∨ (194 ≤ c ∧ c < 224 ∧ rrN c = (2, 128, c - 192)) ∨ (224 ≤ c ∧ c < 240 ∧ rrN c = (3, 2048, c - 224)) ∨ (240 ≤ c ∧ c < 245 ∧ rrN c = (4, 65536, c - 240)) := by
  unfold rrN
  repeat' split
  all_goals simp_all
theorem rr_whole {l : List UInt8} {n least r0 : Nat} (h : 128 ≤ (l.getD 0 0).toNat) (hn : rrN (l.getD 0 0).toNat = (n, least, r0)) (h0 : n ≠ 0) (hl : n ≤ l.length) (ht : tailOk l (n - 1)) :
    refRune l = if rrGo l r0 (n - 1) < least ∨ 1114111 < rrGo l r0 (n - 1) ∨ (55296 ≤ rrGo l r0 (n - 1) ∧ rrGo l r0 (n - 1) < 57344) then (0, 0) else (rrGo l r0 (n - 1), n) := by
  have hd := Lib.decodeL_N l
  rcases rrN_cases (l.getD 0 0).toNat with h1 | ⟨h1, h2, h3⟩ | ⟨h1, h2, h3⟩ | ⟨h1, h2, h3⟩
  · rw [hn] at h1; exact absurd h1 h0
  all_goals (rw [hn] at h3; simp only [Prod.mk.injEq] at h3; obtain ⟨rfl, rfl, rfl⟩ := h3)
  · have t0 := ht 0 (by omega)
    have e : rrGo l ((l.getD 0 0).toNat - 192) (2 - 1) = (l.getD 0 0).toNat % 32 * 64 + (l.getD 1 0).toNat % 64 := by simp only [rrGo, Nat.reduceSub, Nat.zero_add] at *; omega
    rw [e]
    simp only [Nat.zero_add] at t0
    have : Lib.decodeL l = ((l.getD 0 0).toNat % 32 * 64 + (l.getD 1 0).toNat % 64, 2) := by
      rw [hd]; unfold Lib.decodeN; rw [if_neg (by omega), if_pos (by omega), if_pos (by omega)]
    unfold refRune
    rw [this, if_neg (by simp), if_neg (by omega)]
  · have t0 := ht 0 (by omega)
    have t1 := ht 1 (by omega)
    have e : rrGo l ((l.getD 0 0).toNat - 224) (3 - 1) = (l.getD 0 0).toNat % 16 * 4096 + (l.getD 1 0).toNat % 64 * 64 + (l.getD 2 0).toNat % 64 := by simp only [rrGo, Nat.reduceSub, Nat.zero_add, Nat.reduceAdd] at *; omega
    rw [e]
    simp only [Nat.zero_add, Nat.reduceAdd] at t0 t1
    have : Lib.decodeL l = if (l.getD 0 0).toNat % 16 * 4096 + (l.getD 1 0).toNat % 64 * 64 + (l.getD 2 0).toNat % 64 ≥ 2048 ∧ ((l.getD 0 0).toNat % 16 * 4096 + (l.getD 1 0).toNat % 64 * 64 + (l.getD 2 0).toNat % 64 < 55296 ∨ (57344 ≤ (l.getD 0 0).toNat % 16 * 4096 + (l.getD 1 0).toNat % 64 * 64 + (l.getD 2 0).toNat % 64 ∧ (l.getD 0 0).toNat % 16 * 4096 + (l.getD 1 0).toNat % 64 * 64 + (l.getD 2 0).toNat % 64 ≤ 1114111))
        then ((l.getD 0 0).toNat % 16 * 4096 + (l.getD 1 0).toNat % 64 * 64 + (l.getD 2 0).toNat % 64, 3) else (65533, 1) := by
      rw [hd]; unfold Lib.decodeN; rw [if_neg (by omega), if_neg (by omega), if_pos (by omega)]
    unfold refRune
    rw [this]
    generalize (l.getD 0 0).toNat % 16 * 4096 + (l.getD 1 0).toNat % 64 * 64 + (l.getD 2 0).toNat % 64 = x
    by_cases hx : x ≥ 2048 ∧ (x < 55296 ∨ (57344 ≤ x ∧ x ≤ 1114111))
    · rw [if_pos hx, if_neg (by simp), if_neg (by omega)]
    · rw [if_neg hx, if_pos ⟨rfl, rfl⟩, if_pos (by omega)]
  · have t0 := ht 0 (by omega)
    have t1 := ht 1 (by omega)
    have t2 := ht 2 (by omega)
    have e : rrGo l ((l.getD 0 0).toNat - 240) (4 - 1) = (l.getD 0 0).toNat % 8 * 262144 + (l.getD 1 0).toNat % 64 * 4096 + (l.getD 2 0).toNat % 64 * 64 + (l.getD 3 0).toNat % 64 := by simp only [rrGo, Nat.reduceSub, Nat.zero_add, Nat.reduceAdd] at *; omega
    rw [e]
    simp only [Nat.zero_add, Nat.reduceAdd] at t0 t1 t2
    have : Lib.decodeL l = if (l.getD 0 0).toNat % 8 * 262144 + (l.getD 1 0).toNat % 64 * 4096 + (l.getD 2 0).toNat % 64 * 64 + (l.getD 3 0).toNat % 64 ≥ 65536 ∧ ((l.getD 0 0).toNat % 8 * 262144 + (l.getD 1 0).toNat % 64 * 4096 + (l.getD 2 0).toNat % 64 * 64 + (l.getD 3 0).toNat % 64 < 55296 ∨ (57344 ≤ (l.getD 0 0).toNat % 8 * 262144 + (l.getD 1 0).toNat % 64 * 4096 + (l.getD 2 0).toNat % 64 * 64 + (l.getD 3 0).toNat % 64 ∧ (l.getD 0 0).toNat % 8 * 262144 + (l.getD 1 0).toNat % 64 * 4096 + (l.getD 2 0).toNat % 64 * 64 + (l.getD 3 0).toNat % 64 ≤ 1114111))
        then ((l.getD 0 0).toNat % 8 * 262144 + (l.getD 1 0).toNat % 64 * 4096 + (l.getD 2 0).toNat % 64 * 64 + (l.getD 3 0).toNat % 64, 4) else (65533, 1) := by
      rw [hd]; unfold Lib.decodeN; rw [if_neg (by omega), if_neg (by omega), if_neg (by omega), if_pos (by omega)]
    unfold refRune
    rw [this]
    generalize (l.getD 0 0).toNat % 8 * 262144 + (l.getD 1 0).toNat % 64 * 4096 + (l.getD 2 0).toNat % 64 * 64 + (l.getD 3 0).toNat % 64 = x
    by_cases hx : x ≥ 65536 ∧ (x < 55296 ∨ (57344 ≤ x ∧ x ≤ 1114111))
    · rw [if_pos hx, if_neg (by simp), if_neg (by omega)]
    · rw [if_neg hx, if_pos ⟨rfl, rfl⟩, if_pos (by omega)]
/-! ### A title's title is it -/
theorem decode_runeB {r : Nat} (h1 : r ≤ 1114111) (h2 : r < 55296 ∨ 57343 < r) (t : List UInt8) : Lib.decodeL (runeB r ++ t) = (r, (runeB r).length) := by
  rw [Lib.decodeL_N]
  by_cases a : r < 128
  · rw [runeB_1 a]
    simp only [List.cons_append, List.nil_append, List.getD_cons_zero, List.length_cons, List.length_nil]
    have e : (UInt8.ofNat r).toNat = r := by simp; omega
    rw [e]; unfold Lib.decodeN; rw [if_pos a]
  by_cases b : r < 2048
  · have e : runeB r = [UInt8.ofNat (192 + r / 64), UInt8.ofNat (128 + r % 64)] := by unfold runeB; rw [if_neg a, if_pos b]
    rw [e]
    simp only [List.cons_append, List.nil_append, List.getD_cons_zero, List.getD_cons_succ, List.length_cons, List.length_nil]
    have e1 : (UInt8.ofNat (192 + r / 64)).toNat = 192 + r / 64 := by have := ofN (192 + r / 64) (by omega); omega
    have e2 : (UInt8.ofNat (128 + r % 64)).toNat = 128 + r % 64 := by have := ofN (128 + r % 64) (by omega); omega
    rw [e1, e2]; unfold Lib.decodeN
    rw [if_neg (by omega), if_pos (by omega), if_pos (by omega)]
    apply Prod.ext <;> simp only <;> omega
  by_cases c : r < 65536
  · have e : runeB r = [UInt8.ofNat (224 + r / 4096), UInt8.ofNat (128 + r / 64 % 64), UInt8.ofNat (128 + r % 64)] := by unfold runeB; rw [if_neg a, if_neg b, if_pos c]
    rw [e]
    simp only [List.cons_append, List.nil_append, List.getD_cons_zero, List.getD_cons_succ, List.length_cons, List.length_nil]
    have e1 : (UInt8.ofNat (224 + r / 4096)).toNat = 224 + r / 4096 := by have := ofN (224 + r / 4096) (by omega); omega
    have e2 : (UInt8.ofNat (128 + r / 64 % 64)).toNat = 128 + r / 64 % 64 := by have := ofN (128 + r / 64 % 64) (by omega); omega
    have e3 : (UInt8.ofNat (128 + r % 64)).toNat = 128 + r % 64 := by have := ofN (128 + r % 64) (by omega); omega
    rw [e1, e2, e3]; unfold Lib.decodeN
    rw [if_neg (by omega), if_neg (by omega), if_pos (by omega), if_pos (by omega)]
    apply Prod.ext <;> simp only <;> omega
  · have e : runeB r = [UInt8.ofNat (240 + r / 262144), UInt8.ofNat (128 + r / 4096 % 64), UInt8.ofNat (128 + r / 64 % 64), UInt8.ofNat (128 + r % 64)] := by unfold runeB; rw [if_neg a, if_neg b, if_neg c]
    rw [e]
    simp only [List.cons_append, List.nil_append, List.getD_cons_zero, List.getD_cons_succ, List.length_cons, List.length_nil]
    have e1 : (UInt8.ofNat (240 + r / 262144)).toNat = 240 + r / 262144 := by have := ofN (240 + r / 262144) (by omega); omega
    have e2 : (UInt8.ofNat (128 + r / 4096 % 64)).toNat = 128 + r / 4096 % 64 := by have := ofN (128 + r / 4096 % 64) (by omega); omega
    have e3 : (UInt8.ofNat (128 + r / 64 % 64)).toNat = 128 + r / 64 % 64 := by have := ofN (128 + r / 64 % 64) (by omega); omega
    have e4 : (UInt8.ofNat (128 + r % 64)).toNat = 128 + r % 64 := by have := ofN (128 + r % 64) (by omega); omega
    rw [e1, e2, e3, e4]; unfold Lib.decodeN
    rw [if_neg (by omega), if_neg (by omega), if_neg (by omega), if_pos (by omega), if_pos (by omega)]
    apply Prod.ext <;> simp only <;> omega
/-- A rune that a title may hold. -/
def Clean (r : Nat) : Prop := r ≤ 1114111 ∧ (r < 55296 ∨ 57343 < r) ∧ ¬ (r < 32 ∨ r = 127 ∨ r = 59) ∧ r ≠ 39
theorem clean_t {c wd : Nat} (h : c < 55296 ∨ (57343 < c ∧ c ≤ 1114111)) : Clean (tRune c wd) := by
  unfold Clean tRune
  repeat' split
  all_goals omega
theorem clean_len {r : Nat} (h : r = 65533) : (runeB r).length ≠ 1 := by subst h; decide
theorem clean_tRune {r : Nat} (h : Clean r) : tRune r (runeB r).length = r := by
  unfold Clean at h
  unfold tRune
  rw [if_neg (by have := @clean_len r; omega), if_neg h.2.2.2]
theorem titleGo_clean : ∀ (rs : List Nat) (f : Nat) (out : List UInt8), (∀ r ∈ rs, Clean r) → (out ++ rs.flatMap runeB).length ≤ 60 → (rs.flatMap runeB).length ≤ f → titleGo f (rs.flatMap runeB) out = out ++ rs.flatMap runeB
  | [], f, out, _, _, _ => by cases f <;> simp [titleGo]
  | r :: rs, f, out, hc, hl, hf => by
    have hr := hc r (by simp)
    have hp := runeB_pos r
    simp only [List.flatMap_cons, List.length_append] at hl hf ⊢
    obtain ⟨g, rfl⟩ : ∃ g, f = g + 1 := ⟨f - 1, by omega⟩
    have hd := decode_runeB hr.1 hr.2.1 (rs.flatMap runeB)
    have hne : runeB r ++ rs.flatMap runeB ≠ [] := by
      intro e
      have := congrArg List.length e
      simp only [List.length_append, List.length_nil] at this
      omega
    simp only [titleGo, hd]
    rw [if_neg hne, clean_tRune hr, if_neg (by omega), List.drop_left]
    rw [titleGo_clean rs g _ (fun x hx => hc x (by simp [hx])) (by simp only [List.length_append]; omega) (by omega)]
    simp
theorem titleGo_runes : ∀ (f : Nat) (l out : List UInt8) (rs : List Nat), (∀ r ∈ rs, Clean r) → out = rs.flatMap runeB → ∃ rs' : List Nat, (∀ r ∈ rs', Clean r) ∧ titleGo f l out = rs'.flatMap runeB
  | 0, l, out, rs, h, e => ⟨rs, h, e⟩
  | f + 1, l, out, rs, h, e => by
    simp only [titleGo]
    split
    · exact ⟨rs, h, e⟩
    · split
      · exact ⟨rs, h, e⟩
      · refine titleGo_runes f _ _ (rs ++ [tRune (Lib.decodeL l).1 (Lib.decodeL l).2]) (fun r hr => ?_) (by rw [e]; simp)
        rcases List.mem_append.1 hr with hr | hr
        · exact h r hr
        · simp only [List.mem_singleton] at hr
          subst hr
          exact clean_t (decodeL_valid l)
theorem titleF_idem (l : List UInt8) : titleF (titleF l) = titleF l := by
  obtain ⟨rs, h1, h2⟩ := titleGo_runes l.length l [] [] (by simp) rfl
  have h3 : titleF l = rs.flatMap runeB := h2
  have h4 := titleF_le l
  rw [h3] at h4 ⊢
  have := titleGo_clean rs (rs.flatMap runeB).length [] h1 (by simpa using h4) (Nat.le_refl _)
  simpa [titleF] using this
theorem blockF_title (l : List UInt8) : blockF (titleF l) = blockF l := by unfold blockF; rw [titleF_idem]
end Go.Sb

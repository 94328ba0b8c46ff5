/- Blocks taken out again: on lists of bytes. -/
import Derived.Test.YtdpfdpmjnifanaaDoorNumPure
import Derived.Lib.TrimByte
namespace Go.Sb
open Go Go.RowKit
set_option linter.unusedSimpArgs false
set_option linter.unusedVariables false
theorem trimRightB_app {p l : List UInt8} {c z : UInt8} (h : c ≠ z) (hl : ∀ x ∈ l, x = z) : Lib.trimRightB (p ++ [c] ++ l) z = p ++ [c] := by
  unfold Lib.trimRightB
  have key : ∀ q : List UInt8, (∀ x ∈ q, x = z) → (q ++ (c :: p.reverse)).dropWhile (· == z) = c :: p.reverse := by
    intro q
    induction q with
    | nil => intro _; simp [List.dropWhile, h]
    | cons x q ih =>
      intro hq
      rw [List.cons_append, List.dropWhile_cons, if_pos (by simpa using hq x (by simp))]
      exact ih (fun y hy => hq y (by simp [hy]))
  have e : (p ++ [c] ++ l).reverse = l.reverse ++ (c :: p.reverse) := by simp
  rw [e, key _ (fun x hx => hl x (by simpa using hx))]
  simp
/-- A block's title, as the program finds it. -/
def ttlS (b : List UInt8) : List UInt8 := Lib.trimSuffix (Lib.trimPrefix (Lib.trimRightB b 0) openB) shutB
def ttlB (b : List UInt8) : Bool := Lib.hasPrefix (Lib.trimRightB b 0) openB && Lib.hasSuffix (Lib.trimPrefix (Lib.trimRightB b 0) openB) shutB && decide ((blockF (ttlS b)).drop 1 = b) && decide (titleF (ttlS b) = ttlS b)
def ttl (b : List UInt8) : Option (List UInt8) := if ttlB b then some (ttlS b) else none
theorem blockF_drop {t : List UInt8} (h : titleF t = t) : (blockF t).drop 1 = openB ++ t ++ shutB ++ List.replicate ((t.length + 30) / 16 * 16 - (t.length + 15)) 0 := by
  unfold blockF blockOf
  rw [h]
  simp
theorem ttl_of {t b : List UInt8} (h1 : titleF t = t) (h2 : (blockF t).drop 1 = b) : ttl b = some t := by
  have hb := blockF_drop h1
  rw [h2] at hb
  have e0 : Lib.trimRightB b 0 = openB ++ t ++ shutB := by
    have := trimRightB_app (p := openB ++ t ++ [39]) (c := 59) (z := 0) (l := List.replicate ((t.length + 30) / 16 * 16 - (t.length + 15)) 0) (by decide) (fun x hx => (List.mem_replicate.1 hx).2)
    rw [hb]
    simpa [shutB] using this
  have e1 : Lib.hasPrefix (openB ++ t ++ shutB) openB = true := by
    unfold Lib.hasPrefix
    rw [List.isPrefixOf_iff_prefix]
    exact ⟨t ++ shutB, by simp⟩
  have e2 : Lib.trimPrefix (openB ++ t ++ shutB) openB = t ++ shutB := by
    unfold Lib.trimPrefix
    rw [if_pos e1, List.append_assoc, List.drop_left]
  have e3 : Lib.hasSuffix (t ++ shutB) shutB = true := by
    unfold Lib.hasSuffix
    rw [List.isSuffixOf_iff_suffix]
    exact ⟨t, rfl⟩
  have e4 : Lib.trimSuffix (t ++ shutB) shutB = t := by
    unfold Lib.trimSuffix
    rw [if_pos e3, List.length_append, Nat.add_sub_cancel, List.take_left]
  have e5 : ttlS b = t := by unfold ttlS; rw [e0, e2, e4]
  unfold ttl ttlB
  rw [e5, e0, e2, e1, e3, h1, h2]
  simp
theorem ttl_some {t b : List UInt8} (h : ttl b = some t) : titleF t = t ∧ (blockF t).drop 1 = b := by
  unfold ttl at h
  split at h
  · rename_i hb
    simp only [Option.some.injEq] at h
    subst h
    unfold ttlB at hb
    simp only [Bool.and_eq_true, decide_eq_true_eq] at hb
    exact ⟨hb.2, hb.1.2⟩
  · cases h
theorem ttl_iff {t b : List UInt8} : ttl b = some t ↔ titleF t = t ∧ (blockF t).drop 1 = b := ⟨ttl_some, fun h => ttl_of h.1 h.2⟩
/-- As the document looks for it. -/
def refTtlAt (b : List UInt8) (n : Nat) : Prop := n + 15 ≤ b.length ∧ titleF ((b.drop 13).take n) = (b.drop 13).take n ∧ (blockF ((b.drop 13).take n)).drop 1 = b
theorem refTtl_some {b : List UInt8} {n : Nat} (h : refTtlAt b n) : ttl b = some ((b.drop 13).take n) := ttl_of h.2.1 h.2.2
theorem refTtl_none {b : List UInt8} (h : ∀ n, n + 15 ≤ b.length → ¬ refTtlAt b n) : ttl b = none := by
  cases ht : ttl b with
  | none => rfl
  | some t =>
    exfalso
    obtain ⟨h1, h2⟩ := ttl_some ht
    have hb := blockF_drop h1
    rw [h2] at hb
    have hl := congrArg List.length hb
    simp only [List.length_append, List.length_replicate, show openB.length = 13 from rfl, show shutB.length = 2 from rfl] at hl
    have ht' : (b.drop 13).take t.length = t := by
      rw [hb, List.append_assoc, List.append_assoc, List.drop_append_of_le_length (by decide), show openB.drop 13 = [] from rfl, List.nil_append, List.take_left]
    exact h t.length (by omega) ⟨by omega, by rw [ht']; exact h1, by rw [ht']; exact h2⟩
/-! ### Pieces -/
inductive Pc where
  | snd (l : List UInt8)
  | told (t : List UInt8)
def putS (c : UInt8) : List Pc → List Pc
  | .snd l :: ps => .snd (l ++ [c]) :: ps
  | ps => .snd [c] :: ps
/-- What a parter knows; the pieces, the last first. -/
structure PS where
  n : Nat
  left : Nat
  block : List UInt8
  ok : Bool
  out : List Pc
def ptStep (every : Nat) (s : PS) (c : UInt8) : PS :=
  if 0 < s.left then
    if 1 < s.left then { s with left := s.left - 1, block := s.block ++ [c] }
    else match ttl (s.block ++ [c]) with
      | some t => { s with left := 0, block := [], out := .told t :: s.out }
      | none => { s with left := 0, block := [], ok := false }
  else if 0 < every ∧ s.n = every then { s with n := 0, left := c.toNat * 16 }
  else { s with n := s.n + 1, out := putS c s.out }
def ptRun (every : Nat) (s : PS) (data : List UInt8) : PS := data.foldl (ptStep every) s
theorem ptRun_take {every : Nat} {s : PS} {data : List UInt8} {k : Nat} {c : UInt8} (h : data[k]? = some c) : ptRun every s (data.take (k + 1)) = ptStep every (ptRun every s (data.take k)) c := by
  rw [take_succ_of h]; simp [ptRun]
/-- The bytes of all sound. -/
def soundOf : List Pc → List UInt8
  | [] => []
  | .snd l :: ps => soundOf ps ++ l
  | .told _ :: ps => soundOf ps
theorem soundOf_putS (c : UInt8) (ps : List Pc) : soundOf (putS c ps) = soundOf ps ++ [c] := by
  cases ps with
  | nil => rfl
  | cons p ps => cases p <;> simp [putS, soundOf]
end Go.Sb

/- What is woven is parted: on lists of bytes. -/
import Derived.Test.YtdpfdpmjnifanaaDoorPartPure
namespace Go.Sb
open Go Go.RowKit
set_option linter.unusedSimpArgs false
set_option linter.unusedVariables false
def tolds : List Pc → List (List UInt8)
  | [] => []
  | .told t :: ps => t :: tolds ps
  | .snd _ :: ps => tolds ps
theorem tolds_putS (c : UInt8) (ps : List Pc) : tolds (putS c ps) = tolds ps := by
  cases ps with
  | nil => rfl
  | cons p ps => cases p <;> rfl
theorem ptRun_block {every : Nat} : ∀ (rest : List UInt8) (s : PS), rest ≠ [] → s.left = rest.length →
    ptRun every s rest = match ttl (s.block ++ rest) with
      | some t => { s with left := 0, block := [], out := .told t :: s.out }
      | none => { s with left := 0, block := [], ok := false }
  | [], s, h, _ => absurd rfl h
  | [c], s, _, hl => by
    simp only [List.length_cons, List.length_nil, Nat.zero_add] at hl
    simp only [ptRun, List.foldl_cons, List.foldl_nil, ptStep]
    rw [if_pos (by omega), if_neg (by omega)]
    rfl
  | c :: d :: r, s, _, hl => by
    simp only [List.length_cons] at hl
    have ih := ptRun_block (every := every) (d :: r) { s with left := s.left - 1, block := s.block ++ [c] } (by simp) (by simp; omega)
    have : ptRun every s (c :: d :: r) = ptRun every { s with left := s.left - 1, block := s.block ++ [c] } (d :: r) := by
      show (d :: r).foldl (ptStep every) (ptStep every s c) = _
      have e : ptStep every s c = { s with left := s.left - 1, block := s.block ++ [c] } := by
        simp only [ptStep]; rw [if_pos (by omega), if_pos (by omega)]
      rw [e]; rfl
    rw [this, ih]
    simp only [List.append_assoc, List.cons_append, List.nil_append]
theorem ptRun_append (every : Nat) (s : PS) (a b : List UInt8) : ptRun every s (a ++ b) = ptRun every (ptRun every s a) b := by simp [ptRun]
theorem blockF_shape {t : List UInt8} (h : titleF t = t) : ∃ (k : UInt8) (rest : List UInt8), blockF t = k :: rest ∧ rest.length = k.toNat * 16 ∧ rest ≠ [] ∧ ttl rest = some t := by
  have hl := titleF_le t
  rw [h] at hl
  have hd := ttl_of h rfl
  have hlen := blockOf_len t
  refine ⟨UInt8.ofNat ((t.length + 30) / 16), (blockF t).drop 1, ?_, ?_, ?_, hd⟩
  · unfold blockF blockOf; rw [h]; simp
  · have e : (UInt8.ofNat ((t.length + 30) / 16)).toNat = (t.length + 30) / 16 := by have := ofN ((t.length + 30) / 16) (by omega); omega
    rw [e, List.length_drop]
    unfold blockF
    rw [h, hlen]
    omega
  · intro e
    have := congrArg List.length e
    rw [List.length_drop] at this
    unfold blockF at this
    rw [h, hlen] at this
    simp at this
    omega
structure Woven (every : Nat) (n0 : Nat) (fresh : Bool) (title data : List UInt8) (W : List UInt8 × Int × Bool) (S : PS) : Prop where
  left : S.left = 0
  block : S.block = []
  n : W.2.1 = (S.n : Int)
  lt : every = 0 ∨ S.n < every
  ok : S.ok = true
  sound : soundOf S.out = data
  told : ∀ t ∈ tolds S.out, t = title
  count : (tolds S.out).length + (if W.2.2 then 1 else 0) = if fresh then 1 else 0
  zero : every = 0 → tolds S.out = []
theorem woven {every n : Nat} {fresh : Bool} {title : List UInt8} (ht : fresh = true → titleF title = title) (h0 : every = 0 ∨ n < every) :
    ∀ data : List UInt8, Woven every n fresh title data (wRun every (blockF title) n fresh data) (ptRun every ⟨n, 0, [], true, []⟩ (wRun every (blockF title) n fresh data).1) := by
  refine snoc_ind ?_ (fun data c ih => ?_)
  · exact ⟨rfl, rfl, rfl, h0, rfl, rfl, by simp [wRun, ptRun, tolds], by cases fresh <;> rfl, fun _ => by simp [wRun, ptRun, tolds]⟩
  · rw [wRun_snoc]
    generalize wRun every (blockF title) n fresh data = W at ih
    obtain ⟨out, m, fr⟩ := W
    simp only at ih
    generalize hS : ptRun every ⟨n, 0, [], true, []⟩ out = S at ih
    obtain ⟨i1, i2, i3, i4, i5, i6, i7, i8, i9⟩ := ih
    simp only at i3 i8
    have hc : ptStep every S c = { S with n := S.n + 1, out := putS c S.out } := by
      simp only [ptStep]
      rw [if_neg (by omega), if_neg (by omega)]
    have h1 : ptRun every ⟨n, 0, [], true, []⟩ (out ++ [c]) = { S with n := S.n + 1, out := putS c S.out } := by
      rw [ptRun_append, hS]
      show ptStep every S c = _
      exact hc
    simp only [wStep]
    by_cases hk : (every : Int) = 0 ∨ m + 1 < every
    · rw [if_pos hk]
      simp only
      rw [h1]
      exact ⟨i1, i2, by simp only; omega, by simp only; omega, i5, by simp only; rw [soundOf_putS, i6], by simp only; rw [tolds_putS]; exact i7, by simp only; rw [tolds_putS]; exact i8, fun e => by simp only; rw [tolds_putS]; exact i9 e⟩
    · rw [if_neg hk]
      simp only
      rw [ptRun_append, h1]
      have hn : S.n + 1 = every := by omega
      have hz : ∀ k : UInt8, ptStep every { S with n := S.n + 1, out := putS c S.out } k = { S with n := 0, left := k.toNat * 16, out := putS c S.out } := by
        intro k
        simp only [ptStep]
        rw [if_neg (by omega), if_pos ⟨by omega, hn⟩]
      cases fr with
      | false =>
        simp only [Bool.false_eq_true, if_false]
        have : ptRun every { S with n := S.n + 1, out := putS c S.out } [0] = { S with n := 0, left := 0, out := putS c S.out } := hz 0
        rw [this]
        exact ⟨rfl, i2, rfl, by simp only; omega, i5, by simp only; rw [soundOf_putS, i6], by simp only; rw [tolds_putS]; exact i7, by simp only; rw [tolds_putS]; simpa using i8, fun e => by omega⟩
      | true =>
        simp only [if_true]
        have hfr : fresh = true := by
          cases fresh with
          | true => rfl
          | false => simp at i8
        obtain ⟨k, rest, g1, g2, g3, g4⟩ := blockF_shape (ht hfr)
        rw [g1]
        have : ptRun every { S with n := S.n + 1, out := putS c S.out } (k :: rest) = ptRun every { S with n := 0, left := k.toNat * 16, out := putS c S.out } rest := by
          show rest.foldl (ptStep every) (ptStep every _ k) = _
          rw [hz k]; rfl
        rw [this, ptRun_block rest _ g3 (by simp only; omega)]
        simp only [i2, List.nil_append, g4]
        have h8 : tolds S.out = [] := by
          rw [hfr] at i8
          simp at i8
          exact i8
        refine ⟨rfl, rfl, rfl, by simp only; omega, i5, by simp only [soundOf]; rw [soundOf_putS, i6], ?_, ?_, fun e => by omega⟩
        · simp only [tolds, tolds_putS]
          intro t ht2
          rcases List.mem_cons.1 ht2 with rfl | ht2
          · rfl
          · exact i7 t ht2
        · simp only [tolds, tolds_putS, List.length_cons, h8, hfr, List.length_nil]; simp
end Go.Sb

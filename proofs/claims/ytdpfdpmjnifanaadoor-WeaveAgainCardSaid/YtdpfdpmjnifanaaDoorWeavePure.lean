/- What weaving does, on lists. -/
import Derived.Test.YtdpfdpmjnifanaaDoorKit
namespace Go.Sb
open Go Go.RowKit
set_option linter.unusedSimpArgs false
set_option linter.unusedVariables false
theorem length_bytesV (l : List UInt8) : (bytesV l).length = l.length := by simp [bytesV]
theorem bytesV_append (a b : List UInt8) : bytesV (a ++ b) = bytesV a ++ bytesV b := by simp [bytesV]
theorem bytesV_get {l : List UInt8} {k : Nat} {c : UInt8} (h : l[k]? = some c) : (bytesV l)[k]? = some (.int .u8 c.toNat) := by simp [bytesV, h]
theorem bytesV_one (c : UInt8) : bytesV [c] = [.int .u8 c.toNat] := rfl
theorem take_succ_of {α : Type} {l : List α} {k : Nat} {c : α} (h : l[k]? = some c) : l.take (k + 1) = l.take k ++ [c] := by
  rw [List.take_add_one, h]; rfl
theorem snoc_ind {α : Type} {p : List α → Prop} (h0 : p []) (hs : ∀ l c, p l → p (l ++ [c])) : ∀ l, p l := by
  have key : ∀ l : List α, p l.reverse := by
    intro l
    induction l with
    | nil => exact h0
    | cons c l ih => rw [List.reverse_cons]; exact hs _ _ ih
  intro l
  have := key l.reverse
  rwa [List.reverse_reverse] at this
/-- One byte woven: behind how many bytes a block stands, the block; what came out, how many bytes since, is the title new? -/
def wStep (every : Int) (blk : List UInt8) (s : List UInt8 × Int × Bool) (c : UInt8) : List UInt8 × Int × Bool :=
  if every = 0 ∨ s.2.1 + 1 < every then (s.1 ++ [c], s.2.1 + 1, s.2.2) else (s.1 ++ [c] ++ (if s.2.2 then blk else [0]), 0, false)
def wRun (every : Int) (blk : List UInt8) (n : Int) (fresh : Bool) (data : List UInt8) : List UInt8 × Int × Bool := data.foldl (wStep every blk) ([], n, fresh)
theorem wRun_succ {every n : Int} {blk data : List UInt8} {fresh : Bool} {k : Nat} {c : UInt8} (h : data[k]? = some c) :
    wRun every blk n fresh (data.take (k + 1)) = wStep every blk (wRun every blk n fresh (data.take k)) c := by
  rw [take_succ_of h]; simp [wRun]
theorem wRun_snoc (every n : Int) (blk data : List UInt8) (fresh : Bool) (c : UInt8) : wRun every blk n fresh (data ++ [c]) = wStep every blk (wRun every blk n fresh data) c := by simp [wRun]
theorem wRun_n {every n : Int} {blk : List UInt8} {fresh : Bool} (h0 : 0 ≤ n) : ∀ data : List UInt8, 0 ≤ (wRun every blk n fresh data).2.1 ∧ (wRun every blk n fresh data).2.1 ≤ n + data.length ∧ (wRun every blk n fresh data).1.length ≤ data.length * (blk.length + 2) := by
  refine snoc_ind ?_ (fun l c ih => ?_)
  · simp [wRun]; omega
  · rw [wRun_snoc]
    obtain ⟨h1, h2, h3⟩ := ih
    unfold wStep
    split
    · simp [Nat.add_mul]; omega
    · refine ⟨by simp, by simp; omega, ?_⟩
      split <;> simp [Nat.add_mul] <;> omega
end Go.Sb

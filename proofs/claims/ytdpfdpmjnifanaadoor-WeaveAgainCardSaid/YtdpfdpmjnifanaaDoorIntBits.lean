/- Whole numbers bit by bit, where they aren't below 0. -/
import Derived.Test.YtdpfdpmjnifanaaDoorWeavePure
namespace Go.Sb
open Go Go.RowKit
set_option linter.unusedSimpArgs false
set_option linter.unusedVariables false
theorem i64_or_nat (a b : Nat) (ha : a < 9223372036854775808) (hb : b < 9223372036854775808) : bits .or .i64 (a : Int) (b : Int) = ((a ||| b : Nat) : Int) := by
  have hx : a ||| b < 2 ^ 63 := Nat.or_lt_two_pow (by omega) (by omega)
  show IntKind.i64.wrap ((BitVec.ofInt 64 (a : Int) ||| BitVec.ofInt 64 (b : Int)).toNat : Int) = _
  rw [BitVec.toNat_or, BitVec.ofInt_natCast, BitVec.ofInt_natCast, BitVec.toNat_ofNat, BitVec.toNat_ofNat, Nat.mod_eq_of_lt (by omega), Nat.mod_eq_of_lt (by omega), IntWalk.i64_in]
  omega
theorem i64_and_nat (a b : Nat) (ha : a < 9223372036854775808) (hb : b < 9223372036854775808) : bits .and .i64 (a : Int) (b : Int) = ((a &&& b : Nat) : Int) := by
  have hx : a &&& b < 2 ^ 63 := Nat.and_lt_two_pow _ (by omega)
  show IntKind.i64.wrap ((BitVec.ofInt 64 (a : Int) &&& BitVec.ofInt 64 (b : Int)).toNat : Int) = _
  rw [BitVec.toNat_and, BitVec.ofInt_natCast, BitVec.ofInt_natCast, BitVec.toNat_ofNat, BitVec.toNat_ofNat, Nat.mod_eq_of_lt (by omega), Nat.mod_eq_of_lt (by omega), IntWalk.i64_in]
  omega
/-- What stands in low bits beside a multiple. -/
theorem or_mul (a n k : Nat) (hn : n < 2 ^ k) : a * 2 ^ k ||| n = a * 2 ^ k + n := by
  have h := Nat.two_pow_add_eq_or_of_lt (i := k) hn a
  rw [Nat.mul_comm] at h
  exact h.symm
theorem i64_or_low (a n k : Nat) (hn : n < 2 ^ k) (hb : a * 2 ^ k + n < 9223372036854775808) : bits .or .i64 ((a * 2 ^ k : Nat) : Int) (n : Int) = ((a * 2 ^ k + n : Nat) : Int) := by
  rw [i64_or_nat _ _ (by omega) (by omega), or_mul _ _ _ hn]
theorem i64_and_mask (a k : Nat) (ha : a < 9223372036854775808) (hk : k ≤ 62) : bits .and .i64 (a : Int) ((2 ^ k - 1 : Nat) : Int) = ((a % 2 ^ k : Nat) : Int) := by
  have h2 : 2 ^ k ≤ 2 ^ 62 := Nat.pow_le_pow_right (by decide) hk
  rw [i64_and_nat _ _ ha (by omega), Nat.and_two_pow_sub_one_eq_mod]
/-- '1<<k - 1', as the walk spells it. -/
theorem mask_val {k : Nat} (hk : k ≤ 62) : IntKind.i64.wrap (IntKind.i64.wrap (1 * 2 ^ k) - 1) = ((2 ^ k - 1 : Nat) : Int) := by
  have h2 : 2 ^ k ≤ 2 ^ 62 := Nat.pow_le_pow_right (by decide) hk
  have h1 : 1 ≤ 2 ^ k := Nat.one_le_two_pow
  have e : (1 * 2 ^ k : Int) = ((2 ^ k : Nat) : Int) := by rw [Int.one_mul]; norm_cast
  have e1 : IntKind.i64.wrap ((2 ^ k : Nat) : Int) = ((2 ^ k : Nat) : Int) := IntWalk.i64_in _ (by omega)
  rw [e, e1, IntWalk.i64_in _ (by omega)]
  omega
theorem i64_shl {a k : Nat} (h : a * 2 ^ k < 9223372036854775808) : IntKind.i64.wrap ((a : Int) * 2 ^ k) = ((a * 2 ^ k : Nat) : Int) := by
  have e : ((a : Int) * 2 ^ k) = ((a * 2 ^ k : Nat) : Int) := by norm_cast
  rw [e, IntWalk.i64_in _ (by omega)]
theorem bcat (a b : List UInt8) : (⟨a.toArray⟩ : ByteArray) ++ ⟨b.toArray⟩ = ⟨(a ++ b).toArray⟩ := by
  apply ByteArray.ext
  simp
theorem bsize (a : List UInt8) : (⟨a.toArray⟩ : ByteArray).size = a.length := by show a.toArray.size = _; simp
theorem str_eq (a : List UInt8) (s : ByteArray) : ((⟨a.toArray⟩ : ByteArray).toList == s.toList) = decide (a = s.data.toList) := by
  rw [ByteArray.toList_eq, ByteArray.toList_eq, Bool.eq_iff_iff]
  simp
theorem str_eq2 (a b : List UInt8) : ((⟨a.toArray⟩ : ByteArray).toList == (⟨b.toArray⟩ : ByteArray).toList) = decide (a = b) := by rw [str_eq]
theorem str_ne (a : List UInt8) (s : ByteArray) : ((⟨a.toArray⟩ : ByteArray).toList != s.toList) = decide (a ≠ s.data.toList) := by
  rw [bne, str_eq]; simp
theorem one_bytesV (l : List UInt8) : ∀ c ∈ bytesV l, c.oneCell' = true := fun c hc => by
  obtain ⟨b, _, rfl⟩ := List.mem_map.1 hc
  rfl
theorem u8_eq {c d : UInt8} : ((c.toNat : Int) = (d.toNat : Int)) ↔ c = d := by
  rw [Int.natCast_inj, UInt8.toNat_inj]
theorem int_shr {a k : Nat} : ((a : Int) / 2 ^ k) = ((a / 2 ^ k : Nat) : Int) := by norm_cast
end Go.Sb

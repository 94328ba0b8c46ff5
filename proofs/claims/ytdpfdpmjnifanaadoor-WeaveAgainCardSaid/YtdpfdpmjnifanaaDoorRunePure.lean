/- Runes as bytes. -/
import Derived.Test.YtdpfdpmjnifanaaDoorWeavePure
namespace Go.Sb
open Go Go.RowKit
set_option linter.unusedSimpArgs false
set_option linter.unusedVariables false
/-- A rune's bytes. -/
def runeB (r : Nat) : List UInt8 :=
  if r < 128 then [UInt8.ofNat r] else if r < 2048 then [UInt8.ofNat (192 + r / 64), UInt8.ofNat (128 + r % 64)]
  else if r < 65536 then [UInt8.ofNat (224 + r / 4096), UInt8.ofNat (128 + r / 64 % 64), UInt8.ofNat (128 + r % 64)]
  else [UInt8.ofNat (240 + r / 262144), UInt8.ofNat (128 + r / 4096 % 64), UInt8.ofNat (128 + r / 64 % 64), UInt8.ofNat (128 + r % 64)]
theorem or_low (a : Nat) (n k : Nat) (ha : a % 2 ^ k = 0) (hn : n < 2 ^ k) : a ||| n = a + n := by
  have h := Nat.two_pow_add_eq_or_of_lt (i := k) hn (a / 2 ^ k)
  have e : 2 ^ k * (a / 2 ^ k) = a := by have := Nat.div_add_mod a (2 ^ k); omega
  rw [e] at h
  exact h.symm
theorem u8_or_nat (a b : Nat) (ha : a < 256) (hb : b < 256) : bits .or .u8 (a : Int) (b : Int) = ((a ||| b : Nat) : Int) := by
  have hx : a ||| b < 2 ^ 8 := Nat.or_lt_two_pow (by omega) (by omega)
  show IntKind.u8.wrap ((BitVec.ofInt 8 (a : Int) ||| BitVec.ofInt 8 (b : Int)).toNat : Int) = _
  rw [BitVec.toNat_or, BitVec.ofInt_natCast, BitVec.ofInt_natCast, BitVec.toNat_ofNat, BitVec.toNat_ofNat, Nat.mod_eq_of_lt (by omega), Nat.mod_eq_of_lt (by omega), IntWalk.u8_in]
  omega
theorem u8_and_nat (a b : Nat) (ha : a < 256) (hb : b < 256) : bits .and .u8 (a : Int) (b : Int) = ((a &&& b : Nat) : Int) := by
  have hx : a &&& b < 2 ^ 8 := Nat.and_lt_two_pow _ (by omega)
  show IntKind.u8.wrap ((BitVec.ofInt 8 (a : Int) &&& BitVec.ofInt 8 (b : Int)).toNat : Int) = _
  rw [BitVec.toNat_and, BitVec.ofInt_natCast, BitVec.ofInt_natCast, BitVec.toNat_ofNat, BitVec.toNat_ofNat, Nat.mod_eq_of_lt (by omega), Nat.mod_eq_of_lt (by omega), IntWalk.u8_in]
  omega
theorem and63 (n : Nat) : n &&& 63 = n % 64 := Nat.and_two_pow_sub_one_eq_mod n 6
/-- 'c | byte(r)&63', as the walk spells it. -/
theorem tail_byte (m : Nat) : bits .or .u8 128 (bits .and .u8 (IntKind.u8.wrap (m : Int)) 63) = ((128 + m % 64 : Nat) : Int) := by
  have e1 : IntKind.u8.wrap (m : Int) = ((m % 256 : Nat) : Int) := by rw [IntKind.wrap_u8]; omega
  rw [e1, show (63 : Int) = ((63 : Nat) : Int) from rfl, u8_and_nat _ _ (by omega) (by omega), show (128 : Int) = ((128 : Nat) : Int) from rfl, and63]
  rw [u8_or_nat _ _ (by omega) (by omega), or_low 128 _ 7 (by decide) (by omega)]
  congr 2
  omega
theorem head_byte (a m k : Nat) (ha : a < 256) (hk : a % 2 ^ k = 0) (hm : m < 2 ^ k) (h : a + m < 256) : bits .or .u8 (a : Int) (IntKind.u8.wrap (m : Int)) = ((a + m : Nat) : Int) := by
  have e1 : IntKind.u8.wrap (m : Int) = (m : Int) := by rw [IntKind.wrap_u8]; omega
  rw [e1, u8_or_nat _ _ ha (by omega), or_low a m k hk hm]
theorem ofNat_toNat8 {n : Nat} (h : n < 256) : ((UInt8.ofNat n).toNat : Int) = (n : Int) := by
  simp; omega
theorem cdiv (r k : Nat) : ((r : Int) / 2 ^ k) = ((r / 2 ^ k : Nat) : Int) := by norm_cast
theorem vu8 {a b : Int} (h : a = b) : Value.int .u8 a = .int .u8 b := by rw [h]
theorem ofN (n : Nat) (h : n < 256) : (((UInt8.ofNat n).toNat : Nat) : Int) = (n : Int) := by simp; omega
theorem runeB_1 {r : Nat} (h : r < 128) : runeB r = [UInt8.ofNat r] := by unfold runeB; rw [if_pos h]
theorem runeB_2 {r : Nat} (h : 128 ≤ r) (h' : r < 2048) : (runeB r).length = 2 ∧
    bytesV (runeB r) = [.int .u8 (bits .or .u8 192 (IntKind.u8.wrap ((r : Int) / 2 ^ 6))), .int .u8 (bits .or .u8 128 (bits .and .u8 (IntKind.u8.wrap (r : Int)) 63))] := by
  have e : runeB r = [UInt8.ofNat (192 + r / 64), UInt8.ofNat (128 + r % 64)] := by unfold runeB; rw [if_neg (by omega), if_pos h']
  refine ⟨by rw [e]; rfl, ?_⟩
  rw [e, tail_byte, cdiv, show (192 : Int) = ((192 : Nat) : Int) from rfl, head_byte 192 (r / 2 ^ 6) 5 (by decide) (by decide) (by omega) (by omega)]
  simp only [bytesV, List.map_cons, List.map_nil]
  rw [ofN _ (by omega), ofN _ (by omega)]
theorem runeB_3 {r : Nat} (h : 2048 ≤ r) (h' : r < 65536) : (runeB r).length = 3 ∧
    bytesV (runeB r) = [.int .u8 (bits .or .u8 224 (IntKind.u8.wrap ((r : Int) / 2 ^ 12))), .int .u8 (bits .or .u8 128 (bits .and .u8 (IntKind.u8.wrap ((r : Int) / 2 ^ 6)) 63)), .int .u8 (bits .or .u8 128 (bits .and .u8 (IntKind.u8.wrap (r : Int)) 63))] := by
  have e : runeB r = [UInt8.ofNat (224 + r / 4096), UInt8.ofNat (128 + r / 64 % 64), UInt8.ofNat (128 + r % 64)] := by unfold runeB; rw [if_neg (by omega), if_neg (by omega), if_pos h']
  refine ⟨by rw [e]; rfl, ?_⟩
  rw [e, tail_byte, cdiv, cdiv, tail_byte, show (224 : Int) = ((224 : Nat) : Int) from rfl, head_byte 224 (r / 2 ^ 12) 4 (by decide) (by decide) (by omega) (by omega)]
  simp only [bytesV, List.map_cons, List.map_nil]
  rw [ofN _ (by omega), ofN _ (by omega), ofN _ (by omega)]
theorem runeB_4 {r : Nat} (h : 65536 ≤ r) (h' : r ≤ 1114111) : (runeB r).length = 4 ∧
    bytesV (runeB r) = [.int .u8 (bits .or .u8 240 (IntKind.u8.wrap ((r : Int) / 2 ^ 18))), .int .u8 (bits .or .u8 128 (bits .and .u8 (IntKind.u8.wrap ((r : Int) / 2 ^ 12)) 63)), .int .u8 (bits .or .u8 128 (bits .and .u8 (IntKind.u8.wrap ((r : Int) / 2 ^ 6)) 63)),
      .int .u8 (bits .or .u8 128 (bits .and .u8 (IntKind.u8.wrap (r : Int)) 63))] := by
  have e : runeB r = [UInt8.ofNat (240 + r / 262144), UInt8.ofNat (128 + r / 4096 % 64), UInt8.ofNat (128 + r / 64 % 64), UInt8.ofNat (128 + r % 64)] := by unfold runeB; rw [if_neg (by omega), if_neg (by omega), if_neg (by omega)]
  refine ⟨by rw [e]; rfl, ?_⟩
  rw [e, tail_byte, cdiv, cdiv, cdiv, tail_byte, tail_byte, show (240 : Int) = ((240 : Nat) : Int) from rfl, head_byte 240 (r / 2 ^ 18) 3 (by decide) (by decide) (by omega) (by omega)]
  simp only [bytesV, List.map_cons, List.map_nil]
  rw [ofN _ (by omega), ofN _ (by omega), ofN _ (by omega), ofN _ (by omega)]
end Go.Sb

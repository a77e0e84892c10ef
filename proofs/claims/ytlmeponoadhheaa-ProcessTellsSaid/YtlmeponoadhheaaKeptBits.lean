/-
  Kept by a number's bits: more bits keep more.
-/
import Derived.Test.YtlmeponoadhheaaRRun1
namespace Go.Proofs.Ytlmeponoadhheaa
set_option linter.unusedVariables false

theorem wrap_u64 (n : Nat) (h : n < 2 ^ 64) : IntKind.u64.wrap (n : Int) = n := by
  unfold IntKind.wrap
  have e : IntKind.u64.bits = 64 := rfl
  have s : IntKind.u64.signed = false := rfl
  simp only [e, s, Bool.false_and, Bool.false_eq_true, if_false]
  omega

theorem bits_or_nat (a b : Nat) (ha : a < 2 ^ 64) (hb : b < 2 ^ 64) : Go.bits BinOp.or IntKind.u64 (a : Int) (b : Int) = ((a ||| b : Nat) : Int) := by
  show IntKind.u64.wrap (((BitVec.ofInt 64 (a : Int)) ||| (BitVec.ofInt 64 (b : Int))).toNat : Int) = _
  rw [wrap_u64 _ (BitVec.isLt _), BitVec.toNat_or, BitVec.ofInt_natCast, BitVec.ofInt_natCast, BitVec.toNat_ofNat, BitVec.toNat_ofNat, Nat.mod_eq_of_lt ha, Nat.mod_eq_of_lt hb]

theorem bits_and_nat (a b : Nat) (ha : a < 2 ^ 64) (hb : b < 2 ^ 64) : Go.bits BinOp.and IntKind.u64 (a : Int) (b : Int) = ((a &&& b : Nat) : Int) := by
  show IntKind.u64.wrap (((BitVec.ofInt 64 (a : Int)) &&& (BitVec.ofInt 64 (b : Int))).toNat : Int) = _
  rw [wrap_u64 _ (BitVec.isLt _), BitVec.toNat_and, BitVec.ofInt_natCast, BitVec.ofInt_natCast, BitVec.toNat_ofNat, BitVec.toNat_ofNat, Nat.mod_eq_of_lt ha, Nat.mod_eq_of_lt hb]

theorem keptB_nat (id : Int) (a : Nat) (ha : a < 2 ^ 64) : keptB id (a : Int) = a.testBit (id % 64).toNat := by
  unfold keptB
  generalize (id % 64).toNat = k
  have e : ((a : Int) / 2 ^ k) = ((a / 2 ^ k : Nat) : Int) := by simp
  rw [e, show (1 : Int) = ((1 : Nat) : Int) from rfl, bits_and_nat _ _ (Nat.lt_of_le_of_lt (Nat.div_le_self _ _) ha) (by decide)]
  rw [Nat.testBit_eq_decide_div_mod_eq, Nat.and_one_is_mod]
  have : (((a / 2 ^ k % 2 : Nat) : Int) == ((1 : Nat) : Int)) = decide (a / 2 ^ k % 2 = 1) := by
    rw [Bool.eq_iff_iff]
    simp
    omega
  exact this

theorem kept_or (id a b : Int) (ha : 0 ≤ a) (ha2 : a < 18446744073709551616) (hb : 0 ≤ b) (hb2 : b < 18446744073709551616) (h : keptB id a = true) : keptB id (Go.bits BinOp.or IntKind.u64 a b) = true := by
  obtain ⟨m, rfl⟩ := Int.eq_ofNat_of_zero_le ha
  obtain ⟨n, rfl⟩ := Int.eq_ofNat_of_zero_le hb
  have hm : m < 2 ^ 64 := by omega
  have hn : n < 2 ^ 64 := by omega
  show keptB id (Go.bits BinOp.or IntKind.u64 (m : Int) (n : Int)) = true
  replace h : keptB id (m : Int) = true := h
  rw [bits_or_nat m n hm hn, keptB_nat _ _ (Nat.or_lt_two_pow hm hn), Nat.testBit_or, ← keptB_nat _ _ hm, h]
  rfl

theorem or_range (a b : Int) (ha : 0 ≤ a) (ha2 : a < 18446744073709551616) (hb : 0 ≤ b) (hb2 : b < 18446744073709551616) : 0 ≤ Go.bits BinOp.or IntKind.u64 a b ∧ Go.bits BinOp.or IntKind.u64 a b < 18446744073709551616 := by
  obtain ⟨m, rfl⟩ := Int.eq_ofNat_of_zero_le ha
  obtain ⟨n, rfl⟩ := Int.eq_ofNat_of_zero_le hb
  have hm : m < 2 ^ 64 := by omega
  have hn : n < 2 ^ 64 := by omega
  show 0 ≤ Go.bits BinOp.or IntKind.u64 (m : Int) (n : Int) ∧ Go.bits BinOp.or IntKind.u64 (m : Int) (n : Int) < _
  rw [bits_or_nat m n hm hn]
  have := Nat.or_lt_two_pow hm hn
  omega

end Go.Proofs.Ytlmeponoadhheaa

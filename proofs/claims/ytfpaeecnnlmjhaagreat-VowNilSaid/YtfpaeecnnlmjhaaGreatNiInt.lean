/- The nice interpreter's fast integer operations are the model's. -/
import Derived.Test.YtfpaeecnnlmjhaaGreatNiCore
namespace Go.NI
theorem wrapK_eq (k : IntKind) (n : Int) : wrapK k n = k.wrap n := by
  cases n with
  | ofNat m =>
    cases k <;> simp only [wrapK, IntKind.wrap, IntKind.bits, IntKind.signed] <;> try (simp; done)
    cases h : Nat.blt m 9223372036854775808 with
    | true =>
      have : m < 9223372036854775808 := by simpa [Nat.blt_eq] using h
      simp
      omega
    | false => simp
  | negSucc m => rfl

theorem ltI_eq (a b : Int) : ltI a b = decide (a < b) := by
  cases a <;> cases b
  · rename_i m n; rw [Bool.eq_iff_iff]; simp [ltI, Nat.blt_eq]
  · rename_i m n; simp [ltI]; omega
  · rename_i m n; simp [ltI]; omega
  · rename_i m n; rw [Bool.eq_iff_iff]; simp [ltI, Nat.blt_eq]; omega

theorem eqI_eq (a b : Int) : eqI a b = (a == b) := by
  cases a <;> cases b
  · rename_i m n; rw [Bool.eq_iff_iff]; simp [eqI]; omega
  · rename_i m n; simp [eqI]
  · rename_i m n; simp [eqI]
  · rename_i m n; rw [Bool.eq_iff_iff]; simp [eqI]

theorem subI_eq (a b : Int) : subI a b = a - b := by
  cases a <;> cases b <;> simp only [subI]
  rename_i m n
  cases h : Nat.ble n m with
  | true =>
    have : n ≤ m := by simpa using h
    simp; omega
  | false => simp

theorem wrap_emod (k : IntKind) (n : Nat) : k.wrap ((n % 2 ^ k.bits : Nat) : Int) = k.wrap (n : Int) := by
  unfold IntKind.wrap
  have : (((n % 2 ^ k.bits : Nat) : Int)) % (2 ^ k.bits : Int) = (n : Int) % (2 ^ k.bits : Int) := by
    rw [Int.natCast_emod]; simp
  simp only [this]

theorem ofInt_nat (w n : Nat) : BitVec.ofInt w (n : Int) = BitVec.ofNat w n := by
  apply BitVec.eq_of_toNat_eq
  simp

theorem bits_and (k : IntKind) (a b : Nat) : k.wrap (BitVec.ofInt k.bits (a : Int) &&& BitVec.ofInt k.bits (b : Int)).toNat = k.wrap ((a &&& b : Nat) : Int) := by
  rw [ofInt_nat, ofInt_nat, ← wrap_emod k (a &&& b)]
  congr 2
  simp [BitVec.toNat_and, Nat.and_mod_two_pow]
theorem bits_or (k : IntKind) (a b : Nat) : k.wrap (BitVec.ofInt k.bits (a : Int) ||| BitVec.ofInt k.bits (b : Int)).toNat = k.wrap ((a ||| b : Nat) : Int) := by
  rw [ofInt_nat, ofInt_nat, ← wrap_emod k (a ||| b)]
  congr 2
  simp [BitVec.toNat_or, Nat.or_mod_two_pow]
theorem bits_xor (k : IntKind) (a b : Nat) : k.wrap (BitVec.ofInt k.bits (a : Int) ^^^ BitVec.ofInt k.bits (b : Int)).toNat = k.wrap ((a ^^^ b : Nat) : Int) := by
  rw [ofInt_nat, ofInt_nat, ← wrap_emod k (a ^^^ b)]
  congr 2
  simp [BitVec.toNat_xor, Nat.xor_mod_two_pow]
theorem bits_andNot (k : IntKind) (a b : Nat) : k.wrap (BitVec.ofInt k.bits (a : Int) &&& ~~~BitVec.ofInt k.bits (b : Int)).toNat = k.wrap ((a &&& ((b % 2 ^ k.bits) ^^^ (2 ^ k.bits - 1)) : Nat) : Int) := by
  rw [ofInt_nat, ofInt_nat, ← wrap_emod k (a &&& ((b % 2 ^ k.bits) ^^^ (2 ^ k.bits - 1)))]
  congr 2
  rw [BitVec.toNat_and, Nat.and_mod_two_pow]
  have e1 : (BitVec.ofNat k.bits a).toNat = a % 2 ^ k.bits := by simp
  have e2 : (~~~BitVec.ofNat k.bits b).toNat = (b % 2 ^ k.bits ^^^ 2 ^ k.bits - 1) % 2 ^ k.bits := by
    have h : BitVec.ofNat k.bits b ^^^ BitVec.allOnes k.bits = ~~~BitVec.ofNat k.bits b := by
      rw [BitVec.xor_allOnes]
    rw [← h, BitVec.toNat_xor, BitVec.toNat_allOnes, BitVec.toNat_ofNat]
    exact (Nat.mod_eq_of_lt (Nat.xor_lt_two_pow (Nat.mod_lt _ (Nat.two_pow_pos _)) (by have := Nat.two_pow_pos k.bits; omega))).symm
  rw [e1, e2]

/-- The model's operation, as an option. -/
def bitsM (op : BinOp) (k : IntKind) (x y : Int) : Option Int :=
  let a := BitVec.ofInt k.bits x
  let b := BitVec.ofInt k.bits y
  match op with
  | .and => some (k.wrap (a &&& b).toNat)
  | .or => some (k.wrap (a ||| b).toNat)
  | .xor => some (k.wrap (a ^^^ b).toNat)
  | .andNot => some (k.wrap (a &&& ~~~b).toNat)
  | _ => none
theorem bitsI_eq (op : BinOp) (k : IntKind) (x y : Int) : bitsI op k x y = bitsM op k x y := by
  cases x with
  | negSucc m => rfl
  | ofNat m => cases y with
    | negSucc m => rfl
    | ofNat n =>
      cases op <;> simp only [bitsI, bitsM, wrapK_eq]
      · exact congrArg some (bits_and k m n).symm
      · exact congrArg some (bits_or k m n).symm
      · exact congrArg some (bits_xor k m n).symm
      · exact congrArg some (bits_andNot k m n).symm
end Go.NI

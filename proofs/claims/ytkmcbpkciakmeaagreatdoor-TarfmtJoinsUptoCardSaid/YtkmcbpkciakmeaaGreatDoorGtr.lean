/- Go's '>' on strings, told by the bytes' own order: a > b as b < a. Holds of every two strings. -/
import Derived.Test.YtkmcbpkciakmeaaGreatDoorProg
import Derived.Laws.Cover1
namespace Go.Proofs.YtkmcbpkciakmeaaGreatDoor.PA
theorem bytesLess_flip : ∀ a b : List UInt8, (!(Op.bytesLess a b || a == b)) = Op.bytesLess b a
  | [], [] => by simp [Op.bytesLess]
  | [], _ :: _ => by simp [Op.bytesLess]
  | _ :: _, [] => by simp [Op.bytesLess]
  | a :: x, b :: y => by
    have ih := bytesLess_flip x y
    simp only [Op.bytesLess]
    rcases Nat.lt_trichotomy a.toNat b.toNat with h | h | h
    · have h1 : (a < b) = True := by simp [UInt8.lt_iff_toNat_lt, h]
      have h2 : (b < a) = False := by simp [UInt8.lt_iff_toNat_lt]; omega
      have h3 : (b == a) = false := by rw [beq_eq_false_iff_ne]; rintro rfl; omega
      simp [h1, h2, h3]
    · obtain rfl : a = b := UInt8.toNat_inj.1 h
      simp only [UInt8.lt_irrefl, decide_false, BEq.rfl, Bool.true_and, Bool.false_or, ← ih]
      simp
    · have h1 : (a < b) = False := by simp [UInt8.lt_iff_toNat_lt]; omega
      have h2 : (b < a) = True := by simp [UInt8.lt_iff_toNat_lt, h]
      have h3 : (a == b) = false := by rw [beq_eq_false_iff_ne]; rintro rfl; omega
      simp [h1, h2, h3]
theorem binOp_string_gtr_lt (t : TypeId) (a b : ByteArray) : binOp .gtr t (.string a) (.string b) = pure (.bool (Op.bytesLess b.toList a.toList)) := by
  rw [binOp_string_gtr, bytesLess_flip]
end Go.Proofs.YtkmcbpkciakmeaaGreatDoor.PA

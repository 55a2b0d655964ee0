/- Plain laws of bytes: numbers of variable length, frames. No program in sight. -/
import GoSem.Core.World
namespace Go.Proofs.YtonkblhhknafbaaGreat

/-- a number laid down, seven bits a byte, the least ones first -/
def uvar (n : Nat) : List UInt8 := if n < 128 then [UInt8.ofNat n] else UInt8.ofNat (n % 128 + 128) :: uvar (n / 128)
termination_by n
decreasing_by omega

theorem uvar_lo {n : Nat} (h : n < 128) : uvar n = [UInt8.ofNat n] := by rw [uvar, if_pos h]
theorem uvar_hi {n : Nat} (h : 128 ≤ n) : uvar n = UInt8.ofNat (n % 128 + 128) :: uvar (n / 128) := by rw [uvar, if_neg (by omega)]
theorem uvar_pos (n : Nat) : 0 < (uvar n).length := by
  rw [uvar]; split <;> simp
theorem uvar_len4 (n : Nat) (h : n < 268435456) : (uvar n).length ≤ 4 := by
  rw [uvar]; split
  · simp
  · rw [uvar]; split
    · simp
    · rw [uvar]; split
      · simp
      · rw [uvar, if_pos (by omega)]; simp
theorem uvar_len3 (n : Nat) (h : n < 2097152) : (uvar n).length ≤ 3 := by
  rw [uvar]; split
  · simp
  · rw [uvar]; split
    · simp
    · rw [uvar, if_pos (by omega)]; simp
theorem uvar_len2 (n : Nat) (h : n < 16384) : (uvar n).length ≤ 2 := by
  rw [uvar]; split
  · simp
  · rw [uvar, if_pos (by omega)]; simp
theorem uvar_len1 (n : Nat) (h : n < 128) : (uvar n).length = 1 := by rw [uvar_lo h]; rfl

end Go.Proofs.YtonkblhhknafbaaGreat

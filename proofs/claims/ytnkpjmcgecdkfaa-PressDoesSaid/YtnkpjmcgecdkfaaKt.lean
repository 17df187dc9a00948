/- Arithmetic of the writer of bits. -/
import Derived.Test.YtnkpjmcgecdkfaaKm
namespace Go.Kc
theorem ar1 (A K F low V : Nat) (hv : F + 1 = K) (h4 : (A + (K - 1)) * 4294967296 + low = V) (hl : low < 4278190080) : ((A + F) * 256 + (low / 16777216 % 256 + 1 - 1)) * 4294967296 + low % 16777216 * 256 = V * 256 := by
  have hq := Nat.div_add_mod low 16777216
  have hr := Nat.mod_lt low (show 16777216 > 0 by decide)
  generalize low / 16777216 = q at *
  generalize low % 16777216 = r at *
  have e : q % 256 = q := Nat.mod_eq_of_lt (by omega)
  rw [e]
  subst hq
  subst h4
  obtain rfl : K = F + 1 := by omega
  rw [Nat.add_sub_cancel, Nat.add_sub_cancel]
  generalize A + F = G
  omega
theorem ar2 (A K F low V z : Nat) (hv : F + 1 = K) (h4 : (A + (K - 1)) * 4294967296 + low = V) (hl : low < 4278190080) (hz : z ≤ 16777216) : V * 256 + z * 256 ≤ (A + F + 1) * 256 * 4294967296 := by omega
theorem ar3 (A K low V : Nat) (hK : 1 ≤ K) (h4 : (A + (K - 1)) * 4294967296 + low = V) (hl : 4294967296 ≤ low) (hl2 : low < 8589934592) : ((A + K) * 256 + (low / 16777216 % 256 + 1 - 1)) * 4294967296 + low % 16777216 * 256 = V * 256 := by
  have hq := Nat.div_add_mod low 16777216
  have hr := Nat.mod_lt low (show 16777216 > 0 by decide)
  generalize low / 16777216 = q at *
  generalize low % 16777216 = r at *
  have e : q % 256 = q - 256 := by omega
  rw [e]
  obtain ⟨s, rfl⟩ : ∃ s, q = s + 256 := ⟨q - 256, by omega⟩
  subst hq
  subst h4
  obtain ⟨F, rfl⟩ : ∃ F, K = F + 1 := ⟨K - 1, by omega⟩
  rw [Nat.add_sub_cancel, Nat.add_sub_cancel, Nat.add_sub_cancel, ← Nat.add_assoc]
  generalize A + F = G
  omega
theorem ar4 (A K low V z : Nat) (hK : 1 ≤ K) (h4 : (A + (K - 1)) * 4294967296 + low = V) (hl : 4294967296 ≤ low) (hz : low + z ≤ 8589934592) : V * 256 + z * 256 ≤ (A + K + 1) * 256 * 4294967296 := by omega
theorem ar5 (A K low V : Nat) (hK : 1 ≤ K) (h4 : (A + (K - 1)) * 4294967296 + low = V) (hl : 4278190080 ≤ low) (hl2 : low < 4294967296) : (256 * A + (256 * K - 1)) * 4294967296 + low % 16777216 * 256 = V * 256 := by
  have hq := Nat.div_add_mod low 16777216
  have hr := Nat.mod_lt low (show 16777216 > 0 by decide)
  generalize low / 16777216 = q at *
  generalize low % 16777216 = r at *
  obtain rfl : q = 255 := by omega
  subst hq
  subst h4
  obtain ⟨F, rfl⟩ : ∃ F, K = F + 1 := ⟨K - 1, by omega⟩
  rw [show 256 * (F + 1) - 1 = 256 * F + 255 by omega, Nat.add_sub_cancel]
  omega
theorem ar6 (A V z : Nat) (h5 : V + z ≤ A) : V * 256 + z * 256 ≤ 256 * A := by omega
theorem ar7 (A B low V z : Nat) (hB : 0 < B) (h4 : (A + (256 * B - 1)) * 4294967296 + low = V) (h5 : V + z ≤ (A + B * 256) * 4294967296) (hz : 0 < z) (hl : 4294967296 ≤ low) : False := by omega
end Go.Kc

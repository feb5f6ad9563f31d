/- More arithmetic on natural numbers. -/
import Derived.Test.YtielbjjdgdblcaaVm26
namespace Go.Proofs.Ytielbjjdgdblcaa.Vm
open Go
section
variable {P : Program} {ty : TypeId} {m n : Nat} {kk : IntKind}
theorem b_quok {k : Int} (j : Nat) (hk : k = (j : Int)) (hj : 0 < j) (hm : m < 9223372036854775808) : binP P .quo ty (.int .i64 (m : Int)) (.int .i64 k) = some (.int .i64 ((m / j : Nat) : Int)) := by
  subst hk
  have h : m / j ≤ m := Nat.div_le_self m j
  have h2 : ((m : Int) / (j : Int)) = ((m / j : Nat) : Int) := (Int.natCast_ediv m j).symm
  generalize m / j = q at *
  rw [b_quo (by omega), Int.tdiv_eq_ediv_of_nonneg (by omega), h2, wr64 (by omega) (by omega)]
theorem b_remk {k : Int} (j : Nat) (hk : k = (j : Int)) (hj : 0 < j) : binP P .rem ty (.int kk (m : Int)) (.int kk k) = some (.int kk ((m % j : Nat) : Int)) := by
  subst hk
  rw [b_rem (by omega), Int.tmod_eq_emod_of_nonneg (by omega)]
  rfl
theorem b_mulk {k : Int} (j : Nat) (hk : k = (j : Int)) (h : m * j < 9223372036854775808) : binP P .mul ty (.int .i64 (m : Int)) (.int .i64 k) = some (.int .i64 ((m * j : Nat) : Int)) := by
  subst hk
  simp only [binP, if_true]
  rw [← Int.natCast_mul, wr64 (by omega) (by omega)]
theorem b_kmul {k : Int} (j : Nat) (hk : k = (j : Int)) (h : j * m < 9223372036854775808) : binP P .mul ty (.int .i64 k) (.int .i64 (m : Int)) = some (.int .i64 ((j * m : Nat) : Int)) := by
  subst hk
  simp only [binP, if_true]
  rw [← Int.natCast_mul, wr64 (by omega) (by omega)]
theorem b_subN (h : n ≤ m) (hm : m < 9223372036854775808) : binP P .sub ty (.int .i64 (m : Int)) (.int .i64 (n : Int)) = some (.int .i64 ((m - n : Nat) : Int)) := by
  simp only [binP, if_true]
  rw [wr64 (by omega) (by omega), Int.natCast_sub h]
theorem b_subk {k : Int} (j : Nat) (hk : k = (j : Int)) (h : j ≤ m) (hm : m < 9223372036854775808) : binP P .sub ty (.int .i64 (m : Int)) (.int .i64 k) = some (.int .i64 ((m - j : Nat) : Int)) := by
  subst hk
  exact b_subN h hm
theorem b_eqN {a b : Int} (h : a = b) : binP P .eql ty (.int kk a) (.int kk b) = some (.bool true) := by
  subst h
  simp [binP]
theorem b_eqS {a b : List UInt8} (h : a = b) : binP P .eql ty (.str a) (.str b) = some (.bool true) := by
  subst h
  simp [binP]
theorem b_neN {a b : Int} (h : a = b) : binP P .neq ty (.int kk a) (.int kk b) = some (.bool false) := by
  subst h
  simp [binP]
theorem b_neS {a b : List UInt8} (h : a = b) : binP P .neq ty (.str a) (.str b) = some (.bool false) := by
  subst h
  simp [binP]
theorem bd_hiN {n m : Nat} {k : IntKind} (h : m ≤ n) : bounds n n none (some (.int k (m : Int))) = some (0, m) := by
  rw [bd_hi (by omega)]; simp
theorem bd_loN {n m : Nat} {k : IntKind} (h : m ≤ n) : bounds n n (some (.int k (m : Int))) none = some (m, n) := by
  rw [bd_lo (by omega)]; simp
theorem bd_bothN {n m q : Nat} {k k' : IntKind} (h : m ≤ q) (h' : q ≤ n) : bounds n n (some (.int k (m : Int))) (some (.int k' (q : Int))) = some (m, q) := by
  rw [bd_both (by omega)]; simp
end
end Go.Proofs.Ytielbjjdgdblcaa.Vm

/- Arithmetic of 64 and 8 bits on natural numbers. -/
import Derived.Test.YtielbjjdgdblcaaVm25
import Derived.IntWalk
namespace Go.Proofs.Ytielbjjdgdblcaa.Vm
open Go
theorem s_nil {C : Ctx} {o : Oper} {t : List (Nat × Cl)} {bx : List (Nat × PV)} {H : List HObj} {F : List (Nat × Nat × Nat)} {d el z b z1 : Nat} {g z2 : Bool} {z3 : Option PV} {z4 : Option (List Nat)}
    (ho : o.op = .move (.const (.slice none 0 0)) ∨ o.op = .assign (.const (.slice none 0 0))) (hd : o.dst = some d) (hT : tyOf C.P o.type = some ⟨.slice el z g b, z1, z2, z3, z4⟩) : stepO C o ⟨t, bx, H, F⟩ = some ⟨(d, .v (.slice z [])) :: t, bx, H, F⟩ := by
  have e : ev C.P ⟨t, bx, H, F⟩ o.type (.const (.slice none 0 0)) = some (.slice z []) := by simp only [ev, hT]
  rcases ho with ho | ho <;> simp only [stepO, ho, e, putv, put, hd, Option.map_some]
theorem wr64 {n : Int} (h0 : -9223372036854775808 ≤ n) (h : n < 9223372036854775808) : IntKind.i64.wrap n = n := by
  unfold IntKind.wrap
  simp [IntKind.bits, IntKind.signed]
  omega
theorem wr8 {n : Nat} : IntKind.u8.wrap (n : Int) = ((n % 256 : Nat) : Int) := by
  unfold IntKind.wrap
  simp [IntKind.bits, IntKind.signed]
theorem or64 {m n : Nat} (hm : m < 9223372036854775808) (hn : n < 9223372036854775808) : IntKind.i64.wrap ((BitVec.ofInt IntKind.i64.bits (m : Int) ||| BitVec.ofInt IntKind.i64.bits (n : Int)).toNat : Int) = ((m ||| n : Nat) : Int) := by
  have h : m ||| n < 2 ^ 63 := Nat.or_lt_two_pow (by simpa using hm) (by simpa using hn)
  have e : (BitVec.ofInt IntKind.i64.bits (m : Int) ||| BitVec.ofInt IntKind.i64.bits (n : Int)).toNat = m ||| n := by
    show (BitVec.ofInt 64 (m : Int) ||| BitVec.ofInt 64 (n : Int)).toNat = m ||| n
    rw [BitVec.ofInt_natCast, BitVec.ofInt_natCast, BitVec.toNat_or, BitVec.toNat_ofNat, BitVec.toNat_ofNat, Nat.mod_eq_of_lt (by omega), Nat.mod_eq_of_lt (by omega)]
  rw [e]
  exact wr64 (by omega) (by omega)
theorem and64 {m n : Nat} (hm : m < 9223372036854775808) (hn : n < 9223372036854775808) : IntKind.i64.wrap ((BitVec.ofInt IntKind.i64.bits (m : Int) &&& BitVec.ofInt IntKind.i64.bits (n : Int)).toNat : Int) = ((m &&& n : Nat) : Int) := by
  have h : m &&& n < 2 ^ 63 := Nat.and_lt_two_pow m (by simpa using hn)
  have e : (BitVec.ofInt IntKind.i64.bits (m : Int) &&& BitVec.ofInt IntKind.i64.bits (n : Int)).toNat = m &&& n := by
    show (BitVec.ofInt 64 (m : Int) &&& BitVec.ofInt 64 (n : Int)).toNat = m &&& n
    rw [BitVec.ofInt_natCast, BitVec.ofInt_natCast, BitVec.toNat_and, BitVec.toNat_ofNat, BitVec.toNat_ofNat, Nat.mod_eq_of_lt (by omega), Nat.mod_eq_of_lt (by omega)]
  rw [e]
  exact wr64 (by omega) (by omega)
theorem shl64 {m k : Nat} (h : m * 2 ^ (min k 64) < 9223372036854775808) : IntKind.i64.wrap ((m : Int) * 2 ^ (min k IntKind.i64.bits)) = ((m * 2 ^ (min k 64) : Nat) : Int) := by
  have e : ((m : Int) * 2 ^ (min k IntKind.i64.bits)) = ((m * 2 ^ (min k 64) : Nat) : Int) := by
    simp [IntKind.bits]
  rw [e]
  exact wr64 (by omega) (by omega)
theorem shr64 {m k : Nat} : Int.fdiv (m : Int) (2 ^ (min k IntKind.i64.bits)) = ((m / 2 ^ (min k 64) : Nat) : Int) := by
  have e : (2 ^ (min k IntKind.i64.bits) : Int) = ((2 ^ (min k 64) : Nat) : Int) := by simp [IntKind.bits]
  rw [e, Int.fdiv_eq_ediv_of_nonneg _ (Int.natCast_nonneg _)]
  exact (Int.natCast_ediv _ _).symm
section
variable {P : Program} {ty : TypeId} {m n : Nat}
theorem zero_ok {el : TypeId} {D : TD} {x1 : Nat} {x2 : Bool} {z : PV} {x4 : Option (List Nat)} (h : tyOf P el = some ⟨D, x1, x2, some z, x4⟩) : ((tyOf P el).bind Ty.zero).isSome = true := by rw [h]; rfl
theorem b_or (hm : m < 9223372036854775808) (hn : n < 9223372036854775808) : binP P .or ty (.int .i64 (m : Int)) (.int .i64 (n : Int)) = some (.int .i64 ((m ||| n : Nat) : Int)) := by
  simp only [binP, if_true]
  rw [or64 hm hn]
theorem b_andk {k : Int} (j : Nat) (hk : k = (j : Int)) (hm : m < 9223372036854775808) (hj : j < 9223372036854775808) : binP P .and ty (.int .i64 (m : Int)) (.int .i64 k) = some (.int .i64 ((m &&& j : Nat) : Int)) := by
  subst hk
  simp only [binP, if_true]
  rw [and64 hm hj]
theorem b_shlk {k : Int} {kk : IntKind} (j : Nat) (hk : k = (j : Int)) (hj : j ≤ 64) (hm : m * 2 ^ j < 9223372036854775808) : binP P .shl ty (.int .i64 (m : Int)) (.int kk k) = some (.int .i64 ((m * 2 ^ j : Nat) : Int)) := by
  subst hk
  have e : min ((j : Int).toNat) 64 = j := by simp; omega
  rw [b_shl (by omega), shl64 (by rw [e]; exact hm), e]
theorem b_shrk {k : Int} {kk : IntKind} (j : Nat) (hk : k = (j : Int)) (hj : j ≤ 64) : binP P .shr ty (.int .i64 (m : Int)) (.int kk k) = some (.int .i64 ((m / 2 ^ j : Nat) : Int)) := by
  subst hk
  have e : min ((j : Int).toNat) 64 = j := by simp; omega
  rw [b_shr (by omega), shr64, e]
theorem b_addN (h : m + n < 9223372036854775808) : binP P .add ty (.int .i64 (m : Int)) (.int .i64 (n : Int)) = some (.int .i64 ((m + n : Nat) : Int)) := by
  simp only [binP, if_true]
  rw [wr64 (by omega) (by omega)]
  simp
theorem b_addk {k : Int} (j : Nat) (hk : k = (j : Int)) (h : m + j < 9223372036854775808) : binP P .add ty (.int .i64 (m : Int)) (.int .i64 k) = some (.int .i64 ((m + j : Nat) : Int)) := by
  subst hk
  exact b_addN h
theorem v_64 {s ds : TypeId} {k0 k' : IntKind} {z1 y1 : Nat} {z2 y2 : Bool} {z3 y3 : Option PV} {z4 y4 : Option (List Nat)} (h1 : tyOf P s = some ⟨.int k0, z1, z2, z3, z4⟩) (h2 : tyOf P ds = some ⟨.int .i64, y1, y2, y3, y4⟩) (hm : m < 9223372036854775808) :
    convP P s ds (.int k' (m : Int)) = some (.int .i64 (m : Int)) := by
  rw [v_int h1 h2, wr64 (by omega) (by omega)]
theorem v_8 {s ds : TypeId} {k0 k' : IntKind} {z1 y1 : Nat} {z2 y2 : Bool} {z3 y3 : Option PV} {z4 y4 : Option (List Nat)} (h1 : tyOf P s = some ⟨.int k0, z1, z2, z3, z4⟩) (h2 : tyOf P ds = some ⟨.int .u8, y1, y2, y3, y4⟩) :
    convP P s ds (.int k' (m : Int)) = some (.int .u8 ((m % 256 : Nat) : Int)) := by
  rw [v_int h1 h2, wr8]
end
end Go.Proofs.Ytielbjjdgdblcaa.Vm

/- Law 01: texts and bytes, there and back. -/
import Derived.Test.YtielbjjdgdblcaaB11
namespace Go.Proofs.Ytielbjjdgdblcaa.B
open Go Go.Proofs Go.Proofs.Ytielbjjdgdblcaa.Vm

theorem or6 {n v : Nat} (h : v < 64) : n * 2 ^ 6 ||| v = n * 64 + v := by
  have := Nat.two_pow_add_eq_or_of_lt (i := 6) (b := v) (by omega) n
  rw [Nat.mul_comm]; omega
theorem x3_eq (a b c : UInt8) : x3 a b c = a.toNat * 65536 + b.toNat * 256 + c.toNat := by
  have ha := a.toNat_lt; have hb := b.toNat_lt; have hc := c.toNat_lt
  unfold x3
  have h1 : a.toNat * 2 ^ 16 ||| b.toNat * 2 ^ 8 = a.toNat * 2 ^ 16 + b.toNat * 2 ^ 8 := by
    have := Nat.two_pow_add_eq_or_of_lt (i := 16) (b := b.toNat * 2 ^ 8) (by omega) a.toNat
    rw [Nat.mul_comm a.toNat]; omega
  rw [h1]
  have h2 := Nat.two_pow_add_eq_or_of_lt (i := 8) (b := c.toNat) (by omega) (a.toNat * 2 ^ 8 + b.toNat)
  have e : a.toNat * 2 ^ 16 + b.toNat * 2 ^ 8 = 2 ^ 8 * (a.toNat * 2 ^ 8 + b.toNat) := by omega
  rw [e, ← h2]
theorem num4 (a b c d : UInt8) : num [a, b, c, d] = vl a * 262144 + vl b * 4096 + vl c * 64 + vl d := by
  have ha := vl_lt a; have hb := vl_lt b; have hc := vl_lt c; have hd := vl_lt d
  simp only [num, numF]
  rw [or6 hd, or6 hc, or6 hb, or6 ha]
  omega
theorem and63 (n : Nat) : n &&& 63 = n % 64 := Nat.and_two_pow_sub_one_eq_mod n 6
theorem x3_num (n : Nat) (h : n < 16777216) : x3 (UInt8.ofNat (n / 2 ^ 16)) (UInt8.ofNat (n / 2 ^ 8)) (UInt8.ofNat n) = n := by
  rw [x3_eq]; simp; omega
theorem enc_dec : ∀ ks : List Nat, (∀ k ∈ ks, k < 64) → ks.length % 4 = 0 → enc (dec (ks.map dg)) = ks.map dg
  | [], _, _ => rfl
  | [_], _, h => by simp at h
  | [_, _], _, h => by simp at h
  | [_, _, _], _, h => by simp at h
  | a :: b :: c :: d :: r, h, hl => by
    have ha := h a (by simp); have hb := h b (by simp); have hc := h c (by simp); have hd := h d (by simp)
    have ih := enc_dec r (fun k hk => h k (by simp [hk])) (by simp at hl; omega)
    have hn : num [dg a, dg b, dg c, dg d] = a * 262144 + b * 4096 + c * 64 + d := by rw [num4, vl_dg ha, vl_dg hb, vl_dg hc, vl_dg hd]
    simp only [List.map_cons, dec]
    rw [hn]
    simp only [enc]
    rw [x3_num _ (by omega), and63, and63, and63, ih]
    rw [show (a * 262144 + b * 4096 + c * 64 + d) / 2 ^ 18 = a by omega, show (a * 262144 + b * 4096 + c * 64 + d) / 2 ^ 12 % 64 = b by omega, show (a * 262144 + b * 4096 + c * 64 + d) / 2 ^ 6 % 64 = c by omega,
      show (a * 262144 + b * 4096 + c * 64 + d) % 64 = d by omega]
theorem dec_mul : ∀ s : List UInt8, (dec s).length = s.length / 4 * 3
  | a :: b :: c :: d :: r => by have := dec_mul r; simp only [dec, List.length_cons]; omega
  | [] => by simp [dec]
  | [_] => by simp [dec]
  | [_, _] => by simp [dec]
  | [_, _, _] => by simp [dec]
theorem enc_mul : ∀ s : List UInt8, (enc s).length = s.length / 3 * 4
  | a :: b :: c :: r => by have := enc_mul r; simp only [enc, List.length_cons]; omega
  | [] => by simp [enc]
  | [_] => by simp [enc]
  | [_, _] => by simp [enc]
theorem enc_digits : ∀ s : List UInt8, (enc s).all isD = true
  | a :: b :: c :: r => by
    have h := x3_lt a b c
    simp only [enc, List.all_cons, Bool.and_eq_true]
    rw [and63, and63, and63]
    exact ⟨isD_dg (by omega), isD_dg (by omega), isD_dg (by omega), isD_dg (by omega), enc_digits r⟩
  | [] => by simp [enc]
  | [_] => by simp [enc]
  | [_, _] => by simp [enc]
theorem dec_enc : ∀ s : List UInt8, s.length % 3 = 0 → dec (enc s) = s
  | [], _ => rfl
  | [_], h => by simp at h
  | [_, _], h => by simp at h
  | a :: b :: c :: r, h => by
    have ih := dec_enc r (by simp at h; omega)
    have hx := x3_lt a b c
    have ha := a.toNat_lt; have hb := b.toNat_lt; have hc := c.toNat_lt
    have e := x3_eq a b c
    simp only [enc, dec]
    rw [num4, and63, and63, and63, vl_dg (by omega), vl_dg (by omega), vl_dg (by omega), vl_dg (by omega), ih]
    have hn : x3 a b c / 2 ^ 18 * 262144 + x3 a b c / 2 ^ 12 % 64 * 4096 + x3 a b c / 2 ^ 6 % 64 * 64 + x3 a b c % 64 = x3 a b c := by omega
    rw [hn, e]
    have e1 : UInt8.ofNat ((a.toNat * 65536 + b.toNat * 256 + c.toNat) / 2 ^ 16) = a := by
      rw [show (a.toNat * 65536 + b.toNat * 256 + c.toNat) / 2 ^ 16 = a.toNat by omega]; simp
    have e2 : UInt8.ofNat ((a.toNat * 65536 + b.toNat * 256 + c.toNat) / 2 ^ 8) = b := by
      apply UInt8.toNat_inj.1; simp <;> omega
    have e3 : UInt8.ofNat (a.toNat * 65536 + b.toNat * 256 + c.toNat) = c := by
      apply UInt8.toNat_inj.1; simp <;> omega
    rw [e1, e2, e3]
theorem map_dg_isD (ks : List Nat) (h : ∀ k ∈ ks, k < 64) : (ks.map dg).all isD = true := by
  simp only [List.all_map, List.all_eq_true]
  intro k hk
  exact isD_dg (h k hk)
end Go.Proofs.Ytielbjjdgdblcaa.B

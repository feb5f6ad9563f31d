/- Law 01: the number of digits. -/
import Derived.Test.YtielbjjdgdblcaaB3
namespace Go.Proofs.Ytielbjjdgdblcaa.B
open Go Go.Proofs Go.Proofs.Ytielbjjdgdblcaa.Vm
/-- The value of a digit, and whether it is one. -/
def vl (b : UInt8) : Nat := vt b.toNat - 1
def isD (b : UInt8) : Bool := vt b.toNat != 0
theorem run8' (b : UInt8) (H : List HObj) : Run Try.prog fr 8 [byteP b] H (.tup [.int .i64 ((vl b : Nat) : Int), .bool (isD b)]) H := by
  have h := run8 b H
  unfold valP at h
  split at h
  · rename_i h0
    simp only [vl, isD, h0]
    exact h
  · rename_i h0
    have e : ((vt b.toNat : Int) - 1) = ((vl b : Nat) : Int) := by unfold vl; omega
    have e2 : isD b = true := by simp [isD, h0]
    rw [e2, ← e]
    exact h
theorem vl_lt (b : UInt8) : vl b < 64 := by have := vt_le b.toNat; unfold vl; omega
def numF (n : Nat) : List UInt8 → Nat
  | [] => n
  | b :: r => numF (n * 2 ^ 6 ||| vl b) r
def num (s : List UInt8) : Nat := numF 0 s
theorem numF_lt : ∀ (s : List UInt8) (n k : Nat), n < 2 ^ (6 * k) → numF n s < 2 ^ (6 * (k + s.length))
  | [], n, k, h => by simpa [numF] using h
  | b :: r, n, k, h => by
    have h1 : n * 2 ^ 6 < 2 ^ (6 * (k + 1)) := by rw [Nat.mul_add, Nat.pow_add]; omega
    have h2 : vl b < 2 ^ (6 * (k + 1)) := Nat.lt_of_lt_of_le (vl_lt b) (by rw [Nat.mul_add, Nat.pow_add]; have := Nat.two_pow_pos (6 * k); omega)
    have := numF_lt r (n * 2 ^ 6 ||| vl b) (k + 1) (Nat.or_lt_two_pow h1 h2)
    simp only [numF, List.length_cons]
    rw [show k + (r.length + 1) = k + 1 + r.length by omega]
    exact this
/-- What number(s) answers. -/
def numR (s : List UInt8) : PV := if s.all isD = true then .tup [.int .i64 ((num s : Nat) : Int), .bool true] else .tup [.int .i64 0, .bool false]

noncomputable def c23 : Ctx := { P := Try.prog, box := [], esc := [], own := false, fr := fr, n := 28, slots := [] }
def w23 : Wk := { live := [(0, [0]), (1, [0, 4]), (2, [0, 4, 9, 10]), (3, [0, 4, 9, 10, 11]), (4, [0, 4, 5, 9, 10]), (5, [0, 4, 6, 7, 9, 10]), (6, [0, 4, 6, 9, 10, 21]), (7, [2, 3]), (8, [0, 4, 9, 10]), (9, [0, 4, 9, 10]), (10, [2, 3])], head := [(0, [0, 4, 9, 10])], tr := [] }
theorem k23 : chkFn c23 Try.f23 1 = true := by kernel_rfl

-- types: 3 4 9
set_option maxHeartbeats 1000000 in
theorem run23 (s : List UInt8) (hs : s.length ≤ 8) (H : List HObj) : Run Try.prog fr 23 [.str s] H (numR s) H := by
  refine run_of_body (C := c23) (W := w23) Try.func23 rfl k23 ?_
  -- region 0
  repeat (with_reducible refine c_seq ?_)
  refine c_region rfl ?_
  refine p_val rfl rfl rfl rfl (f0 rfl) ?_
  refine p_val rfl rfl rfl rfl (f0 rfl) ?_
  refine p_nil (q_endL rfl (t' := [(0, _)]) rfl (bx' := []) rfl (F' := []) rfl ?_)
  refine q_then ?_
  -- region 1
  repeat (with_reducible refine c_seq ?_)
  refine c_region rfl ?_
  refine p_val rfl rfl rfl rfl (f0 rfl) ?_
  refine p_nil (q_endL rfl (t' := [(0, _), (4, _)]) rfl (bx' := []) rfl (F' := []) rfl ?_)
  refine q_then ?_
  -- region 2
  repeat (with_reducible refine c_seq ?_)
  refine c_region rfl ?_
  refine p_val rfl rfl rfl rfl (f0 rfl) ?_
  refine p_val rfl rfl rfl (s_lenS rfl rfl rfl rfl ty9 rfl) (f0 rfl) ?_
  refine p_val rfl rfl rfl rfl (f0 rfl) ?_
  refine p_nil (q_endL rfl (t' := [(0, _), (4, _), (9, _), (10, _)]) rfl (bx' := []) rfl (F' := []) rfl ?_)
  refine q_then ?_
  repeat (with_reducible refine c_seq ?_)
  refine c_block ?_
  refine c_loopH (fun e => ∃ k n : Nat, k ≤ s.length ∧ n < 2 ^ (6 * k) ∧ (s.take k).all isD = true ∧ numF n (s.drop k) = num s ∧ e = ⟨[(0, .v (.str s)), (4, .v (.int .i64 (n : Int))), (9, .v (.int .i64 s.length)), (10, .v (.int .i64 (k : Int)))], [], H, []⟩) (fun e => match lkp e.t 10 with | some (.v (.int _ k)) => (s.length - k).toNat | _ => 0) rfl (t' := [(0, _), (4, _), (9, _), (10, _)]) rfl (bx' := []) rfl (F' := []) rfl ?_ ?_
  · exact ⟨0, 0, by omega, by simp, by simp, rfl, rfl⟩
  rintro e ⟨k, n, hk, hn, ha, hf, rfl⟩
  -- region 3
  repeat (with_reducible refine c_seq ?_)
  refine c_region rfl ?_
  refine p_val rfl rfl rfl rfl (f0 rfl) ?_
  refine p_nil (q_endL rfl (t' := [(0, _), (4, _), (9, _), (10, _), (11, _)]) rfl (bx' := []) rfl (F' := []) rfl ?_)
  refine q_then ?_
  repeat (with_reducible refine c_seq ?_)
  refine c_if rfl (fun hc => ?_) (fun hc => ?_)
  · have hk2 : k < s.length := by have := of_decide_eq_true hc; omega
    have hb : s[((k : Nat) : Int).toNat]? = some s[k] := by rw [Int.toNat_natCast, List.getElem?_eq_getElem hk2]
    have hd : s.drop k = s[k] :: s.drop (k + 1) := List.drop_eq_getElem_cons hk2
    have hn2 : n < 2 ^ 42 := Nat.lt_of_lt_of_le hn (Nat.pow_le_pow_right (by decide) (by omega))
    have hvl := vl_lt s[k]
    refine c_skip ?_
    refine q_then ?_
    -- on
    repeat (with_reducible refine c_seq ?_)
    refine c_block ?_
    -- region 4
    repeat (with_reducible refine c_seq ?_)
    refine c_region rfl ?_
    refine p_val rfl rfl rfl rfl (f0 rfl) ?_
    refine p_val rfl rfl rfl rfl (f0 rfl) ?_
    refine p_nil (q_endL rfl (t' := [(0, _), (4, _), (5, _), (9, _), (10, _)]) rfl (bx' := []) rfl (F' := []) rfl ?_)
    refine q_then ?_
    -- region 5
    repeat (with_reducible refine c_seq ?_)
    refine c_region rfl ?_
    refine p_val rfl rfl rfl rfl (f0 rfl) ?_
    refine p_val rfl rfl rfl rfl (f0 rfl) ?_
    refine p_val rfl rfl rfl (s_indexS rfl rfl ty9 rfl rfl (by omega) hb) (f0 rfl) ?_
    refine p_go rfl rfl rfl (run8' _ _) (f0 rfl) ?_
    refine p_val rfl rfl rfl rfl (f0 rfl) ?_
    refine p_val rfl rfl rfl rfl (f0 rfl) ?_
    refine p_val rfl rfl rfl rfl (f0 rfl) ?_
    refine p_val rfl rfl rfl rfl (f0 rfl) ?_
    refine p_val rfl rfl rfl rfl (f0 rfl) ?_
    refine p_nil (q_endL rfl (t' := [(0, _), (4, _), (6, _), (7, _), (9, _), (10, _)]) rfl (bx' := []) rfl (F' := []) rfl ?_)
    refine q_then ?_
    -- region 6
    repeat (with_reducible refine c_seq ?_)
    refine c_region rfl ?_
    refine p_val rfl rfl rfl rfl (f0 rfl) ?_
    refine p_val rfl rfl rfl rfl (f0 rfl) ?_
    refine p_nil (q_endL rfl (t' := [(0, _), (4, _), (6, _), (9, _), (10, _), (21, _)]) rfl (bx' := []) rfl (F' := []) rfl ?_)
    refine q_then ?_
    repeat (with_reducible refine c_seq ?_)
    refine c_if rfl (fun hc => ?_) (fun hc => ?_)
    · have hno : isD s[k] = false := by simpa using hc
      have hall : ¬ (s.all isD = true) := by
        intro h
        have := List.all_eq_true.1 h s[k] (List.getElem_mem hk2)
        rw [hno] at this; cases this
      -- region 7
      repeat (with_reducible refine c_seq ?_)
      refine c_region rfl ?_
      refine p_val rfl rfl rfl rfl (f0 rfl) ?_
      refine p_val rfl rfl rfl rfl (f0 rfl) ?_
      refine p_nil (q_endL rfl (t' := [(2, _), (3, _)]) rfl (bx' := []) rfl (F' := []) rfl ?_)
      refine q_then ?_
      refine c_ret ?_
      exact ⟨by rw [numR, if_neg hall]; rfl, rfl, rfl⟩
    · have hyes : isD s[k] = true := by simpa using hc
      refine c_skip ?_
      refine q_then ?_
      -- on
      -- region 8
      repeat (with_reducible refine c_seq ?_)
      refine c_region rfl ?_
      refine p_val rfl rfl rfl rfl (f0 rfl) ?_
      refine p_val rfl rfl rfl (s_bin rfl rfl rfl rfl (b_shlk 6 rfl (by decide) (by omega))) (f0 rfl) ?_
      refine p_val rfl rfl rfl rfl (f0 rfl) ?_
      refine p_val rfl rfl rfl (s_bin rfl rfl rfl rfl (b_or (by omega) (by omega))) (f0 rfl) ?_
      refine p_val rfl rfl rfl rfl (f0 rfl) ?_
      refine p_nil (q_endL rfl (t' := [(0, _), (4, _), (9, _), (10, _)]) rfl (bx' := []) rfl (F' := []) rfl ?_)
      repeat (with_reducible refine q_then ?_)
      refine i_norm ?_
      refine q_then ?_
      -- on
      -- region 9
      repeat (with_reducible refine c_seq ?_)
      refine c_region rfl ?_
      refine p_val rfl rfl rfl (s_bin rfl rfl rfl rfl (b_addk 1 rfl (by omega))) (f0 rfl) ?_
      refine p_val rfl rfl rfl rfl (f0 rfl) ?_
      refine p_nil (q_endL rfl (t' := [(0, _), (4, _), (9, _), (10, _)]) rfl (bx' := []) rfl (F' := []) rfl ?_)
      refine l_normH rfl (t' := [(0, _), (4, _), (9, _), (10, _)]) rfl (bx' := []) rfl (F' := []) rfl ?_ ?_
      · refine ⟨k + 1, n * 2 ^ 6 ||| vl s[k], by omega, Nat.or_lt_two_pow (by rw [Nat.mul_add, Nat.pow_add]; omega) (Nat.lt_of_lt_of_le hvl (by rw [Nat.mul_add, Nat.pow_add]; have := Nat.two_pow_pos (6 * k); omega)), ?_, ?_, rfl⟩
        · rw [List.take_add_one, List.getElem?_eq_getElem hk2, List.all_append, ha]; simpa using hyes
        · rw [← hf, hd]; rfl
      · simp [lkp]; omega
  · skip
    have hk3 : k = s.length := by have := of_decide_eq_false hc; omega
    subst hk3
    have hall : s.all isD = true := by simpa using ha
    have hnum : n = num s := by rw [← hf]; simp [numF]
    refine c_exit ?_
    repeat (with_reducible first | refine q_exit ?_ | refine l_exit ?_ | refine i_past (by decide) ?_)
    refine i_here ?_
    refine q_then ?_
    -- on
    -- region 10
    repeat (with_reducible refine c_seq ?_)
    refine c_region rfl ?_
    refine p_val rfl rfl rfl rfl (f0 rfl) ?_
    refine p_val rfl rfl rfl rfl (f0 rfl) ?_
    refine p_val rfl rfl rfl rfl (f0 rfl) ?_
    refine p_nil (q_endL rfl (t' := [(2, _), (3, _)]) rfl (bx' := []) rfl (F' := []) rfl ?_)
    refine q_then ?_
    refine c_ret ?_
    exact ⟨by rw [numR, if_pos hall, ← hnum]; rfl, rfl, rfl⟩

end Go.Proofs.Ytielbjjdgdblcaa.B

/- Law 01: bytes and numbers come back from their texts. -/
import Derived.Test.YtielbjjdgdblcaaB17
namespace Go.Proofs.Ytielbjjdgdblcaa.B
open Go Go.Proofs Go.Proofs.Ytielbjjdgdblcaa.Vm

theorem ty34 : tyOf Try.prog 34 = some ⟨.int .u64, 1, false, some (.int .u64 0), none⟩ := by kernel_rfl
theorem numF_dgs (m : Nat) : ∀ (k a : Nat), numF a (dgs m k) = a * 2 ^ (6 * k) + m % 2 ^ (6 * k)
  | 0, a => by simp [dgs, numF]; omega
  | k + 1, a => by
    have ih := numF_dgs m k (a * 64 + m / 2 ^ (6 * k) % 64)
    have hv : vl (dg (m / 2 ^ (6 * k) &&& 63)) = m / 2 ^ (6 * k) % 64 := by rw [and63, vl_dg (by omega)]
    simp only [dgs, numF]
    rw [hv, or6 (by omega), ih]
    have e1 : 2 ^ (6 * (k + 1)) = 2 ^ (6 * k) * 64 := by rw [Nat.mul_add, Nat.pow_add]
    have e2 : m % (2 ^ (6 * k) * 64) = m % 2 ^ (6 * k) + 2 ^ (6 * k) * (m / 2 ^ (6 * k) % 64) := Nat.mod_mul
    rw [e1, e2, Nat.add_mul, Nat.mul_assoc, Nat.mul_comm 64, Nat.mul_comm (m / 2 ^ (6 * k) % 64)]
    omega
theorem num_dgs {m k : Nat} (h : m < 2 ^ (6 * k)) : num (dgs m k) = m := by
  rw [num, numF_dgs, Nat.mod_eq_of_lt h]; omega
theorem dgs_isD (m : Nat) : ∀ k, (dgs m k).all isD = true
  | 0 => rfl
  | k + 1 => by
    simp only [dgs, List.all_cons, dgs_isD m k, Bool.and_true]
    rw [and63]; exact isD_dg (by omega)
theorem b_kadd {P : Program} {ty : TypeId} {m : Nat} {k : Int} (j : Nat) (hk : k = (j : Int)) (h : j + m < 9223372036854775808) : binP P .add ty (.int .i64 k) (.int .i64 (m : Int)) = some (.int .i64 ((j + m : Nat) : Int)) := by
  subst hk
  exact b_addN h
theorem v_u64 {P : Program} {m : Nat} {s ds : TypeId} {k0 k' : IntKind} {z1 y1 : Nat} {z2 y2 : Bool} {z3 y3 : Option PV} {z4 y4 : Option (List Nat)} (h1 : tyOf P s = some ⟨.int k0, z1, z2, z3, z4⟩) (h2 : tyOf P ds = some ⟨.int .u64, y1, y2, y3, y4⟩) (hm : m < 9223372036854775808) :
    convP P s ds (.int k' (m : Int)) = some (.int .u64 (m : Int)) := by
  rw [v_int h1 h2]
  have : IntKind.u64.wrap (m : Int) = m := by
    unfold IntKind.wrap
    simp [IntKind.bits, IntKind.signed]
    omega
  rw [this]

noncomputable def c5 : Ctx := { P := Try.prog, box := [], esc := [], own := false, fr := fr, n := 116, slots := [] }
def w5 : Wk := { live := [(0, [0, 1, 2]), (1, [0, 1, 2, 23]), (2, [6]), (3, [1, 2, 7]), (4, [1, 2, 7, 8, 9]), (5, [1, 2, 7, 8, 9, 10, 11]), (6, [1, 2, 8, 60]), (7, [6]), (8, [1, 2, 8, 62, 63]), (9, [1, 2, 8, 62, 63, 64]), (10, [1, 2, 8, 12, 62, 63]), (11, [1, 2, 8, 14, 62, 63]), (12, [1, 2, 8, 62, 63, 74]), (13, [6]), (14, [1, 2, 8, 62, 63]), (15, [1, 15]), (16, [15, 16]), (17, [15, 16, 17, 18]), (18, [15, 16, 17, 18, 19, 20]), (19, [6])], head := [(0, [1, 2, 8, 62, 63])], tr := [] }
theorem k5 : chkFn c5 Try.f5 3 = true := by kernel_rfl

-- types: 3 4 9 25 34
set_option maxHeartbeats 1000000 in
theorem run5 (s : List UInt8) (n d : Int) (H : List HObj) : Run Try.prog fr 5 [.str s, .int .i64 n, .int .i64 d] H (.bool true) H := by
  refine run_of_body (C := c5) (W := w5) Try.func5 rfl k5 ?_
  -- region 0
  repeat (with_reducible refine c_seq ?_)
  refine c_region rfl ?_
  refine p_val rfl rfl rfl rfl (f0 rfl) ?_
  refine p_nil (q_endL rfl (t' := [(0, _), (1, _), (2, _)]) rfl (bx' := []) rfl (F' := []) rfl ?_)
  refine q_then ?_
  -- region 1
  repeat (with_reducible refine c_seq ?_)
  refine c_region rfl ?_
  refine p_val rfl rfl rfl rfl (f0 rfl) ?_
  refine p_val rfl rfl rfl (s_lenS rfl rfl rfl rfl ty9 rfl) (f0 rfl) ?_
  refine p_val rfl rfl rfl rfl (f0 rfl) ?_
  refine p_nil (q_endL rfl (t' := [(0, _), (1, _), (2, _), (23, _)]) rfl (bx' := []) rfl (F' := []) rfl ?_)
  refine q_then ?_
  repeat (with_reducible refine c_seq ?_)
  refine c_if rfl (fun hc => ?_) (fun hc => ?_)
  · skip
    -- region 2
    repeat (with_reducible refine c_seq ?_)
    refine c_region rfl ?_
    refine p_go rfl rfl rfl (run10 _) (f0 rfl) ?_
    refine p_val rfl rfl rfl rfl (f0 rfl) ?_
    refine p_nil (q_endL rfl (t' := [(6, _)]) rfl (bx' := []) rfl (F' := []) rfl ?_)
    refine q_then ?_
    refine c_ret ?_
    exact ⟨rfl, rfl, rfl⟩
  · have hlen : s.length ≤ 600 := by
      have h0 : ¬ (600 : Int) < (s.length : Nat) := of_decide_eq_false hc
      omega
    clear hc
    have hx3 : (s.take (s.length / 3 * 3)).length = s.length / 3 * 3 := by simp; omega
    have r12 : Run Try.prog fr 12 [.str (s.take (s.length / 3 * 3))] H (.tup [.str (enc (s.take (s.length / 3 * 3))), .int .i64 0]) H := by
      have h := run12 (s.take (s.length / 3 * 3)) H
      rw [encR, if_neg (by omega), if_neg (by omega)] at h
      exact h
    have hel := enc_mul (s.take (s.length / 3 * 3))
    have r11 : Run Try.prog fr 11 [.str (enc (s.take (s.length / 3 * 3)))] H (.tup [.str (s.take (s.length / 3 * 3)), .int .i64 0]) H := by
      have h := run11 (enc (s.take (s.length / 3 * 3))) H
      rw [decR, if_neg (by omega), if_neg (by omega), if_pos (enc_digits _), dec_enc _ (by omega)] at h
      exact h
    refine c_skip ?_
    refine q_then ?_
    -- on
    -- region 3
    repeat (with_reducible refine c_seq ?_)
    refine c_region rfl ?_
    refine p_val rfl rfl rfl rfl (f0 rfl) ?_
    refine p_val rfl rfl rfl rfl (f0 rfl) ?_
    refine p_val rfl rfl rfl (s_lenS rfl rfl rfl rfl ty9 rfl) (f0 rfl) ?_
    refine p_val rfl rfl rfl (s_bin rfl rfl rfl rfl (b_quok 3 rfl (by decide) (by omega))) (f0 rfl) ?_
    refine p_val rfl rfl rfl (s_bin rfl rfl rfl rfl (b_mulk 3 rfl (by omega))) (f0 rfl) ?_
    refine p_val rfl rfl rfl (s_sliceS rfl rfl ty9 rfl rfl rfl (bd_hiN (by omega))) (f0 rfl) ?_
    refine p_val rfl rfl rfl rfl (f0 rfl) ?_
    refine p_nil (q_endL rfl (t' := [(1, _), (2, _), (7, _)]) rfl (bx' := []) rfl (F' := []) rfl ?_)
    refine q_then ?_
    -- region 4
    repeat (with_reducible refine c_seq ?_)
    refine c_region rfl ?_
    refine p_val rfl rfl rfl rfl (f0 rfl) ?_
    refine p_go rfl rfl rfl r12 (f0 rfl) ?_
    refine p_val rfl rfl rfl rfl (f0 rfl) ?_
    refine p_val rfl rfl rfl rfl (f0 rfl) ?_
    refine p_val rfl rfl rfl rfl (f0 rfl) ?_
    refine p_val rfl rfl rfl rfl (f0 rfl) ?_
    refine p_val rfl rfl rfl rfl (f0 rfl) ?_
    refine p_nil (q_endL rfl (t' := [(1, _), (2, _), (7, _), (8, _), (9, _)]) rfl (bx' := []) rfl (F' := []) rfl ?_)
    refine q_then ?_
    -- region 5
    repeat (with_reducible refine c_seq ?_)
    refine c_region rfl ?_
    refine p_val rfl rfl rfl rfl (f0 rfl) ?_
    refine p_go rfl rfl rfl r11 (f0 rfl) ?_
    refine p_val rfl rfl rfl rfl (f0 rfl) ?_
    refine p_val rfl rfl rfl rfl (f0 rfl) ?_
    refine p_val rfl rfl rfl rfl (f0 rfl) ?_
    refine p_val rfl rfl rfl rfl (f0 rfl) ?_
    refine p_val rfl rfl rfl rfl (f0 rfl) ?_
    refine p_nil (q_endL rfl (t' := [(1, _), (2, _), (7, _), (8, _), (9, _), (10, _), (11, _)]) rfl (bx' := []) rfl (F' := []) rfl ?_)
    refine q_then ?_
    -- region 6
    repeat (with_reducible refine c_seq ?_)
    refine c_region rfl ?_
    refine p_val rfl rfl rfl rfl (f0 rfl) ?_
    refine p_val rfl rfl rfl rfl (f0 rfl) ?_
    refine p_val rfl rfl rfl rfl (f0 rfl) ?_
    refine p_val rfl rfl rfl rfl (f0 rfl) ?_
    refine p_val rfl rfl rfl rfl (f0 rfl) ?_
    refine p_val rfl rfl rfl rfl (f0 rfl) ?_
    refine p_val rfl rfl rfl rfl (f0 rfl) ?_
    refine p_val rfl rfl rfl rfl (f0 rfl) ?_
    refine p_val rfl rfl rfl rfl (f0 rfl) ?_
    refine p_val rfl rfl rfl (s_bin rfl rfl rfl rfl (b_neS rfl)) (f0 rfl) ?_
    refine p_val rfl rfl rfl rfl (f0 rfl) ?_
    refine p_val rfl rfl rfl rfl (f0 rfl) ?_
    refine p_val rfl rfl rfl rfl (f0 rfl) ?_
    refine p_val rfl rfl rfl (s_lenS rfl rfl rfl rfl ty9 rfl) (f0 rfl) ?_
    refine p_val rfl rfl rfl rfl (f0 rfl) ?_
    refine p_val rfl rfl rfl (s_lenS rfl rfl rfl rfl ty9 rfl) (f0 rfl) ?_
    refine p_val rfl rfl rfl (s_bin rfl rfl rfl rfl (b_quok 3 rfl (by decide) (by simp; omega))) (f0 rfl) ?_
    refine p_val rfl rfl rfl (s_bin rfl rfl rfl rfl (b_mulk 4 rfl (by simp; omega))) (f0 rfl) ?_
    refine p_val rfl rfl rfl (s_bin rfl rfl rfl rfl (b_neN (by rw [hel]; simp))) (f0 rfl) ?_
    refine p_val rfl rfl rfl rfl (f0 rfl) ?_
    refine p_nil (q_endL rfl (t' := [(1, _), (2, _), (8, _), (60, _)]) rfl (bx' := []) rfl (F' := []) rfl ?_)
    refine q_then ?_
    repeat (with_reducible refine c_seq ?_)
    refine c_if rfl (fun hc => ?_) (fun hc => ?_)
    · exact absurd hc (by decide)
    · skip
      refine c_skip ?_
      refine q_then ?_
      -- on
      -- region 8
      repeat (with_reducible refine c_seq ?_)
      refine c_region rfl ?_
      refine p_val rfl rfl rfl rfl (f0 rfl) ?_
      refine p_val rfl rfl rfl (s_lenS rfl rfl rfl rfl ty9 rfl) (f0 rfl) ?_
      refine p_val rfl rfl rfl rfl (f0 rfl) ?_
      refine p_nil (q_endL rfl (t' := [(1, _), (2, _), (8, _), (62, _), (63, _)]) rfl (bx' := []) rfl (F' := []) rfl ?_)
      refine q_then ?_
      repeat (with_reducible refine c_seq ?_)
      refine c_block ?_
      refine c_loopH (fun e => ∃ i : Nat, e = ⟨[(1, .v (.int .i64 n)), (2, .v (.int .i64 d)), (8, .v (.str (enc (s.take (s.length / 3 * 3))))), (62, .v (.int .i64 ((enc (s.take (s.length / 3 * 3))).length : Nat))), (63, .v (.int .i64 (i : Int)))], [], H, []⟩ ∧ i ≤ (enc (s.take (s.length / 3 * 3))).length) (fun e => match lkp e.t 63 with | some (.v (.int _ i)) => (1000 - i).toNat | _ => 0) rfl (t' := [(1, _), (2, _), (8, _), (62, _), (63, _)]) rfl (bx' := []) rfl (F' := []) rfl ?_ ?_
      · exact ⟨0, rfl, by omega⟩
      rintro e ⟨i, rfl, hi⟩
      -- region 9
      repeat (with_reducible refine c_seq ?_)
      refine c_region rfl ?_
      refine p_val rfl rfl rfl rfl (f0 rfl) ?_
      refine p_nil (q_endL rfl (t' := [(1, _), (2, _), (8, _), (62, _), (63, _), (64, _)]) rfl (bx' := []) rfl (F' := []) rfl ?_)
      refine q_then ?_
      repeat (with_reducible refine c_seq ?_)
      refine c_if rfl (fun hc => ?_) (fun hc => ?_)
      · have hi2 : i < (enc (s.take (s.length / 3 * 3))).length := by have := of_decide_eq_true hc; omega
        obtain ⟨b, hb⟩ : ∃ b, (enc (s.take (s.length / 3 * 3)))[i]? = some b := ⟨_, List.getElem?_eq_getElem hi2⟩
        have hbd : isD b = true := List.all_eq_true.mp (enc_digits (s.take (s.length / 3 * 3))) b (List.mem_of_getElem? hb)
        have r8 : Run Try.prog fr 8 [byteP b] H (.tup [.int .i64 ((vl b : Nat) : Int), .bool true]) H := hbd ▸ run8' b H
        refine c_skip ?_
        refine q_then ?_
        -- on
        repeat (with_reducible refine c_seq ?_)
        refine c_block ?_
        -- region 10
        repeat (with_reducible refine c_seq ?_)
        refine c_region rfl ?_
        refine p_val rfl rfl rfl rfl (f0 rfl) ?_
        refine p_val rfl rfl rfl rfl (f0 rfl) ?_
        refine p_nil (q_endL rfl (t' := [(1, _), (2, _), (8, _), (12, _), (62, _), (63, _)]) rfl (bx' := []) rfl (F' := []) rfl ?_)
        refine q_then ?_
        -- region 11
        repeat (with_reducible refine c_seq ?_)
        refine c_region rfl ?_
        refine p_val rfl rfl rfl rfl (f0 rfl) ?_
        refine p_val rfl rfl rfl rfl (f0 rfl) ?_
        refine p_val rfl rfl rfl (s_indexS rfl rfl ty9 rfl rfl (by omega) (by rw [Int.toNat_natCast]; exact hb)) (f0 rfl) ?_
        refine p_go rfl rfl rfl r8 (f0 rfl) ?_
        refine p_val rfl rfl rfl rfl (f0 rfl) ?_
        refine p_val rfl rfl rfl rfl (f0 rfl) ?_
        refine p_val rfl rfl rfl rfl (f0 rfl) ?_
        refine p_val rfl rfl rfl rfl (f0 rfl) ?_
        refine p_val rfl rfl rfl rfl (f0 rfl) ?_
        refine p_nil (q_endL rfl (t' := [(1, _), (2, _), (8, _), (14, _), (62, _), (63, _)]) rfl (bx' := []) rfl (F' := []) rfl ?_)
        refine q_then ?_
        -- region 12
        repeat (with_reducible refine c_seq ?_)
        refine c_region rfl ?_
        refine p_val rfl rfl rfl rfl (f0 rfl) ?_
        refine p_val rfl rfl rfl rfl (f0 rfl) ?_
        refine p_nil (q_endL rfl (t' := [(1, _), (2, _), (8, _), (62, _), (63, _), (74, _)]) rfl (bx' := []) rfl (F' := []) rfl ?_)
        refine q_then ?_
        repeat (with_reducible refine c_seq ?_)
        refine c_if rfl (fun hc => ?_) (fun hc => ?_)
        · exact absurd hc (by decide)
        · skip
          refine c_skip ?_
          repeat (with_reducible refine q_then ?_)
          refine i_norm ?_
          refine q_then ?_
          -- on
          -- region 14
          repeat (with_reducible refine c_seq ?_)
          refine c_region rfl ?_
          refine p_val rfl rfl rfl (s_bin rfl rfl rfl rfl (b_addk 1 rfl (by omega))) (f0 rfl) ?_
          refine p_val rfl rfl rfl rfl (f0 rfl) ?_
          refine p_nil (q_endL rfl (t' := [(1, _), (2, _), (8, _), (62, _), (63, _)]) rfl (bx' := []) rfl (F' := []) rfl ?_)
          refine l_normH rfl (t' := [(1, _), (2, _), (8, _), (62, _), (63, _)]) rfl (bx' := []) rfl (F' := []) rfl ?_ ?_
          · exact ⟨i + 1, rfl, by omega⟩
          · simp [lkp]; omega
      · obtain ⟨j, hj, e1⟩ := mod_nat d (b := 8) (by decide) (by decide)
        have r7 : Run Try.prog fr 7 [.int .i64 d, .int .i64 8] H (.int .i64 (j : Int)) H := e1 ▸ run7 d 8 H
        have hp : 2 ^ (6 * (1 + j)) ≤ 2 ^ 48 := Nat.pow_le_pow_right (by decide) (by omega)
        have hp1 : 1 ≤ 2 ^ (6 * (1 + j)) := Nat.one_le_two_pow
        obtain ⟨m, hm, e2⟩ := mod_nat n (b := 2 ^ (6 * (1 + j))) hp1 (by omega)
        have r7' : Run Try.prog fr 7 [.int .i64 n, .int .i64 ((1 * 2 ^ (6 * (1 + j)) : Nat) : Int)] H (.int .i64 (m : Int)) H := by
          rw [Nat.one_mul, ← e2]; exact run7 n _ H
        have r13 : Run Try.prog fr 13 [.int .i64 (m : Int), .int .i64 ((1 + j : Nat) : Int)] H (.tup [.str (dgs m (1 + j)), .int .i64 0]) H := by
          have h := run13 (m : Int) ((1 + j : Nat) : Int) (by omega) H
          rw [nbrR, if_neg (by rw [Int.toNat_natCast, Int.toNat_natCast]; omega)] at h
          exact h
        have r14 : Run Try.prog fr 14 [.str (dgs m (1 + j))] H (.tup [.int .i64 (m : Int), .int .i64 0]) H := by
          have h := run14 (dgs m (1 + j)) H
          rw [parR, if_neg (by rw [dgs_len]; omega), if_pos (dgs_isD _ _), num_dgs hm] at h
          exact h
        refine c_exit ?_
        repeat (with_reducible first | refine q_exit ?_ | refine l_exit ?_ | refine i_past (by decide) ?_)
        refine i_here ?_
        refine q_then ?_
        -- on
        -- region 15
        repeat (with_reducible refine c_seq ?_)
        refine c_region rfl ?_
        refine p_val rfl rfl rfl rfl (f0 rfl) ?_
        refine p_go rfl rfl rfl r7 (f0 rfl) ?_
        refine p_val rfl rfl rfl (s_bin rfl rfl rfl rfl (b_kadd 1 rfl (by omega))) (f0 rfl) ?_
        refine p_val rfl rfl rfl rfl (f0 rfl) ?_
        refine p_nil (q_endL rfl (t' := [(1, _), (15, _)]) rfl (bx' := []) rfl (F' := []) rfl ?_)
        refine q_then ?_
        -- region 16
        repeat (with_reducible refine c_seq ?_)
        refine c_region rfl ?_
        refine p_val rfl rfl rfl rfl (f0 rfl) ?_
        refine p_val rfl rfl rfl rfl (f0 rfl) ?_
        refine p_val rfl rfl rfl (s_bin rfl rfl rfl rfl (b_kmul 6 rfl (by omega))) (f0 rfl) ?_
        refine p_val rfl rfl rfl (s_convert rfl rfl rfl (v_u64 ty3 ty34 (by omega))) (f0 rfl) ?_
        refine p_val rfl rfl rfl (s_bin rfl rfl rfl rfl (b_shlk (m := 1) (6 * (1 + j)) rfl (by omega) (by omega))) (f0 rfl) ?_
        refine p_go rfl rfl rfl r7' (f0 rfl) ?_
        refine p_val rfl rfl rfl rfl (f0 rfl) ?_
        refine p_nil (q_endL rfl (t' := [(15, _), (16, _)]) rfl (bx' := []) rfl (F' := []) rfl ?_)
        refine q_then ?_
        -- region 17
        repeat (with_reducible refine c_seq ?_)
        refine c_region rfl ?_
        refine p_val rfl rfl rfl rfl (f0 rfl) ?_
        refine p_val rfl rfl rfl rfl (f0 rfl) ?_
        refine p_go rfl rfl rfl r13 (f0 rfl) ?_
        refine p_val rfl rfl rfl rfl (f0 rfl) ?_
        refine p_val rfl rfl rfl rfl (f0 rfl) ?_
        refine p_val rfl rfl rfl rfl (f0 rfl) ?_
        refine p_val rfl rfl rfl rfl (f0 rfl) ?_
        refine p_val rfl rfl rfl rfl (f0 rfl) ?_
        refine p_nil (q_endL rfl (t' := [(15, _), (16, _), (17, _), (18, _)]) rfl (bx' := []) rfl (F' := []) rfl ?_)
        refine q_then ?_
        -- region 18
        repeat (with_reducible refine c_seq ?_)
        refine c_region rfl ?_
        refine p_val rfl rfl rfl rfl (f0 rfl) ?_
        refine p_go rfl rfl rfl r14 (f0 rfl) ?_
        refine p_val rfl rfl rfl rfl (f0 rfl) ?_
        refine p_val rfl rfl rfl rfl (f0 rfl) ?_
        refine p_val rfl rfl rfl rfl (f0 rfl) ?_
        refine p_val rfl rfl rfl rfl (f0 rfl) ?_
        refine p_val rfl rfl rfl rfl (f0 rfl) ?_
        refine p_nil (q_endL rfl (t' := [(15, _), (16, _), (17, _), (18, _), (19, _), (20, _)]) rfl (bx' := []) rfl (F' := []) rfl ?_)
        refine q_then ?_
        -- region 19
        repeat (with_reducible refine c_seq ?_)
        refine c_region rfl ?_
        refine p_val rfl rfl rfl rfl (f0 rfl) ?_
        refine p_val rfl rfl rfl rfl (f0 rfl) ?_
        refine p_val rfl rfl rfl rfl (f0 rfl) ?_
        refine p_val rfl rfl rfl rfl (f0 rfl) ?_
        refine p_val rfl rfl rfl rfl (f0 rfl) ?_
        refine p_val rfl rfl rfl rfl (f0 rfl) ?_
        refine p_val rfl rfl rfl rfl (f0 rfl) ?_
        refine p_val rfl rfl rfl rfl (f0 rfl) ?_
        refine p_val rfl rfl rfl rfl (f0 rfl) ?_
        refine p_val rfl rfl rfl (s_bin rfl rfl rfl rfl (b_eqN rfl)) (f0 rfl) ?_
        refine p_val rfl rfl rfl rfl (f0 rfl) ?_
        refine p_val rfl rfl rfl rfl (f0 rfl) ?_
        refine p_val rfl rfl rfl rfl (f0 rfl) ?_
        refine p_val rfl rfl rfl (s_lenS rfl rfl rfl rfl ty9 rfl) (f0 rfl) ?_
        refine p_val rfl rfl rfl rfl (f0 rfl) ?_
        refine p_val rfl rfl rfl (s_bin rfl rfl rfl rfl (b_eqN (by rw [dgs_len]))) (f0 rfl) ?_
        refine p_val rfl rfl rfl rfl (f0 rfl) ?_
        refine p_val rfl rfl rfl rfl (f0 rfl) ?_
        refine p_go rfl rfl rfl (run10 _) (f0 rfl) ?_
        refine p_val rfl rfl rfl rfl (f0 rfl) ?_
        refine p_val rfl rfl rfl rfl (f0 rfl) ?_
        refine p_nil (q_endL rfl (t' := [(6, _)]) rfl (bx' := []) rfl (F' := []) rfl ?_)
        refine q_then ?_
        refine c_ret ?_
        exact ⟨rfl, rfl, rfl⟩

end Go.Proofs.Ytielbjjdgdblcaa.B

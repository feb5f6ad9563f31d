/- Law 01: there are 64 digits, each with its own number. -/
import Derived.Test.YtielbjjdgdblcaaB10
namespace Go.Proofs.Ytielbjjdgdblcaa.B
open Go Go.Proofs Go.Proofs.Ytielbjjdgdblcaa.Vm

theorem vts : (List.range 256).map vt = [0, 0, 0, 0, 0, 0, 0, 0, 0, 0, 0, 0, 0, 0, 0, 0, 0, 0, 0, 0, 0, 0, 0, 0, 0, 0, 0, 0, 0, 0, 0, 0, 0, 0, 0, 0, 0, 0, 0, 0, 0, 0, 0, 0, 0, 63, 0, 0, 53, 54, 55, 56, 57, 58, 59, 60, 61, 62, 0, 0, 0, 0, 0, 0, 0, 1, 2, 3, 4, 5, 6, 7, 8, 9, 10, 11, 12, 13, 14, 15, 16, 17, 18, 19, 20, 21, 22, 23, 24, 25, 26, 0, 0, 0, 0, 64, 0, 27, 28, 29, 30, 31, 32, 33, 34, 35, 36, 37, 38, 39, 40, 41, 42, 43, 44, 45, 46, 47, 48, 49, 50, 51, 52, 0, 0, 0, 0, 0, 0, 0, 0, 0, 0, 0, 0, 0, 0, 0, 0, 0, 0, 0, 0, 0, 0, 0, 0, 0, 0, 0, 0, 0, 0, 0, 0, 0, 0, 0, 0, 0, 0, 0, 0, 0, 0, 0, 0, 0, 0, 0, 0, 0, 0, 0, 0, 0, 0, 0, 0, 0, 0, 0, 0, 0, 0, 0, 0, 0, 0, 0, 0, 0, 0, 0, 0, 0, 0, 0, 0, 0, 0, 0, 0, 0, 0, 0, 0, 0, 0, 0, 0, 0, 0, 0, 0, 0, 0, 0, 0, 0, 0, 0, 0, 0, 0, 0, 0, 0, 0, 0, 0, 0, 0, 0, 0, 0, 0, 0, 0, 0, 0, 0, 0, 0, 0, 0, 0, 0, 0, 0, 0, 0, 0, 0, 0, 0] := by kernel_rfl
theorem vts_one : (List.range 64).all (fun k => [0, 0, 0, 0, 0, 0, 0, 0, 0, 0, 0, 0, 0, 0, 0, 0, 0, 0, 0, 0, 0, 0, 0, 0, 0, 0, 0, 0, 0, 0, 0, 0, 0, 0, 0, 0, 0, 0, 0, 0, 0, 0, 0, 0, 0, 63, 0, 0, 53, 54, 55, 56, 57, 58, 59, 60, 61, 62, 0, 0, 0, 0, 0, 0, 0, 1, 2, 3, 4, 5, 6, 7, 8, 9, 10, 11, 12, 13, 14, 15, 16, 17, 18, 19, 20, 21, 22, 23, 24, 25, 26, 0, 0, 0, 0, 64, 0, 27, 28, 29, 30, 31, 32, 33, 34, 35, 36, 37, 38, 39, 40, 41, 42, 43, 44, 45, 46, 47, 48, 49, 50, 51, 52, 0, 0, 0, 0, 0, 0, 0, 0, 0, 0, 0, 0, 0, 0, 0, 0, 0, 0, 0, 0, 0, 0, 0, 0, 0, 0, 0, 0, 0, 0, 0, 0, 0, 0, 0, 0, 0, 0, 0, 0, 0, 0, 0, 0, 0, 0, 0, 0, 0, 0, 0, 0, 0, 0, 0, 0, 0, 0, 0, 0, 0, 0, 0, 0, 0, 0, 0, 0, 0, 0, 0, 0, 0, 0, 0, 0, 0, 0, 0, 0, 0, 0, 0, 0, 0, 0, 0, 0, 0, 0, 0, 0, 0, 0, 0, 0, 0, 0, 0, 0, 0, 0, 0, 0, 0, 0, 0, 0, 0, 0, 0, 0, 0, 0, 0, 0, 0, 0, 0, 0, 0, 0, 0, 0, 0, 0, 0, 0, 0, 0, 0, 0, 0].countP (· == k + 1) == 1) = true := by decide +kernel
theorem dg_vt : (List.range 64).all (fun k => vt (dg k).toNat == k + 1) = true := by decide +kernel
def cnt (k c : Nat) : Nat := ((List.range c).map vt).countP (· == k + 1)
theorem cnt_one {k : Nat} (h : k < 64) : cnt k 256 = 1 := by
  have := List.all_eq_true.mp vts_one k (List.mem_range.mpr h)
  rw [cnt, vts]; exact eq_of_beq this
theorem cnt_succ (k c : Nat) : cnt k (c + 1) = cnt k c + (if vt c = k + 1 then 1 else 0) := by
  simp [cnt, List.range_succ]
theorem cnt_le (k c : Nat) : cnt k c ≤ c := by
  have := List.countP_le_length (p := (· == k + 1)) (l := (List.range c).map vt)
  simpa [cnt] using this
theorem vt_dg {k : Nat} (h : k < 64) : vt (dg k).toNat = k + 1 := by
  have := List.all_eq_true.mp dg_vt k (List.mem_range.mpr h)
  simpa using this
theorem vl_dg {k : Nat} (h : k < 64) : vl (dg k) = k := by rw [vl, vt_dg h]; rfl
theorem isD_dg {k : Nat} (h : k < 64) : isD (dg k) = true := by rw [isD, vt_dg h]; rfl
theorem mod_nat (a : Int) {b : Nat} (h0 : 1 ≤ b) (h : b ≤ 4611686018427387904) : ∃ m : Nat, m < b ∧ modR a b = m := by
  have h1 : (b : Int) ≠ 0 := by omega
  have h2 : -(b : Int) < a.tmod b := by have := Int.lt_tmod_of_pos a (show (0 : Int) < b by omega); omega
  have h3 : a.tmod b < b := Int.tmod_lt_of_pos a (by omega)
  have h4 : modR a b = (a.tmod b + b).tmod b := by
    rw [modR, if_neg (by omega), wr64 (by omega) (by omega)]
  have h5 : 0 ≤ modR a b := by rw [h4]; exact Int.tmod_nonneg _ (by omega)
  have h6 : modR a b < b := by rw [h4]; exact Int.tmod_lt_of_pos _ (by omega)
  exact ⟨(modR a b).toNat, by omega, by omega⟩
theorem run9k {k : Nat} (h : k < 64) (H : List HObj) : Run Try.prog fr 9 [.int .i64 (k : Int)] H (.tup [byteP (dg k), .int .i64 0]) H := by
  have e : digR (k : Int) = .tup [byteP (dg k), .int .i64 0] := by rw [digR, if_neg (by omega)]; rfl
  exact e ▸ run9 (k : Int) H
theorem run8k {k : Nat} (h : k < 64) (H : List HObj) : Run Try.prog fr 8 [byteP (dg k)] H (.tup [.int .i64 (k : Int), .bool true]) H := by
  have := run8' (dg k) H
  rwa [vl_dg h, isD_dg h] at this
theorem run9a (H : List HObj) : Run Try.prog fr 9 [.int .i64 (-1)] H (.tup [.int .u8 0, .int .i64 2]) H := by
  have e : digR (-1) = .tup [.int .u8 0, .int .i64 2] := by rw [digR, if_pos (by decide)]
  exact e ▸ run9 (-1) H
theorem run9b (H : List HObj) : Run Try.prog fr 9 [.int .i64 64] H (.tup [.int .u8 0, .int .i64 2]) H := by
  have e : digR 64 = .tup [.int .u8 0, .int .i64 2] := by rw [digR, if_pos (by decide)]
  exact e ▸ run9 64 H
theorem eql64 {ty : TypeId} {a b : Int} : binP Try.prog .eql ty (.int .i64 a) (.int .i64 b) = some (.bool (a == b)) := rfl
theorem eq64 {ty : TypeId} {a b : Int} (h : a = b) : binP Try.prog .eql ty (.int .i64 a) (.int .i64 b) = some (.bool true) := by
  subst h
  show some (PV.bool (a == a)) = _
  simp

noncomputable def c3 : Ctx := { P := Try.prog, box := [], esc := [], own := false, fr := fr, n := 79, slots := [] }
def w3 : Wk := { live := [(0, [0]), (1, [3]), (2, [3, 4]), (3, [3, 4, 18]), (4, [3, 4, 18, 19]), (5, [3, 4, 5, 18]), (6, [3, 4, 6, 7, 18]), (7, [3, 4, 18, 32]), (8, [3, 4, 18]), (9, [3, 4, 18]), (10, [3, 4, 8, 9]), (11, [3, 4, 9, 10, 11]), (12, [3, 4, 9, 10, 11, 13]), (13, [3, 4, 9, 10, 11, 13, 15]), (14, [2])], head := [(0, [3, 4, 18])], tr := [] }
theorem k3 : chkFn c3 Try.f3 1 = true := by kernel_rfl

-- types: 3 5 25
set_option maxHeartbeats 1000000 in
theorem run3 (n : Int) (H : List HObj) : Run Try.prog fr 3 [.int .i64 n] H (.bool true) H := by
  obtain ⟨k, hk, e0⟩ := mod_nat n (b := 64) (by decide) (by decide)
  have r7 : Run Try.prog fr 7 [.int .i64 n, .int .i64 64] H (.int .i64 (k : Int)) H := e0 ▸ run7 n 64 H
  refine run_of_body (C := c3) (W := w3) Try.func3 rfl k3 ?_
  -- region 0
  repeat (with_reducible refine c_seq ?_)
  refine c_region rfl ?_
  refine p_val rfl rfl rfl rfl (f0 rfl) ?_
  refine p_nil (q_endL rfl (t' := [(0, _)]) rfl (bx' := []) rfl (F' := []) rfl ?_)
  refine q_then ?_
  -- region 1
  repeat (with_reducible refine c_seq ?_)
  refine c_region rfl ?_
  refine p_val rfl rfl rfl rfl (f0 rfl) ?_
  refine p_go rfl rfl rfl r7 (f0 rfl) ?_
  refine p_val rfl rfl rfl rfl (f0 rfl) ?_
  refine p_nil (q_endL rfl (t' := [(3, _)]) rfl (bx' := []) rfl (F' := []) rfl ?_)
  refine q_then ?_
  -- region 2
  repeat (with_reducible refine c_seq ?_)
  refine c_region rfl ?_
  refine p_val rfl rfl rfl rfl (f0 rfl) ?_
  refine p_nil (q_endL rfl (t' := [(3, _), (4, _)]) rfl (bx' := []) rfl (F' := []) rfl ?_)
  refine q_then ?_
  -- region 3
  repeat (with_reducible refine c_seq ?_)
  refine c_region rfl ?_
  refine p_val rfl rfl rfl rfl (f0 rfl) ?_
  refine p_nil (q_endL rfl (t' := [(3, _), (4, _), (18, _)]) rfl (bx' := []) rfl (F' := []) rfl ?_)
  refine q_then ?_
  repeat (with_reducible refine c_seq ?_)
  refine c_block ?_
  refine c_loopH (fun e => ∃ c : Nat, e = ⟨[(3, .v (.int .i64 (k : Int))), (4, .v (.int .i64 ((cnt k c : Nat) : Int))), (18, .v (.int .i64 (c : Int)))], [], H, []⟩ ∧ c ≤ 256) (fun e => match lkp e.t 18 with | some (.v (.int _ k)) => (256 - k).toNat | _ => 0) rfl (t' := [(3, _), (4, _), (18, _)]) rfl (bx' := []) rfl (F' := []) rfl ?_ ?_
  · exact ⟨0, rfl, by omega⟩
  rintro e ⟨c, rfl, h5⟩
  -- region 4
  repeat (with_reducible refine c_seq ?_)
  refine c_region rfl ?_
  refine p_val rfl rfl rfl rfl (f0 rfl) ?_
  refine p_nil (q_endL rfl (t' := [(3, _), (4, _), (18, _), (19, _)]) rfl (bx' := []) rfl (F' := []) rfl ?_)
  refine q_then ?_
  repeat (with_reducible refine c_seq ?_)
  refine c_if rfl (fun hc => ?_) (fun hc => ?_)
  · have hc2 : c < 256 := by have := of_decide_eq_true hc; omega
    have r8 : Run Try.prog fr 8 [.int .u8 ((c % 256 : Nat) : Int)] H _ H := byteP_ofNat c ▸ run8' (UInt8.ofNat c) H
    refine c_skip ?_
    refine q_then ?_
    -- on
    repeat (with_reducible refine c_seq ?_)
    refine c_block ?_
    -- region 5
    repeat (with_reducible refine c_seq ?_)
    refine c_region rfl ?_
    refine p_val rfl rfl rfl rfl (f0 rfl) ?_
    refine p_val rfl rfl rfl rfl (f0 rfl) ?_
    refine p_nil (q_endL rfl (t' := [(3, _), (4, _), (5, _), (18, _)]) rfl (bx' := []) rfl (F' := []) rfl ?_)
    refine q_then ?_
    -- region 6
    repeat (with_reducible refine c_seq ?_)
    refine c_region rfl ?_
    refine p_val rfl rfl rfl rfl (f0 rfl) ?_
    refine p_val rfl rfl rfl (s_convert rfl rfl rfl (v_8 ty3 ty5)) (f0 rfl) ?_
    refine p_go rfl rfl rfl r8 (f0 rfl) ?_
    refine p_val rfl rfl rfl rfl (f0 rfl) ?_
    refine p_val rfl rfl rfl rfl (f0 rfl) ?_
    refine p_val rfl rfl rfl rfl (f0 rfl) ?_
    refine p_val rfl rfl rfl rfl (f0 rfl) ?_
    refine p_val rfl rfl rfl rfl (f0 rfl) ?_
    refine p_nil (q_endL rfl (t' := [(3, _), (4, _), (6, _), (7, _), (18, _)]) rfl (bx' := []) rfl (F' := []) rfl ?_)
    refine q_then ?_
    -- region 7
    repeat (with_reducible refine c_seq ?_)
    refine c_region rfl ?_
    refine p_val rfl rfl rfl rfl (f0 rfl) ?_
    refine p_val rfl rfl rfl rfl (f0 rfl) ?_
    refine p_gval rfl rfl (fun hb => ⟨by first | exact rfl | (rw [hb]; exact rfl), by first | exact rfl | (rw [hb]; exact rfl), g0 rfl, rfl⟩) ?_
    refine p_gval rfl rfl (fun hb => ⟨by first | exact rfl | (rw [hb]; exact rfl), by first | exact rfl | (rw [hb]; exact rfl), g0 rfl, rfl⟩) ?_
    refine p_gval rfl rfl (fun hb => ⟨by first | exact rfl | (rw [hb]; exact rfl), by first | exact rfl | (rw [hb]; exact rfl), g0 rfl, by simp only [gv_true hb]; exact s_bin rfl rfl rfl rfl eql64⟩) ?_
    refine p_val rfl rfl rfl (s_and rfl rfl rfl rfl) (f0 rfl) ?_
    refine p_nil (q_endL rfl (t' := [(3, _), (4, _), (18, _), (32, _)]) rfl (bx' := []) rfl (F' := []) rfl ?_)
    refine q_then ?_
    repeat (with_reducible refine c_seq ?_)
    refine c_if rfl (fun hc => ?_) (fun hc => ?_)
    · have hv : (isD (UInt8.ofNat c) && ((vl (UInt8.ofNat c) : Nat) : Int) == (k : Int)) = decide (vt c = k + 1) := by
        have e1 : (UInt8.ofNat c).toNat = c := by simp; omega
        rw [isD, vl, e1]
        by_cases h0 : vt c = 0
        · simp [h0]
        · have : (((vt c - 1 : Nat) : Int) == (k : Int)) = decide (vt c = k + 1) := by
            rw [Bool.eq_iff_iff]; simp; omega
          rw [this]; simp [h0]
      rw [hv] at hc
      have hv1 : vt c = k + 1 := of_decide_eq_true hc
      -- region 8
      repeat (with_reducible refine c_seq ?_)
      refine c_region rfl ?_
      refine p_val rfl rfl rfl rfl (f0 rfl) ?_
      refine p_val rfl rfl rfl (s_bin rfl rfl rfl rfl (b_addk 1 rfl (by have := cnt_le k c; omega))) (f0 rfl) ?_
      refine p_val rfl rfl rfl rfl (f0 rfl) ?_
      refine p_nil (q_endL rfl (t' := [(3, _), (4, _), (18, _)]) rfl (bx' := []) rfl (F' := []) rfl ?_)
      repeat (with_reducible refine q_then ?_)
      refine i_norm ?_
      refine q_then ?_
      -- on
      -- region 9
      repeat (with_reducible refine c_seq ?_)
      refine c_region rfl ?_
      refine p_val rfl rfl rfl (s_bin rfl rfl rfl rfl (b_addk 1 rfl (by omega))) (f0 rfl) ?_
      refine p_val rfl rfl rfl rfl (f0 rfl) ?_
      refine p_nil (q_endL rfl (t' := [(3, _), (4, _), (18, _)]) rfl (bx' := []) rfl (F' := []) rfl ?_)
      refine l_normH rfl (t' := [(3, _), (4, _), (18, _)]) rfl (bx' := []) rfl (F' := []) rfl ?_ ?_
      · exact ⟨c + 1, by rw [cnt_succ, if_pos hv1], by omega⟩
      · simp [lkp]; omega
    · have hv : (isD (UInt8.ofNat c) && ((vl (UInt8.ofNat c) : Nat) : Int) == (k : Int)) = decide (vt c = k + 1) := by
        have e1 : (UInt8.ofNat c).toNat = c := by simp; omega
        rw [isD, vl, e1]
        by_cases h0 : vt c = 0
        · simp [h0]
        · have : (((vt c - 1 : Nat) : Int) == (k : Int)) = decide (vt c = k + 1) := by
            rw [Bool.eq_iff_iff]; simp; omega
          rw [this]; simp [h0]
      rw [hv] at hc
      have hv1 : ¬ vt c = k + 1 := of_decide_eq_false hc
      refine c_skip ?_
      repeat (with_reducible refine q_then ?_)
      refine i_norm ?_
      refine q_then ?_
      -- on
      -- region 9
      repeat (with_reducible refine c_seq ?_)
      refine c_region rfl ?_
      refine p_val rfl rfl rfl (s_bin rfl rfl rfl rfl (b_addk 1 rfl (by omega))) (f0 rfl) ?_
      refine p_val rfl rfl rfl rfl (f0 rfl) ?_
      refine p_nil (q_endL rfl (t' := [(3, _), (4, _), (18, _)]) rfl (bx' := []) rfl (F' := []) rfl ?_)
      refine l_normH rfl (t' := [(3, _), (4, _), (18, _)]) rfl (bx' := []) rfl (F' := []) rfl ?_ ?_
      · exact ⟨c + 1, by rw [cnt_succ, if_neg hv1]; rfl, by omega⟩
      · simp [lkp]; omega
  · have hc2 : c = 256 := by have := of_decide_eq_false hc; omega
    subst hc2
    rw [cnt_one hk]
    refine c_exit ?_
    repeat (with_reducible first | refine q_exit ?_ | refine l_exit ?_ | refine i_past (by decide) ?_)
    refine i_here ?_
    refine q_then ?_
    -- on
    -- region 10
    repeat (with_reducible refine c_seq ?_)
    refine c_region rfl ?_
    refine p_val rfl rfl rfl rfl (f0 rfl) ?_
    refine p_go rfl rfl rfl (run9k hk _) (f0 rfl) ?_
    refine p_val rfl rfl rfl rfl (f0 rfl) ?_
    refine p_val rfl rfl rfl rfl (f0 rfl) ?_
    refine p_val rfl rfl rfl rfl (f0 rfl) ?_
    refine p_val rfl rfl rfl rfl (f0 rfl) ?_
    refine p_val rfl rfl rfl rfl (f0 rfl) ?_
    refine p_nil (q_endL rfl (t' := [(3, _), (4, _), (8, _), (9, _)]) rfl (bx' := []) rfl (F' := []) rfl ?_)
    refine q_then ?_
    -- region 11
    repeat (with_reducible refine c_seq ?_)
    refine c_region rfl ?_
    refine p_val rfl rfl rfl rfl (f0 rfl) ?_
    refine p_go rfl rfl rfl (run8k hk _) (f0 rfl) ?_
    refine p_val rfl rfl rfl rfl (f0 rfl) ?_
    refine p_val rfl rfl rfl rfl (f0 rfl) ?_
    refine p_val rfl rfl rfl rfl (f0 rfl) ?_
    refine p_val rfl rfl rfl rfl (f0 rfl) ?_
    refine p_val rfl rfl rfl rfl (f0 rfl) ?_
    refine p_nil (q_endL rfl (t' := [(3, _), (4, _), (9, _), (10, _), (11, _)]) rfl (bx' := []) rfl (F' := []) rfl ?_)
    refine q_then ?_
    -- region 12
    repeat (with_reducible refine c_seq ?_)
    refine c_region rfl ?_
    refine p_go rfl rfl rfl (run9a _) (f0 rfl) ?_
    refine p_val rfl rfl rfl rfl (f0 rfl) ?_
    refine p_val rfl rfl rfl rfl (f0 rfl) ?_
    refine p_val rfl rfl rfl rfl (f0 rfl) ?_
    refine p_val rfl rfl rfl rfl (f0 rfl) ?_
    refine p_val rfl rfl rfl rfl (f0 rfl) ?_
    refine p_nil (q_endL rfl (t' := [(3, _), (4, _), (9, _), (10, _), (11, _), (13, _)]) rfl (bx' := []) rfl (F' := []) rfl ?_)
    refine q_then ?_
    -- region 13
    repeat (with_reducible refine c_seq ?_)
    refine c_region rfl ?_
    refine p_go rfl rfl rfl (run9b _) (f0 rfl) ?_
    refine p_val rfl rfl rfl rfl (f0 rfl) ?_
    refine p_val rfl rfl rfl rfl (f0 rfl) ?_
    refine p_val rfl rfl rfl rfl (f0 rfl) ?_
    refine p_val rfl rfl rfl rfl (f0 rfl) ?_
    refine p_val rfl rfl rfl rfl (f0 rfl) ?_
    refine p_nil (q_endL rfl (t' := [(3, _), (4, _), (9, _), (10, _), (11, _), (13, _), (15, _)]) rfl (bx' := []) rfl (F' := []) rfl ?_)
    refine q_then ?_
    -- region 14
    repeat (with_reducible refine c_seq ?_)
    refine c_region rfl ?_
    refine p_val rfl rfl rfl rfl (f0 rfl) ?_
    refine p_val rfl rfl rfl rfl (f0 rfl) ?_
    refine p_val rfl rfl rfl rfl (f0 rfl) ?_
    refine p_val rfl rfl rfl rfl (f0 rfl) ?_
    refine p_val rfl rfl rfl rfl (f0 rfl) ?_
    refine p_val rfl rfl rfl rfl (f0 rfl) ?_
    refine p_val rfl rfl rfl rfl (f0 rfl) ?_
    refine p_val rfl rfl rfl rfl (f0 rfl) ?_
    refine p_val rfl rfl rfl rfl (f0 rfl) ?_
    refine p_val rfl rfl rfl rfl (f0 rfl) ?_
    refine p_val rfl rfl rfl rfl (f0 rfl) ?_
    refine p_val rfl rfl rfl rfl (f0 rfl) ?_
    refine p_val rfl rfl rfl (s_bin rfl rfl rfl rfl (eq64 rfl)) (f0 rfl) ?_
    refine p_val rfl rfl rfl rfl (f0 rfl) ?_
    refine p_val rfl rfl rfl rfl (f0 rfl) ?_
    refine p_val rfl rfl rfl rfl (f0 rfl) ?_
    refine p_val rfl rfl rfl rfl (f0 rfl) ?_
    refine p_val rfl rfl rfl rfl (f0 rfl) ?_
    refine p_val rfl rfl rfl rfl (f0 rfl) ?_
    refine p_val rfl rfl rfl rfl (f0 rfl) ?_
    refine p_val rfl rfl rfl rfl (f0 rfl) ?_
    refine p_val rfl rfl rfl rfl (f0 rfl) ?_
    refine p_val rfl rfl rfl rfl (f0 rfl) ?_
    refine p_go rfl rfl rfl (run10 _) (f0 rfl) ?_
    refine p_val rfl rfl rfl rfl (f0 rfl) ?_
    refine p_val rfl rfl rfl rfl (f0 rfl) ?_
    refine p_nil (q_endL rfl (t' := [(2, _)]) rfl (bx' := []) rfl (F' := []) rfl ?_)
    refine q_then ?_
    refine c_ret ?_
    exact ⟨rfl, rfl, rfl⟩

end Go.Proofs.Ytielbjjdgdblcaa.B

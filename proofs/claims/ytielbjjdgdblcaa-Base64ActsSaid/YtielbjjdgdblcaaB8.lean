/- Law 01: the reference's Parse. -/
import Derived.Test.YtielbjjdgdblcaaB7
namespace Go.Proofs.Ytielbjjdgdblcaa.B
open Go Go.Proofs Go.Proofs.Ytielbjjdgdblcaa.Vm

noncomputable def c18 : Ctx := { P := Try.prog, box := [], esc := [], own := false, fr := fr, n := 36, slots := [] }
def w18 : Wk := { live := [(0, [0]), (1, [0, 15]), (2, [2, 3]), (3, [0, 4]), (4, [0, 4, 17, 18]), (5, [0, 4, 17, 18, 19]), (6, [0, 4, 5, 17, 18]), (7, [0, 4, 6, 7, 17, 18]), (8, [0, 4, 6, 17, 18, 29]), (9, [2, 3]), (10, [0, 4, 17, 18]), (11, [0, 4, 17, 18]), (12, [2, 3])], head := [(0, [0, 4, 17, 18])], tr := [] }
theorem k18 : chkFn c18 Try.f18 1 = true := by kernel_rfl

-- types: 3 4 9
set_option maxHeartbeats 1000000 in
theorem run18 (s : List UInt8) (H : List HObj) : Run Try.prog fr 18 [.str s] H (parR s) H := by
  refine run_of_body (C := c18) (W := w18) Try.func18 rfl k18 ?_
  -- region 0
  repeat (with_reducible refine c_seq ?_)
  refine c_region rfl ?_
  refine p_val rfl rfl rfl rfl (f0 rfl) ?_
  refine p_val rfl rfl rfl rfl (f0 rfl) ?_
  refine p_nil (q_endL rfl (t' := [(0, _)]) rfl (bx' := []) rfl (F' := []) rfl ?_)
  refine q_then ?_
  -- region 1
  repeat (with_reducible refine c_seq ?_)
  refine c_region rfl ?_
  refine p_val rfl rfl rfl rfl (f0 rfl) ?_
  refine p_val rfl rfl rfl (s_lenS rfl rfl rfl rfl ty9 rfl) (f0 rfl) ?_
  refine p_val rfl rfl rfl rfl (f0 rfl) ?_
  refine p_val rfl rfl rfl rfl (f0 rfl) ?_
  refine p_gval rfl rfl (fun hb => ⟨by first | exact rfl | (rw [hb]; exact rfl), by first | exact rfl | (rw [hb]; exact rfl), g0 rfl, by first | exact rfl | (rw [gv_true hb]; exact rfl) | (simp only [gv_true hb]; exact rfl)⟩) ?_
  refine p_gval rfl rfl (fun hb => ⟨by first | exact rfl | (rw [hb]; exact rfl), by first | exact rfl | (rw [hb]; exact rfl), g0 rfl, by simp only [gv_true hb]; exact (s_lenS rfl rfl rfl rfl ty9 rfl)⟩) ?_
  refine p_gval rfl rfl (fun hb => ⟨by first | exact rfl | (rw [hb]; exact rfl), by first | exact rfl | (rw [hb]; exact rfl), g0 rfl, by first | exact rfl | (rw [gv_true hb]; exact rfl) | (simp only [gv_true hb]; exact rfl)⟩) ?_
  refine p_val rfl rfl rfl (s_or rfl rfl rfl rfl) (f0 rfl) ?_
  refine p_nil (q_endL rfl (t' := [(0, _), (15, _)]) rfl (bx' := []) rfl (F' := []) rfl ?_)
  refine q_then ?_
  repeat (with_reducible refine c_seq ?_)
  refine c_if rfl (fun hc => ?_) (fun hc => ?_)
  · have h0 : s.length < 1 ∨ 8 < s.length := by simp at hc; omega
    -- region 2
    repeat (with_reducible refine c_seq ?_)
    refine c_region rfl ?_
    refine p_val rfl rfl rfl rfl (f0 rfl) ?_
    refine p_val rfl rfl rfl rfl (f0 rfl) ?_
    refine p_nil (q_endL rfl (t' := [(2, _), (3, _)]) rfl (bx' := []) rfl (F' := []) rfl ?_)
    refine q_then ?_
    refine c_ret ?_
    exact ⟨by rw [parR, if_pos h0]; rfl, rfl, rfl⟩
  · have h0 : ¬ (s.length < 1 ∨ 8 < s.length) := by
      simp at hc; omega
    refine c_skip ?_
    refine q_then ?_
    -- on
    -- region 3
    repeat (with_reducible refine c_seq ?_)
    refine c_region rfl ?_
    refine p_val rfl rfl rfl rfl (f0 rfl) ?_
    refine p_nil (q_endL rfl (t' := [(0, _), (4, _)]) rfl (bx' := []) rfl (F' := []) rfl ?_)
    refine q_then ?_
    -- region 4
    repeat (with_reducible refine c_seq ?_)
    refine c_region rfl ?_
    refine p_val rfl rfl rfl rfl (f0 rfl) ?_
    refine p_val rfl rfl rfl (s_lenS rfl rfl rfl rfl ty9 rfl) (f0 rfl) ?_
    refine p_val rfl rfl rfl rfl (f0 rfl) ?_
    refine p_nil (q_endL rfl (t' := [(0, _), (4, _), (17, _), (18, _)]) rfl (bx' := []) rfl (F' := []) rfl ?_)
    refine q_then ?_
    repeat (with_reducible refine c_seq ?_)
    refine c_block ?_
    refine c_loopH (fun e => ∃ k n : Nat, k ≤ s.length ∧ n < 2 ^ (6 * k) ∧ (s.take k).all isD = true ∧ numF n (s.drop k) = num s ∧ e = ⟨[(0, .v (.str s)), (4, .v (.int .i64 (n : Int))), (17, .v (.int .i64 s.length)), (18, .v (.int .i64 (k : Int)))], [], H, []⟩) (fun e => match lkp e.t 18 with | some (.v (.int _ k)) => (s.length - k).toNat | _ => 0) rfl (t' := [(0, _), (4, _), (17, _), (18, _)]) rfl (bx' := []) rfl (F' := []) rfl ?_ ?_
    · exact ⟨0, 0, by omega, by simp, by simp, rfl, rfl⟩
    rintro e ⟨k, n, hk, hn, ha, hf, rfl⟩
    -- region 5
    repeat (with_reducible refine c_seq ?_)
    refine c_region rfl ?_
    refine p_val rfl rfl rfl rfl (f0 rfl) ?_
    refine p_nil (q_endL rfl (t' := [(0, _), (4, _), (17, _), (18, _), (19, _)]) rfl (bx' := []) rfl (F' := []) rfl ?_)
    refine q_then ?_
    repeat (with_reducible refine c_seq ?_)
    refine c_if rfl (fun hc => ?_) (fun hc => ?_)
    · have hk2 : k < s.length := by have := of_decide_eq_true hc; omega
      have hb : s[((k : Nat) : Int).toNat]? = some s[k] := by rw [Int.toNat_natCast, List.getElem?_eq_getElem hk2]
      have hd : s.drop k = s[k] :: s.drop (k + 1) := List.drop_eq_getElem_cons hk2
      have hn2 : n < 2 ^ 42 := Nat.lt_of_lt_of_le hn (Nat.pow_le_pow_right (by decide) (by omega))
      have hvl := vl_lt s[k]
      refine c_skip ?_
      refine q_then ?_
      -- on
      repeat (with_reducible refine c_seq ?_)
      refine c_block ?_
      -- region 6
      repeat (with_reducible refine c_seq ?_)
      refine c_region rfl ?_
      refine p_val rfl rfl rfl rfl (f0 rfl) ?_
      refine p_val rfl rfl rfl rfl (f0 rfl) ?_
      refine p_nil (q_endL rfl (t' := [(0, _), (4, _), (5, _), (17, _), (18, _)]) rfl (bx' := []) rfl (F' := []) rfl ?_)
      refine q_then ?_
      -- region 7
      repeat (with_reducible refine c_seq ?_)
      refine c_region rfl ?_
      refine p_val rfl rfl rfl rfl (f0 rfl) ?_
      refine p_val rfl rfl rfl rfl (f0 rfl) ?_
      refine p_val rfl rfl rfl (s_indexS rfl rfl ty9 rfl rfl (by omega) hb) (f0 rfl) ?_
      refine p_go rfl rfl rfl (run21 _ _) (f0 rfl) ?_
      refine p_val rfl rfl rfl rfl (f0 rfl) ?_
      refine p_val rfl rfl rfl rfl (f0 rfl) ?_
      refine p_val rfl rfl rfl rfl (f0 rfl) ?_
      refine p_val rfl rfl rfl rfl (f0 rfl) ?_
      refine p_val rfl rfl rfl rfl (f0 rfl) ?_
      refine p_nil (q_endL rfl (t' := [(0, _), (4, _), (6, _), (7, _), (17, _), (18, _)]) rfl (bx' := []) rfl (F' := []) rfl ?_)
      refine q_then ?_
      -- region 8
      repeat (with_reducible refine c_seq ?_)
      refine c_region rfl ?_
      refine p_val rfl rfl rfl rfl (f0 rfl) ?_
      refine p_val rfl rfl rfl rfl (f0 rfl) ?_
      refine p_nil (q_endL rfl (t' := [(0, _), (4, _), (6, _), (17, _), (18, _), (29, _)]) rfl (bx' := []) rfl (F' := []) rfl ?_)
      refine q_then ?_
      repeat (with_reducible refine c_seq ?_)
      refine c_if rfl (fun hc => ?_) (fun hc => ?_)
      · have hno : isD s[k] = false := by simpa using hc
        have hall : ¬ (s.all isD = true) := by
          intro h
          have := List.all_eq_true.1 h s[k] (List.getElem_mem hk2)
          rw [hno] at this; cases this
        -- region 9
        repeat (with_reducible refine c_seq ?_)
        refine c_region rfl ?_
        refine p_val rfl rfl rfl rfl (f0 rfl) ?_
        refine p_val rfl rfl rfl rfl (f0 rfl) ?_
        refine p_nil (q_endL rfl (t' := [(2, _), (3, _)]) rfl (bx' := []) rfl (F' := []) rfl ?_)
        refine q_then ?_
        refine c_ret ?_
        exact ⟨by rw [parR, if_neg h0, if_neg hall]; rfl, rfl, rfl⟩
      · have hyes : isD s[k] = true := by simpa using hc
        refine c_skip ?_
        refine q_then ?_
        -- on
        -- region 10
        repeat (with_reducible refine c_seq ?_)
        refine c_region rfl ?_
        refine p_val rfl rfl rfl rfl (f0 rfl) ?_
        refine p_val rfl rfl rfl (s_bin rfl rfl rfl rfl (b_shlk 6 rfl (by decide) (by omega))) (f0 rfl) ?_
        refine p_val rfl rfl rfl rfl (f0 rfl) ?_
        refine p_val rfl rfl rfl (s_bin rfl rfl rfl rfl (b_or (by omega) (by omega))) (f0 rfl) ?_
        refine p_val rfl rfl rfl rfl (f0 rfl) ?_
        refine p_nil (q_endL rfl (t' := [(0, _), (4, _), (17, _), (18, _)]) rfl (bx' := []) rfl (F' := []) rfl ?_)
        repeat (with_reducible refine q_then ?_)
        refine i_norm ?_
        refine q_then ?_
        -- on
        -- region 11
        repeat (with_reducible refine c_seq ?_)
        refine c_region rfl ?_
        refine p_val rfl rfl rfl (s_bin rfl rfl rfl rfl (b_addk 1 rfl (by omega))) (f0 rfl) ?_
        refine p_val rfl rfl rfl rfl (f0 rfl) ?_
        refine p_nil (q_endL rfl (t' := [(0, _), (4, _), (17, _), (18, _)]) rfl (bx' := []) rfl (F' := []) rfl ?_)
        refine l_normH rfl (t' := [(0, _), (4, _), (17, _), (18, _)]) rfl (bx' := []) rfl (F' := []) rfl ?_ ?_
        · refine ⟨k + 1, n * 2 ^ 6 ||| vl s[k], by omega, Nat.or_lt_two_pow (by rw [Nat.mul_add, Nat.pow_add]; omega) (Nat.lt_of_lt_of_le hvl (by rw [Nat.mul_add, Nat.pow_add]; have := Nat.two_pow_pos (6 * k); omega)), ?_, ?_, rfl⟩
          · rw [List.take_add_one, List.getElem?_eq_getElem hk2, List.all_append, ha]; simpa using hyes
          · rw [← hf, hd]; rfl
        · simp [lkp]; omega
    · skip
      have hk3 : k = s.length := by have := of_decide_eq_false hc; omega
      subst hk3
      have hall : s.all isD = true := by simpa using ha
      have hnum : n = num s := by rw [← hf]; simp [numF]
      refine c_exit ?_
      repeat (with_reducible first | refine q_exit ?_ | refine l_exit ?_ | refine i_past (by decide) ?_)
      refine i_here ?_
      refine q_then ?_
      -- on
      -- region 12
      repeat (with_reducible refine c_seq ?_)
      refine c_region rfl ?_
      refine p_val rfl rfl rfl rfl (f0 rfl) ?_
      refine p_val rfl rfl rfl rfl (f0 rfl) ?_
      refine p_val rfl rfl rfl rfl (f0 rfl) ?_
      refine p_nil (q_endL rfl (t' := [(2, _), (3, _)]) rfl (bx' := []) rfl (F' := []) rfl ?_)
      refine q_then ?_
      refine c_ret ?_
      exact ⟨by rw [parR, if_neg h0, if_pos hall, ← hnum]; rfl, rfl, rfl⟩

end Go.Proofs.Ytielbjjdgdblcaa.B

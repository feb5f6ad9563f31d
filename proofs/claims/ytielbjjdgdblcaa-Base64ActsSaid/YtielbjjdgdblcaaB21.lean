/- Law 01: the reference's Decode. -/
import Derived.Test.YtielbjjdgdblcaaB20
namespace Go.Proofs.Ytielbjjdgdblcaa.B
open Go Go.Proofs Go.Proofs.Ytielbjjdgdblcaa.Vm

theorem numF_snoc (x : UInt8) : ∀ (l : List UInt8) (n : Nat), numF n (l ++ [x]) = numF n l * 2 ^ 6 ||| vl x
  | [], n => rfl
  | a :: l, n => by simp only [List.cons_append, numF, numF_snoc x l]
theorem numF_small (l : List UInt8) (h : l.length ≤ 4) : numF 0 l < 2 ^ 24 := by
  have := numF_lt l 0 0 (by decide)
  have h2 : 2 ^ (6 * (0 + l.length)) ≤ 2 ^ 24 := Nat.pow_le_pow_right (by decide) (by omega)
  omega

noncomputable def c17 : Ctx := { P := Try.prog, box := [], esc := [], own := true, fr := fr, n := 57, slots := [] }
def w17 : Wk := { live := [(0, [0]), (1, [0, 10]), (2, [2, 3]), (3, [0, 14]), (4, [2, 3]), (5, [0, 4]), (6, [0, 4, 5]), (7, [0, 4, 5, 22]), (8, [0, 4, 5]), (9, [0, 4, 5, 6]), (10, [0, 4, 5, 6, 25]), (11, [0, 4, 5, 6, 25, 26]), (12, [0, 4, 5, 6, 7, 25]), (13, [0, 4, 5, 6, 8, 9, 25]), (14, [0, 4, 5, 6, 8, 25, 38]), (15, [2, 3]), (16, [0, 4, 5, 6, 25]), (17, [0, 4, 5, 6, 25]), (18, [0, 4, 5]), (19, [2, 3])], head := [(1, [0, 4, 5]), (3, [0, 4, 5, 6, 25])], tr := [(1, [false, true, true, false]), (3, [false, true, true, true, false]), (7, [false, false]), (8, [false, true, false]), (12, [false, false]), (13, [false, false, false, true, true, true, false, true, true, false, false]), (14, [false]), (16, [false, true, false, true, false]), (17, [true, false]), (18, [true, false, true, true, false, true, true, false]), (19, [false, true, false])] }
theorem k17 : chkFn c17 Try.f17 1 = true := by kernel_rfl

-- types: 3 4 5 9 30
set_option maxHeartbeats 1000000 in
theorem run17 (s : List UInt8) (H : List HObj) : Run Try.prog fr 17 [.str s] H (decR s) H := by
  refine run_of_body (C := c17) (W := w17) Try.func17 rfl k17 ?_
  -- region 0
  repeat (with_reducible refine c_seq ?_)
  refine c_region rfl ?_
  refine p_val (F' := []) rfl rfl rfl rfl rfl ?_
  refine p_val (F' := []) rfl rfl rfl rfl rfl ?_
  refine p_nil (q_endL rfl (t' := [(0, _)]) rfl (bx' := []) rfl (F' := []) rfl ?_)
  refine q_then ?_
  repeat (with_reducible refine c_seq ?_)
  refine c_block ?_
  -- region 1
  repeat (with_reducible refine c_seq ?_)
  refine c_region rfl ?_
  refine p_val (F' := []) rfl rfl rfl rfl rfl ?_
  refine p_val (F' := []) rfl rfl rfl (s_lenS rfl rfl rfl rfl ty9 rfl) rfl ?_
  refine p_val (F' := []) rfl rfl rfl rfl rfl ?_
  refine p_val (F' := []) rfl rfl rfl rfl rfl ?_
  refine p_nil (q_endL rfl (t' := [(0, _), (10, _)]) rfl (bx' := []) rfl (F' := []) rfl ?_)
  refine q_then ?_
  repeat (with_reducible refine c_seq ?_)
  refine c_if rfl (fun hc => ?_) (fun hc => ?_)
  · have hb : 131072 < s.length := by have := of_decide_eq_true hc; omega
    -- region 2
    repeat (with_reducible refine c_seq ?_)
    refine c_region rfl ?_
    refine p_val (F' := []) rfl rfl rfl rfl rfl ?_
    refine p_val (F' := []) rfl rfl rfl rfl rfl ?_
    refine p_nil (q_endL rfl (t' := [(2, _), (3, _)]) rfl (bx' := []) rfl (F' := []) rfl ?_)
    refine q_then ?_
    refine c_ret ?_
    exact ⟨by rw [decR, if_pos hb]; rfl, rfl, rfl⟩
  · have hb : ¬ 131072 < s.length := by have := of_decide_eq_false hc; omega
    -- region 3
    repeat (with_reducible refine c_seq ?_)
    refine c_region rfl ?_
    refine p_val (F' := []) rfl rfl rfl rfl rfl ?_
    refine p_val (F' := []) rfl rfl rfl (s_lenS rfl rfl rfl rfl ty9 rfl) rfl ?_
    refine p_val (F' := []) rfl rfl rfl (s_bin rfl rfl rfl rfl (b_rem (by decide))) rfl ?_
    refine p_val (F' := []) rfl rfl rfl rfl rfl ?_
    refine p_val (F' := []) rfl rfl rfl rfl rfl ?_
    refine p_nil (q_endL rfl (t' := [(0, _), (14, _)]) rfl (bx' := []) rfl (F' := []) rfl ?_)
    refine q_then ?_
    repeat (with_reducible refine c_seq ?_)
    refine c_if rfl (fun hc => ?_) (fun hc => ?_)
    · have h2 : s.length % 4 ≠ 0 := by
        intro h; revert hc; rw [Int.tmod_eq_emod_of_nonneg (by omega)]; simp; omega
      -- region 4
      repeat (with_reducible refine c_seq ?_)
      refine c_region rfl ?_
      refine p_val (F' := []) rfl rfl rfl rfl rfl ?_
      refine p_val (F' := []) rfl rfl rfl rfl rfl ?_
      refine p_nil (q_endL rfl (t' := [(2, _), (3, _)]) rfl (bx' := []) rfl (F' := []) rfl ?_)
      refine q_then ?_
      refine c_ret ?_
      exact ⟨by rw [decR, if_neg hb, if_pos h2]; rfl, rfl, rfl⟩
    · have h1 : s.length ≤ 131072 := by omega
      have h2 : s.length % 4 = 0 := by
        revert hc; rw [Int.tmod_eq_emod_of_nonneg (by omega)]; simp; omega
      have hR : decR s = if s.all isD = true then .tup [.str (dec s), .int .i64 0] else .tup [.str [], .int .i64 4] := by rw [decR, if_neg hb, if_neg (by omega)]
      rw [hR]
      clear hR hb hc
      refine c_skip ?_
      repeat (with_reducible refine q_then ?_)
      refine i_norm ?_
      refine q_then ?_
      -- on
      -- region 5
      repeat (with_reducible refine c_seq ?_)
      refine c_region rfl ?_
      refine p_val (F' := [(4, 0, 0)]) rfl rfl rfl (s_nil (.inr rfl) rfl ty30) rfl ?_
      refine p_nil (q_endL rfl (t' := [(0, _), (4, _)]) rfl (bx' := []) rfl (F' := [(4, 0, 0)]) rfl ?_)
      refine q_then ?_
      -- region 6
      repeat (with_reducible refine c_seq ?_)
      refine c_region rfl ?_
      refine p_val (F' := [(4, 0, 0)]) rfl rfl rfl rfl rfl ?_
      refine p_nil (q_endL rfl (t' := [(0, _), (4, _), (5, _)]) rfl (bx' := []) rfl (F' := [(4, 0, 0)]) rfl ?_)
      refine q_then ?_
      repeat (with_reducible refine c_seq ?_)
      refine c_block ?_
      refine c_loopH (fun e => ∃ (k : Nat) (l : List PV), e = ⟨[(0, .v (.str s)), (4, .v (.slice 1 l)), (5, .v (.int .i64 (k : Int)))], [], H, [(4, 0, 0)]⟩ ∧ k % 4 = 0 ∧ k ≤ s.length ∧ (s.take k).all isD = true ∧ l ++ (dec (s.drop k)).map byteP = (dec s).map byteP) (fun e => match lkp e.t 5 with | some (.v (.int _ k)) => (s.length - k).toNat | _ => 0) rfl (t' := [(0, _), (4, _), (5, _)]) rfl (bx' := []) rfl (F' := [(4, 0, 0)]) rfl ?_ ?_
      · exact ⟨0, [], rfl, rfl, by omega, rfl, rfl⟩
      rintro e ⟨k, l, rfl, h3, h5, h6, h4⟩
      -- region 7
      repeat (with_reducible refine c_seq ?_)
      refine c_region rfl ?_
      refine p_val (F' := [(4, 0, 0)]) rfl rfl rfl rfl rfl ?_
      refine p_val (F' := [(4, 0, 0)]) rfl rfl rfl rfl rfl ?_
      refine p_val (F' := [(4, 0, 0)]) rfl rfl rfl (s_lenS rfl rfl rfl rfl ty9 rfl) rfl ?_
      refine p_val (F' := [(4, 0, 0)]) rfl rfl rfl rfl rfl ?_
      refine p_nil (q_endL rfl (t' := [(0, _), (4, _), (5, _), (22, _)]) rfl (bx' := []) rfl (F' := [(4, 0, 0)]) rfl ?_)
      refine q_then ?_
      repeat (with_reducible refine c_seq ?_)
      refine c_if rfl (fun hc => ?_) (fun hc => ?_)
      · have hk2 : k < s.length := by have := of_decide_eq_true hc; omega
        obtain ⟨a, b, c, d, r, hr⟩ : ∃ a b c d r, s.drop k = a :: b :: c :: d :: r := by
          have hl : (s.drop k).length = s.length - k := List.length_drop
          match hq : s.drop k with
          | a :: b :: c :: d :: r => exact ⟨a, b, c, d, r, rfl⟩
          | [] => rw [hq] at hl; simp at hl; omega
          | [_] => rw [hq] at hl; simp at hl; omega
          | [_, _] => rw [hq] at hl; simp at hl; omega
          | [_, _, _] => rw [hq] at hl; simp at hl; omega
        have hk4 : k + 4 ≤ s.length := by have hl : (s.drop k).length = s.length - k := List.length_drop; rw [hr] at hl; simp at hl; omega
        have hat : ∀ j, j < 4 → ∃ x, [a, b, c, d][j]? = some x ∧ s[k + j]? = some x := by
          intro j hj
          have hg : s[k + j]? = [a, b, c, d][j]? := by
            have := List.getElem?_drop (xs := s) (i := k) (j := j)
            rw [← this, hr]
            match j, hj with
            | 0, _ => rfl
            | 1, _ => rfl
            | 2, _ => rfl
            | 3, _ => rfl
          rw [hg]
          exact ⟨[a, b, c, d][j], List.getElem?_eq_getElem hj, List.getElem?_eq_getElem hj⟩
        have hr4 : s.drop (k + 4) = r := by rw [← List.drop_drop, hr]; rfl
        have ht4 : s.take (k + 4) = s.take k ++ [a, b, c, d] := by rw [List.take_add, hr]; rfl
        rw [hr] at h4
        refine c_skip ?_
        refine q_then ?_
        -- on
        repeat (with_reducible refine c_seq ?_)
        refine c_block ?_
        -- region 9
        repeat (with_reducible refine c_seq ?_)
        refine c_region rfl ?_
        refine p_val (F' := [(4, 0, 0)]) rfl rfl rfl rfl rfl ?_
        refine p_nil (q_endL rfl (t' := [(0, _), (4, _), (5, _), (6, _)]) rfl (bx' := []) rfl (F' := [(4, 0, 0)]) rfl ?_)
        refine q_then ?_
        -- region 10
        repeat (with_reducible refine c_seq ?_)
        refine c_region rfl ?_
        refine p_val (F' := [(4, 0, 0)]) rfl rfl rfl rfl rfl ?_
        refine p_nil (q_endL rfl (t' := [(0, _), (4, _), (5, _), (6, _), (25, _)]) rfl (bx' := []) rfl (F' := [(4, 0, 0)]) rfl ?_)
        refine q_then ?_
        repeat (with_reducible refine c_seq ?_)
        refine c_block ?_
        refine c_loopH (fun e => ∃ j : Nat, e = ⟨[(0, .v (.str s)), (4, .v (.slice 1 l)), (5, .v (.int .i64 (k : Int))), (6, .v (.int .i64 ((numF 0 ([a, b, c, d].take j) : Nat) : Int))), (25, .v (.int .i64 (j : Int)))], [], H, [(4, 0, 0)]⟩ ∧ j ≤ 4 ∧ ([a, b, c, d].take j).all isD = true) (fun e => match lkp e.t 25 with | some (.v (.int _ j)) => (4 - j).toNat | _ => 0) rfl (t' := [(0, _), (4, _), (5, _), (6, _), (25, _)]) rfl (bx' := []) rfl (F' := [(4, 0, 0)]) rfl ?_ ?_
        · exact ⟨0, rfl, by omega, rfl⟩
        rintro e ⟨j, rfl, hj, h7⟩
        -- region 11
        repeat (with_reducible refine c_seq ?_)
        refine c_region rfl ?_
        refine p_val (F' := [(4, 0, 0)]) rfl rfl rfl rfl rfl ?_
        refine p_nil (q_endL rfl (t' := [(0, _), (4, _), (5, _), (6, _), (25, _), (26, _)]) rfl (bx' := []) rfl (F' := [(4, 0, 0)]) rfl ?_)
        refine q_then ?_
        repeat (with_reducible refine c_seq ?_)
        refine c_if rfl (fun hc => ?_) (fun hc => ?_)
        · have hj2 : j < 4 := by have := of_decide_eq_true hc; omega
          obtain ⟨x, hx1, hx2⟩ := hat j hj2
          have hx3 : [a, b, c, d].take (j + 1) = [a, b, c, d].take j ++ [x] := by rw [List.take_add_one, hx1]; rfl
          have hsm := numF_small ([a, b, c, d].take j) (by simp; omega)
          have hvl := vl_lt x
          refine c_skip ?_
          refine q_then ?_
          -- on
          repeat (with_reducible refine c_seq ?_)
          refine c_block ?_
          -- region 12
          repeat (with_reducible refine c_seq ?_)
          refine c_region rfl ?_
          refine p_val (F' := [(4, 0, 0)]) rfl rfl rfl rfl rfl ?_
          refine p_val (F' := [(4, 0, 0)]) rfl rfl rfl rfl rfl ?_
          refine p_nil (q_endL rfl (t' := [(0, _), (4, _), (5, _), (6, _), (7, _), (25, _)]) rfl (bx' := []) rfl (F' := [(4, 0, 0)]) rfl ?_)
          refine q_then ?_
          -- region 13
          repeat (with_reducible refine c_seq ?_)
          refine c_region rfl ?_
          refine p_val (F' := [(4, 0, 0)]) rfl rfl rfl rfl rfl ?_
          refine p_val (F' := [(4, 0, 0)]) rfl rfl rfl rfl rfl ?_
          refine p_val (F' := [(4, 0, 0)]) rfl rfl rfl rfl rfl ?_
          refine p_val (F' := [(4, 0, 0)]) rfl rfl rfl (s_bin rfl rfl rfl rfl (b_addN (by omega))) rfl ?_
          refine p_val (F' := [(4, 0, 0)]) rfl rfl rfl (s_indexS rfl rfl ty9 rfl rfl (by omega) (by rw [Int.toNat_natCast]; exact hx2)) rfl ?_
          refine p_go (F' := [(4, 0, 0)]) rfl rfl rfl (run21 x H) rfl ?_
          refine p_val (F' := [(4, 0, 0)]) rfl rfl rfl rfl rfl ?_
          refine p_val (F' := [(4, 0, 0)]) rfl rfl rfl rfl rfl ?_
          refine p_val (F' := [(4, 0, 0)]) rfl rfl rfl rfl rfl ?_
          refine p_val (F' := [(4, 0, 0)]) rfl rfl rfl rfl rfl ?_
          refine p_val (F' := [(4, 0, 0)]) rfl rfl rfl rfl rfl ?_
          refine p_nil (q_endL rfl (t' := [(0, _), (4, _), (5, _), (6, _), (8, _), (9, _), (25, _)]) rfl (bx' := []) rfl (F' := [(4, 0, 0)]) rfl ?_)
          refine q_then ?_
          -- region 14
          repeat (with_reducible refine c_seq ?_)
          refine c_region rfl ?_
          refine p_val (F' := [(4, 0, 0)]) rfl rfl rfl rfl rfl ?_
          refine p_val (F' := [(4, 0, 0)]) rfl rfl rfl rfl rfl ?_
          refine p_nil (q_endL rfl (t' := [(0, _), (4, _), (5, _), (6, _), (8, _), (25, _), (38, _)]) rfl (bx' := []) rfl (F' := [(4, 0, 0)]) rfl ?_)
          refine q_then ?_
          repeat (with_reducible refine c_seq ?_)
          refine c_if rfl (fun hc => ?_) (fun hc => ?_)
          · have hx4 : isD x = false := by simpa using hc
            have hna : ¬ s.all isD = true := by
              intro h
              have := List.all_eq_true.mp h x (List.mem_of_getElem? hx2)
              rw [hx4] at this; cases this
            -- region 15
            repeat (with_reducible refine c_seq ?_)
            refine c_region rfl ?_
            refine p_val (F' := [(4, 0, 0)]) rfl rfl rfl rfl rfl ?_
            refine p_val (F' := [(4, 0, 0)]) rfl rfl rfl rfl rfl ?_
            refine p_nil (q_endL rfl (t' := [(2, _), (3, _)]) rfl (bx' := []) rfl (F' := []) rfl ?_)
            refine q_then ?_
            refine c_ret ?_
            exact ⟨by rw [if_neg hna]; rfl, rfl, rfl⟩
          · have hx4 : isD x = true := by simpa using hc
            refine c_skip ?_
            refine q_then ?_
            -- on
            -- region 16
            repeat (with_reducible refine c_seq ?_)
            refine c_region rfl ?_
            refine p_val (F' := [(4, 0, 0)]) rfl rfl rfl rfl rfl ?_
            refine p_val (F' := [(4, 0, 0)]) rfl rfl rfl (s_bin rfl rfl rfl rfl (b_shlk 6 rfl (by decide) (by omega))) rfl ?_
            refine p_val (F' := [(4, 0, 0)]) rfl rfl rfl rfl rfl ?_
            refine p_val (F' := [(4, 0, 0)]) rfl rfl rfl (s_bin rfl rfl rfl rfl (b_or (by omega) (by omega))) rfl ?_
            refine p_val (F' := [(4, 0, 0)]) rfl rfl rfl rfl rfl ?_
            refine p_nil (q_endL rfl (t' := [(0, _), (4, _), (5, _), (6, _), (25, _)]) rfl (bx' := []) rfl (F' := [(4, 0, 0)]) rfl ?_)
            repeat (with_reducible refine q_then ?_)
            refine i_norm ?_
            refine q_then ?_
            -- on
            -- region 17
            repeat (with_reducible refine c_seq ?_)
            refine c_region rfl ?_
            refine p_val (F' := [(4, 0, 0)]) rfl rfl rfl (s_bin rfl rfl rfl rfl (b_addk 1 rfl (by omega))) rfl ?_
            refine p_val (F' := [(4, 0, 0)]) rfl rfl rfl rfl rfl ?_
            refine p_nil (q_endL rfl (t' := [(0, _), (4, _), (5, _), (6, _), (25, _)]) rfl (bx' := []) rfl (F' := [(4, 0, 0)]) rfl ?_)
            refine l_normH rfl (t' := [(0, _), (4, _), (5, _), (6, _), (25, _)]) rfl (bx' := []) rfl (F' := [(4, 0, 0)]) rfl ?_ ?_
            · exact ⟨j + 1, by rw [hx3, numF_snoc], by omega, by rw [hx3, List.all_append, h7]; simp [hx4]⟩
            · simp [lkp] <;> omega
        · have hj2 : j = 4 := by have := of_decide_eq_false hc; omega
          subst hj2
          have hn : numF 0 ([a, b, c, d].take 4) = num [a, b, c, d] := rfl
          have hsm := numF_small ([a, b, c, d].take 4) (by simp)
          rw [hn] at hsm ⊢
          have hll : l.length ≤ s.length := by have h8 := congrArg List.length h4; have h9 := dec_len s; simp at h8; omega
          refine c_exit ?_
          repeat (with_reducible first | refine q_exit ?_ | refine l_exit ?_ | refine i_past (by decide) ?_)
          refine i_here ?_
          refine q_then ?_
          -- on
          -- region 18
          repeat (with_reducible refine c_seq ?_)
          refine c_region rfl ?_
          refine p_val (F' := [(44, 0, 0)]) rfl rfl rfl rfl rfl ?_
          refine p_val (F' := [(44, 0, 0)]) rfl rfl rfl rfl rfl ?_
          refine p_val (F' := [(44, 0, 0)]) rfl rfl rfl (s_bin rfl rfl rfl rfl (b_shrk 16 rfl (by decide))) rfl ?_
          refine p_val (F' := [(44, 0, 0)]) rfl rfl rfl (s_convert rfl rfl rfl (v_8 ty3 ty5)) rfl ?_
          refine p_val (F' := [(44, 0, 0)]) rfl rfl rfl rfl rfl ?_
          refine p_val (F' := [(44, 0, 0)]) rfl rfl rfl (s_bin rfl rfl rfl rfl (b_shrk 8 rfl (by decide))) rfl ?_
          refine p_val (F' := [(44, 0, 0)]) rfl rfl rfl (s_convert rfl rfl rfl (v_8 ty3 ty5)) rfl ?_
          refine p_val (F' := [(44, 0, 0)]) rfl rfl rfl rfl rfl ?_
          refine p_val (F' := [(44, 0, 0)]) rfl rfl rfl (s_convert rfl rfl rfl (v_8 ty3 ty5)) rfl ?_
          refine p_val (F' := [(53, 0, 0), (44, 0, 0)]) rfl rfl rfl (s_lit rfl rfl ty30 ty5 rfl ⟨rfl, by decide, by decide, by simp [PV.cells, PV.one]⟩) rfl ?_
          refine p_val (F' := [(54, 0, 0), (53, 0, 0)]) rfl rfl rfl (s_app rfl rfl rfl rfl ty30 rfl (zero_ok ty5) ty30 rfl (by decide) (by simp; unfold roomy; omega)) rfl ?_
          refine p_val (F' := [(4, 0, 0), (53, 0, 0)]) rfl rfl rfl rfl rfl ?_
          refine p_nil (q_endL rfl (t' := [(0, _), (4, _), (5, _)]) rfl (bx' := []) rfl (F' := [(4, 0, 0)]) rfl ?_)
          repeat (with_reducible refine q_then ?_)
          refine i_norm ?_
          refine q_then ?_
          -- on
          -- region 8
          repeat (with_reducible refine c_seq ?_)
          refine c_region rfl ?_
          refine p_val (F' := [(4, 0, 0)]) rfl rfl rfl rfl rfl ?_
          refine p_val (F' := [(4, 0, 0)]) rfl rfl rfl (s_bin rfl rfl rfl rfl (b_addk 4 rfl (by omega))) rfl ?_
          refine p_val (F' := [(4, 0, 0)]) rfl rfl rfl rfl rfl ?_
          refine p_nil (q_endL rfl (t' := [(0, _), (4, _), (5, _)]) rfl (bx' := []) rfl (F' := [(4, 0, 0)]) rfl ?_)
          refine l_normH rfl (t' := [(0, _), (4, _), (5, _)]) rfl (bx' := []) rfl (F' := [(4, 0, 0)]) rfl ?_ ?_
          · exact ⟨k + 4, _, rfl, by omega, hk4, by rw [ht4, List.all_append, h6]; exact h7, by rw [hr4]; simp only [byteP_ofNat]; simpa [dec] using h4⟩
          · simp [lkp] <;> omega
      · have hk2 : k = s.length := by have := of_decide_eq_false hc; omega
        subst hk2
        have hl : unbytes l = some (dec s) := by
          simp [dec] at h4; rw [h4]; exact unbytes_byteP _
        have hall : s.all isD = true := by rw [List.take_length] at h6; exact h6
        rw [if_pos hall]
        refine c_exit ?_
        repeat (with_reducible first | refine q_exit ?_ | refine l_exit ?_ | refine i_past (by decide) ?_)
        refine i_here ?_
        refine q_then ?_
        -- on
        -- region 19
        repeat (with_reducible refine c_seq ?_)
        refine c_region rfl ?_
        refine p_val (F' := [(4, 0, 0)]) rfl rfl rfl rfl rfl ?_
        refine p_val (F' := [(4, 0, 0)]) rfl rfl rfl (s_convert rfl rfl rfl (v_str ty30 ty9 ty5 hl)) rfl ?_
        refine p_val (F' := [(4, 0, 0)]) rfl rfl rfl rfl rfl ?_
        refine p_val (F' := [(4, 0, 0)]) rfl rfl rfl rfl rfl ?_
        refine p_nil (q_endL rfl (t' := [(2, _), (3, _)]) rfl (bx' := []) rfl (F' := []) rfl ?_)
        refine q_then ?_
        refine c_ret ?_
        exact ⟨rfl, rfl, rfl⟩

end Go.Proofs.Ytielbjjdgdblcaa.B

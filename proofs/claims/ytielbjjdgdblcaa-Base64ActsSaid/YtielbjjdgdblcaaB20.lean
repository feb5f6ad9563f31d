/- Law 01: the reference's Number. -/
import Derived.Test.YtielbjjdgdblcaaB18
namespace Go.Proofs.Ytielbjjdgdblcaa.B
open Go Go.Proofs Go.Proofs.Ytielbjjdgdblcaa.Vm

theorem u64_nonneg (x : Int) : 0 ≤ IntKind.u64.wrap x := by
  unfold IntKind.wrap
  simp [IntKind.bits, IntKind.signed]
  omega
theorem u64_small {x : Int} (h0 : 0 ≤ x) (h : x < 9223372036854775808) : IntKind.u64.wrap x = x := by
  unfold IntKind.wrap
  simp [IntKind.bits, IntKind.signed]
  omega

noncomputable def c19 : Ctx := { P := Try.prog, box := [], esc := [], own := true, fr := fr, n := 44, slots := [] }
def w19 : Wk := { live := [(0, [0, 1]), (1, [0, 1, 25]), (2, [4, 5]), (3, [0, 1, 6]), (4, [0, 6, 7]), (5, [0, 6, 7, 29]), (6, [0, 6, 7]), (7, [0, 6, 7]), (8, [4, 5])], head := [(0, [0, 6, 7])], tr := [(1, [false, true, false, false, true, true, false, false, true, true, false, false, false]), (4, [false, true, false]), (5, [false]), (6, [false, true, false]), (7, [true, false, false]), (8, [false, true, false])] }
theorem k19 : chkFn c19 Try.f19 2 = true := by kernel_rfl

-- types: 3 9 30 34
set_option maxHeartbeats 1000000 in
theorem run19 (n d : Int) (hn : n < 9223372036854775808) (H : List HObj) : Run Try.prog fr 19 [.int .i64 n, .int .i64 d] H (nbrR n d) H := by
  have hfd : 1 ≤ d → d ≤ 8 → IntKind.i64.wrap (1 * 2 ^ (min (IntKind.u64.wrap (IntKind.i64.wrap (6 * d))).toNat IntKind.i64.bits)) = ((2 ^ (6 * d.toNat) : Nat) : Int) := by
    intro h1 h2
    rw [wr64 (n := 6 * d) (by omega) (by omega), u64_small (by omega) (by omega)]
    have e : (6 * d).toNat = 6 * d.toNat := by omega
    have hp : 2 ^ (6 * d.toNat) ≤ 2 ^ 48 := Nat.pow_le_pow_right (by decide) (by omega)
    have hbt : IntKind.i64.bits = 64 := rfl
    have := shl64 (m := 1) (k := 6 * d.toNat) (by rw [Nat.min_eq_left (by omega)]; omega)
    rw [hbt, Nat.min_eq_left (show 6 * d.toNat ≤ 64 by omega), Nat.one_mul] at this
    rw [e, hbt, Nat.min_eq_left (show 6 * d.toNat ≤ 64 by omega)]; exact this
  refine run_of_body (C := c19) (W := w19) Try.func19 rfl k19 ?_
  -- region 0
  repeat (with_reducible refine c_seq ?_)
  refine c_region rfl ?_
  refine p_val (F' := []) rfl rfl rfl rfl rfl ?_
  refine p_val (F' := []) rfl rfl rfl rfl rfl ?_
  refine p_nil (q_endL rfl (t' := [(0, _), (1, _)]) rfl (bx' := []) rfl (F' := []) rfl ?_)
  refine q_then ?_
  -- region 1
  repeat (with_reducible refine c_seq ?_)
  refine c_region rfl ?_
  refine p_val (F' := []) rfl rfl rfl rfl rfl ?_
  refine p_val (F' := []) rfl rfl rfl rfl rfl ?_
  refine p_val (F' := []) rfl rfl rfl rfl rfl ?_
  refine p_gval rfl rfl (fun hb => ⟨by first | exact rfl | (rw [hb]; exact rfl), by first | exact rfl | (rw [hb]; exact rfl), rfl, by first | exact rfl | (rw [gv_true hb]; exact rfl) | (simp only [gv_true hb]; exact rfl)⟩) ?_
  refine p_gval rfl rfl (fun hb => ⟨by first | exact rfl | (rw [hb]; exact rfl), by first | exact rfl | (rw [hb]; exact rfl), rfl, by first | exact rfl | (rw [gv_true hb]; exact rfl) | (simp only [gv_true hb]; exact rfl)⟩) ?_
  refine p_val (F' := []) rfl rfl rfl (s_or rfl rfl rfl rfl) rfl ?_
  refine p_val (F' := []) rfl rfl rfl rfl rfl ?_
  refine p_gval rfl rfl (fun hb => ⟨by first | exact rfl | (rw [hb]; exact rfl), by first | exact rfl | (rw [hb]; exact rfl), rfl, by first | exact rfl | (rw [gv_true hb]; exact rfl) | (simp only [gv_true hb]; exact rfl)⟩) ?_
  refine p_gval rfl rfl (fun hb => ⟨by first | exact rfl | (rw [hb]; exact rfl), by first | exact rfl | (rw [hb]; exact rfl), rfl, by first | exact rfl | (rw [gv_true hb]; exact rfl) | (simp only [gv_true hb]; exact rfl)⟩) ?_
  refine p_val (F' := []) rfl rfl rfl (s_or rfl rfl rfl rfl) rfl ?_
  refine p_val (F' := []) rfl rfl rfl rfl rfl ?_
  refine p_gval rfl rfl (fun hb => ⟨by first | exact rfl | (rw [hb]; exact rfl), by first | exact rfl | (rw [hb]; exact rfl), rfl, by first | exact rfl | (rw [gv_true hb]; exact rfl) | (simp only [gv_true hb]; exact rfl)⟩) ?_
  refine p_gval rfl rfl (fun hb => ⟨by first | exact rfl | (rw [hb]; exact rfl), by first | exact rfl | (rw [hb]; exact rfl), rfl, by first | exact rfl | (rw [gv_true hb]; exact rfl) | (simp only [gv_true hb]; exact rfl)⟩) ?_
  refine p_gval rfl rfl (fun hb => ⟨by first | exact rfl | (rw [hb]; exact rfl), by first | exact rfl | (rw [hb]; exact rfl), rfl, by first | exact rfl | (rw [gv_true hb]; exact rfl) | (simp only [gv_true hb]; exact rfl)⟩) ?_
  refine p_gval rfl rfl (fun hb => ⟨by first | exact rfl | (rw [hb]; exact rfl), by first | exact rfl | (rw [hb]; exact rfl), rfl, by simp only [gv_true hb]; exact (s_convert rfl rfl rfl (v_int ty3 ty34))⟩) ?_
  refine p_gval rfl rfl (fun hb => ⟨by first | exact rfl | (rw [hb]; exact rfl), by first | exact rfl | (rw [hb]; exact rfl), rfl, by simp only [gv_true hb]; exact (s_bin rfl rfl rfl rfl (b_shl (u64_nonneg _)))⟩) ?_
  refine p_gval rfl rfl (fun hb => ⟨by first | exact rfl | (rw [hb]; exact rfl), by first | exact rfl | (rw [hb]; exact rfl), rfl, by first | exact rfl | (rw [gv_true hb]; exact rfl) | (simp only [gv_true hb]; exact rfl)⟩) ?_
  refine p_val (F' := []) rfl rfl rfl (s_or rfl rfl rfl rfl) rfl ?_
  refine p_nil (q_endL rfl (t' := [(0, _), (1, _), (25, _)]) rfl (bx' := []) rfl (F' := []) rfl ?_)
  refine q_then ?_
  repeat (with_reducible refine c_seq ?_)
  refine c_if rfl (fun hc => ?_) (fun hc => ?_)
  · have hb : d < 1 ∨ 8 < d ∨ n < 0 ∨ 2 ^ (6 * d.toNat) ≤ n.toNat := by
      by_cases h1 : d < 1
      · exact .inl h1
      by_cases h2 : 8 < d
      · exact .inr (.inl h2)
      by_cases h3 : n < 0
      · exact .inr (.inr (.inl h3))
      rw [hfd (by omega) (by omega)] at hc
      refine .inr (.inr (.inr ?_))
      simp only [Bool.or_eq_true, decide_eq_true_eq] at hc
      omega
    -- region 2
    repeat (with_reducible refine c_seq ?_)
    refine c_region rfl ?_
    refine p_val (F' := []) rfl rfl rfl rfl rfl ?_
    refine p_val (F' := []) rfl rfl rfl rfl rfl ?_
    refine p_nil (q_endL rfl (t' := [(4, _), (5, _)]) rfl (bx' := []) rfl (F' := []) rfl ?_)
    refine q_then ?_
    refine c_ret ?_
    exact ⟨by rw [nbrR, if_pos hb]; rfl, rfl, rfl⟩
  · obtain ⟨h1, h2, h3⟩ : 1 ≤ d ∧ d ≤ 8 ∧ 0 ≤ n := by
      simp only [Bool.or_eq_false_iff, decide_eq_false_iff_not] at hc
      omega
    have h4 : n.toNat < 2 ^ (6 * d.toNat) := by
      rw [hfd h1 h2] at hc
      simp only [Bool.or_eq_false_iff, decide_eq_false_iff_not] at hc
      omega
    have hb : ¬(d < 1 ∨ 8 < d ∨ n < 0 ∨ 2 ^ (6 * d.toNat) ≤ n.toNat) := by omega
    have hr : nbrR n d = .tup [.str (dgs n.toNat d.toNat), .int .i64 0] := by rw [nbrR, if_neg hb]
    rw [hr]
    clear hr hb hc hfd
    obtain ⟨k, rfl⟩ := Int.eq_ofNat_of_zero_le (show 0 ≤ d by omega)
    obtain ⟨m, rfl⟩ := Int.eq_ofNat_of_zero_le h3
    simp only [Int.toNat_natCast] at *
    refine c_skip ?_
    refine q_then ?_
    -- on
    -- region 3
    repeat (with_reducible refine c_seq ?_)
    refine c_region rfl ?_
    refine p_val (F' := [(6, 0, 0)]) rfl rfl rfl (s_nil (.inr rfl) rfl ty30) rfl ?_
    refine p_nil (q_endL rfl (t' := [(0, _), (1, _), (6, _)]) rfl (bx' := []) rfl (F' := [(6, 0, 0)]) rfl ?_)
    refine q_then ?_
    -- region 4
    repeat (with_reducible refine c_seq ?_)
    refine c_region rfl ?_
    refine p_val (F' := [(6, 0, 0)]) rfl rfl rfl rfl rfl ?_
    refine p_val (F' := [(6, 0, 0)]) rfl rfl rfl (s_bin rfl rfl rfl rfl (Vm.b_subk 1 rfl (by omega) (by omega))) rfl ?_
    refine p_val (F' := [(6, 0, 0)]) rfl rfl rfl rfl rfl ?_
    refine p_nil (q_endL rfl (t' := [(0, _), (6, _), (7, _)]) rfl (bx' := []) rfl (F' := [(6, 0, 0)]) rfl ?_)
    refine q_then ?_
    repeat (with_reducible refine c_seq ?_)
    refine c_block ?_
    refine c_loopH (fun e => ∃ (i : Int) (l : List PV), e = ⟨[(0, .v (.int .i64 (m : Int))), (6, .v (.slice 1 l)), (7, .v (.int .i64 i))], [], H, [(6, 0, 0)]⟩ ∧ -1 ≤ i ∧ i < k ∧ l ++ (dgs m (i + 1).toNat).map byteP = (dgs m k).map byteP) (fun e => match lkp e.t 7 with | some (.v (.int _ i)) => (i + 1).toNat | _ => 0) rfl (t' := [(0, _), (6, _), (7, _)]) rfl (bx' := []) rfl (F' := [(6, 0, 0)]) rfl ?_ ?_
    · exact ⟨((k - 1 : Nat) : Int), [], rfl, by omega, by omega, by rw [show (((k - 1 : Nat) : Int) + 1).toNat = k by omega]; rfl⟩
    rintro e ⟨i, l, rfl, hi1, hi2, hl⟩
    -- region 5
    repeat (with_reducible refine c_seq ?_)
    refine c_region rfl ?_
    refine p_val (F' := [(6, 0, 0)]) rfl rfl rfl rfl rfl ?_
    refine p_val (F' := [(6, 0, 0)]) rfl rfl rfl rfl rfl ?_
    refine p_nil (q_endL rfl (t' := [(0, _), (6, _), (7, _), (29, _)]) rfl (bx' := []) rfl (F' := [(6, 0, 0)]) rfl ?_)
    refine q_then ?_
    repeat (with_reducible refine c_seq ?_)
    refine c_if rfl (fun hc => ?_) (fun hc => ?_)
    · have hi3 : 0 ≤ i := by have := of_decide_eq_true hc; omega
      obtain ⟨j, rfl⟩ := Int.eq_ofNat_of_zero_le hi3
      have hj : j < k := by omega
      have e1 : ((j : Int) + 1).toNat = j + 1 := by omega
      rw [e1] at hl
      have hll : l.length ≤ k := by have := congrArg List.length hl; simp [dgs_len] at this; omega
      have hm63 : m < 9223372036854775808 := by omega
      have hd63 : m / 2 ^ (6 * j) < 9223372036854775808 := Nat.lt_of_le_of_lt (Nat.div_le_self _ _) hm63
      refine c_skip ?_
      refine q_then ?_
      -- on
      repeat (with_reducible refine c_seq ?_)
      refine c_block ?_
      -- region 7
      repeat (with_reducible refine c_seq ?_)
      refine c_region rfl ?_
      refine p_val (F' := [(32, 0, 0)]) rfl rfl rfl rfl rfl ?_
      refine p_val (F' := [(32, 0, 0)]) rfl rfl rfl rfl rfl ?_
      refine p_val (F' := [(32, 0, 0)]) rfl rfl rfl rfl rfl ?_
      refine p_val (F' := [(32, 0, 0)]) rfl rfl rfl (s_bin rfl rfl rfl rfl (b_kmul 6 rfl (by omega))) rfl ?_
      refine p_val (F' := [(32, 0, 0)]) rfl rfl rfl (s_convert rfl rfl rfl (v_u64 ty3 ty34 (by omega))) rfl ?_
      refine p_val (F' := [(32, 0, 0)]) rfl rfl rfl (s_bin rfl rfl rfl rfl (b_shrk (6 * j) rfl (by omega))) rfl ?_
      refine p_val (F' := [(32, 0, 0)]) rfl rfl rfl (s_bin rfl rfl rfl rfl (b_andk 63 rfl hd63 (by decide))) rfl ?_
      refine p_val (F' := [(32, 0, 0)]) rfl rfl rfl (s_indexS rfl rfl ty9 rfl rfl (by omega) (al_get (Nat.lt_of_le_of_lt Nat.and_le_right (by decide)))) rfl ?_
      refine p_val (F' := [(40, 0, 0), (32, 0, 0)]) rfl rfl rfl (s_lit rfl rfl ty30 ty5 rfl ⟨rfl, by decide, by decide, by simp [byteP, PV.cells, PV.one]⟩) rfl ?_
      refine p_val (F' := [(41, 0, 0), (40, 0, 0)]) rfl rfl rfl (s_app rfl rfl rfl rfl ty30 rfl (zero_ok ty5) ty30 rfl (by decide) (by simp; unfold roomy; omega)) rfl ?_
      refine p_val (F' := [(6, 0, 0), (40, 0, 0)]) rfl rfl rfl rfl rfl ?_
      refine p_nil (q_endL rfl (t' := [(0, _), (6, _), (7, _)]) rfl (bx' := []) rfl (F' := [(6, 0, 0)]) rfl ?_)
      repeat (with_reducible refine q_then ?_)
      refine i_norm ?_
      refine q_then ?_
      -- on
      -- region 6
      repeat (with_reducible refine c_seq ?_)
      refine c_region rfl ?_
      refine p_val (F' := [(6, 0, 0)]) rfl rfl rfl rfl rfl ?_
      refine p_val (F' := [(6, 0, 0)]) rfl rfl rfl (s_bin rfl rfl rfl rfl (b_subk rfl (by omega) (by omega))) rfl ?_
      refine p_val (F' := [(6, 0, 0)]) rfl rfl rfl rfl rfl ?_
      refine p_nil (q_endL rfl (t' := [(0, _), (6, _), (7, _)]) rfl (bx' := []) rfl (F' := [(6, 0, 0)]) rfl ?_)
      refine l_normH rfl (t' := [(0, _), (6, _), (7, _)]) rfl (bx' := []) rfl (F' := [(6, 0, 0)]) rfl ?_ ?_
      · exact ⟨(j : Int) - 1, _, rfl, by omega, by omega, by rw [show ((j : Int) - 1 + 1).toNat = j by omega, ← hl]; simp [dgs]⟩
      · simp [lkp] <;> omega
    · have hi3 : i = -1 := by have := of_decide_eq_false hc; omega
      subst hi3
      have hu : unbytes l = some (dgs m k) := by
        simp [dgs] at hl; rw [hl]; exact unbytes_byteP _
      refine c_exit ?_
      repeat (with_reducible first | refine q_exit ?_ | refine l_exit ?_ | refine i_past (by decide) ?_)
      refine i_here ?_
      refine q_then ?_
      -- on
      -- region 8
      repeat (with_reducible refine c_seq ?_)
      refine c_region rfl ?_
      refine p_val (F' := [(6, 0, 0)]) rfl rfl rfl rfl rfl ?_
      refine p_val (F' := [(6, 0, 0)]) rfl rfl rfl (s_convert rfl rfl rfl (v_str ty30 ty9 ty5 hu)) rfl ?_
      refine p_val (F' := [(6, 0, 0)]) rfl rfl rfl rfl rfl ?_
      refine p_val (F' := [(6, 0, 0)]) rfl rfl rfl rfl rfl ?_
      refine p_nil (q_endL rfl (t' := [(4, _), (5, _)]) rfl (bx' := []) rfl (F' := []) rfl ?_)
      refine q_then ?_
      refine c_ret ?_
      exact ⟨rfl, rfl, rfl⟩

end Go.Proofs.Ytielbjjdgdblcaa.B

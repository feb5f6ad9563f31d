/- Law 01: a number in digits. -/
import Derived.Test.YtielbjjdgdblcaaB13
import Derived.Test.YtielbjjdgdblcaaVm30
namespace Go.Proofs.Ytielbjjdgdblcaa.B
open Go Go.Proofs Go.Proofs.Ytielbjjdgdblcaa.Vm

def dgs (n : Nat) : Nat → List UInt8
  | 0 => []
  | k + 1 => dg (n / 2 ^ (6 * k) &&& 63) :: dgs n k
theorem dgs_len (n : Nat) : ∀ k, (dgs n k).length = k
  | 0 => rfl
  | k + 1 => by simp [dgs, dgs_len n k]
/-- What Number answers. -/
def nbrR (n d : Int) : PV := if d < 1 ∨ 8 < d ∨ n < 0 ∨ 2 ^ (6 * d.toNat) ≤ n.toNat then .tup [.str [], .int .i64 2] else .tup [.str (dgs n.toNat d.toNat), .int .i64 0]
theorem nbr_low (k : Nat) (n d : Int) : low k (nbrR n d) = true := by unfold nbrR; split <;> rfl
def cl13 (m k i : Nat) : List PV := List.replicate (k - i) (PV.int .u8 0) ++ (dgs m i).map byteP
theorem cl13_len {m k i : Nat} (h : i ≤ k) : (cl13 m k i).length = k := by simp [cl13, dgs_len]; omega
theorem cl13_splice {m k i : Nat} (h : i < k) : splice (cl13 m k i) (0 + ((k - 1 - i : Nat) : Int).toNat * 1) (byteP (dg (m / 2 ^ (6 * i) &&& 63))).cells = cl13 m k (i + 1) := by
  have e0 : 0 + ((k - 1 - i : Nat) : Int).toNat * 1 = k - 1 - i := by simp
  rw [e0]
  have e1 : k - i = (k - 1 - i) + 1 := by omega
  have e2 : k - (i + 1) = k - 1 - i := by omega
  simp only [splice, cl13, e1, e2, List.replicate_succ', List.append_assoc, dgs, List.map_cons]
  have l1 : (List.replicate (k - 1 - i) (PV.int .u8 0)).length = k - 1 - i := by simp
  rw [List.take_append_of_le_length (by simp), List.take_of_length_le (by simp)]
  have l2 : (byteP (dg (m / 2 ^ (6 * i) &&& 63))).cells = [byteP (dg (m / 2 ^ (6 * i) &&& 63))] := rfl
  rw [l2, List.drop_append, List.drop_of_length_le (by simp)]
  simp
theorem cl13_bytes (m k : Nat) : unbytes (((cl13 m k k).drop 0).take k) = some (dgs m k) := by
  have e : ((cl13 m k k).drop 0).take k = (dgs m k).map byteP := by
    simp only [cl13, Nat.sub_self, List.replicate_zero, List.nil_append, List.drop_zero]
    exact List.take_of_length_le (by simp [dgs_len])
  rw [e, unbytes_byteP]
theorem flat_zero (k : Nat) (m : Nat) : flat (List.replicate ((k : Nat) : Int).toNat (PV.int .u8 0)) = cl13 m k 0 := by
  simp only [cl13, dgs, Int.toNat_natCast, Nat.sub_zero, List.map_nil, List.append_nil]
  rw [flat_replicate]
  simp only [PV.cells]
  induction k with
  | zero => rfl
  | succ k ih => simp only [List.replicate_succ, List.flatten_cons, ih]; rfl
theorem set_last {α : Type} (H : List α) (x y : α) : (H ++ [x]).set H.length y = H ++ [y] := by simp
theorem get_last {α : Type} (H : List α) (x : α) : (H ++ [x])[H.length]? = some x := by simp
theorem pow_lt64 {i k : Nat} (h : i < k) (hk : k ≤ 8) : 6 * i ≤ 64 := by omega

noncomputable def c13 : Ctx := { P := Try.prog, box := [], esc := [], own := false, fr := fr, n := 47, slots := [] }
def w13 : Wk := { live := [(0, [0, 1]), (1, [0, 1, 24]), (2, [4, 5]), (3, [0, 1, 6]), (4, [0, 1, 6, 28, 29]), (5, [0, 1, 6, 28, 29, 30]), (6, [0, 1, 6, 7, 28, 29]), (7, [0, 1, 6, 28, 29]), (8, [0, 1, 6, 28, 29]), (9, [4, 5])], head := [(0, [0, 1, 6, 28, 29])], tr := [] }
theorem k13 : chkFn c13 Try.f13 2 = true := by kernel_rfl

-- types: 3 5 9 30
set_option maxHeartbeats 1000000 in
theorem run13 (n d : Int) (hn : n < 9223372036854775808) (H : List HObj) : Run Try.prog fr 13 [.int .i64 n, .int .i64 d] H (nbrR n d) H := by
  have hs : (((decide (d < 1) || decide (d > 8)) || decide (n < 0)) == false) = true → 0 ≤ IntKind.i64.wrap (6 * d) := by
    intro hb; simp at hb; rw [wr64 (by omega) (by omega)]; omega
  have hfd : 0 ≤ n → 1 ≤ d → d ≤ 8 → n.fdiv (2 ^ (min (IntKind.i64.wrap (6 * d)).toNat IntKind.i64.bits)) = ((n.toNat / 2 ^ (6 * d.toNat) : Nat) : Int) := by
    intro h0 h1 h2
    obtain ⟨m, rfl⟩ := Int.eq_ofNat_of_zero_le h0
    rw [wr64 (by omega) (by omega), shr64]
    have : min (6 * d).toNat 64 = 6 * d.toNat := by omega
    rw [this]; rfl
  refine run_of_bodyT (C := c13) (W := w13) Try.func13 rfl k13 ?_
  -- region 0
  repeat (with_reducible refine c_seq ?_)
  refine c_region rfl ?_
  refine p_val rfl rfl rfl rfl (f0 rfl) ?_
  refine p_val rfl rfl rfl rfl (f0 rfl) ?_
  refine p_nil (q_endL rfl (t' := [(0, _), (1, _)]) rfl (bx' := []) rfl (F' := []) rfl ?_)
  refine q_then ?_
  -- region 1
  repeat (with_reducible refine c_seq ?_)
  refine c_region rfl ?_
  refine p_val rfl rfl rfl rfl (f0 rfl) ?_
  refine p_val rfl rfl rfl rfl (f0 rfl) ?_
  refine p_val rfl rfl rfl rfl (f0 rfl) ?_
  refine p_gval rfl rfl (fun hb => ⟨by first | exact rfl | (rw [hb]; exact rfl), by first | exact rfl | (rw [hb]; exact rfl), g0 rfl, by first | exact rfl | (rw [gv_true hb]; exact rfl) | (simp only [gv_true hb]; exact rfl)⟩) ?_
  refine p_gval rfl rfl (fun hb => ⟨by first | exact rfl | (rw [hb]; exact rfl), by first | exact rfl | (rw [hb]; exact rfl), g0 rfl, by first | exact rfl | (rw [gv_true hb]; exact rfl) | (simp only [gv_true hb]; exact rfl)⟩) ?_
  refine p_val rfl rfl rfl (s_or rfl rfl rfl rfl) (f0 rfl) ?_
  refine p_val rfl rfl rfl rfl (f0 rfl) ?_
  refine p_gval rfl rfl (fun hb => ⟨by first | exact rfl | (rw [hb]; exact rfl), by first | exact rfl | (rw [hb]; exact rfl), g0 rfl, by first | exact rfl | (rw [gv_true hb]; exact rfl) | (simp only [gv_true hb]; exact rfl)⟩) ?_
  refine p_gval rfl rfl (fun hb => ⟨by first | exact rfl | (rw [hb]; exact rfl), by first | exact rfl | (rw [hb]; exact rfl), g0 rfl, by first | exact rfl | (rw [gv_true hb]; exact rfl) | (simp only [gv_true hb]; exact rfl)⟩) ?_
  refine p_val rfl rfl rfl (s_or rfl rfl rfl rfl) (f0 rfl) ?_
  refine p_val rfl rfl rfl rfl (f0 rfl) ?_
  refine p_gval rfl rfl (fun hb => ⟨by first | exact rfl | (rw [hb]; exact rfl), by first | exact rfl | (rw [hb]; exact rfl), g0 rfl, by first | exact rfl | (rw [gv_true hb]; exact rfl) | (simp only [gv_true hb]; exact rfl)⟩) ?_
  refine p_gval rfl rfl (fun hb => ⟨by first | exact rfl | (rw [hb]; exact rfl), by first | exact rfl | (rw [hb]; exact rfl), g0 rfl, by first | exact rfl | (rw [gv_true hb]; exact rfl) | (simp only [gv_true hb]; exact rfl)⟩) ?_
  refine p_gval rfl rfl (fun hb => ⟨by first | exact rfl | (rw [hb]; exact rfl), by first | exact rfl | (rw [hb]; exact rfl), g0 rfl, by first | exact rfl | (rw [gv_true hb]; exact rfl) | (simp only [gv_true hb]; exact rfl)⟩) ?_
  refine p_gval rfl rfl (fun hb => ⟨by first | exact rfl | (rw [hb]; exact rfl), by first | exact rfl | (rw [hb]; exact rfl), g0 rfl, by simp only [gv_true hb]; exact (s_bin rfl rfl rfl rfl (b_shr (hs hb)))⟩) ?_
  refine p_gval rfl rfl (fun hb => ⟨by first | exact rfl | (rw [hb]; exact rfl), by first | exact rfl | (rw [hb]; exact rfl), g0 rfl, by first | exact rfl | (rw [gv_true hb]; exact rfl) | (simp only [gv_true hb]; exact rfl)⟩) ?_
  refine p_val rfl rfl rfl (s_or rfl rfl rfl rfl) (f0 rfl) ?_
  refine p_nil (q_endL rfl (t' := [(0, _), (1, _), (24, _)]) rfl (bx' := []) rfl (F' := []) rfl ?_)
  refine q_then ?_
  repeat (with_reducible refine c_seq ?_)
  refine c_if rfl (fun hc => ?_) (fun hc => ?_)
  · have hb : d < 1 ∨ 8 < d ∨ n < 0 ∨ 2 ^ (6 * d.toNat) ≤ n.toNat := by
      by_cases h1 : d < 1
      · exact .inl h1
      by_cases h2 : 8 < d
      · exact .inr (.inl h2)
      by_cases h3 : n < 0
      · exact .inr (.inr (.inl h3))
      rw [hfd (by omega) (by omega) (by omega)] at hc
      refine .inr (.inr (.inr ?_))
      rcases Nat.lt_or_ge n.toNat (2 ^ (6 * d.toNat)) with h | h
      · exfalso
        rw [Nat.div_eq_of_lt h] at hc
        simp [h1, h2, h3] at hc
      · exact h
    -- region 2
    repeat (with_reducible refine c_seq ?_)
    refine c_region rfl ?_
    refine p_val rfl rfl rfl rfl (f0 rfl) ?_
    refine p_val rfl rfl rfl rfl (f0 rfl) ?_
    refine p_nil (q_endL rfl (t' := [(4, _), (5, _)]) rfl (bx' := []) rfl (F' := []) rfl ?_)
    refine q_then ?_
    refine c_ret ?_
    exact ⟨by rw [nbrR, if_pos hb]; rfl, ⟨[], (List.append_nil _).symm⟩, rfl, nbr_low _ _ _⟩
  · obtain ⟨h1, h2, h3⟩ : 1 ≤ d ∧ d ≤ 8 ∧ 0 ≤ n := by
      simp only [Bool.or_eq_false_iff, decide_eq_false_iff_not] at hc
      omega
    have h4 : n.toNat < 2 ^ (6 * d.toNat) := by
      rw [hfd h3 h1 h2] at hc
      simp only [Bool.or_eq_false_iff, bne_eq_false_iff_eq] at hc
      have := hc.2
      rcases Nat.lt_or_ge n.toNat (2 ^ (6 * d.toNat)) with h | h
      · exact h
      · exfalso
        have h5 : 0 < n.toNat / 2 ^ (6 * d.toNat) := Nat.div_pos h (Nat.two_pow_pos _)
        omega
    have hb : ¬(d < 1 ∨ 8 < d ∨ n < 0 ∨ 2 ^ (6 * d.toNat) ≤ n.toNat) := by omega
    have hr : nbrR n d = .tup [.str (dgs n.toNat d.toNat), .int .i64 0] := by rw [nbrR, if_neg hb]
    rw [hr]
    clear hr hb hc hs hfd
    obtain ⟨k, rfl⟩ := Int.eq_ofNat_of_zero_le (show 0 ≤ d by omega)
    obtain ⟨m, rfl⟩ := Int.eq_ofNat_of_zero_le h3
    simp only [Int.toNat_natCast] at *
    refine c_skip ?_
    refine q_then ?_
    -- on
    -- region 3
    repeat (with_reducible refine c_seq ?_)
    refine c_region rfl ?_
    refine p_val rfl rfl rfl rfl (f0 rfl) ?_
    refine p_mk (n := k) rfl rfl rfl rfl (s_make rfl rfl ty30 rfl rfl ty5 ⟨by omega, by omega, by unfold roomy; omega, by unfold roomy; omega, by decide, by simp [PV.cells, PV.one]⟩) (by simp) (f0' rfl) ?_
    refine p_val rfl rfl rfl rfl (f0 rfl) ?_
    refine p_nil (q_endL rfl (t' := [(0, _), (1, _), (6, _)]) rfl (bx' := []) rfl (F' := []) rfl ?_)
    refine q_then ?_
    -- region 4
    repeat (with_reducible refine c_seq ?_)
    refine c_region rfl ?_
    refine p_val rfl rfl rfl rfl (f0 rfl) ?_
    refine p_xlen rfl rfl rfl rfl rfl rfl ty30 rfl (f0' rfl) ?_
    refine p_val rfl rfl rfl rfl (f0 rfl) ?_
    refine p_nil (q_endL rfl (t' := [(0, _), (1, _), (6, _), (28, _), (29, _)]) rfl (bx' := []) rfl (F' := []) rfl ?_)
    refine q_then ?_
    repeat (with_reducible refine c_seq ?_)
    refine c_block ?_
    refine c_loopH (fun e => ∃ i : Nat, e = ⟨[(0, .v (.int .i64 (m : Int))), (1, .v (.int .i64 (k : Int))), (6, .v (.os H.length 0 k)), (28, .v (.int .i64 (k : Int))), (29, .v (.int .i64 (i : Int)))], [], H ++ [⟨0, cl13 m k i⟩], []⟩ ∧ i ≤ k) (fun e => match lkp e.t 29 with | some (.v (.int _ i)) => (8 - i).toNat | _ => 0) rfl (t' := [(0, _), (1, _), (6, _), (28, _), (29, _)]) rfl (bx' := []) rfl (F' := []) rfl ?_ ?_
    · exact ⟨0, by rw [flat_zero k m]; rfl, by omega⟩
    rintro e ⟨i, rfl, hi⟩
    -- region 5
    repeat (with_reducible refine c_seq ?_)
    refine c_region rfl ?_
    refine p_val rfl rfl rfl rfl (f0 rfl) ?_
    refine p_nil (q_endL rfl (t' := [(0, _), (1, _), (6, _), (28, _), (29, _), (30, _)]) rfl (bx' := []) rfl (F' := []) rfl ?_)
    refine q_then ?_
    repeat (with_reducible refine c_seq ?_)
    refine c_if rfl (fun hc => ?_) (fun hc => ?_)
    · have hi2 : i < k := by have := of_decide_eq_true hc; omega
      have hm63 : m < 9223372036854775808 := by omega
      have hd63 : m / 2 ^ (6 * i) < 9223372036854775808 := Nat.lt_of_le_of_lt (Nat.div_le_self _ _) hm63
      refine c_skip ?_
      refine q_then ?_
      -- on
      repeat (with_reducible refine c_seq ?_)
      refine c_block ?_
      -- region 6
      repeat (with_reducible refine c_seq ?_)
      refine c_region rfl ?_
      refine p_val rfl rfl rfl rfl (f0 rfl) ?_
      refine p_val rfl rfl rfl rfl (f0 rfl) ?_
      refine p_nil (q_endL rfl (t' := [(0, _), (1, _), (6, _), (7, _), (28, _), (29, _)]) rfl (bx' := []) rfl (F' := []) rfl ?_)
      refine q_then ?_
      -- region 7
      repeat (with_reducible refine c_seq ?_)
      refine c_region rfl ?_
      refine p_val rfl rfl rfl rfl (f0 rfl) ?_
      refine p_val rfl rfl rfl rfl (f0 rfl) ?_
      refine p_val rfl rfl rfl (s_bin rfl rfl rfl rfl (Vm.b_subk 1 rfl (by omega) (by omega))) (f0 rfl) ?_
      refine p_val rfl rfl rfl rfl (f0 rfl) ?_
      refine p_val rfl rfl rfl (s_bin rfl rfl rfl rfl (b_subN (by omega) (by omega))) (f0 rfl) ?_
      refine p_val rfl rfl rfl rfl (f0 rfl) ?_
      refine p_val rfl rfl rfl rfl (f0 rfl) ?_
      refine p_val rfl rfl rfl (s_bin rfl rfl rfl rfl (b_kmul 6 rfl (by omega))) (f0 rfl) ?_
      refine p_val rfl rfl rfl (s_bin rfl rfl rfl rfl (b_shrk (6 * i) rfl (by omega))) (f0 rfl) ?_
      refine p_val rfl rfl rfl (s_bin rfl rfl rfl rfl (b_andk 63 rfl hd63 (by decide))) (f0 rfl) ?_
      refine p_val rfl rfl rfl (s_indexS rfl rfl ty9 rfl rfl (by omega) (al_get (Nat.lt_of_le_of_lt Nat.and_le_right (by decide)))) (f0 rfl) ?_
      refine p_xaddr rfl rfl rfl rfl ty30 rfl rfl (by omega) (f0' rfl) ?_
      refine p_eff rfl rfl rfl (s_storeH rfl ty5 rfl rfl (get_last _ _) ⟨rfl, by simp [byteP, PV.cells, PV.one], by rw [cl13_len hi]; simp; omega, by decide⟩) (f0 rfl) ?_
      refine p_nil (q_endL rfl (t' := [(0, _), (1, _), (6, _), (28, _), (29, _)]) rfl (bx' := []) rfl (F' := []) rfl ?_)
      repeat (with_reducible refine q_then ?_)
      refine i_norm ?_
      refine q_then ?_
      -- on
      -- region 8
      repeat (with_reducible refine c_seq ?_)
      refine c_region rfl ?_
      refine p_val rfl rfl rfl (s_bin rfl rfl rfl rfl (b_addk 1 rfl (by omega))) (f0 rfl) ?_
      refine p_val rfl rfl rfl rfl (f0 rfl) ?_
      refine p_nil (q_endL rfl (t' := [(0, _), (1, _), (6, _), (28, _), (29, _)]) rfl (bx' := []) rfl (F' := []) rfl ?_)
      refine l_normH rfl (t' := [(0, _), (1, _), (6, _), (28, _), (29, _)]) rfl (bx' := []) rfl (F' := []) rfl ?_ ?_
      · exact ⟨i + 1, by rw [set_last]; simp only [cl13_splice hi2], by omega⟩
      · simp [lkp]; omega
    · have hi2 : i = k := by have := of_decide_eq_false hc; omega
      subst hi2
      refine c_exit ?_
      repeat (with_reducible first | refine q_exit ?_ | refine l_exit ?_ | refine i_past (by decide) ?_)
      refine i_here ?_
      refine q_then ?_
      -- on
      -- region 9
      repeat (with_reducible refine c_seq ?_)
      refine c_region rfl ?_
      refine p_val rfl rfl rfl rfl (f0 rfl) ?_
      refine p_xstr rfl rfl rfl rfl ty30 ty9 ty5 rfl (get_last _ _) (by rw [cl13_len hi]; omega) (cl13_bytes m i) (f0' rfl) ?_
      refine p_val rfl rfl rfl rfl (f0 rfl) ?_
      refine p_val rfl rfl rfl rfl (f0 rfl) ?_
      refine p_nil (q_endL rfl (t' := [(4, _), (5, _)]) rfl (bx' := []) rfl (F' := []) rfl ?_)
      refine q_then ?_
      refine c_ret ?_
      exact ⟨rfl, ⟨_, rfl⟩, rfl, rfl⟩

end Go.Proofs.Ytielbjjdgdblcaa.B

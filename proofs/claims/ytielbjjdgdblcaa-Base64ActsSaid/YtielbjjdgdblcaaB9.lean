/- Law 01: the reference's Encode. -/
import Derived.Test.YtielbjjdgdblcaaB8
namespace Go.Proofs.Ytielbjjdgdblcaa.B
open Go Go.Proofs Go.Proofs.Ytielbjjdgdblcaa.Vm

noncomputable def c15 : Ctx := { P := Try.prog, box := [], esc := [], own := true, fr := fr, n := 59, slots := [] }
def w15 : Wk := { live := [(0, [0]), (1, [0, 7]), (2, [2, 3]), (3, [0, 11]), (4, [2, 3]), (5, [0, 4]), (6, [0, 4, 5]), (7, [0, 4, 5, 19]), (8, [0, 4, 5]), (9, [0, 4, 5, 6]), (10, [0, 4, 5]), (11, [2, 3])], head := [(1, [0, 4, 5])], tr := [(1, [false, true, true, false]), (3, [false, true, true, true, false]), (7, [false, false]), (8, [false, true, false]), (9, [false, false, true, true, true, false, false, true, true, true, true, true, false, false, true, true, true, true, false]), (10, [true, false, true, true, false, true, true, true, false, true, true, true, false]), (11, [false, true, false])] }
theorem k15 : chkFn c15 Try.f15 1 = true := by kernel_rfl

-- types: 3 5 9 30
set_option maxHeartbeats 1000000 in
theorem run15 (s : List UInt8) (H : List HObj) : Run Try.prog fr 15 [.str s] H (encR s) H := by
  refine run_of_body (C := c15) (W := w15) Try.func15 rfl k15 ?_
  -- region 0
  repeat (with_reducible refine c_seq ?_)
  refine c_region rfl ?_
  refine p_val (F' := []) rfl rfl rfl rfl rfl ?_
  refine p_val (F' := []) rfl rfl rfl rfl rfl ?_
  refine p_nil (q_endL rfl (t' := [(0, _)]) rfl (bx' := []) rfl (F' := []) rfl ?_)
  refine q_then ?_
  repeat (with_reducible refine c_seq ?_)
  refine c_block ?_
  -- region 1
  repeat (with_reducible refine c_seq ?_)
  refine c_region rfl ?_
  refine p_val (F' := []) rfl rfl rfl rfl rfl ?_
  refine p_val (F' := []) rfl rfl rfl (s_lenS rfl rfl rfl rfl ty9 rfl) rfl ?_
  refine p_val (F' := []) rfl rfl rfl rfl rfl ?_
  refine p_val (F' := []) rfl rfl rfl rfl rfl ?_
  refine p_nil (q_endL rfl (t' := [(0, _), (7, _)]) rfl (bx' := []) rfl (F' := []) rfl ?_)
  refine q_then ?_
  repeat (with_reducible refine c_seq ?_)
  refine c_if rfl (fun hc => ?_) (fun hc => ?_)
  · have hb : 65536 < s.length := by have := of_decide_eq_true hc; omega
    -- region 2
    repeat (with_reducible refine c_seq ?_)
    refine c_region rfl ?_
    refine p_val (F' := []) rfl rfl rfl rfl rfl ?_
    refine p_val (F' := []) rfl rfl rfl rfl rfl ?_
    refine p_nil (q_endL rfl (t' := [(2, _), (3, _)]) rfl (bx' := []) rfl (F' := []) rfl ?_)
    refine q_then ?_
    refine c_ret ?_
    exact ⟨by rw [encR, if_pos hb]; rfl, rfl, rfl⟩
  · have hb : ¬ 65536 < s.length := by have := of_decide_eq_false hc; omega
    -- region 3
    repeat (with_reducible refine c_seq ?_)
    refine c_region rfl ?_
    refine p_val (F' := []) rfl rfl rfl rfl rfl ?_
    refine p_val (F' := []) rfl rfl rfl (s_lenS rfl rfl rfl rfl ty9 rfl) rfl ?_
    refine p_val (F' := []) rfl rfl rfl (s_bin rfl rfl rfl rfl (b_rem (by decide))) rfl ?_
    refine p_val (F' := []) rfl rfl rfl rfl rfl ?_
    refine p_val (F' := []) rfl rfl rfl rfl rfl ?_
    refine p_nil (q_endL rfl (t' := [(0, _), (11, _)]) rfl (bx' := []) rfl (F' := []) rfl ?_)
    refine q_then ?_
    repeat (with_reducible refine c_seq ?_)
    refine c_if rfl (fun hc => ?_) (fun hc => ?_)
    · have h2 : s.length % 3 ≠ 0 := by
        intro h; revert hc; rw [Int.tmod_eq_emod_of_nonneg (by omega)]; simp; omega
      -- region 4
      repeat (with_reducible refine c_seq ?_)
      refine c_region rfl ?_
      refine p_val (F' := []) rfl rfl rfl rfl rfl ?_
      refine p_val (F' := []) rfl rfl rfl rfl rfl ?_
      refine p_nil (q_endL rfl (t' := [(2, _), (3, _)]) rfl (bx' := []) rfl (F' := []) rfl ?_)
      refine q_then ?_
      refine c_ret ?_
      exact ⟨by rw [encR, if_neg hb, if_pos h2]; rfl, rfl, rfl⟩
    · have h1 : s.length ≤ 65536 := by omega
      have h2 : s.length % 3 = 0 := by
        revert hc; rw [Int.tmod_eq_emod_of_nonneg (by omega)]; simp; omega
      refine c_skip ?_
      repeat (with_reducible refine q_then ?_)
      refine i_norm ?_
      refine q_then ?_
      -- on
      -- region 5
      repeat (with_reducible refine c_seq ?_)
      refine c_region rfl ?_
      refine p_val (F' := [(4, 0, 0)]) rfl rfl rfl (s_nil (.inr rfl) rfl ty30) rfl ?_
      refine p_nil (q_endL rfl (t' := [(0, _), (4, _)]) rfl (bx' := []) rfl (F' := [(4, 0, 0)]) rfl ?_)
      refine q_then ?_
      -- region 6
      repeat (with_reducible refine c_seq ?_)
      refine c_region rfl ?_
      refine p_val (F' := [(4, 0, 0)]) rfl rfl rfl rfl rfl ?_
      refine p_nil (q_endL rfl (t' := [(0, _), (4, _), (5, _)]) rfl (bx' := []) rfl (F' := [(4, 0, 0)]) rfl ?_)
      refine q_then ?_
      repeat (with_reducible refine c_seq ?_)
      refine c_block ?_
      refine c_loopH (fun e => ∃ (k : Nat) (l : List PV), e = ⟨[(0, .v (.str s)), (4, .v (.slice 1 l)), (5, .v (.int .i64 (k : Int)))], [], H, [(4, 0, 0)]⟩ ∧ k % 3 = 0 ∧ k ≤ s.length ∧ l ++ (enc (s.drop k)).map byteP = (enc s).map byteP) (fun e => match lkp e.t 5 with | some (.v (.int _ k)) => (s.length - k).toNat | _ => 0) rfl (t' := [(0, _), (4, _), (5, _)]) rfl (bx' := []) rfl (F' := [(4, 0, 0)]) rfl ?_ ?_
      · exact ⟨0, [], rfl, rfl, by omega, rfl⟩
      rintro e ⟨k, l, rfl, h3, h5, h4⟩
      -- region 7
      repeat (with_reducible refine c_seq ?_)
      refine c_region rfl ?_
      refine p_val (F' := [(4, 0, 0)]) rfl rfl rfl rfl rfl ?_
      refine p_val (F' := [(4, 0, 0)]) rfl rfl rfl rfl rfl ?_
      refine p_val (F' := [(4, 0, 0)]) rfl rfl rfl (s_lenS rfl rfl rfl rfl ty9 rfl) rfl ?_
      refine p_val (F' := [(4, 0, 0)]) rfl rfl rfl rfl rfl ?_
      refine p_nil (q_endL rfl (t' := [(0, _), (4, _), (5, _), (19, _)]) rfl (bx' := []) rfl (F' := [(4, 0, 0)]) rfl ?_)
      refine q_then ?_
      repeat (with_reducible refine c_seq ?_)
      refine c_if rfl (fun hc => ?_) (fun hc => ?_)
      · have hk2 : k < s.length := by have := of_decide_eq_true hc; omega
        obtain ⟨a, b, c, r, hr⟩ : ∃ a b c r, s.drop k = a :: b :: c :: r := by
          have hl : (s.drop k).length = s.length - k := List.length_drop
          match hq : s.drop k with
          | a :: b :: c :: r => exact ⟨a, b, c, r, rfl⟩
          | [] => rw [hq] at hl; simp at hl; omega
          | [_] => rw [hq] at hl; simp at hl; omega
          | [_, _] => rw [hq] at hl; simp at hl; omega
        have q0 : s[((k : Nat) : Int).toNat]? = some a := by have := List.getElem?_drop (xs := s) (i := k) (j := 0); rw [hr] at this; rw [Int.toNat_natCast]; simpa using this.symm
        have q1 : s[((k + 1 : Nat) : Int).toNat]? = some b := by have := List.getElem?_drop (xs := s) (i := k) (j := 1); rw [hr] at this; rw [Int.toNat_natCast]; simpa using this.symm
        have q2 : s[((k + 2 : Nat) : Int).toNat]? = some c := by have := List.getElem?_drop (xs := s) (i := k) (j := 2); rw [hr] at this; rw [Int.toNat_natCast]; simpa using this.symm
        have hr3 : s.drop (k + 3) = r := by rw [← List.drop_drop, hr]; rfl
        have hk3 : k + 3 ≤ s.length := by have hl : (s.drop k).length = s.length - k := List.length_drop; rw [hr] at hl; simp at hl; omega
        rw [hr] at h4
        have ha := a.toNat_lt; have hb' := b.toNat_lt; have hcc := c.toNat_lt
        have hx := x3_lt a b c
        unfold x3 at hx
        have hx2 : a.toNat * 2 ^ 16 ||| b.toNat * 2 ^ 8 < 2 ^ 24 := Nat.or_lt_two_pow (by omega) (by omega)
        refine c_skip ?_
        refine q_then ?_
        -- on
        repeat (with_reducible refine c_seq ?_)
        refine c_block ?_
        -- region 9
        repeat (with_reducible refine c_seq ?_)
        refine c_draw [4] [] mixed (by kernel_rfl) rfl rfl ?_
        refine d_in rfl rfl rfl rfl rfl (fun _ _ => ⟨fun _ h => h, rfl⟩) rfl rfl (.inl rfl) ?_
        refine d_in rfl rfl rfl rfl rfl (fun _ _ => ⟨fun _ h => h, rfl⟩) rfl rfl (.inl rfl) ?_
        refine d_in rfl rfl rfl rfl (s_indexS rfl rfl ty9 rfl rfl (by omega) q0) (fun _ _ => ⟨fun _ h => h, rfl⟩) rfl rfl (.inl rfl) ?_
        refine d_in rfl rfl rfl rfl (s_convert rfl rfl rfl (v_64 ty5 ty3 (by omega))) (fun _ _ => ⟨fun _ h => h, rfl⟩) rfl rfl (.inl rfl) ?_
        refine d_in rfl rfl rfl rfl (s_bin rfl rfl rfl rfl (b_shlk 16 rfl (by decide) (by omega))) (fun _ _ => ⟨fun _ h => h, rfl⟩) rfl rfl (.inl rfl) ?_
        refine d_in rfl rfl rfl rfl rfl (fun _ _ => ⟨fun _ h => h, rfl⟩) rfl rfl (.inl rfl) ?_
        refine d_in rfl rfl rfl rfl rfl (fun _ _ => ⟨fun _ h => h, rfl⟩) rfl rfl (.inl rfl) ?_
        refine d_in rfl rfl rfl rfl (s_bin rfl rfl rfl rfl (b_addk 1 rfl (by omega))) (fun _ _ => ⟨fun _ h => h, rfl⟩) rfl rfl (.inl rfl) ?_
        refine d_in rfl rfl rfl rfl (s_indexS rfl rfl ty9 rfl rfl (by omega) q1) (fun _ _ => ⟨fun _ h => h, rfl⟩) rfl rfl (.inl rfl) ?_
        refine d_in rfl rfl rfl rfl (s_convert rfl rfl rfl (v_64 ty5 ty3 (by omega))) (fun _ _ => ⟨fun _ h => h, rfl⟩) rfl rfl (.inl rfl) ?_
        refine d_in rfl rfl rfl rfl (s_bin rfl rfl rfl rfl (b_shlk 8 rfl (by decide) (by omega))) (fun _ _ => ⟨fun _ h => h, rfl⟩) rfl rfl (.inl rfl) ?_
        refine d_in rfl rfl rfl rfl (s_bin rfl rfl rfl rfl (b_or (by omega) (by omega))) (fun _ _ => ⟨fun _ h => h, rfl⟩) rfl rfl (.inl rfl) ?_
        refine d_in rfl rfl rfl rfl rfl (fun _ _ => ⟨fun _ h => h, rfl⟩) rfl rfl (.inl rfl) ?_
        refine d_in rfl rfl rfl rfl rfl (fun _ _ => ⟨fun _ h => h, rfl⟩) rfl rfl (.inl rfl) ?_
        refine d_in rfl rfl rfl rfl (s_bin rfl rfl rfl rfl (b_addk 2 rfl (by omega))) (fun _ _ => ⟨fun _ h => h, rfl⟩) rfl rfl (.inl rfl) ?_
        refine d_in rfl rfl rfl rfl (s_indexS rfl rfl ty9 rfl rfl (by omega) q2) (fun _ _ => ⟨fun _ h => h, rfl⟩) rfl rfl (.inl rfl) ?_
        refine d_in rfl rfl rfl rfl (s_convert rfl rfl rfl (v_64 ty5 ty3 (by omega))) (fun _ _ => ⟨fun _ h => h, rfl⟩) rfl rfl (.inl rfl) ?_
        refine d_in rfl rfl rfl rfl (s_bin rfl rfl rfl rfl (b_or (by simp only [Nat.reducePow] at *; omega) (by omega))) (fun _ _ => ⟨fun _ h => h, rfl⟩) rfl rfl (.inl rfl) ?_
        refine d_in rfl rfl rfl rfl rfl (fun _ _ => ⟨fun _ h => h, rfl⟩) rfl rfl (.inl rfl) ?_
        refine d_nil (q_endL rfl (t' := [(0, _), (4, _), (5, _), (6, _)]) rfl (bx' := []) rfl (F' := [(4, 0, 0)]) rfl ?_)
        refine q_then ?_
        -- region 10
        repeat (with_reducible refine c_seq ?_)
        refine c_draw [4, 40, 56] [0, 16, 17] mixed (by kernel_rfl) rfl rfl ?_
        refine d_on (F' := [(40, 0, 0)]) rfl rfl rfl rfl rfl rfl rfl rfl rfl rfl ?_
        refine d_in rfl rfl rfl rfl rfl (fun _ _ => ⟨fun _ h => h, rfl⟩) rfl rfl (.inl rfl) ?_
        refine d_in rfl rfl rfl rfl (s_bin rfl rfl rfl rfl (b_shrk 18 rfl (by decide))) (fun _ _ => ⟨fun _ h => h, rfl⟩) rfl rfl (.inl rfl) ?_
        refine d_in rfl rfl rfl rfl (s_indexS rfl rfl ty9 rfl rfl (by omega) (al_get (by first | (simp only [Nat.reducePow] at *; omega) | exact Nat.lt_of_le_of_lt Nat.and_le_right (by decide)))) (fun _ _ => ⟨fun _ h => h, rfl⟩) rfl rfl (.inl rfl) ?_
        refine d_in rfl rfl rfl rfl rfl (fun _ _ => ⟨fun _ h => h, rfl⟩) rfl rfl (.inl rfl) ?_
        refine d_in rfl rfl rfl rfl (s_bin rfl rfl rfl rfl (b_shrk 12 rfl (by decide))) (fun _ _ => ⟨fun _ h => h, rfl⟩) rfl rfl (.inl rfl) ?_
        refine d_in rfl rfl rfl rfl (s_bin rfl rfl rfl rfl (b_andk 63 rfl (by simp only [Nat.reducePow] at *; omega) (by decide))) (fun _ _ => ⟨fun _ h => h, rfl⟩) rfl rfl (.inl rfl) ?_
        refine d_in rfl rfl rfl rfl (s_indexS rfl rfl ty9 rfl rfl (by omega) (al_get (by first | (simp only [Nat.reducePow] at *; omega) | exact Nat.lt_of_le_of_lt Nat.and_le_right (by decide)))) (fun _ _ => ⟨fun _ h => h, rfl⟩) rfl rfl (.inl rfl) ?_
        refine d_in rfl rfl rfl rfl rfl (fun _ _ => ⟨fun _ h => h, rfl⟩) rfl rfl (.inl rfl) ?_
        refine d_in rfl rfl rfl rfl (s_bin rfl rfl rfl rfl (b_shrk 6 rfl (by decide))) (fun _ _ => ⟨fun _ h => h, rfl⟩) rfl rfl (.inl rfl) ?_
        refine d_in rfl rfl rfl rfl (s_bin rfl rfl rfl rfl (b_andk 63 rfl (by simp only [Nat.reducePow] at *; omega) (by decide))) (fun _ _ => ⟨fun _ h => h, rfl⟩) rfl rfl (.inl rfl) ?_
        refine d_in rfl rfl rfl rfl (s_indexS rfl rfl ty9 rfl rfl (by omega) (al_get (by first | (simp only [Nat.reducePow] at *; omega) | exact Nat.lt_of_le_of_lt Nat.and_le_right (by decide)))) (fun _ _ => ⟨fun _ h => h, rfl⟩) rfl rfl (.inl rfl) ?_
        refine d_in rfl rfl rfl rfl rfl (fun _ _ => ⟨fun _ h => h, rfl⟩) rfl rfl (.inl rfl) ?_
        refine d_in rfl rfl rfl rfl (s_bin rfl rfl rfl rfl (b_andk 63 rfl (by simp only [Nat.reducePow] at *; omega) (by decide))) (fun _ _ => ⟨fun _ h => h, rfl⟩) rfl rfl (.inl rfl) ?_
        refine d_in rfl rfl rfl rfl (s_indexS rfl rfl ty9 rfl rfl (by omega) (al_get (by first | (simp only [Nat.reducePow] at *; omega) | exact Nat.lt_of_le_of_lt Nat.and_le_right (by decide)))) (fun _ _ => ⟨fun _ h => h, rfl⟩) rfl rfl (.inl rfl) ?_
        refine d_in rfl rfl rfl rfl (s_lit rfl rfl ty30 ty5 rfl ⟨rfl, by decide, by decide, by simp [byteP, PV.cells, PV.one]⟩) (fun _ _ => ⟨fun _ h => List.mem_cons_of_mem _ h, rfl⟩) rfl rfl (.inl rfl) ?_
        refine d_on (F' := [(56, 0, 0)]) rfl rfl rfl rfl rfl (s_app rfl rfl rfl rfl ty30 rfl (zero_ok ty5) ty30 rfl (by decide) (by have := congrArg List.length h4; simp at this ⊢; have := enc_len s; unfold roomy; omega)) rfl rfl rfl rfl ?_
        refine d_on (F' := [(4, 0, 0)]) rfl rfl rfl rfl rfl rfl rfl rfl rfl rfl ?_
        refine d_nil (q_endL rfl (t' := [(0, _), (4, _), (5, _)]) rfl (bx' := []) rfl (F' := [(4, 0, 0)]) rfl ?_)
        repeat (with_reducible refine q_then ?_)
        refine i_norm ?_
        refine q_then ?_
        -- on
        -- region 8
        repeat (with_reducible refine c_seq ?_)
        refine c_region rfl ?_
        refine p_val (F' := [(4, 0, 0)]) rfl rfl rfl rfl rfl ?_
        refine p_val (F' := [(4, 0, 0)]) rfl rfl rfl (s_bin rfl rfl rfl rfl (b_addk 3 rfl (by omega))) rfl ?_
        refine p_val (F' := [(4, 0, 0)]) rfl rfl rfl rfl rfl ?_
        refine p_nil (q_endL rfl (t' := [(0, _), (4, _), (5, _)]) rfl (bx' := []) rfl (F' := [(4, 0, 0)]) rfl ?_)
        refine l_normH rfl (t' := [(0, _), (4, _), (5, _)]) rfl (bx' := []) rfl (F' := [(4, 0, 0)]) rfl ?_ ?_
        · exact ⟨k + 3, _, rfl, by omega, hk3, by rw [hr3]; simpa [enc, x3] using h4⟩
        · simp [lkp]; omega
      · have hk3 : k = s.length := by have := of_decide_eq_false hc; omega
        subst hk3
        have hl : unbytes l = some (enc s) := by
          simp [enc] at h4; rw [h4]; exact unbytes_byteP _
        refine c_exit ?_
        repeat (with_reducible first | refine q_exit ?_ | refine l_exit ?_ | refine i_past (by decide) ?_)
        refine i_here ?_
        refine q_then ?_
        -- on
        -- region 11
        repeat (with_reducible refine c_seq ?_)
        refine c_region rfl ?_
        refine p_val (F' := [(4, 0, 0)]) rfl rfl rfl rfl rfl ?_
        refine p_val (F' := [(4, 0, 0)]) rfl rfl rfl (s_convert rfl rfl rfl (v_str ty30 ty9 ty5 hl)) rfl ?_
        refine p_val (F' := [(4, 0, 0)]) rfl rfl rfl rfl rfl ?_
        refine p_val (F' := [(4, 0, 0)]) rfl rfl rfl rfl rfl ?_
        refine p_nil (q_endL rfl (t' := [(2, _), (3, _)]) rfl (bx' := []) rfl (F' := []) rfl ?_)
        refine q_then ?_
        refine c_ret ?_
        exact ⟨by rw [encR, if_neg hb, if_neg (by simpa using h2)]; rfl, rfl, rfl⟩

end Go.Proofs.Ytielbjjdgdblcaa.B

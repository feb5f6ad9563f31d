/- Law 01: how bytes come back. -/
import Derived.Test.YtielbjjdgdblcaaB4
namespace Go.Proofs.Ytielbjjdgdblcaa.B
open Go Go.Proofs Go.Proofs.Ytielbjjdgdblcaa.Vm
def dec : List UInt8 → List UInt8
  | a :: b :: c :: d :: r => UInt8.ofNat (num [a, b, c, d] / 2 ^ 16) :: UInt8.ofNat (num [a, b, c, d] / 2 ^ 8) :: UInt8.ofNat (num [a, b, c, d]) :: dec r
  | _ => []
def decR (s : List UInt8) : PV :=
  if 131072 < s.length then .tup [.str [], .int .i64 3] else if s.length % 4 ≠ 0 then .tup [.str [], .int .i64 8] else
  if s.all isD = true then .tup [.str (dec s), .int .i64 0] else .tup [.str [], .int .i64 4]
theorem byteP_ofNat (n : Nat) : PV.int .u8 ((n % 256 : Nat) : Int) = byteP (UInt8.ofNat n) := by simp [byteP, UInt8.toNat_ofNat']
theorem dec_len : ∀ s : List UInt8, (dec s).length ≤ s.length
  | a :: b :: c :: d :: r => by have := dec_len r; simp only [dec, List.length_cons]; omega
  | [] => by simp [dec]
  | [_] => by simp [dec]
  | [_, _] => by simp [dec]
  | [_, _, _] => by simp [dec]
theorem run23' (s : List UInt8) (hs : s.length ≤ 8) (H : List HObj) : Run Try.prog fr 23 [.str s] H (.tup [.int .i64 ((if s.all isD = true then num s else 0 : Nat) : Int), .bool (s.all isD)]) H := by
  have h := run23 s hs H
  unfold numR at h
  split at h
  · rename_i h0; rw [if_pos h0, h0]; exact h
  · rename_i h0; rw [if_neg h0, Bool.eq_false_iff.2 h0]; exact h

noncomputable def c11 : Ctx := { P := Try.prog, box := [], esc := [], own := true, fr := fr, n := 46, slots := [] }
def w11 : Wk := { live := [(0, [0]), (1, [0, 7]), (2, [2, 3]), (3, [0, 11]), (4, [2, 3]), (5, [0, 4]), (6, [0, 4, 22]), (7, [0, 4]), (8, [0, 4, 5, 6]), (9, [0, 4, 5, 32]), (10, [2, 3]), (11, [0, 4]), (12, [2, 3])], head := [(1, [0, 4])], tr := [(1, [false, true, true, false]), (3, [false, true, true, true, false]), (5, [false]), (6, [false]), (7, [false, true, false]), (8, [false, true, true, false, true, true, false, false]), (9, [false]), (11, [true, false, true, true, false, true, true, false]), (12, [false, true, false])] }
theorem k11 : chkFn c11 Try.f11 1 = true := by kernel_rfl

-- types: 3 4 5 9 30
set_option maxHeartbeats 1000000 in
theorem run11 (s : List UInt8) (H : List HObj) : Run Try.prog fr 11 [.str s] H (decR s) H := by
  refine run_of_body (C := c11) (W := w11) Try.func11 rfl k11 ?_
  -- region 0
  repeat (with_reducible refine c_seq ?_)
  refine c_region rfl ?_
  refine p_val (F' := []) rfl rfl rfl rfl rfl ?_
  refine p_val (F' := []) rfl rfl rfl rfl rfl ?_
  refine p_nil (q_endL rfl (t' := [(0, _)]) rfl (bx' := []) rfl (F' := []) rfl ?_)
  refine q_then ?_
  repeat (with_reducible refine c_seq ?_)
  refine c_block ?_
  -- region 1
  repeat (with_reducible refine c_seq ?_)
  refine c_region rfl ?_
  refine p_val (F' := []) rfl rfl rfl rfl rfl ?_
  refine p_val (F' := []) rfl rfl rfl (s_lenS rfl rfl rfl rfl ty9 rfl) rfl ?_
  refine p_val (F' := []) rfl rfl rfl rfl rfl ?_
  refine p_val (F' := []) rfl rfl rfl rfl rfl ?_
  refine p_nil (q_endL rfl (t' := [(0, _), (7, _)]) rfl (bx' := []) rfl (F' := []) rfl ?_)
  refine q_then ?_
  repeat (with_reducible refine c_seq ?_)
  refine c_if rfl (fun hc => ?_) (fun hc => ?_)
  · have hb : 131072 < s.length := by have := of_decide_eq_true hc; omega
    -- region 2
    repeat (with_reducible refine c_seq ?_)
    refine c_region rfl ?_
    refine p_val (F' := []) rfl rfl rfl rfl rfl ?_
    refine p_val (F' := []) rfl rfl rfl rfl rfl ?_
    refine p_nil (q_endL rfl (t' := [(2, _), (3, _)]) rfl (bx' := []) rfl (F' := []) rfl ?_)
    refine q_then ?_
    refine c_ret ?_
    exact ⟨by rw [decR, if_pos hb]; rfl, rfl, rfl⟩
  · have hb : ¬ 131072 < s.length := by have := of_decide_eq_false hc; omega
    -- region 3
    repeat (with_reducible refine c_seq ?_)
    refine c_region rfl ?_
    refine p_val (F' := []) rfl rfl rfl rfl rfl ?_
    refine p_val (F' := []) rfl rfl rfl (s_lenS rfl rfl rfl rfl ty9 rfl) rfl ?_
    refine p_val (F' := []) rfl rfl rfl (s_bin rfl rfl rfl rfl (b_rem (by decide))) rfl ?_
    refine p_val (F' := []) rfl rfl rfl rfl rfl ?_
    refine p_val (F' := []) rfl rfl rfl rfl rfl ?_
    refine p_nil (q_endL rfl (t' := [(0, _), (11, _)]) rfl (bx' := []) rfl (F' := []) rfl ?_)
    refine q_then ?_
    repeat (with_reducible refine c_seq ?_)
    refine c_if rfl (fun hc => ?_) (fun hc => ?_)
    · have h2 : s.length % 4 ≠ 0 := by
        intro h; revert hc; rw [Int.tmod_eq_emod_of_nonneg (by omega)]; simp; omega
      -- region 4
      repeat (with_reducible refine c_seq ?_)
      refine c_region rfl ?_
      refine p_val (F' := []) rfl rfl rfl rfl rfl ?_
      refine p_val (F' := []) rfl rfl rfl rfl rfl ?_
      refine p_nil (q_endL rfl (t' := [(2, _), (3, _)]) rfl (bx' := []) rfl (F' := []) rfl ?_)
      refine q_then ?_
      refine c_ret ?_
      exact ⟨by rw [decR, if_neg hb, if_pos h2]; rfl, rfl, rfl⟩
    · have h2 : s.length % 4 = 0 := by
        revert hc; rw [Int.tmod_eq_emod_of_nonneg (by omega)]; simp; omega
      refine c_skip ?_
      repeat (with_reducible refine q_then ?_)
      refine i_norm ?_
      refine q_then ?_
      -- on
      -- region 5
      repeat (with_reducible refine c_seq ?_)
      refine c_region rfl ?_
      refine p_val (F' := []) rfl rfl rfl rfl rfl ?_
      refine p_val (F' := []) rfl rfl rfl (s_lenS rfl rfl rfl rfl ty9 rfl) rfl ?_
      refine p_val (F' := []) rfl rfl rfl (s_bin rfl rfl rfl rfl (b_quo (by decide))) rfl ?_
      refine p_val (F' := []) rfl rfl rfl rfl rfl ?_
      refine p_val (F' := [(20, 0, 0)]) rfl rfl rfl (s_make rfl rfl ty30 rfl rfl ty5 ?_) rfl ?_
      · rw [IntWalk.i64_quo _ _ (by omega), wr64 (by omega) (by omega)]; refine ⟨by omega, by omega, ?_, ?_, by decide, by decide⟩ <;> (unfold roomy; omega)
      refine p_val (F' := [(4, 0, 0)]) rfl rfl rfl rfl rfl ?_
      refine p_nil (q_endL rfl (t' := [(0, _), (4, _)]) rfl (bx' := []) rfl (F' := [(4, 0, 0)]) rfl ?_)
      refine q_then ?_
      repeat (with_reducible refine c_seq ?_)
      refine c_block ?_
      refine c_loopH (fun e => ∃ s1 l, e = ⟨[(0, .v (.str s1)), (4, .v (.slice 1 l))], [], H, [(4, 0, 0)]⟩ ∧ s1.length % 4 = 0 ∧ s1.length ≤ s.length ∧ l ++ (dec s1).map byteP = (dec s).map byteP ∧ s.all isD = s1.all isD) (fun e => match lkp e.t 0 with | some (.v (.str s)) => s.length | _ => 0) rfl (t' := [(0, _), (4, _)]) rfl (bx' := []) rfl (F' := [(4, 0, 0)]) rfl ?_ ?_
      · exact ⟨s, [], rfl, h2, Nat.le_refl _, rfl, rfl⟩
      rintro e ⟨s1, l, rfl, h3, h5, h4, h6⟩
      -- region 6
      repeat (with_reducible refine c_seq ?_)
      refine c_region rfl ?_
      refine p_val (F' := [(4, 0, 0)]) rfl rfl rfl rfl rfl ?_
      refine p_val (F' := [(4, 0, 0)]) rfl rfl rfl rfl rfl ?_
      refine p_nil (q_endL rfl (t' := [(0, _), (4, _), (22, _)]) rfl (bx' := []) rfl (F' := [(4, 0, 0)]) rfl ?_)
      refine q_then ?_
      repeat (with_reducible refine c_seq ?_)
      refine c_if rfl (fun hc => ?_) (fun hc => ?_)
      · have hne : s1 ≠ [] := by
          intro h; subst h; simp at hc
        obtain ⟨a, b, c, d, r, rfl⟩ : ∃ a b c d r, s1 = a :: b :: c :: d :: r := by
          match s1, h3, hne with
          | a :: b :: c :: d :: r, _, _ => exact ⟨a, b, c, d, r, rfl⟩
          | [_], h, _ => simp at h
          | [_, _], h, _ => simp at h
          | [_, _, _], h, _ => simp at h
        refine c_skip ?_
        refine q_then ?_
        -- on
        repeat (with_reducible refine c_seq ?_)
        refine c_block ?_
        -- region 8
        repeat (with_reducible refine c_seq ?_)
        refine c_region rfl ?_
        refine p_val (F' := [(4, 0, 0)]) rfl rfl rfl rfl rfl ?_
        refine p_val (F' := [(4, 0, 0)]) rfl rfl rfl (s_sliceS rfl rfl ty9 rfl rfl rfl (bd_hi ?_)) rfl ?_
        · simp; omega
        rw [show List.drop 0 (List.take (Int.toNat 4) (a :: b :: c :: d :: r)) = [a, b, c, d] from rfl]
        refine p_go (F' := [(4, 0, 0)]) rfl rfl rfl (run23' _ (by simp) _) rfl ?_
        refine p_val (F' := [(4, 0, 0)]) rfl rfl rfl rfl rfl ?_
        refine p_val (F' := [(4, 0, 0)]) rfl rfl rfl rfl rfl ?_
        refine p_val (F' := [(4, 0, 0)]) rfl rfl rfl rfl rfl ?_
        refine p_val (F' := [(4, 0, 0)]) rfl rfl rfl rfl rfl ?_
        refine p_val (F' := [(4, 0, 0)]) rfl rfl rfl rfl rfl ?_
        refine p_nil (q_endL rfl (t' := [(0, _), (4, _), (5, _), (6, _)]) rfl (bx' := []) rfl (F' := [(4, 0, 0)]) rfl ?_)
        refine q_then ?_
        -- region 9
        repeat (with_reducible refine c_seq ?_)
        refine c_region rfl ?_
        refine p_val (F' := [(4, 0, 0)]) rfl rfl rfl rfl rfl ?_
        refine p_val (F' := [(4, 0, 0)]) rfl rfl rfl rfl rfl ?_
        refine p_nil (q_endL rfl (t' := [(0, _), (4, _), (5, _), (32, _)]) rfl (bx' := []) rfl (F' := [(4, 0, 0)]) rfl ?_)
        refine q_then ?_
        repeat (with_reducible refine c_seq ?_)
        refine c_if rfl (fun hc => ?_) (fun hc => ?_)
        · have hno : [a, b, c, d].all isD = false := by
            revert hc
            cases [a, b, c, d].all isD <;> simp
          have hall : ¬ (s.all isD = true) := by
            rw [h6]; intro h; simp at h hno; simp_all
          -- region 10
          repeat (with_reducible refine c_seq ?_)
          refine c_region rfl ?_
          refine p_val (F' := [(4, 0, 0)]) rfl rfl rfl rfl rfl ?_
          refine p_val (F' := [(4, 0, 0)]) rfl rfl rfl rfl rfl ?_
          refine p_nil (q_endL rfl (t' := [(2, _), (3, _)]) rfl (bx' := []) rfl (F' := []) rfl ?_)
          refine q_then ?_
          refine c_ret ?_
          exact ⟨by rw [decR, if_neg hb, if_neg (by simpa using h2), if_neg hall]; rfl, rfl, rfl⟩
        · have hyes : [a, b, c, d].all isD = true := by simpa using hc
          rw [if_pos hyes]
          have hnum : num [a, b, c, d] < 2 ^ 24 := numF_lt [a, b, c, d] 0 0 (by simp)
          refine c_skip ?_
          refine q_then ?_
          -- on
          -- region 11
          repeat (with_reducible refine c_seq ?_)
          refine c_region rfl ?_
          refine p_val (F' := [(33, 0, 0)]) rfl rfl rfl rfl rfl ?_
          refine p_val (F' := [(33, 0, 0)]) rfl rfl rfl rfl rfl ?_
          refine p_val (F' := [(33, 0, 0)]) rfl rfl rfl (s_bin rfl rfl rfl rfl (b_shrk 16 rfl (by decide))) rfl ?_
          refine p_val (F' := [(33, 0, 0)]) rfl rfl rfl (s_convert rfl rfl rfl (v_8 ty3 ty5)) rfl ?_
          refine p_val (F' := [(33, 0, 0)]) rfl rfl rfl rfl rfl ?_
          refine p_val (F' := [(33, 0, 0)]) rfl rfl rfl (s_bin rfl rfl rfl rfl (b_shrk 8 rfl (by decide))) rfl ?_
          refine p_val (F' := [(33, 0, 0)]) rfl rfl rfl (s_convert rfl rfl rfl (v_8 ty3 ty5)) rfl ?_
          refine p_val (F' := [(33, 0, 0)]) rfl rfl rfl rfl rfl ?_
          refine p_val (F' := [(33, 0, 0)]) rfl rfl rfl (s_convert rfl rfl rfl (v_8 ty3 ty5)) rfl ?_
          refine p_val (F' := [(42, 0, 0), (33, 0, 0)]) rfl rfl rfl (s_lit rfl rfl ty30 ty5 rfl ⟨rfl, by decide, by decide, by simp [byteP, PV.cells, PV.one]⟩) rfl ?_
          refine p_val (F' := [(43, 0, 0), (42, 0, 0)]) rfl rfl rfl (s_app rfl rfl rfl rfl ty30 rfl (zero_ok ty5) ty30 rfl (by decide) ?_) rfl ?_
          · have := congrArg List.length h4; simp at this ⊢; have := dec_len s; unfold roomy; omega
          refine p_val (F' := [(4, 0, 0), (42, 0, 0)]) rfl rfl rfl rfl rfl ?_
          refine p_nil (q_endL rfl (t' := [(0, _), (4, _)]) rfl (bx' := []) rfl (F' := [(4, 0, 0)]) rfl ?_)
          repeat (with_reducible refine q_then ?_)
          refine i_norm ?_
          refine q_then ?_
          -- on
          -- region 7
          repeat (with_reducible refine c_seq ?_)
          refine c_region rfl ?_
          refine p_val (F' := [(4, 0, 0)]) rfl rfl rfl rfl rfl ?_
          refine p_val (F' := [(4, 0, 0)]) rfl rfl rfl (s_sliceS rfl rfl ty9 rfl rfl rfl (bd_lo ?_)) rfl ?_
          · simp; omega
          refine p_val (F' := [(4, 0, 0)]) rfl rfl rfl rfl rfl ?_
          refine p_nil (q_endL rfl (t' := [(0, _), (4, _)]) rfl (bx' := []) rfl (F' := [(4, 0, 0)]) rfl ?_)
          refine l_normH rfl (t' := [(0, _), (4, _)]) rfl (bx' := []) rfl (F' := [(4, 0, 0)]) rfl ?_ ?_
          · rw [show List.drop (Int.toNat 4) (List.take (a :: b :: c :: d :: r).length (a :: b :: c :: d :: r)) = r by simp]
            refine ⟨r, _, rfl, by simp at h3; omega, by simp at h5; omega, ?_, ?_⟩
            · show (l ++ [PV.int .u8 ((num [a, b, c, d] / 2 ^ 16 % 256 : Nat) : Int), PV.int .u8 ((num [a, b, c, d] / 2 ^ 8 % 256 : Nat) : Int), PV.int .u8 ((num [a, b, c, d] % 256 : Nat) : Int)]) ++ _ = _
              rw [byteP_ofNat, byteP_ofNat, byteP_ofNat, ← h4]
              simp [dec]
            · rw [h6]; simp at hyes; simp [hyes]
          · simp [lkp]; omega
      · have hs1 : s1 = [] := by simpa using hc
        subst hs1
        have hl : unbytes l = some (dec s) := by
          simp [dec] at h4; rw [h4]; exact unbytes_byteP _
        have hall : s.all isD = true := by rw [h6]; rfl
        refine c_exit ?_
        repeat (with_reducible first | refine q_exit ?_ | refine l_exit ?_ | refine i_past (by decide) ?_)
        refine i_here ?_
        refine q_then ?_
        -- on
        -- region 12
        repeat (with_reducible refine c_seq ?_)
        refine c_region rfl ?_
        refine p_val (F' := [(4, 0, 0)]) rfl rfl rfl rfl rfl ?_
        refine p_val (F' := [(4, 0, 0)]) rfl rfl rfl (s_convert rfl rfl rfl (v_str ty30 ty9 ty5 hl)) rfl ?_
        refine p_val (F' := [(4, 0, 0)]) rfl rfl rfl rfl rfl ?_
        refine p_val (F' := [(4, 0, 0)]) rfl rfl rfl rfl rfl ?_
        refine p_nil (q_endL rfl (t' := [(2, _), (3, _)]) rfl (bx' := []) rfl (F' := []) rfl ?_)
        refine q_then ?_
        refine c_ret ?_
        exact ⟨by rw [decR, if_neg hb, if_neg (by simpa using h2), if_pos hall]; rfl, rfl, rfl⟩

end Go.Proofs.Ytielbjjdgdblcaa.B

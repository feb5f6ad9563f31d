/- Law 01: types, and how texts are encoded. -/
import Derived.Test.YtielbjjdgdblcaaProg
import Derived.Test.YtielbjjdgdblcaaVm26
import Derived.KernelRfl
namespace Go.Proofs.Ytielbjjdgdblcaa.B
open Go Go.Proofs Go.Proofs.Ytielbjjdgdblcaa.Vm
theorem ty3 : tyOf Try.prog 3 = some ⟨.int .i64, 1, false, some (.int .i64 0), none⟩ := by kernel_rfl
theorem ty25 : tyOf Try.prog 25 = some ⟨.int .i64, 1, false, some (.int .i64 0), none⟩ := by kernel_rfl
theorem ty5 : tyOf Try.prog 5 = some ⟨.int .u8, 1, false, some (.int .u8 0), none⟩ := by kernel_rfl
theorem ty4 : tyOf Try.prog 4 = some ⟨.bool, 1, false, some (.bool false), none⟩ := by kernel_rfl
theorem ty30 : tyOf Try.prog 30 = some ⟨.slice 5 1 false 1, 1, false, some (.slice 1 []), none⟩ := by kernel_rfl
theorem ty9 : tyOf Try.prog 9 = some ⟨.str, 1, false, some (.str []), none⟩ := by kernel_rfl
theorem mixed : Try.prog.follows .mixedOrders = true := by kernel_rfl
def fr : FuncId → List (Nat × Nat) := fun _ => []

def al : List UInt8 := [65, 66, 67, 68, 69, 70, 71, 72, 73, 74, 75, 76, 77, 78, 79, 80, 81, 82, 83, 84, 85, 86, 87, 88, 89, 90, 97, 98, 99, 100, 101, 102, 103, 104, 105, 106, 107, 108, 109, 110, 111, 112, 113, 114, 115, 116, 117, 118, 119, 120, 121, 122, 48, 49, 50, 51, 52, 53, 54, 55, 56, 57, 45, 95]
def dg (n : Nat) : UInt8 := al.getD n 0
theorem al_get {n : Nat} (h : n < 64) : al[((n : Nat) : Int).toNat]? = some (dg n) := by
  have : n < al.length := h
  simp only [Int.toNat_natCast, dg, List.getD_eq_getElem?_getD]
  rw [List.getElem?_eq_getElem this]; rfl
/-- Three bytes as a number. -/
def x3 (a b c : UInt8) : Nat := (a.toNat * 2 ^ 16 ||| b.toNat * 2 ^ 8) ||| c.toNat
def enc : List UInt8 → List UInt8
  | a :: b :: c :: r => dg (x3 a b c / 2 ^ 18) :: dg ((x3 a b c / 2 ^ 12) &&& 63) :: dg ((x3 a b c / 2 ^ 6) &&& 63) :: dg (x3 a b c &&& 63) :: enc r
  | _ => []
def encR (s : List UInt8) : PV := if 65536 < s.length then .tup [.str [], .int .i64 3] else if s.length % 3 ≠ 0 then .tup [.str [], .int .i64 8] else .tup [.str (enc s), .int .i64 0]
theorem x3_lt (a b c : UInt8) : x3 a b c < 2 ^ 24 := by
  have := a.toNat_lt; have := b.toNat_lt; have := c.toNat_lt
  exact Nat.or_lt_two_pow (Nat.or_lt_two_pow (by omega) (by omega)) (by omega)
theorem enc_len : ∀ s : List UInt8, (enc s).length ≤ 4 * s.length
  | a :: b :: c :: r => by have := enc_len r; simp only [enc, List.length_cons]; omega
  | [] => by simp [enc]
  | [_] => by simp [enc]
  | [_, _] => by simp [enc]
theorem unbytes_byteP : ∀ s : List UInt8, unbytes (s.map byteP) = some s
  | [] => rfl
  | b :: r => by simp [unbytes, unbyte, byteP, unbytes_byteP r]

noncomputable def c12 : Ctx := { P := Try.prog, box := [], esc := [], own := true, fr := fr, n := 56, slots := [] }
def w12 : Wk := { live := [(0, [0]), (1, [0, 6]), (2, [2, 3]), (3, [0, 10]), (4, [2, 3]), (5, [0, 4]), (6, [0, 4, 21]), (7, [0, 4]), (8, [0, 4, 5]), (9, [0, 4]), (10, [2, 3])], head := [(1, [0, 4])], tr := [(1, [false, true, true, false]), (3, [false, true, true, true, false]), (5, [false]), (6, [false]), (7, [false, true, false]), (8, [false, true, true, true, false, true, true, true, true, false, true, true, true, false]), (9, [true, false, true, true, false, true, true, true, false, true, true, true, false]), (10, [false, true, false])] }
theorem k12 : chkFn c12 Try.f12 1 = true := by kernel_rfl

-- types: 3 5 9 30
set_option maxHeartbeats 400000 in
theorem run12 (s : List UInt8) (H : List HObj) : Run Try.prog fr 12 [.str s] H (encR s) H := by
  refine run_of_body (C := c12) (W := w12) Try.func12 rfl k12 ?_
  -- region 0
  repeat (with_reducible refine c_seq ?_)
  refine c_region rfl ?_
  refine p_val (F' := []) rfl rfl rfl rfl rfl ?_
  refine p_val (F' := []) rfl rfl rfl rfl rfl ?_
  refine p_nil (q_endL rfl (t' := [(0, _)]) rfl (bx' := []) rfl (F' := []) rfl ?_)
  refine q_then ?_
  repeat (with_reducible refine c_seq ?_)
  refine c_block ?_
  -- region 1
  repeat (with_reducible refine c_seq ?_)
  refine c_region rfl ?_
  refine p_val (F' := []) rfl rfl rfl rfl rfl ?_
  refine p_val (F' := []) rfl rfl rfl (s_lenS rfl rfl rfl rfl ty9 rfl) rfl ?_
  refine p_val (F' := []) rfl rfl rfl rfl rfl ?_
  refine p_val (F' := []) rfl rfl rfl rfl rfl ?_
  refine p_nil (q_endL rfl (t' := [(0, _), (6, _)]) rfl (bx' := []) rfl (F' := []) rfl ?_)
  refine q_then ?_
  repeat (with_reducible refine c_seq ?_)
  refine c_if rfl (fun hc => ?_) (fun hc => ?_)
  · have hb : 65536 < s.length := by have := of_decide_eq_true hc; omega
    -- region 2
    repeat (with_reducible refine c_seq ?_)
    refine c_region rfl ?_
    refine p_val (F' := []) rfl rfl rfl rfl rfl ?_
    refine p_val (F' := []) rfl rfl rfl rfl rfl ?_
    refine p_nil (q_endL rfl (t' := [(2, _), (3, _)]) rfl (bx' := []) rfl (F' := []) rfl ?_)
    refine q_then ?_
    refine c_ret ?_
    exact ⟨by rw [encR, if_pos hb]; rfl, rfl, rfl⟩
  · have hb : ¬ 65536 < s.length := by have := of_decide_eq_false hc; omega
    -- region 3
    repeat (with_reducible refine c_seq ?_)
    refine c_region rfl ?_
    refine p_val (F' := []) rfl rfl rfl rfl rfl ?_
    refine p_val (F' := []) rfl rfl rfl (s_lenS rfl rfl rfl rfl ty9 rfl) rfl ?_
    refine p_val (F' := []) rfl rfl rfl (s_bin rfl rfl rfl rfl (b_rem (by decide))) rfl ?_
    refine p_val (F' := []) rfl rfl rfl rfl rfl ?_
    refine p_val (F' := []) rfl rfl rfl rfl rfl ?_
    refine p_nil (q_endL rfl (t' := [(0, _), (10, _)]) rfl (bx' := []) rfl (F' := []) rfl ?_)
    refine q_then ?_
    repeat (with_reducible refine c_seq ?_)
    refine c_if rfl (fun hc => ?_) (fun hc => ?_)
    · have h2 : s.length % 3 ≠ 0 := by
        intro h; revert hc; rw [Int.tmod_eq_emod_of_nonneg (by omega)]; simp; omega
      -- region 4
      repeat (with_reducible refine c_seq ?_)
      refine c_region rfl ?_
      refine p_val (F' := []) rfl rfl rfl rfl rfl ?_
      refine p_val (F' := []) rfl rfl rfl rfl rfl ?_
      refine p_nil (q_endL rfl (t' := [(2, _), (3, _)]) rfl (bx' := []) rfl (F' := []) rfl ?_)
      refine q_then ?_
      refine c_ret ?_
      exact ⟨by rw [encR, if_neg hb, if_pos h2]; rfl, rfl, rfl⟩
    · have h1 : s.length ≤ 65536 := by omega
      have h2 : s.length % 3 = 0 := by
        revert hc; rw [Int.tmod_eq_emod_of_nonneg (by omega)]; simp; omega
      refine c_skip ?_
      repeat (with_reducible refine q_then ?_)
      refine i_norm ?_
      refine q_then ?_
      -- on
      -- region 5
      repeat (with_reducible refine c_seq ?_)
      refine c_region rfl ?_
      refine p_val (F' := []) rfl rfl rfl rfl rfl ?_
      refine p_val (F' := []) rfl rfl rfl (s_lenS rfl rfl rfl rfl ty9 rfl) rfl ?_
      refine p_val (F' := []) rfl rfl rfl (s_bin rfl rfl rfl rfl (b_quo (by decide))) rfl ?_
      refine p_val (F' := []) rfl rfl rfl rfl rfl ?_
      refine p_val (F' := [(19, 0, 0)]) rfl rfl rfl (s_make rfl rfl ty30 rfl rfl ty5 ?_) rfl ?_
      · rw [IntWalk.i64_quo _ _ (by omega), wr64 (by omega) (by omega)]; refine ⟨by omega, by omega, ?_, ?_, by decide, by decide⟩ <;> (unfold roomy; omega)
      refine p_val (F' := [(4, 0, 0)]) rfl rfl rfl rfl rfl ?_
      refine p_nil (q_endL rfl (t' := [(0, _), (4, _)]) rfl (bx' := []) rfl (F' := [(4, 0, 0)]) rfl ?_)
      refine q_then ?_
      repeat (with_reducible refine c_seq ?_)
      refine c_block ?_
      refine c_loopH (fun e => ∃ s1 l, e = ⟨[(0, .v (.str s1)), (4, .v (.slice 1 l))], [], H, [(4, 0, 0)]⟩ ∧ s1.length % 3 = 0 ∧ l ++ (enc s1).map byteP = (enc s).map byteP) (fun e => match lkp e.t 0 with | some (.v (.str s)) => s.length | _ => 0) rfl (t' := [(0, _), (4, _)]) rfl (bx' := []) rfl (F' := [(4, 0, 0)]) rfl ?_ ?_
      · exact ⟨s, [], rfl, h2, rfl⟩
      rintro e ⟨s1, l, rfl, h3, h4⟩
      -- region 6
      repeat (with_reducible refine c_seq ?_)
      refine c_region rfl ?_
      refine p_val (F' := [(4, 0, 0)]) rfl rfl rfl rfl rfl ?_
      refine p_val (F' := [(4, 0, 0)]) rfl rfl rfl rfl rfl ?_
      refine p_nil (q_endL rfl (t' := [(0, _), (4, _), (21, _)]) rfl (bx' := []) rfl (F' := [(4, 0, 0)]) rfl ?_)
      refine q_then ?_
      repeat (with_reducible refine c_seq ?_)
      refine c_if rfl (fun hc => ?_) (fun hc => ?_)
      · have hne : s1 ≠ [] := by
          intro h; subst h; simp at hc
        obtain ⟨a, b, c, r, rfl⟩ : ∃ a b c r, s1 = a :: b :: c :: r := by
          match s1, h3, hne with
          | a :: b :: c :: r, _, _ => exact ⟨a, b, c, r, rfl⟩
          | [_], h, _ => simp at h
          | [_, _], h, _ => simp at h
        have ha := a.toNat_lt; have hb := b.toNat_lt; have hcc := c.toNat_lt
        have hx := x3_lt a b c
        unfold x3 at hx
        have hx2 : a.toNat * 2 ^ 16 ||| b.toNat * 2 ^ 8 < 2 ^ 24 := Nat.or_lt_two_pow (by omega) (by omega)
        refine c_skip ?_
        refine q_then ?_
        -- on
        repeat (with_reducible refine c_seq ?_)
        refine c_block ?_
        -- region 8
        repeat (with_reducible refine c_seq ?_)
        refine c_draw [4] [] mixed (by kernel_rfl) rfl rfl ?_
        refine d_in rfl rfl rfl rfl rfl (fun _ _ => ⟨fun _ h => h, rfl⟩) rfl rfl (.inl rfl) ?_
        refine d_in rfl rfl rfl rfl (s_indexS rfl rfl ty9 rfl rfl (by decide) rfl) (fun _ _ => ⟨fun _ h => h, rfl⟩) rfl rfl (.inl rfl) ?_
        refine d_in rfl rfl rfl rfl (s_convert rfl rfl rfl (v_64 ty5 ty3 (by omega))) (fun _ _ => ⟨fun _ h => h, rfl⟩) rfl rfl (.inl rfl) ?_
        refine d_in rfl rfl rfl rfl (s_bin rfl rfl rfl rfl (b_shlk 16 rfl (by decide) (by omega))) (fun _ _ => ⟨fun _ h => h, rfl⟩) rfl rfl (.inl rfl) ?_
        refine d_in rfl rfl rfl rfl rfl (fun _ _ => ⟨fun _ h => h, rfl⟩) rfl rfl (.inl rfl) ?_
        refine d_in rfl rfl rfl rfl (s_indexS rfl rfl ty9 rfl rfl (by decide) rfl) (fun _ _ => ⟨fun _ h => h, rfl⟩) rfl rfl (.inl rfl) ?_
        refine d_in rfl rfl rfl rfl (s_convert rfl rfl rfl (v_64 ty5 ty3 (by omega))) (fun _ _ => ⟨fun _ h => h, rfl⟩) rfl rfl (.inl rfl) ?_
        refine d_in rfl rfl rfl rfl (s_bin rfl rfl rfl rfl (b_shlk 8 rfl (by decide) (by omega))) (fun _ _ => ⟨fun _ h => h, rfl⟩) rfl rfl (.inl rfl) ?_
        refine d_in rfl rfl rfl rfl (s_bin rfl rfl rfl rfl (b_or (by omega) (by omega))) (fun _ _ => ⟨fun _ h => h, rfl⟩) rfl rfl (.inl rfl) ?_
        refine d_in rfl rfl rfl rfl rfl (fun _ _ => ⟨fun _ h => h, rfl⟩) rfl rfl (.inl rfl) ?_
        refine d_in rfl rfl rfl rfl (s_indexS rfl rfl ty9 rfl rfl (by decide) rfl) (fun _ _ => ⟨fun _ h => h, rfl⟩) rfl rfl (.inl rfl) ?_
        refine d_in rfl rfl rfl rfl (s_convert rfl rfl rfl (v_64 ty5 ty3 (by omega))) (fun _ _ => ⟨fun _ h => h, rfl⟩) rfl rfl (.inl rfl) ?_
        refine d_in rfl rfl rfl rfl (s_bin rfl rfl rfl rfl (b_or (by simp only [Nat.reducePow] at *; omega) (by omega))) (fun _ _ => ⟨fun _ h => h, rfl⟩) rfl rfl (.inl rfl) ?_
        refine d_in rfl rfl rfl rfl rfl (fun _ _ => ⟨fun _ h => h, rfl⟩) rfl rfl (.inl rfl) ?_
        refine d_nil (q_endL rfl (t' := [(0, _), (4, _), (5, _)]) rfl (bx' := []) rfl (F' := [(4, 0, 0)]) rfl ?_)
        refine q_then ?_
        -- region 9
        repeat (with_reducible refine c_seq ?_)
        refine c_draw [4, 37, 53] [0, 16, 17] mixed (by kernel_rfl) rfl rfl ?_
        refine d_on (F' := [(37, 0, 0)]) rfl rfl rfl rfl rfl rfl rfl rfl rfl rfl ?_
        refine d_in rfl rfl rfl rfl rfl (fun _ _ => ⟨fun _ h => h, rfl⟩) rfl rfl (.inl rfl) ?_
        refine d_in rfl rfl rfl rfl (s_bin rfl rfl rfl rfl (b_shrk 18 rfl (by decide))) (fun _ _ => ⟨fun _ h => h, rfl⟩) rfl rfl (.inl rfl) ?_
        refine d_in rfl rfl rfl rfl (s_indexS rfl rfl ty9 rfl rfl (by omega) (al_get (by first | (simp only [Nat.reducePow] at *; omega) | exact Nat.lt_of_le_of_lt Nat.and_le_right (by decide)))) (fun _ _ => ⟨fun _ h => h, rfl⟩) rfl rfl (.inl rfl) ?_
        refine d_in rfl rfl rfl rfl rfl (fun _ _ => ⟨fun _ h => h, rfl⟩) rfl rfl (.inl rfl) ?_
        refine d_in rfl rfl rfl rfl (s_bin rfl rfl rfl rfl (b_shrk 12 rfl (by decide))) (fun _ _ => ⟨fun _ h => h, rfl⟩) rfl rfl (.inl rfl) ?_
        refine d_in rfl rfl rfl rfl (s_bin rfl rfl rfl rfl (b_andk 63 rfl (by simp only [Nat.reducePow] at *; omega) (by decide))) (fun _ _ => ⟨fun _ h => h, rfl⟩) rfl rfl (.inl rfl) ?_
        refine d_in rfl rfl rfl rfl (s_indexS rfl rfl ty9 rfl rfl (by omega) (al_get (by first | (simp only [Nat.reducePow] at *; omega) | exact Nat.lt_of_le_of_lt Nat.and_le_right (by decide)))) (fun _ _ => ⟨fun _ h => h, rfl⟩) rfl rfl (.inl rfl) ?_
        refine d_in rfl rfl rfl rfl rfl (fun _ _ => ⟨fun _ h => h, rfl⟩) rfl rfl (.inl rfl) ?_
        refine d_in rfl rfl rfl rfl (s_bin rfl rfl rfl rfl (b_shrk 6 rfl (by decide))) (fun _ _ => ⟨fun _ h => h, rfl⟩) rfl rfl (.inl rfl) ?_
        refine d_in rfl rfl rfl rfl (s_bin rfl rfl rfl rfl (b_andk 63 rfl (by simp only [Nat.reducePow] at *; omega) (by decide))) (fun _ _ => ⟨fun _ h => h, rfl⟩) rfl rfl (.inl rfl) ?_
        refine d_in rfl rfl rfl rfl (s_indexS rfl rfl ty9 rfl rfl (by omega) (al_get (by first | (simp only [Nat.reducePow] at *; omega) | exact Nat.lt_of_le_of_lt Nat.and_le_right (by decide)))) (fun _ _ => ⟨fun _ h => h, rfl⟩) rfl rfl (.inl rfl) ?_
        refine d_in rfl rfl rfl rfl rfl (fun _ _ => ⟨fun _ h => h, rfl⟩) rfl rfl (.inl rfl) ?_
        refine d_in rfl rfl rfl rfl (s_bin rfl rfl rfl rfl (b_andk 63 rfl (by simp only [Nat.reducePow] at *; omega) (by decide))) (fun _ _ => ⟨fun _ h => h, rfl⟩) rfl rfl (.inl rfl) ?_
        refine d_in rfl rfl rfl rfl (s_indexS rfl rfl ty9 rfl rfl (by omega) (al_get (by first | (simp only [Nat.reducePow] at *; omega) | exact Nat.lt_of_le_of_lt Nat.and_le_right (by decide)))) (fun _ _ => ⟨fun _ h => h, rfl⟩) rfl rfl (.inl rfl) ?_
        refine d_in rfl rfl rfl rfl (s_lit rfl rfl ty30 ty5 rfl ⟨rfl, by decide, by decide, by simp [byteP, PV.cells, PV.one]⟩) (fun _ _ => ⟨fun _ h => List.mem_cons_of_mem _ h, rfl⟩) rfl rfl (.inl rfl) ?_
        refine d_on (F' := [(53, 0, 0)]) rfl rfl rfl rfl rfl (s_app rfl rfl rfl rfl ty30 rfl (zero_ok ty5) ty30 rfl (by decide) (by have := congrArg List.length h4; simp at this ⊢; have := enc_len s; unfold roomy; omega)) rfl rfl rfl rfl ?_
        refine d_on (F' := [(4, 0, 0)]) rfl rfl rfl rfl rfl rfl rfl rfl rfl rfl ?_
        refine d_nil (q_endL rfl (t' := [(0, _), (4, _)]) rfl (bx' := []) rfl (F' := [(4, 0, 0)]) rfl ?_)
        repeat (with_reducible refine q_then ?_)
        refine i_norm ?_
        refine q_then ?_
        -- on
        -- region 7
        repeat (with_reducible refine c_seq ?_)
        refine c_region rfl ?_
        refine p_val (F' := [(4, 0, 0)]) rfl rfl rfl rfl rfl ?_
        refine p_val (F' := [(4, 0, 0)]) rfl rfl rfl (s_sliceS rfl rfl ty9 rfl rfl rfl (bd_lo ?_)) rfl ?_
        · simp; omega
        refine p_val (F' := [(4, 0, 0)]) rfl rfl rfl rfl rfl ?_
        refine p_nil (q_endL rfl (t' := [(0, _), (4, _)]) rfl (bx' := []) rfl (F' := [(4, 0, 0)]) rfl ?_)
        refine l_normH rfl (t' := [(0, _), (4, _)]) rfl (bx' := []) rfl (F' := [(4, 0, 0)]) rfl ?_ ?_
        · rw [show List.drop (Int.toNat 3) (List.take (a :: b :: c :: r).length (a :: b :: c :: r)) = r by simp]; exact ⟨r, _, rfl, by simp at h3; omega, by simpa [enc, x3] using h4⟩
        · simp [lkp]; omega
      · have hl : unbytes l = some (enc s) := by
          simp at hc; subst hc; simp [enc] at h4; rw [h4]; exact unbytes_byteP _
        refine c_exit ?_
        repeat (with_reducible first | refine q_exit ?_ | refine l_exit ?_ | refine i_past (by decide) ?_)
        refine i_here ?_
        refine q_then ?_
        -- on
        -- region 10
        repeat (with_reducible refine c_seq ?_)
        refine c_region rfl ?_
        refine p_val (F' := [(4, 0, 0)]) rfl rfl rfl rfl rfl ?_
        refine p_val (F' := [(4, 0, 0)]) rfl rfl rfl (s_convert rfl rfl rfl (v_str ty30 ty9 ty5 hl)) rfl ?_
        refine p_val (F' := [(4, 0, 0)]) rfl rfl rfl rfl rfl ?_
        refine p_val (F' := [(4, 0, 0)]) rfl rfl rfl rfl rfl ?_
        refine p_nil (q_endL rfl (t' := [(2, _), (3, _)]) rfl (bx' := []) rfl (F' := []) rfl ?_)
        refine q_then ?_
        refine c_ret ?_
        exact ⟨by rw [encR, if_neg hb, if_neg (by simpa using h2)]; rfl, rfl, rfl⟩

end Go.Proofs.Ytielbjjdgdblcaa.B

/- Law 01: what all functions return, or the error. -/
import Derived.Test.YtielbjjdgdblcaaB21
namespace Go.Proofs.Ytielbjjdgdblcaa.B
open Go Go.Proofs Go.Proofs.Ytielbjjdgdblcaa.Vm

theorem ty39 : tyOf Try.prog 39 = some ⟨.slice 9 1 false 16, 1, false, some (.slice 1 []), none⟩ := by kernel_rfl
theorem ty41 : tyOf Try.prog 41 = some ⟨.arr 2 3 1 false, 2, true, some (.agg [.int .i64 0, .int .i64 0]), none⟩ := by kernel_rfl
theorem ty42 : tyOf Try.prog 42 = some ⟨.slice 41 2 true 16, 1, false, some (.slice 2 []), none⟩ := by kernel_rfl
theorem encX (s : List UInt8) : ∃ x e, encR s = .tup [.str x, .int .i64 e] := by
  unfold encR; split
  · exact ⟨_, _, rfl⟩
  · split <;> exact ⟨_, _, rfl⟩
theorem decX (s : List UInt8) : ∃ x e, decR s = .tup [.str x, .int .i64 e] := by
  unfold decR; split
  · exact ⟨_, _, rfl⟩
  · split
    · exact ⟨_, _, rfl⟩
    · split <;> exact ⟨_, _, rfl⟩
theorem parX (s : List UInt8) : ∃ x e, parR s = .tup [.int .i64 x, .int .i64 e] := by
  unfold parR; split
  · exact ⟨_, _, rfl⟩
  · split <;> exact ⟨_, _, rfl⟩
theorem nbrX (n d : Int) : ∃ x e, nbrR n d = .tup [.str x, .int .i64 e] := by
  unfold nbrR; split <;> exact ⟨_, _, rfl⟩
theorem digX (n : Int) : ∃ x e, digR n = .tup [.int .u8 x, .int .i64 e] := by
  unfold digR; split <;> exact ⟨_, _, rfl⟩
theorem b_eqB {a b : Bool} (h : a = b) : binP Try.prog .eql 4 (.bool a) (.bool b) = some (.bool true) := by
  subst h
  simp [binP, eqP, ty4]
theorem s_minN {C : Ctx} {o : Oper} {t : List (Nat × Cl)} {bx : List (Nat × PV)} {H : List HObj} {F : List (Nat × Nat × Nat)} {d : Nat} {args : Array Operand} {tys : Array TypeId} {a b : Nat} (ho : o.op = .call { callee := .builtin .min, args, argTypes := tys }) (hd : o.dst = some d)
    (h : evs C.P ⟨t, bx, H, F⟩ (args.toList.map fun x => (0, x)) = some [.int .i64 (a : Int), .int .i64 (b : Int)]) : stepO C o ⟨t, bx, H, F⟩ = some ⟨(d, .v (.int .i64 ((min a b : Nat) : Int))) :: t, bx, H, F⟩ := by
  have e : (if (b : Int) < (a : Int) then (b : Int) else (a : Int)) = ((min a b : Nat) : Int) := by split <;> omega
  simp only [stepO, ho, h, e, putv, put, hd, Option.map_some]

noncomputable def c6 : Ctx := { P := Try.prog, box := [30], esc := [], own := false, fr := fr, n := 249, slots := [] }
def w6 : Wk := { live := [(0, [0, 1, 2, 3, 4]), (1, [0, 1, 2, 3, 4, 50]), (2, [10]), (3, [0, 1, 2, 3, 4, 11]), (4, [1, 2, 3, 4, 11, 69, 70, 71]), (5, [1, 2, 3, 4, 11, 69, 70, 71, 72]), (6, [1, 2, 3, 4, 11, 14, 69, 70, 71]), (7, [1, 2, 3, 4, 11, 14, 15, 16, 69, 70, 71]), (8, [1, 2, 3, 4, 11, 15, 16, 17, 18, 69, 70, 71]), (9, [1, 2, 3, 4, 11, 69, 70, 71, 92]), (10, [10]), (11, [1, 2, 3, 4, 11, 69, 70, 71]), (12, [2, 3, 4, 105, 106, 107]), (13, [2, 3, 4, 105, 106, 107, 108]), (14, [2, 3, 4, 20, 105, 106, 107]), (15, [2, 3, 4, 20, 21, 22, 105, 106, 107]), (16, [2, 3, 4, 20, 21, 22, 23, 24, 105, 106, 107]), (17, [2, 3, 4, 20, 21, 22, 23, 24, 25, 26, 105, 106, 107]), (18, [2, 3, 4, 21, 22, 23, 24, 25, 26, 27, 28, 105, 106, 107]), (19, [2, 3, 4, 105, 106, 107, 160]), (20, [10]), (21, [2, 3, 4, 105, 106, 107]), (22, [4, 175, 176, 177]), (23, [4, 175, 176, 177, 178]), (24, [4, 30, 175, 176, 177]), (25, [4, 30, 31, 32, 175, 176, 177]), (26, [4, 30, 31, 32, 33, 34, 175, 176, 177]), (27, [4, 30, 31, 32, 33, 34, 35, 36, 175, 176, 177]), (28, [4, 31, 32, 33, 34, 35, 36, 37, 38, 175, 176, 177]), (29, [4, 175, 176, 177, 226]), (30, [10]), (31, [4, 175, 176, 177]), (32, [4, 39, 40]), (33, [39, 40, 41, 42]), (34, [10])], head := [(0, [1, 2, 3, 4, 11, 69, 70, 71]), (2, [2, 3, 4, 105, 106, 107]), (4, [4, 175, 176, 177])], tr := [] }
theorem k6 : chkFn c6 Try.f6 5 = true := by kernel_rfl

-- types: 3 4 5 9 25 39 41 42
set_option maxHeartbeats 1000000 in
theorem run6 (s x0 : List UInt8) (n d : Int) (c : UInt8) (hn : n < 9223372036854775808) (H : List HObj) : Run Try.prog fr 6 [.str s, .str x0, .int .i64 n, .int .i64 d, byteP c] H (.bool true) H := by
  refine run_of_body (C := c6) (W := w6) Try.func6 rfl k6 ?_
  -- region 0
  repeat (with_reducible refine c_seq ?_)
  refine c_region rfl ?_
  refine p_val rfl rfl rfl rfl (f0 rfl) ?_
  refine p_nil (q_endL rfl (t' := [(0, _), (1, _), (2, _), (3, _), (4, _)]) rfl (bx' := []) rfl (F' := []) rfl ?_)
  refine q_then ?_
  -- region 1
  repeat (with_reducible refine c_seq ?_)
  refine c_region rfl ?_
  refine p_val rfl rfl rfl rfl (f0 rfl) ?_
  refine p_val rfl rfl rfl (s_lenS rfl rfl rfl rfl ty9 rfl) (f0 rfl) ?_
  refine p_val rfl rfl rfl rfl (f0 rfl) ?_
  refine p_val rfl rfl rfl rfl (f0 rfl) ?_
  refine p_gval rfl rfl (fun hb => ⟨by first | exact rfl | (rw [hb]; exact rfl), by first | exact rfl | (rw [hb]; exact rfl), g0 rfl, by first | exact rfl | (rw [gv_true hb]; exact rfl) | (simp only [gv_true hb]; exact rfl)⟩) ?_
  refine p_gval rfl rfl (fun hb => ⟨by first | exact rfl | (rw [hb]; exact rfl), by first | exact rfl | (rw [hb]; exact rfl), g0 rfl, by simp only [gv_true hb]; exact (s_lenS rfl rfl rfl rfl ty9 rfl)⟩) ?_
  refine p_gval rfl rfl (fun hb => ⟨by first | exact rfl | (rw [hb]; exact rfl), by first | exact rfl | (rw [hb]; exact rfl), g0 rfl, by first | exact rfl | (rw [gv_true hb]; exact rfl) | (simp only [gv_true hb]; exact rfl)⟩) ?_
  refine p_val rfl rfl rfl (s_or rfl rfl rfl rfl) (f0 rfl) ?_
  refine p_nil (q_endL rfl (t' := [(0, _), (1, _), (2, _), (3, _), (4, _), (50, _)]) rfl (bx' := []) rfl (F' := []) rfl ?_)
  refine q_then ?_
  repeat (with_reducible refine c_seq ?_)
  refine c_if rfl (fun hc => ?_) (fun hc => ?_)
  · skip
    -- region 2
    repeat (with_reducible refine c_seq ?_)
    refine c_region rfl ?_
    refine p_go rfl rfl rfl (run10 _) (f0 rfl) ?_
    refine p_val rfl rfl rfl rfl (f0 rfl) ?_
    refine p_nil (q_endL rfl (t' := [(10, _)]) rfl (bx' := []) rfl (F' := []) rfl ?_)
    refine q_then ?_
    refine c_ret ?_
    exact ⟨rfl, rfl, rfl⟩
  · obtain ⟨hlen, hlen2⟩ : s.length ≤ 400 ∧ x0.length ≤ 400 := by
      simp only [Bool.or_eq_false_iff, decide_eq_false_iff_not] at hc
      omega
    clear hc
    have hx3 : (s.take (s.length / 3 * 3)).length = s.length / 3 * 3 := by simp; omega
    have r15g : Run Try.prog fr 15 [.str (s.take (s.length / 3 * 3))] H (.tup [.str (enc (s.take (s.length / 3 * 3))), .int .i64 0]) H := by
      have h := run15 (s.take (s.length / 3 * 3)) H
      rw [encR, if_neg (by omega), if_neg (by omega)] at h
      exact h
    have hel := enc_mul (s.take (s.length / 3 * 3))
    have hgl : (enc (s.take (s.length / 3 * 3))).length ≤ 600 := by omega
    refine c_skip ?_
    refine q_then ?_
    -- on
    -- region 3
    repeat (with_reducible refine c_seq ?_)
    refine c_region rfl ?_
    refine p_val rfl rfl rfl rfl (f0 rfl) ?_
    refine p_val rfl rfl rfl rfl (f0 rfl) ?_
    refine p_val rfl rfl rfl (s_lenS rfl rfl rfl rfl ty9 rfl) (f0 rfl) ?_
    refine p_val rfl rfl rfl (s_bin rfl rfl rfl rfl (b_quok 3 rfl (by decide) (by omega))) (f0 rfl) ?_
    refine p_val rfl rfl rfl (s_bin rfl rfl rfl rfl (b_mulk 3 rfl (by omega))) (f0 rfl) ?_
    refine p_val rfl rfl rfl (s_sliceS rfl rfl ty9 rfl rfl rfl (bd_hiN (by omega))) (f0 rfl) ?_
    refine p_go rfl rfl rfl r15g (f0 rfl) ?_
    refine p_val rfl rfl rfl rfl (f0 rfl) ?_
    refine p_val rfl rfl rfl rfl (f0 rfl) ?_
    refine p_val rfl rfl rfl rfl (f0 rfl) ?_
    refine p_val rfl rfl rfl rfl (f0 rfl) ?_
    refine p_val rfl rfl rfl rfl (f0 rfl) ?_
    refine p_nil (q_endL rfl (t' := [(0, _), (1, _), (2, _), (3, _), (4, _), (11, _)]) rfl (bx' := []) rfl (F' := []) rfl ?_)
    refine q_then ?_
    -- region 4
    repeat (with_reducible refine c_seq ?_)
    refine c_region rfl ?_
    refine p_val rfl rfl rfl rfl (f0 rfl) ?_
    refine p_val rfl rfl rfl rfl (f0 rfl) ?_
    refine p_val rfl rfl rfl rfl (f0 rfl) ?_
    refine p_val rfl rfl rfl (s_lenS rfl rfl rfl rfl ty9 rfl) (f0 rfl) ?_
    refine p_val rfl rfl rfl (s_bin rfl rfl rfl rfl (b_quok 3 rfl (by decide) (by omega))) (f0 rfl) ?_
    refine p_val rfl rfl rfl (s_bin rfl rfl rfl rfl (b_mulk 3 rfl (by omega))) (f0 rfl) ?_
    refine p_val rfl rfl rfl (s_sliceS rfl rfl ty9 rfl rfl rfl (bd_hiN (by omega))) (f0 rfl) ?_
    refine p_val rfl rfl rfl (s_lit rfl rfl ty39 ty9 rfl ⟨rfl, by decide, by decide, by simp [byteP, PV.cells, PV.one]⟩) (f0 rfl) ?_
    refine p_val rfl rfl rfl (s_lenL rfl rfl rfl rfl ty39 rfl) (f0 rfl) ?_
    refine p_val rfl rfl rfl rfl (f0 rfl) ?_
    refine p_nil (q_endL rfl (t' := [(1, _), (2, _), (3, _), (4, _), (11, _), (69, _), (70, _), (71, _)]) rfl (bx' := []) rfl (F' := []) rfl ?_)
    refine q_then ?_
    repeat (with_reducible refine c_seq ?_)
    refine c_block ?_
    refine c_loopH (fun e => ∃ i : Nat, e = ⟨[(1, .v (.str x0)), (2, .v (.int .i64 n)), (3, .v (.int .i64 d)), (4, .v (byteP c)), (11, .v (.str (enc (s.take (s.length / 3 * 3))))), (69, .v (.slice 1 [.str s, .str (s.take (s.length / 3 * 3))])), (70, .v (.int .i64 2)), (71, .v (.int .i64 (i : Int)))], [], H, []⟩ ∧ i ≤ 2) (fun e => match lkp e.t 71 with | some (.v (.int _ i)) => (2 - i).toNat | _ => 0) rfl (t' := [(1, _), (2, _), (3, _), (4, _), (11, _), (69, _), (70, _), (71, _)]) rfl (bx' := []) rfl (F' := []) rfl ?_ ?_
    · exact ⟨0, rfl, by omega⟩
    rintro e ⟨i, rfl, hi⟩
    -- region 5
    repeat (with_reducible refine c_seq ?_)
    refine c_region rfl ?_
    refine p_val rfl rfl rfl rfl (f0 rfl) ?_
    refine p_nil (q_endL rfl (t' := [(1, _), (2, _), (3, _), (4, _), (11, _), (69, _), (70, _), (71, _), (72, _)]) rfl (bx' := []) rfl (F' := []) rfl ?_)
    refine q_then ?_
    repeat (with_reducible refine c_seq ?_)
    refine c_if rfl (fun hc => ?_) (fun hc => ?_)
    · have hi2 : i < 2 := by have := of_decide_eq_true hc; omega
      obtain ⟨y, hy⟩ : ∃ y, [PV.str s, PV.str (s.take (s.length / 3 * 3))][((i : Nat) : Int).toNat]? = some (.str y) := by
        match i, hi2 with
        | 0, _ => exact ⟨_, rfl⟩
        | 1, _ => exact ⟨_, rfl⟩
      obtain ⟨x, e1, hx⟩ := encX y
      have r12 : Run Try.prog fr 12 [.str y] H (.tup [.str x, .int .i64 e1]) H := hx ▸ run12 y H
      have r15 : Run Try.prog fr 15 [.str y] H (.tup [.str x, .int .i64 e1]) H := hx ▸ run15 y H
      refine c_skip ?_
      refine q_then ?_
      -- on
      repeat (with_reducible refine c_seq ?_)
      refine c_block ?_
      -- region 6
      repeat (with_reducible refine c_seq ?_)
      refine c_region rfl ?_
      refine p_val rfl rfl rfl (s_elem rfl rfl ty39 rfl rfl (by omega) hy) (f0 rfl) ?_
      refine p_val rfl rfl rfl (s_load rfl rfl ty9 rfl rfl) (f0 rfl) ?_
      refine p_val rfl rfl rfl rfl (f0 rfl) ?_
      refine p_nil (q_endL rfl (t' := [(1, _), (2, _), (3, _), (4, _), (11, _), (14, _), (69, _), (70, _), (71, _)]) rfl (bx' := []) rfl (F' := []) rfl ?_)
      refine q_then ?_
      -- region 7
      repeat (with_reducible refine c_seq ?_)
      refine c_region rfl ?_
      refine p_val rfl rfl rfl rfl (f0 rfl) ?_
      refine p_go rfl rfl rfl r12 (f0 rfl) ?_
      refine p_val rfl rfl rfl rfl (f0 rfl) ?_
      refine p_val rfl rfl rfl rfl (f0 rfl) ?_
      refine p_val rfl rfl rfl rfl (f0 rfl) ?_
      refine p_val rfl rfl rfl rfl (f0 rfl) ?_
      refine p_val rfl rfl rfl rfl (f0 rfl) ?_
      refine p_nil (q_endL rfl (t' := [(1, _), (2, _), (3, _), (4, _), (11, _), (14, _), (15, _), (16, _), (69, _), (70, _), (71, _)]) rfl (bx' := []) rfl (F' := []) rfl ?_)
      refine q_then ?_
      -- region 8
      repeat (with_reducible refine c_seq ?_)
      refine c_region rfl ?_
      refine p_val rfl rfl rfl rfl (f0 rfl) ?_
      refine p_go rfl rfl rfl r15 (f0 rfl) ?_
      refine p_val rfl rfl rfl rfl (f0 rfl) ?_
      refine p_val rfl rfl rfl rfl (f0 rfl) ?_
      refine p_val rfl rfl rfl rfl (f0 rfl) ?_
      refine p_val rfl rfl rfl rfl (f0 rfl) ?_
      refine p_val rfl rfl rfl rfl (f0 rfl) ?_
      refine p_nil (q_endL rfl (t' := [(1, _), (2, _), (3, _), (4, _), (11, _), (15, _), (16, _), (17, _), (18, _), (69, _), (70, _), (71, _)]) rfl (bx' := []) rfl (F' := []) rfl ?_)
      refine q_then ?_
      -- region 9
      repeat (with_reducible refine c_seq ?_)
      refine c_region rfl ?_
      refine p_val rfl rfl rfl rfl (f0 rfl) ?_
      refine p_val rfl rfl rfl rfl (f0 rfl) ?_
      refine p_val rfl rfl rfl (s_bin rfl rfl rfl rfl (b_neS rfl)) (f0 rfl) ?_
      refine p_val rfl rfl rfl rfl (f0 rfl) ?_
      refine p_val rfl rfl rfl rfl (f0 rfl) ?_
      refine p_val rfl rfl rfl rfl (f0 rfl) ?_
      refine p_val rfl rfl rfl (s_bin rfl rfl rfl rfl (b_neN rfl)) (f0 rfl) ?_
      refine p_val rfl rfl rfl rfl (f0 rfl) ?_
      refine p_nil (q_endL rfl (t' := [(1, _), (2, _), (3, _), (4, _), (11, _), (69, _), (70, _), (71, _), (92, _)]) rfl (bx' := []) rfl (F' := []) rfl ?_)
      refine q_then ?_
      repeat (with_reducible refine c_seq ?_)
      refine c_if rfl (fun hc => ?_) (fun hc => ?_)
      · exact absurd hc (by decide)
      · skip
        refine c_skip ?_
        repeat (with_reducible refine q_then ?_)
        refine i_norm ?_
        refine q_then ?_
        -- on
        -- region 11
        repeat (with_reducible refine c_seq ?_)
        refine c_region rfl ?_
        refine p_val rfl rfl rfl (s_bin rfl rfl rfl rfl (b_addk 1 rfl (by omega))) (f0 rfl) ?_
        refine p_val rfl rfl rfl rfl (f0 rfl) ?_
        refine p_nil (q_endL rfl (t' := [(1, _), (2, _), (3, _), (4, _), (11, _), (69, _), (70, _), (71, _)]) rfl (bx' := []) rfl (F' := []) rfl ?_)
        refine l_normH rfl (t' := [(1, _), (2, _), (3, _), (4, _), (11, _), (69, _), (70, _), (71, _)]) rfl (bx' := []) rfl (F' := []) rfl ?_ ?_
        · exact ⟨i + 1, rfl, by omega⟩
        · simp [lkp] <;> omega
    · have r16 := run16 (enc (s.take (s.length / 3 * 3))) n d (by omega) H
      obtain ⟨m, hm, e0⟩ := mod_nat n (b := 11) (by decide) (by decide)
      have r7 : Run Try.prog fr 7 [.int .i64 n, .int .i64 11] H (.int .i64 (m : Int)) H := e0 ▸ run7 n 11 H
      refine c_exit ?_
      repeat (with_reducible first | refine q_exit ?_ | refine l_exit ?_ | refine i_past (by decide) ?_)
      refine i_here ?_
      refine q_then ?_
      -- on
      -- region 12
      repeat (with_reducible refine c_seq ?_)
      refine c_draw [] [] mixed (by kernel_rfl) rfl rfl ?_
      refine d_in rfl rfl rfl rfl rfl (fun _ _ => ⟨fun _ h => h, rfl⟩) rfl rfl (.inr rfl) ?_
      refine d_in rfl rfl rfl rfl rfl (fun _ _ => ⟨fun _ h => h, rfl⟩) rfl rfl (.inr rfl) ?_
      refine d_in rfl rfl rfl rfl rfl (fun _ _ => ⟨fun _ h => h, rfl⟩) rfl rfl (.inr rfl) ?_
      refine d_in rfl rfl rfl rfl rfl (fun _ _ => ⟨fun _ h => h, rfl⟩) rfl rfl (.inr rfl) ?_
      refine d_in rfl rfl rfl rfl rfl (fun _ _ => ⟨fun _ h => h, rfl⟩) rfl rfl (.inr rfl) ?_
      refine d_go rfl rfl rfl rfl r16 (fun _ _ => ⟨fun _ h => h, rfl⟩) rfl rfl (.inr rfl) ?_
      refine d_in rfl rfl rfl rfl rfl (fun _ _ => ⟨fun _ h => h, rfl⟩) rfl rfl (.inr rfl) ?_
      refine d_in rfl rfl rfl rfl rfl (fun _ _ => ⟨fun _ h => h, rfl⟩) rfl rfl (.inr rfl) ?_
      refine d_in rfl rfl rfl rfl (s_lenS rfl rfl rfl rfl ty9 rfl) (fun _ _ => ⟨fun _ h => h, rfl⟩) rfl rfl (.inr rfl) ?_
      refine d_in rfl rfl rfl rfl (s_bin rfl rfl rfl rfl (b_quok 2 rfl (by decide) (by omega))) (fun _ _ => ⟨fun _ h => h, rfl⟩) rfl rfl (.inr rfl) ?_
      refine d_in rfl rfl rfl rfl (s_sliceS rfl rfl ty9 rfl rfl rfl (bd_hiN (by omega))) (fun _ _ => ⟨fun _ h => h, rfl⟩) rfl rfl (.inr rfl) ?_
      refine d_in rfl rfl rfl rfl (s_lit rfl rfl ty39 ty9 rfl ⟨rfl, by decide, by decide, by simp [byteP, PV.cells, PV.one]⟩) (fun _ _ => ⟨fun _ h => h, rfl⟩) rfl rfl (.inr rfl) ?_
      refine d_in rfl rfl rfl rfl (s_lenL rfl rfl rfl rfl ty39 rfl) (fun _ _ => ⟨fun _ h => h, rfl⟩) rfl rfl (.inr rfl) ?_
      refine d_in rfl rfl rfl rfl rfl (fun _ _ => ⟨fun _ h => h, rfl⟩) rfl rfl (.inr rfl) ?_
      refine d_nil (q_endL rfl (t' := [(2, _), (3, _), (4, _), (105, _), (106, _), (107, _)]) rfl (bx' := []) rfl (F' := []) rfl ?_)
      refine q_then ?_
      repeat (with_reducible refine c_seq ?_)
      refine c_block ?_
      refine c_loopH (fun e => ∃ i : Nat, e = ⟨[(2, .v (.int .i64 n)), (3, .v (.int .i64 d)), (4, .v (byteP c)), (105, .v (.slice 1 [.str x0, .str (enc (s.take (s.length / 3 * 3))), .str (spoil (enc (s.take (s.length / 3 * 3))) n d), .str ((enc (s.take (s.length / 3 * 3))).take ((enc (s.take (s.length / 3 * 3))).length / 2))])), (106, .v (.int .i64 4)), (107, .v (.int .i64 (i : Int)))], [], H, []⟩ ∧ i ≤ 4) (fun e => match lkp e.t 107 with | some (.v (.int _ i)) => (4 - i).toNat | _ => 0) rfl (t' := [(2, _), (3, _), (4, _), (105, _), (106, _), (107, _)]) rfl (bx' := []) rfl (F' := []) rfl ?_ ?_
      · exact ⟨0, rfl, by omega⟩
      rintro e ⟨i, rfl, hi⟩
      -- region 13
      repeat (with_reducible refine c_seq ?_)
      refine c_region rfl ?_
      refine p_val rfl rfl rfl rfl (f0 rfl) ?_
      refine p_nil (q_endL rfl (t' := [(2, _), (3, _), (4, _), (105, _), (106, _), (107, _), (108, _)]) rfl (bx' := []) rfl (F' := []) rfl ?_)
      refine q_then ?_
      repeat (with_reducible refine c_seq ?_)
      refine c_if rfl (fun hc => ?_) (fun hc => ?_)
      · have hi2 : i < 4 := by have := of_decide_eq_true hc; omega
        obtain ⟨y, hy⟩ : ∃ y, ([.str x0, .str (enc (s.take (s.length / 3 * 3))), .str (spoil (enc (s.take (s.length / 3 * 3))) n d), .str ((enc (s.take (s.length / 3 * 3))).take ((enc (s.take (s.length / 3 * 3))).length / 2))] : List PV)[((i : Nat) : Int).toNat]? = some (.str y) := by
          match i, hi2 with
          | 0, _ => exact ⟨_, rfl⟩
          | 1, _ => exact ⟨_, rfl⟩
          | 2, _ => exact ⟨_, rfl⟩
          | 3, _ => exact ⟨_, rfl⟩
        obtain ⟨x, e1, hx⟩ := decX y
        have r11 : Run Try.prog fr 11 [.str y] H (.tup [.str x, .int .i64 e1]) H := hx ▸ run11 y H
        have r17 : Run Try.prog fr 17 [.str y] H (.tup [.str x, .int .i64 e1]) H := hx ▸ run17 y H
        obtain ⟨v, e2, hv⟩ := parX (y.take (min y.length m))
        have r14 : Run Try.prog fr 14 [.str (y.take (min y.length m))] H (.tup [.int .i64 v, .int .i64 e2]) H := hv ▸ run14 _ H
        have r18 : Run Try.prog fr 18 [.str (y.take (min y.length m))] H (.tup [.int .i64 v, .int .i64 e2]) H := hv ▸ run18 _ H
        refine c_skip ?_
        refine q_then ?_
        -- on
        repeat (with_reducible refine c_seq ?_)
        refine c_block ?_
        -- region 14
        repeat (with_reducible refine c_seq ?_)
        refine c_region rfl ?_
        refine p_val rfl rfl rfl (s_elem rfl rfl ty39 rfl rfl (by omega) hy) (f0 rfl) ?_
        refine p_val rfl rfl rfl (s_load rfl rfl ty9 rfl rfl) (f0 rfl) ?_
        refine p_val rfl rfl rfl rfl (f0 rfl) ?_
        refine p_nil (q_endL rfl (t' := [(2, _), (3, _), (4, _), (20, _), (105, _), (106, _), (107, _)]) rfl (bx' := []) rfl (F' := []) rfl ?_)
        refine q_then ?_
        -- region 15
        repeat (with_reducible refine c_seq ?_)
        refine c_region rfl ?_
        refine p_val rfl rfl rfl rfl (f0 rfl) ?_
        refine p_go rfl rfl rfl r11 (f0 rfl) ?_
        refine p_val rfl rfl rfl rfl (f0 rfl) ?_
        refine p_val rfl rfl rfl rfl (f0 rfl) ?_
        refine p_val rfl rfl rfl rfl (f0 rfl) ?_
        refine p_val rfl rfl rfl rfl (f0 rfl) ?_
        refine p_val rfl rfl rfl rfl (f0 rfl) ?_
        refine p_nil (q_endL rfl (t' := [(2, _), (3, _), (4, _), (20, _), (21, _), (22, _), (105, _), (106, _), (107, _)]) rfl (bx' := []) rfl (F' := []) rfl ?_)
        refine q_then ?_
        -- region 16
        repeat (with_reducible refine c_seq ?_)
        refine c_region rfl ?_
        refine p_val rfl rfl rfl rfl (f0 rfl) ?_
        refine p_go rfl rfl rfl r17 (f0 rfl) ?_
        refine p_val rfl rfl rfl rfl (f0 rfl) ?_
        refine p_val rfl rfl rfl rfl (f0 rfl) ?_
        refine p_val rfl rfl rfl rfl (f0 rfl) ?_
        refine p_val rfl rfl rfl rfl (f0 rfl) ?_
        refine p_val rfl rfl rfl rfl (f0 rfl) ?_
        refine p_nil (q_endL rfl (t' := [(2, _), (3, _), (4, _), (20, _), (21, _), (22, _), (23, _), (24, _), (105, _), (106, _), (107, _)]) rfl (bx' := []) rfl (F' := []) rfl ?_)
        refine q_then ?_
        -- region 17
        repeat (with_reducible refine c_seq ?_)
        refine c_region rfl ?_
        refine p_val rfl rfl rfl rfl (f0 rfl) ?_
        refine p_val rfl rfl rfl rfl (f0 rfl) ?_
        refine p_val rfl rfl rfl (s_lenS rfl rfl rfl rfl ty9 rfl) (f0 rfl) ?_
        refine p_val rfl rfl rfl rfl (f0 rfl) ?_
        refine p_go rfl rfl rfl r7 (f0 rfl) ?_
        refine p_val rfl rfl rfl (s_minN rfl rfl rfl) (f0 rfl) ?_
        refine p_val rfl rfl rfl (s_sliceS rfl rfl ty9 rfl rfl rfl (bd_hiN (Nat.min_le_left _ _))) (f0 rfl) ?_
        refine p_go rfl rfl rfl r14 (f0 rfl) ?_
        refine p_val rfl rfl rfl rfl (f0 rfl) ?_
        refine p_val rfl rfl rfl rfl (f0 rfl) ?_
        refine p_val rfl rfl rfl rfl (f0 rfl) ?_
        refine p_val rfl rfl rfl rfl (f0 rfl) ?_
        refine p_val rfl rfl rfl rfl (f0 rfl) ?_
        refine p_nil (q_endL rfl (t' := [(2, _), (3, _), (4, _), (20, _), (21, _), (22, _), (23, _), (24, _), (25, _), (26, _), (105, _), (106, _), (107, _)]) rfl (bx' := []) rfl (F' := []) rfl ?_)
        refine q_then ?_
        -- region 18
        repeat (with_reducible refine c_seq ?_)
        refine c_region rfl ?_
        refine p_val rfl rfl rfl rfl (f0 rfl) ?_
        refine p_val rfl rfl rfl rfl (f0 rfl) ?_
        refine p_val rfl rfl rfl (s_lenS rfl rfl rfl rfl ty9 rfl) (f0 rfl) ?_
        refine p_val rfl rfl rfl rfl (f0 rfl) ?_
        refine p_go rfl rfl rfl r7 (f0 rfl) ?_
        refine p_val rfl rfl rfl (s_minN rfl rfl rfl) (f0 rfl) ?_
        refine p_val rfl rfl rfl (s_sliceS rfl rfl ty9 rfl rfl rfl (bd_hiN (Nat.min_le_left _ _))) (f0 rfl) ?_
        refine p_go rfl rfl rfl r18 (f0 rfl) ?_
        refine p_val rfl rfl rfl rfl (f0 rfl) ?_
        refine p_val rfl rfl rfl rfl (f0 rfl) ?_
        refine p_val rfl rfl rfl rfl (f0 rfl) ?_
        refine p_val rfl rfl rfl rfl (f0 rfl) ?_
        refine p_val rfl rfl rfl rfl (f0 rfl) ?_
        refine p_nil (q_endL rfl (t' := [(2, _), (3, _), (4, _), (21, _), (22, _), (23, _), (24, _), (25, _), (26, _), (27, _), (28, _), (105, _), (106, _), (107, _)]) rfl (bx' := []) rfl (F' := []) rfl ?_)
        refine q_then ?_
        -- region 19
        repeat (with_reducible refine c_seq ?_)
        refine c_region rfl ?_
        refine p_val rfl rfl rfl rfl (f0 rfl) ?_
        refine p_val rfl rfl rfl rfl (f0 rfl) ?_
        refine p_val rfl rfl rfl (s_bin rfl rfl rfl rfl (b_neS rfl)) (f0 rfl) ?_
        refine p_val rfl rfl rfl rfl (f0 rfl) ?_
        refine p_val rfl rfl rfl rfl (f0 rfl) ?_
        refine p_val rfl rfl rfl rfl (f0 rfl) ?_
        refine p_val rfl rfl rfl (s_bin rfl rfl rfl rfl (b_neN rfl)) (f0 rfl) ?_
        refine p_val rfl rfl rfl rfl (f0 rfl) ?_
        refine p_val rfl rfl rfl rfl (f0 rfl) ?_
        refine p_val rfl rfl rfl rfl (f0 rfl) ?_
        refine p_val rfl rfl rfl rfl (f0 rfl) ?_
        refine p_val rfl rfl rfl (s_bin rfl rfl rfl rfl (b_neN rfl)) (f0 rfl) ?_
        refine p_val rfl rfl rfl rfl (f0 rfl) ?_
        refine p_val rfl rfl rfl rfl (f0 rfl) ?_
        refine p_val rfl rfl rfl rfl (f0 rfl) ?_
        refine p_val rfl rfl rfl rfl (f0 rfl) ?_
        refine p_val rfl rfl rfl (s_bin rfl rfl rfl rfl (b_neN rfl)) (f0 rfl) ?_
        refine p_val rfl rfl rfl rfl (f0 rfl) ?_
        refine p_nil (q_endL rfl (t' := [(2, _), (3, _), (4, _), (105, _), (106, _), (107, _), (160, _)]) rfl (bx' := []) rfl (F' := []) rfl ?_)
        refine q_then ?_
        repeat (with_reducible refine c_seq ?_)
        refine c_if rfl (fun hc => ?_) (fun hc => ?_)
        · exact absurd hc (by decide)
        · skip
          refine c_skip ?_
          repeat (with_reducible refine q_then ?_)
          refine i_norm ?_
          refine q_then ?_
          -- on
          -- region 21
          repeat (with_reducible refine c_seq ?_)
          refine c_region rfl ?_
          refine p_val rfl rfl rfl (s_bin rfl rfl rfl rfl (b_addk 1 rfl (by omega))) (f0 rfl) ?_
          refine p_val rfl rfl rfl rfl (f0 rfl) ?_
          refine p_nil (q_endL rfl (t' := [(2, _), (3, _), (4, _), (105, _), (106, _), (107, _)]) rfl (bx' := []) rfl (F' := []) rfl ?_)
          refine l_normH rfl (t' := [(2, _), (3, _), (4, _), (105, _), (106, _), (107, _)]) rfl (bx' := []) rfl (F' := []) rfl ?_ ?_
          · exact ⟨i + 1, rfl, by omega⟩
          · simp [lkp] <;> omega
      · obtain ⟨j, hj, e1⟩ := mod_nat d (b := 10) (by decide) (by decide)
        have r7a : Run Try.prog fr 7 [.int .i64 d, .int .i64 10] H (.int .i64 (j : Int)) H := e1 ▸ run7 d 10 H
        obtain ⟨m5, hm5, e2⟩ := mod_nat n (b := 5000) (by decide) (by decide)
        have r7b : Run Try.prog fr 7 [.int .i64 n, .int .i64 5000] H (.int .i64 (m5 : Int)) H := e2 ▸ run7 n 5000 H
        obtain ⟨j3, hj3, e3⟩ := mod_nat d (b := 3) (by decide) (by decide)
        have r7c : Run Try.prog fr 7 [.int .i64 d, .int .i64 3] H (.int .i64 (j3 : Int)) H := e3 ▸ run7 d 3 H
        refine c_exit ?_
        repeat (with_reducible first | refine q_exit ?_ | refine l_exit ?_ | refine i_past (by decide) ?_)
        refine i_here ?_
        refine q_then ?_
        -- on
        -- region 22
        repeat (with_reducible refine c_seq ?_)
        refine c_region rfl ?_
        refine p_val rfl rfl rfl rfl (f0 rfl) ?_
        refine p_val rfl rfl rfl rfl (f0 rfl) ?_
        refine p_val rfl rfl rfl (s_buildA rfl rfl ty41 rfl rfl) (f0 rfl) ?_
        refine p_val rfl rfl rfl rfl (f0 rfl) ?_
        refine p_val rfl rfl rfl rfl (f0 rfl) ?_
        refine p_go rfl rfl rfl r7a (f0 rfl) ?_
        refine p_val rfl rfl rfl (s_buildA rfl rfl ty41 rfl rfl) (f0 rfl) ?_
        refine p_val rfl rfl rfl rfl (f0 rfl) ?_
        refine p_go rfl rfl rfl r7b (f0 rfl) ?_
        refine p_val rfl rfl rfl rfl (f0 rfl) ?_
        refine p_go rfl rfl rfl r7c (f0 rfl) ?_
        refine p_val rfl rfl rfl (s_bin rfl rfl rfl rfl (b_kadd 1 rfl (by omega))) (f0 rfl) ?_
        refine p_val rfl rfl rfl (s_buildA rfl rfl ty41 rfl rfl) (f0 rfl) ?_
        refine p_val rfl rfl rfl (s_lit rfl rfl ty42 ty41 rfl ⟨rfl, by decide, by decide, by simp [PV.cells, PV.one, splice]⟩) (f0 rfl) ?_
        refine p_val rfl rfl rfl (s_lenL rfl rfl rfl rfl ty42 rfl) (f0 rfl) ?_
        refine p_val rfl rfl rfl rfl (f0 rfl) ?_
        refine p_nil (q_endL rfl (t' := [(4, _), (175, _), (176, _), (177, _)]) rfl (bx' := []) rfl (F' := []) rfl ?_)
        refine q_then ?_
        repeat (with_reducible refine c_seq ?_)
        refine c_block ?_
        refine c_loopH (fun e => ∃ i : Nat, e = ⟨[(4, .v (byteP c)), (175, .v (.slice 2 [.agg [.int .i64 n, .int .i64 d], .agg [.int .i64 n, .int .i64 (j : Int)], .agg [.int .i64 (m5 : Int), .int .i64 ((1 + j3 : Nat) : Int)]])), (176, .v (.int .i64 3)), (177, .v (.int .i64 (i : Int)))], [], H, []⟩ ∧ i ≤ 3) (fun e => match lkp e.t 177 with | some (.v (.int _ i)) => (3 - i).toNat | _ => 0) rfl (t' := [(4, _), (175, _), (176, _), (177, _)]) rfl (bx' := []) rfl (F' := []) rfl ?_ ?_
        · exact ⟨0, rfl, by omega⟩
        rintro e ⟨i, rfl, hi⟩
        -- region 23
        repeat (with_reducible refine c_seq ?_)
        refine c_region rfl ?_
        refine p_val rfl rfl rfl rfl (f0 rfl) ?_
        refine p_nil (q_endL rfl (t' := [(4, _), (175, _), (176, _), (177, _), (178, _)]) rfl (bx' := []) rfl (F' := []) rfl ?_)
        refine q_then ?_
        repeat (with_reducible refine c_seq ?_)
        refine c_if rfl (fun hc => ?_) (fun hc => ?_)
        · have hi2 : i < 3 := by have := of_decide_eq_true hc; omega
          obtain ⟨a, b, hab, ha⟩ : ∃ a b, ([.agg [.int .i64 n, .int .i64 d], .agg [.int .i64 n, .int .i64 (j : Int)], .agg [.int .i64 (m5 : Int), .int .i64 ((1 + j3 : Nat) : Int)]] : List PV)[((i : Nat) : Int).toNat]? = some (.agg [.int .i64 a, .int .i64 b]) ∧ a < 9223372036854775808 := by
            match i, hi2 with
            | 0, _ => exact ⟨_, _, rfl, hn⟩
            | 1, _ => exact ⟨_, _, rfl, hn⟩
            | 2, _ => exact ⟨_, _, rfl, by omega⟩
          obtain ⟨x, e4, hx⟩ := nbrX a b
          have r13 : Run Try.prog fr 13 [.int .i64 a, .int .i64 b] H (.tup [.str x, .int .i64 e4]) H := hx ▸ run13 a b ha H
          have r19 : Run Try.prog fr 19 [.int .i64 a, .int .i64 b] H (.tup [.str x, .int .i64 e4]) H := hx ▸ run19 a b ha H
          obtain ⟨v, e5, hv⟩ := digX b
          have r9 : Run Try.prog fr 9 [.int .i64 b] H (.tup [.int .u8 v, .int .i64 e5]) H := hv ▸ run9 b H
          have r20 : Run Try.prog fr 20 [.int .i64 b] H (.tup [.int .u8 v, .int .i64 e5]) H := hv ▸ run20 b H
          refine c_skip ?_
          refine q_then ?_
          -- on
          repeat (with_reducible refine c_seq ?_)
          refine c_block ?_
          -- region 24
          repeat (with_reducible refine c_seq ?_)
          refine c_region rfl ?_
          refine p_val rfl rfl rfl (s_elem rfl rfl ty42 rfl rfl (by omega) hab) (f0 rfl) ?_
          refine p_val rfl rfl rfl (s_load rfl rfl ty41 rfl rfl) (f0 rfl) ?_
          refine p_eff rfl rfl rfl (s_alloc rfl rfl ty41 rfl rfl rfl) (f0 rfl) ?_
          refine p_eff rfl rfl rfl (s_store rfl ty41 rfl rfl rfl ⟨rfl, by simp [PV.cells, PV.one], by decide⟩) (f0 rfl) ?_
          refine p_nil (q_endL rfl (t' := [(4, _), (175, _), (176, _), (177, _)]) rfl (bx' := [(30, _)]) rfl (F' := []) rfl ?_)
          refine q_then ?_
          -- region 25
          repeat (with_reducible refine c_seq ?_)
          refine c_region rfl ?_
          refine p_val rfl rfl rfl (s_place rfl rfl ty41 rfl rfl (by decide)) (f0 rfl) ?_
          refine p_val rfl rfl rfl (s_load rfl rfl ty3 rfl rfl) (f0 rfl) ?_
          refine p_val rfl rfl rfl (s_place rfl rfl ty41 rfl rfl (by decide)) (f0 rfl) ?_
          refine p_val rfl rfl rfl (s_load rfl rfl ty3 rfl rfl) (f0 rfl) ?_
          refine p_go rfl rfl rfl r13 (f0 rfl) ?_
          refine p_val rfl rfl rfl rfl (f0 rfl) ?_
          refine p_val rfl rfl rfl rfl (f0 rfl) ?_
          refine p_val rfl rfl rfl rfl (f0 rfl) ?_
          refine p_val rfl rfl rfl rfl (f0 rfl) ?_
          refine p_val rfl rfl rfl rfl (f0 rfl) ?_
          refine p_nil (q_endL rfl (t' := [(4, _), (31, _), (32, _), (175, _), (176, _), (177, _)]) rfl (bx' := [(30, _)]) rfl (F' := []) rfl ?_)
          refine q_then ?_
          -- region 26
          repeat (with_reducible refine c_seq ?_)
          refine c_region rfl ?_
          refine p_val rfl rfl rfl (s_place rfl rfl ty41 rfl rfl (by decide)) (f0 rfl) ?_
          refine p_val rfl rfl rfl (s_load rfl rfl ty3 rfl rfl) (f0 rfl) ?_
          refine p_val rfl rfl rfl (s_place rfl rfl ty41 rfl rfl (by decide)) (f0 rfl) ?_
          refine p_val rfl rfl rfl (s_load rfl rfl ty3 rfl rfl) (f0 rfl) ?_
          refine p_go rfl rfl rfl r19 (f0 rfl) ?_
          refine p_val rfl rfl rfl rfl (f0 rfl) ?_
          refine p_val rfl rfl rfl rfl (f0 rfl) ?_
          refine p_val rfl rfl rfl rfl (f0 rfl) ?_
          refine p_val rfl rfl rfl rfl (f0 rfl) ?_
          refine p_val rfl rfl rfl rfl (f0 rfl) ?_
          refine p_nil (q_endL rfl (t' := [(4, _), (31, _), (32, _), (33, _), (34, _), (175, _), (176, _), (177, _)]) rfl (bx' := [(30, _)]) rfl (F' := []) rfl ?_)
          refine q_then ?_
          -- region 27
          repeat (with_reducible refine c_seq ?_)
          refine c_region rfl ?_
          refine p_val rfl rfl rfl (s_place rfl rfl ty41 rfl rfl (by decide)) (f0 rfl) ?_
          refine p_val rfl rfl rfl (s_load rfl rfl ty3 rfl rfl) (f0 rfl) ?_
          refine p_go rfl rfl rfl r9 (f0 rfl) ?_
          refine p_val rfl rfl rfl rfl (f0 rfl) ?_
          refine p_val rfl rfl rfl rfl (f0 rfl) ?_
          refine p_val rfl rfl rfl rfl (f0 rfl) ?_
          refine p_val rfl rfl rfl rfl (f0 rfl) ?_
          refine p_val rfl rfl rfl rfl (f0 rfl) ?_
          refine p_nil (q_endL rfl (t' := [(4, _), (31, _), (32, _), (33, _), (34, _), (35, _), (36, _), (175, _), (176, _), (177, _)]) rfl (bx' := [(30, _)]) rfl (F' := []) rfl ?_)
          refine q_then ?_
          -- region 28
          repeat (with_reducible refine c_seq ?_)
          refine c_region rfl ?_
          refine p_val rfl rfl rfl (s_place rfl rfl ty41 rfl rfl (by decide)) (f0 rfl) ?_
          refine p_val rfl rfl rfl (s_load rfl rfl ty3 rfl rfl) (f0 rfl) ?_
          refine p_go rfl rfl rfl r20 (f0 rfl) ?_
          refine p_val rfl rfl rfl rfl (f0 rfl) ?_
          refine p_val rfl rfl rfl rfl (f0 rfl) ?_
          refine p_val rfl rfl rfl rfl (f0 rfl) ?_
          refine p_val rfl rfl rfl rfl (f0 rfl) ?_
          refine p_val rfl rfl rfl rfl (f0 rfl) ?_
          refine p_nil (q_endL rfl (t' := [(4, _), (31, _), (32, _), (33, _), (34, _), (35, _), (36, _), (37, _), (38, _), (175, _), (176, _), (177, _)]) rfl (bx' := []) rfl (F' := []) rfl ?_)
          refine q_then ?_
          -- region 29
          repeat (with_reducible refine c_seq ?_)
          refine c_region rfl ?_
          refine p_val rfl rfl rfl rfl (f0 rfl) ?_
          refine p_val rfl rfl rfl rfl (f0 rfl) ?_
          refine p_val rfl rfl rfl (s_bin rfl rfl rfl rfl (b_neS rfl)) (f0 rfl) ?_
          refine p_val rfl rfl rfl rfl (f0 rfl) ?_
          refine p_val rfl rfl rfl rfl (f0 rfl) ?_
          refine p_val rfl rfl rfl rfl (f0 rfl) ?_
          refine p_val rfl rfl rfl (s_bin rfl rfl rfl rfl (b_neN rfl)) (f0 rfl) ?_
          refine p_val rfl rfl rfl rfl (f0 rfl) ?_
          refine p_val rfl rfl rfl rfl (f0 rfl) ?_
          refine p_val rfl rfl rfl rfl (f0 rfl) ?_
          refine p_val rfl rfl rfl rfl (f0 rfl) ?_
          refine p_val rfl rfl rfl (s_bin rfl rfl rfl rfl (b_neN rfl)) (f0 rfl) ?_
          refine p_val rfl rfl rfl rfl (f0 rfl) ?_
          refine p_val rfl rfl rfl rfl (f0 rfl) ?_
          refine p_val rfl rfl rfl rfl (f0 rfl) ?_
          refine p_val rfl rfl rfl rfl (f0 rfl) ?_
          refine p_val rfl rfl rfl (s_bin rfl rfl rfl rfl (b_neN rfl)) (f0 rfl) ?_
          refine p_val rfl rfl rfl rfl (f0 rfl) ?_
          refine p_nil (q_endL rfl (t' := [(4, _), (175, _), (176, _), (177, _), (226, _)]) rfl (bx' := []) rfl (F' := []) rfl ?_)
          refine q_then ?_
          repeat (with_reducible refine c_seq ?_)
          refine c_if rfl (fun hc => ?_) (fun hc => ?_)
          · exact absurd hc (by decide)
          · skip
            refine c_skip ?_
            repeat (with_reducible refine q_then ?_)
            refine i_norm ?_
            refine q_then ?_
            -- on
            -- region 31
            repeat (with_reducible refine c_seq ?_)
            refine c_region rfl ?_
            refine p_val rfl rfl rfl (s_bin rfl rfl rfl rfl (b_addk 1 rfl (by omega))) (f0 rfl) ?_
            refine p_val rfl rfl rfl rfl (f0 rfl) ?_
            refine p_nil (q_endL rfl (t' := [(4, _), (175, _), (176, _), (177, _)]) rfl (bx' := []) rfl (F' := []) rfl ?_)
            refine l_normH rfl (t' := [(4, _), (175, _), (176, _), (177, _)]) rfl (bx' := []) rfl (F' := []) rfl ?_ ?_
            · exact ⟨i + 1, rfl, by omega⟩
            · simp [lkp] <;> omega
        · skip
          refine c_exit ?_
          repeat (with_reducible first | refine q_exit ?_ | refine l_exit ?_ | refine i_past (by decide) ?_)
          refine i_here ?_
          refine q_then ?_
          -- on
          -- region 32
          repeat (with_reducible refine c_seq ?_)
          refine c_region rfl ?_
          refine p_val rfl rfl rfl rfl (f0 rfl) ?_
          refine p_go rfl rfl rfl (run8' c H) (f0 rfl) ?_
          refine p_val rfl rfl rfl rfl (f0 rfl) ?_
          refine p_val rfl rfl rfl rfl (f0 rfl) ?_
          refine p_val rfl rfl rfl rfl (f0 rfl) ?_
          refine p_val rfl rfl rfl rfl (f0 rfl) ?_
          refine p_val rfl rfl rfl rfl (f0 rfl) ?_
          refine p_nil (q_endL rfl (t' := [(4, _), (39, _), (40, _)]) rfl (bx' := []) rfl (F' := []) rfl ?_)
          refine q_then ?_
          -- region 33
          repeat (with_reducible refine c_seq ?_)
          refine c_region rfl ?_
          refine p_val rfl rfl rfl rfl (f0 rfl) ?_
          refine p_go rfl rfl rfl (run21 c H) (f0 rfl) ?_
          refine p_val rfl rfl rfl rfl (f0 rfl) ?_
          refine p_val rfl rfl rfl rfl (f0 rfl) ?_
          refine p_val rfl rfl rfl rfl (f0 rfl) ?_
          refine p_val rfl rfl rfl rfl (f0 rfl) ?_
          refine p_val rfl rfl rfl rfl (f0 rfl) ?_
          refine p_nil (q_endL rfl (t' := [(39, _), (40, _), (41, _), (42, _)]) rfl (bx' := []) rfl (F' := []) rfl ?_)
          refine q_then ?_
          -- region 34
          repeat (with_reducible refine c_seq ?_)
          refine c_region rfl ?_
          refine p_val rfl rfl rfl rfl (f0 rfl) ?_
          refine p_val rfl rfl rfl rfl (f0 rfl) ?_
          refine p_val rfl rfl rfl (s_bin rfl rfl rfl rfl (b_eqN rfl)) (f0 rfl) ?_
          refine p_val rfl rfl rfl rfl (f0 rfl) ?_
          refine p_val rfl rfl rfl rfl (f0 rfl) ?_
          refine p_val rfl rfl rfl rfl (f0 rfl) ?_
          refine p_val rfl rfl rfl (s_bin rfl rfl rfl rfl (b_eqB rfl)) (f0 rfl) ?_
          refine p_val rfl rfl rfl rfl (f0 rfl) ?_
          refine p_val rfl rfl rfl rfl (f0 rfl) ?_
          refine p_go rfl rfl rfl (run10 _) (f0 rfl) ?_
          refine p_val rfl rfl rfl rfl (f0 rfl) ?_
          refine p_val rfl rfl rfl rfl (f0 rfl) ?_
          refine p_nil (q_endL rfl (t' := [(10, _)]) rfl (bx' := []) rfl (F' := []) rfl ?_)
          refine q_then ?_
          refine c_ret ?_
          exact ⟨rfl, rfl, rfl⟩

end Go.Proofs.Ytielbjjdgdblcaa.B

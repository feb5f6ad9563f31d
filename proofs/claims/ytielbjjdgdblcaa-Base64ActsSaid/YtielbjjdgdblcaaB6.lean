/- Law 01: remainders, digits, parsing. -/
import Derived.Test.YtielbjjdgdblcaaB5
namespace Go.Proofs.Ytielbjjdgdblcaa.B
open Go Go.Proofs Go.Proofs.Ytielbjjdgdblcaa.Vm
def modR (a b : Int) : Int := if b < 1 then 0 else (IntKind.i64.wrap (a.tmod b + b)).tmod b
def digR (n : Int) : PV := if n < 0 ∨ 63 < n then .tup [.int .u8 0, .int .i64 2] else .tup [byteP (dg n.toNat), .int .i64 0]
def parR (s : List UInt8) : PV := if s.length < 1 ∨ 8 < s.length then .tup [.int .i64 0, .int .i64 8] else if s.all isD = true then .tup [.int .i64 ((num s : Nat) : Int), .int .i64 0] else .tup [.int .i64 0, .int .i64 4]

noncomputable def c7 : Ctx := { P := Try.prog, box := [], esc := [], own := false, fr := fr, n := 14, slots := [] }
def w7 : Wk := { live := [(0, [0, 1]), (1, [0, 1, 6]), (2, [4]), (3, [4])], head := [], tr := [] }
theorem k7 : chkFn c7 Try.f7 2 = true := by kernel_rfl

-- types: 3
theorem run7 (a b : Int) (H : List HObj) : Run Try.prog fr 7 [.int .i64 a, .int .i64 b] H (.int .i64 (modR a b)) H := by
  refine run_of_body (C := c7) (W := w7) Try.func7 rfl k7 ?_
  -- region 0
  repeat (with_reducible refine c_seq ?_)
  refine c_region rfl ?_
  refine p_val rfl rfl rfl rfl (f0 rfl) ?_
  refine p_nil (q_endL rfl (t' := [(0, _), (1, _)]) rfl (bx' := []) rfl (F' := []) rfl ?_)
  refine q_then ?_
  -- region 1
  repeat (with_reducible refine c_seq ?_)
  refine c_region rfl ?_
  refine p_val rfl rfl rfl rfl (f0 rfl) ?_
  refine p_val rfl rfl rfl rfl (f0 rfl) ?_
  refine p_nil (q_endL rfl (t' := [(0, _), (1, _), (6, _)]) rfl (bx' := []) rfl (F' := []) rfl ?_)
  refine q_then ?_
  repeat (with_reducible refine c_seq ?_)
  refine c_if rfl (fun hc => ?_) (fun hc => ?_)
  · rw [modR, if_pos (of_decide_eq_true hc)]
    -- region 2
    repeat (with_reducible refine c_seq ?_)
    refine c_region rfl ?_
    refine p_val rfl rfl rfl rfl (f0 rfl) ?_
    refine p_nil (q_endL rfl (t' := [(4, _)]) rfl (bx' := []) rfl (F' := []) rfl ?_)
    refine q_then ?_
    refine c_ret ?_
    exact ⟨rfl, rfl, rfl⟩
  · have hc' := of_decide_eq_false hc
    rw [modR, if_neg hc']
    refine c_skip ?_
    refine q_then ?_
    -- on
    -- region 3
    repeat (with_reducible refine c_seq ?_)
    refine c_region rfl ?_
    refine p_val rfl rfl rfl rfl (f0 rfl) ?_
    refine p_val rfl rfl rfl rfl (f0 rfl) ?_
    refine p_val rfl rfl rfl (s_bin rfl rfl rfl rfl (b_rem ?_)) (f0 rfl) ?_
    · omega
    refine p_val rfl rfl rfl rfl (f0 rfl) ?_
    refine p_val rfl rfl rfl rfl (f0 rfl) ?_
    refine p_val rfl rfl rfl rfl (f0 rfl) ?_
    refine p_val rfl rfl rfl (s_bin rfl rfl rfl rfl (b_rem ?_)) (f0 rfl) ?_
    · omega
    refine p_val rfl rfl rfl rfl (f0 rfl) ?_
    refine p_nil (q_endL rfl (t' := [(4, _)]) rfl (bx' := []) rfl (F' := []) rfl ?_)
    refine q_then ?_
    refine c_ret ?_
    exact ⟨rfl, rfl, rfl⟩

noncomputable def c9 : Ctx := { P := Try.prog, box := [], esc := [], own := false, fr := fr, n := 12, slots := [] }
def w9 : Wk := { live := [(0, [0]), (1, [0, 9]), (2, [2, 3]), (3, [2, 3])], head := [], tr := [] }
theorem k9 : chkFn c9 Try.f9 1 = true := by kernel_rfl

-- types: 3 9
theorem run9 (n : Int) (H : List HObj) : Run Try.prog fr 9 [.int .i64 n] H (digR n) H := by
  refine run_of_body (C := c9) (W := w9) Try.func9 rfl k9 ?_
  -- region 0
  repeat (with_reducible refine c_seq ?_)
  refine c_region rfl ?_
  refine p_val rfl rfl rfl rfl (f0 rfl) ?_
  refine p_val rfl rfl rfl rfl (f0 rfl) ?_
  refine p_nil (q_endL rfl (t' := [(0, _)]) rfl (bx' := []) rfl (F' := []) rfl ?_)
  refine q_then ?_
  -- region 1
  repeat (with_reducible refine c_seq ?_)
  refine c_region rfl ?_
  refine p_val rfl rfl rfl rfl (f0 rfl) ?_
  refine p_val rfl rfl rfl rfl (f0 rfl) ?_
  refine p_val rfl rfl rfl rfl (f0 rfl) ?_
  refine p_gval rfl rfl (fun hb => ⟨by first | exact rfl | (rw [hb]; exact rfl), by first | exact rfl | (rw [hb]; exact rfl), g0 rfl, by first | exact rfl | (rw [gv_true hb]; exact rfl) | (simp only [gv_true hb]; exact rfl)⟩) ?_
  refine p_gval rfl rfl (fun hb => ⟨by first | exact rfl | (rw [hb]; exact rfl), by first | exact rfl | (rw [hb]; exact rfl), g0 rfl, by first | exact rfl | (rw [gv_true hb]; exact rfl) | (simp only [gv_true hb]; exact rfl)⟩) ?_
  refine p_val rfl rfl rfl (s_or rfl rfl rfl rfl) (f0 rfl) ?_
  refine p_nil (q_endL rfl (t' := [(0, _), (9, _)]) rfl (bx' := []) rfl (F' := []) rfl ?_)
  refine q_then ?_
  repeat (with_reducible refine c_seq ?_)
  refine c_if rfl (fun hc => ?_) (fun hc => ?_)
  · have h0 : n < 0 ∨ 63 < n := by simpa using hc
    -- region 2
    repeat (with_reducible refine c_seq ?_)
    refine c_region rfl ?_
    refine p_val rfl rfl rfl rfl (f0 rfl) ?_
    refine p_val rfl rfl rfl rfl (f0 rfl) ?_
    refine p_nil (q_endL rfl (t' := [(2, _), (3, _)]) rfl (bx' := []) rfl (F' := []) rfl ?_)
    refine q_then ?_
    refine c_ret ?_
    exact ⟨by rw [digR, if_pos h0]; rfl, rfl, rfl⟩
  · have h0 : ¬ (n < 0 ∨ 63 < n) := by
      simp at hc; omega
    obtain ⟨m, rfl⟩ : ∃ m : Nat, n = m := ⟨n.toNat, by omega⟩
    refine c_skip ?_
    refine q_then ?_
    -- on
    -- region 3
    repeat (with_reducible refine c_seq ?_)
    refine c_region rfl ?_
    refine p_val rfl rfl rfl rfl (f0 rfl) ?_
    refine p_val rfl rfl rfl (s_indexS rfl rfl ty9 rfl rfl (by omega) (al_get (by omega))) (f0 rfl) ?_
    refine p_val rfl rfl rfl rfl (f0 rfl) ?_
    refine p_val rfl rfl rfl rfl (f0 rfl) ?_
    refine p_nil (q_endL rfl (t' := [(2, _), (3, _)]) rfl (bx' := []) rfl (F' := []) rfl ?_)
    refine q_then ?_
    refine c_ret ?_
    exact ⟨by rw [digR, if_neg h0]; rfl, rfl, rfl⟩

noncomputable def c20 : Ctx := { P := Try.prog, box := [], esc := [], own := false, fr := fr, n := 12, slots := [] }
def w20 : Wk := { live := [(0, [0]), (1, [0, 9]), (2, [2, 3]), (3, [2, 3])], head := [], tr := [] }
theorem k20 : chkFn c20 Try.f20 1 = true := by kernel_rfl

-- types: 3 9
theorem run20 (n : Int) (H : List HObj) : Run Try.prog fr 20 [.int .i64 n] H (digR n) H := by
  refine run_of_body (C := c20) (W := w20) Try.func20 rfl k20 ?_
  -- region 0
  repeat (with_reducible refine c_seq ?_)
  refine c_region rfl ?_
  refine p_val rfl rfl rfl rfl (f0 rfl) ?_
  refine p_val rfl rfl rfl rfl (f0 rfl) ?_
  refine p_nil (q_endL rfl (t' := [(0, _)]) rfl (bx' := []) rfl (F' := []) rfl ?_)
  refine q_then ?_
  -- region 1
  repeat (with_reducible refine c_seq ?_)
  refine c_region rfl ?_
  refine p_val rfl rfl rfl rfl (f0 rfl) ?_
  refine p_val rfl rfl rfl rfl (f0 rfl) ?_
  refine p_val rfl rfl rfl rfl (f0 rfl) ?_
  refine p_gval rfl rfl (fun hb => ⟨by first | exact rfl | (rw [hb]; exact rfl), by first | exact rfl | (rw [hb]; exact rfl), g0 rfl, by first | exact rfl | (rw [gv_true hb]; exact rfl) | (simp only [gv_true hb]; exact rfl)⟩) ?_
  refine p_gval rfl rfl (fun hb => ⟨by first | exact rfl | (rw [hb]; exact rfl), by first | exact rfl | (rw [hb]; exact rfl), g0 rfl, by first | exact rfl | (rw [gv_true hb]; exact rfl) | (simp only [gv_true hb]; exact rfl)⟩) ?_
  refine p_val rfl rfl rfl (s_or rfl rfl rfl rfl) (f0 rfl) ?_
  refine p_nil (q_endL rfl (t' := [(0, _), (9, _)]) rfl (bx' := []) rfl (F' := []) rfl ?_)
  refine q_then ?_
  repeat (with_reducible refine c_seq ?_)
  refine c_if rfl (fun hc => ?_) (fun hc => ?_)
  · have h0 : n < 0 ∨ 63 < n := by simpa using hc
    -- region 2
    repeat (with_reducible refine c_seq ?_)
    refine c_region rfl ?_
    refine p_val rfl rfl rfl rfl (f0 rfl) ?_
    refine p_val rfl rfl rfl rfl (f0 rfl) ?_
    refine p_nil (q_endL rfl (t' := [(2, _), (3, _)]) rfl (bx' := []) rfl (F' := []) rfl ?_)
    refine q_then ?_
    refine c_ret ?_
    exact ⟨by rw [digR, if_pos h0]; rfl, rfl, rfl⟩
  · have h0 : ¬ (n < 0 ∨ 63 < n) := by
      simp at hc; omega
    obtain ⟨m, rfl⟩ : ∃ m : Nat, n = m := ⟨n.toNat, by omega⟩
    refine c_skip ?_
    refine q_then ?_
    -- on
    -- region 3
    repeat (with_reducible refine c_seq ?_)
    refine c_region rfl ?_
    refine p_val rfl rfl rfl rfl (f0 rfl) ?_
    refine p_val rfl rfl rfl (s_indexS rfl rfl ty9 rfl rfl (by omega) (al_get (by omega))) (f0 rfl) ?_
    refine p_val rfl rfl rfl rfl (f0 rfl) ?_
    refine p_val rfl rfl rfl rfl (f0 rfl) ?_
    refine p_nil (q_endL rfl (t' := [(2, _), (3, _)]) rfl (bx' := []) rfl (F' := []) rfl ?_)
    refine q_then ?_
    refine c_ret ?_
    exact ⟨by rw [digR, if_neg h0]; rfl, rfl, rfl⟩

noncomputable def c14 : Ctx := { P := Try.prog, box := [], esc := [], own := false, fr := fr, n := 22, slots := [] }
def w14 : Wk := { live := [(0, [0]), (1, [0, 13]), (2, [2, 3]), (3, [4, 5]), (4, [4, 20]), (5, [2, 3]), (6, [2, 3])], head := [], tr := [] }
theorem k14 : chkFn c14 Try.f14 1 = true := by kernel_rfl

-- types: 3 4 9
theorem run14 (s : List UInt8) (H : List HObj) : Run Try.prog fr 14 [.str s] H (parR s) H := by
  refine run_of_body (C := c14) (W := w14) Try.func14 rfl k14 ?_
  -- region 0
  repeat (with_reducible refine c_seq ?_)
  refine c_region rfl ?_
  refine p_val rfl rfl rfl rfl (f0 rfl) ?_
  refine p_val rfl rfl rfl rfl (f0 rfl) ?_
  refine p_nil (q_endL rfl (t' := [(0, _)]) rfl (bx' := []) rfl (F' := []) rfl ?_)
  refine q_then ?_
  -- region 1
  repeat (with_reducible refine c_seq ?_)
  refine c_region rfl ?_
  refine p_val rfl rfl rfl rfl (f0 rfl) ?_
  refine p_val rfl rfl rfl (s_lenS rfl rfl rfl rfl ty9 rfl) (f0 rfl) ?_
  refine p_val rfl rfl rfl rfl (f0 rfl) ?_
  refine p_val rfl rfl rfl rfl (f0 rfl) ?_
  refine p_gval rfl rfl (fun hb => ⟨by first | exact rfl | (rw [hb]; exact rfl), by first | exact rfl | (rw [hb]; exact rfl), g0 rfl, by first | exact rfl | (rw [gv_true hb]; exact rfl) | (simp only [gv_true hb]; exact rfl)⟩) ?_
  refine p_gval rfl rfl (fun hb => ⟨by first | exact rfl | (rw [hb]; exact rfl), by first | exact rfl | (rw [hb]; exact rfl), g0 rfl, by simp only [gv_true hb]; exact (s_lenS rfl rfl rfl rfl ty9 rfl)⟩) ?_
  refine p_gval rfl rfl (fun hb => ⟨by first | exact rfl | (rw [hb]; exact rfl), by first | exact rfl | (rw [hb]; exact rfl), g0 rfl, by first | exact rfl | (rw [gv_true hb]; exact rfl) | (simp only [gv_true hb]; exact rfl)⟩) ?_
  refine p_val rfl rfl rfl (s_or rfl rfl rfl rfl) (f0 rfl) ?_
  refine p_nil (q_endL rfl (t' := [(0, _), (13, _)]) rfl (bx' := []) rfl (F' := []) rfl ?_)
  refine q_then ?_
  repeat (with_reducible refine c_seq ?_)
  refine c_if rfl (fun hc => ?_) (fun hc => ?_)
  · have h0 : s.length < 1 ∨ 8 < s.length := by simp at hc; omega
    -- region 2
    repeat (with_reducible refine c_seq ?_)
    refine c_region rfl ?_
    refine p_val rfl rfl rfl rfl (f0 rfl) ?_
    refine p_val rfl rfl rfl rfl (f0 rfl) ?_
    refine p_nil (q_endL rfl (t' := [(2, _), (3, _)]) rfl (bx' := []) rfl (F' := []) rfl ?_)
    refine q_then ?_
    refine c_ret ?_
    exact ⟨by rw [parR, if_pos h0]; rfl, rfl, rfl⟩
  · have h0 : ¬ (s.length < 1 ∨ 8 < s.length) := by
      simp at hc; omega
    refine c_skip ?_
    refine q_then ?_
    -- on
    -- region 3
    repeat (with_reducible refine c_seq ?_)
    refine c_region rfl ?_
    refine p_val rfl rfl rfl rfl (f0 rfl) ?_
    refine p_go rfl rfl rfl (run23' _ (by omega) _) (f0 rfl) ?_
    refine p_val rfl rfl rfl rfl (f0 rfl) ?_
    refine p_val rfl rfl rfl rfl (f0 rfl) ?_
    refine p_val rfl rfl rfl rfl (f0 rfl) ?_
    refine p_val rfl rfl rfl rfl (f0 rfl) ?_
    refine p_val rfl rfl rfl rfl (f0 rfl) ?_
    refine p_nil (q_endL rfl (t' := [(4, _), (5, _)]) rfl (bx' := []) rfl (F' := []) rfl ?_)
    refine q_then ?_
    -- region 4
    repeat (with_reducible refine c_seq ?_)
    refine c_region rfl ?_
    refine p_val rfl rfl rfl rfl (f0 rfl) ?_
    refine p_val rfl rfl rfl rfl (f0 rfl) ?_
    refine p_nil (q_endL rfl (t' := [(4, _), (20, _)]) rfl (bx' := []) rfl (F' := []) rfl ?_)
    refine q_then ?_
    repeat (with_reducible refine c_seq ?_)
    refine c_if rfl (fun hc => ?_) (fun hc => ?_)
    · have h1 : ¬ (s.all isD = true) := by
        revert hc; cases s.all isD <;> simp
      -- region 5
      repeat (with_reducible refine c_seq ?_)
      refine c_region rfl ?_
      refine p_val rfl rfl rfl rfl (f0 rfl) ?_
      refine p_val rfl rfl rfl rfl (f0 rfl) ?_
      refine p_nil (q_endL rfl (t' := [(2, _), (3, _)]) rfl (bx' := []) rfl (F' := []) rfl ?_)
      refine q_then ?_
      refine c_ret ?_
      exact ⟨by rw [parR, if_neg h0, if_neg h1]; rfl, rfl, rfl⟩
    · have h1 : s.all isD = true := by
        revert hc; cases s.all isD <;> simp
      rw [if_pos h1]
      refine c_skip ?_
      refine q_then ?_
      -- on
      -- region 6
      repeat (with_reducible refine c_seq ?_)
      refine c_region rfl ?_
      refine p_val rfl rfl rfl rfl (f0 rfl) ?_
      refine p_val rfl rfl rfl rfl (f0 rfl) ?_
      refine p_val rfl rfl rfl rfl (f0 rfl) ?_
      refine p_nil (q_endL rfl (t' := [(2, _), (3, _)]) rfl (bx' := []) rfl (F' := []) rfl ?_)
      refine q_then ?_
      refine c_ret ?_
      exact ⟨by rw [parR, if_neg h0, if_pos h1]; rfl, rfl, rfl⟩

end Go.Proofs.Ytielbjjdgdblcaa.B

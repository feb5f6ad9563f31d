/- Law 01: the reference's value of a digit. -/
import Derived.Test.YtielbjjdgdblcaaB6
namespace Go.Proofs.Ytielbjjdgdblcaa.B
open Go Go.Proofs Go.Proofs.Ytielbjjdgdblcaa.Vm
theorem al_at {j : Nat} (h : j < al.length) : al[j] = dg j := by
  unfold dg
  rw [List.getD_eq_getElem?_getD, List.getElem?_eq_getElem h]
  rfl
theorem al_vt {b : UInt8} {k : Nat} (hk0 : k < 64) (h : dg k = b) (hn : ∀ j, j < k → dg j ≠ b) : vt b.toNat = k + 1 := by
  have hk : k < al.length := hk0
  have e : al.findIdx? (fun x => x.toNat == b.toNat) = some k := by
    rw [List.findIdx?_eq_some_iff_getElem]
    refine ⟨hk, ?_, ?_⟩
    · rw [al_at hk, h]; simp
    · intro j hj
      have hj' : j < al.length := Nat.lt_trans hj hk
      rw [al_at hj']
      have hne := hn j hj
      simp only [beq_iff_eq]
      intro h'
      exact hne (UInt8.toNat_inj.1 h')
  simp [vt, e]
theorem al_no {b : UInt8} (hn : ∀ j, j < 64 → dg j ≠ b) : vt b.toNat = 0 := by
  have e : al.findIdx? (fun x => x.toNat == b.toNat) = none := by
    rw [List.findIdx?_eq_none_iff]
    intro x hx
    obtain ⟨j, hj, rfl⟩ := List.getElem_of_mem hx
    rw [al_at hj]
    have hne := hn j hj
    simp only [beq_eq_false_iff_ne, ne_eq]
    intro h'
    exact hne (UInt8.toNat_inj.1 h')
  simp [vt, e]

noncomputable def c21 : Ctx := { P := Try.prog, box := [], esc := [], own := false, fr := fr, n := 14, slots := [] }
def w21 : Wk := { live := [(0, [0]), (1, [0, 5]), (2, [0, 5, 6]), (3, [0, 4, 5]), (4, [0, 4, 5, 11]), (5, [2, 3]), (6, [0, 5]), (7, [2, 3])], head := [(0, [0, 5])], tr := [] }
theorem k21 : chkFn c21 Try.f21 1 = true := by kernel_rfl

-- types: 3 5 9
set_option maxHeartbeats 1000000 in
theorem run21 (b : UInt8) (H : List HObj) : Run Try.prog fr 21 [byteP b] H (.tup [.int .i64 ((vl b : Nat) : Int), .bool (isD b)]) H := by
  refine run_of_body (C := c21) (W := w21) Try.func21 rfl k21 ?_
  -- region 0
  repeat (with_reducible refine c_seq ?_)
  refine c_region rfl ?_
  refine p_val rfl rfl rfl rfl (f0 rfl) ?_
  refine p_val rfl rfl rfl rfl (f0 rfl) ?_
  refine p_nil (q_endL rfl (t' := [(0, _)]) rfl (bx' := []) rfl (F' := []) rfl ?_)
  refine q_then ?_
  -- region 1
  repeat (with_reducible refine c_seq ?_)
  refine c_region rfl ?_
  refine p_val rfl rfl rfl rfl (f0 rfl) ?_
  refine p_nil (q_endL rfl (t' := [(0, _), (5, _)]) rfl (bx' := []) rfl (F' := []) rfl ?_)
  refine q_then ?_
  repeat (with_reducible refine c_seq ?_)
  refine c_block ?_
  refine c_loopH (fun e => ∃ k : Nat, k ≤ 64 ∧ (∀ j, j < k → dg j ≠ b) ∧ e = ⟨[(0, .v (byteP b)), (5, .v (.int .i64 (k : Int)))], [], H, []⟩) (fun e => match lkp e.t 5 with | some (.v (.int _ k)) => (64 - k).toNat | _ => 0) rfl (t' := [(0, _), (5, _)]) rfl (bx' := []) rfl (F' := []) rfl ?_ ?_
  · exact ⟨0, by omega, by omega, rfl⟩
  rintro e ⟨k, hk, hno, rfl⟩
  -- region 2
  repeat (with_reducible refine c_seq ?_)
  refine c_region rfl ?_
  refine p_val rfl rfl rfl rfl (f0 rfl) ?_
  refine p_nil (q_endL rfl (t' := [(0, _), (5, _), (6, _)]) rfl (bx' := []) rfl (F' := []) rfl ?_)
  refine q_then ?_
  repeat (with_reducible refine c_seq ?_)
  refine c_if rfl (fun hc => ?_) (fun hc => ?_)
  · have hk2 : k < 64 := by have := of_decide_eq_true hc; omega
    refine c_skip ?_
    refine q_then ?_
    -- on
    repeat (with_reducible refine c_seq ?_)
    refine c_block ?_
    -- region 3
    repeat (with_reducible refine c_seq ?_)
    refine c_region rfl ?_
    refine p_val rfl rfl rfl rfl (f0 rfl) ?_
    refine p_val rfl rfl rfl rfl (f0 rfl) ?_
    refine p_nil (q_endL rfl (t' := [(0, _), (4, _), (5, _)]) rfl (bx' := []) rfl (F' := []) rfl ?_)
    refine q_then ?_
    -- region 4
    repeat (with_reducible refine c_seq ?_)
    refine c_region rfl ?_
    refine p_val rfl rfl rfl rfl (f0 rfl) ?_
    refine p_val rfl rfl rfl (s_indexS rfl rfl ty9 rfl rfl (by omega) (al_get (by omega))) (f0 rfl) ?_
    refine p_val rfl rfl rfl rfl (f0 rfl) ?_
    refine p_val rfl rfl rfl rfl (f0 rfl) ?_
    refine p_nil (q_endL rfl (t' := [(0, _), (4, _), (5, _), (11, _)]) rfl (bx' := []) rfl (F' := []) rfl ?_)
    refine q_then ?_
    repeat (with_reducible refine c_seq ?_)
    refine c_if rfl (fun hc => ?_) (fun hc => ?_)
    · have he : dg k = b := by simp [byteP] at hc; exact UInt8.toNat_inj.1 (by omega)
      have hv := al_vt hk2 he hno
      have e1 : vl b = k := by simp [vl, hv]
      have e2 : isD b = true := by simp [isD, hv]
      rw [e1, e2]
      -- region 5
      repeat (with_reducible refine c_seq ?_)
      refine c_region rfl ?_
      refine p_val rfl rfl rfl rfl (f0 rfl) ?_
      refine p_val rfl rfl rfl rfl (f0 rfl) ?_
      refine p_val rfl rfl rfl rfl (f0 rfl) ?_
      refine p_nil (q_endL rfl (t' := [(2, _), (3, _)]) rfl (bx' := []) rfl (F' := []) rfl ?_)
      refine q_then ?_
      refine c_ret ?_
      exact ⟨rfl, rfl, rfl⟩
    · have he : dg k ≠ b := by intro h; subst h; simp [byteP] at hc
      refine c_skip ?_
      repeat (with_reducible refine q_then ?_)
      refine i_norm ?_
      refine q_then ?_
      -- on
      -- region 6
      repeat (with_reducible refine c_seq ?_)
      refine c_region rfl ?_
      refine p_val rfl rfl rfl (s_bin rfl rfl rfl rfl (b_addk 1 rfl (by omega))) (f0 rfl) ?_
      refine p_val rfl rfl rfl rfl (f0 rfl) ?_
      refine p_nil (q_endL rfl (t' := [(0, _), (5, _)]) rfl (bx' := []) rfl (F' := []) rfl ?_)
      refine l_normH rfl (t' := [(0, _), (5, _)]) rfl (bx' := []) rfl (F' := []) rfl ?_ ?_
      · refine ⟨k + 1, by omega, ?_, rfl⟩
        intro j hj
        by_cases h : j = k
        · subst h; exact he
        · exact hno j (by omega)
      · simp [lkp]; omega
  · skip
    have hk3 : k = 64 := by have := of_decide_eq_false hc; omega
    subst hk3
    have hv := al_no hno
    have e1 : vl b = 0 := by simp [vl, hv]
    have e2 : isD b = false := by simp [isD, hv]
    rw [e1, e2]
    refine c_exit ?_
    repeat (with_reducible first | refine q_exit ?_ | refine l_exit ?_ | refine i_past (by decide) ?_)
    refine i_here ?_
    refine q_then ?_
    -- on
    -- region 7
    repeat (with_reducible refine c_seq ?_)
    refine c_region rfl ?_
    refine p_val rfl rfl rfl rfl (f0 rfl) ?_
    refine p_val rfl rfl rfl rfl (f0 rfl) ?_
    refine p_nil (q_endL rfl (t' := [(2, _), (3, _)]) rfl (bx' := []) rfl (F' := []) rfl ?_)
    refine q_then ?_
    refine c_ret ?_
    exact ⟨rfl, rfl, rfl⟩

end Go.Proofs.Ytielbjjdgdblcaa.B

/- Law 01: each text of digits is that of its bytes. -/
import Derived.Test.YtielbjjdgdblcaaB13
import Derived.Test.YtielbjjdgdblcaaVm28
namespace Go.Proofs.Ytielbjjdgdblcaa.B
open Go Go.Proofs Go.Proofs.Ytielbjjdgdblcaa.Vm

def ds4 (s : List UInt8) : List Nat := (s.take (s.length / 4 * 4)).map (fun x => x.toNat % 64)
theorem ds4_lt (s : List UInt8) : ∀ k ∈ ds4 s, k < 64 := by
  intro k hk
  simp only [ds4, List.mem_map] at hk
  obtain ⟨x, _, rfl⟩ := hk
  omega
theorem ds4_len (s : List UInt8) : (ds4 s).length = s.length / 4 * 4 := by simp [ds4]; omega
theorem ds4_get (s : List UInt8) {k : Nat} (h : k < s.length / 4 * 4) : ∃ x, s[k]? = some x ∧ (ds4 s)[k]? = some (x.toNat % 64) := by
  have hk : k < s.length := by omega
  refine ⟨s[k], List.getElem?_eq_getElem hk, ?_⟩
  simp [ds4, List.getElem?_take, h, hk]
noncomputable def c4 : Ctx := { P := Try.prog, box := [], esc := [], own := true, fr := fr, n := 67, slots := [] }
def w4 : Wk := { live := [(0, [0]), (1, [0, 14]), (2, [2]), (3, [0, 3]), (4, [3, 21, 22, 23]), (5, [3, 21, 22, 23, 24]), (6, [3, 5, 21, 22, 23]), (7, [3, 6, 7, 21, 22, 23]), (8, [3, 6, 21, 22, 23, 35]), (9, [2]), (10, [3, 21, 22, 23]), (11, [3, 21, 22, 23]), (12, [3, 8, 9]), (13, [3, 9, 10, 11]), (14, [2])], head := [(0, [3, 21, 22, 23])], tr := [(1, [false]), (2, [true, false]), (4, [false, false]), (6, [true, true, false]), (7, [false, true, true, true, false, true, true, false, false]), (8, [false]), (10, [true, false]), (11, [true, false]), (12, [false, true, true, false, true, true, false, false]), (13, [false, true, false, true, true, false, false]), (14, [false, true, false, false, true, true, false, false, false, true, true, true, false, true, true, false])] }
theorem k4 : chkFn c4 Try.f4 1 = true := by kernel_rfl

-- types: 3 5 9 25 30
set_option maxHeartbeats 1000000 in
theorem run4 (s : List UInt8) (H : List HObj) : Run Try.prog fr 4 [.slice 1 (s.map byteP)] H (.bool true) H := by
  refine run_of_body (C := c4) (W := w4) Try.func4 rfl k4 ?_
  -- region 0
  repeat (with_reducible refine c_seq ?_)
  refine c_region rfl ?_
  refine p_val (F' := []) rfl rfl rfl rfl rfl ?_
  refine p_nil (q_endL rfl (t' := [(0, _)]) rfl (bx' := []) rfl (F' := []) rfl ?_)
  refine q_then ?_
  -- region 1
  repeat (with_reducible refine c_seq ?_)
  refine c_region rfl ?_
  refine p_val (F' := []) rfl rfl rfl rfl rfl ?_
  refine p_val (F' := []) rfl rfl rfl (s_lenL rfl rfl rfl rfl ty30 rfl) rfl ?_
  refine p_val (F' := []) rfl rfl rfl rfl rfl ?_
  refine p_nil (q_endL rfl (t' := [(0, _), (14, _)]) rfl (bx' := []) rfl (F' := []) rfl ?_)
  refine q_then ?_
  repeat (with_reducible refine c_seq ?_)
  refine c_if rfl (fun hc => ?_) (fun hc => ?_)
  · skip
    -- region 2
    repeat (with_reducible refine c_seq ?_)
    refine c_region rfl ?_
    refine p_go (F' := []) rfl rfl rfl (run10 _) rfl ?_
    refine p_val (F' := []) rfl rfl rfl rfl rfl ?_
    refine p_nil (q_endL rfl (t' := [(2, _)]) rfl (bx' := []) rfl (F' := []) rfl ?_)
    refine q_then ?_
    refine c_ret ?_
    exact ⟨rfl, rfl, rfl⟩
  · have hlen : s.length ≤ 400 := by
      have h0 : ¬ (400 : Int) < ((s.map byteP).length : Nat) := of_decide_eq_false hc
      simp at h0; omega
    clear hc
    have hl4 := ds4_len s
    have r11 : Run Try.prog fr 11 [.str ((ds4 s).map dg)] H (.tup [.str (dec ((ds4 s).map dg)), .int .i64 0]) H := by
      have h := run11 ((ds4 s).map dg) H
      rw [decR, if_neg (by simp; omega), if_neg (by simp; omega), if_pos (map_dg_isD _ (ds4_lt s))] at h
      exact h
    have r12 : Run Try.prog fr 12 [.str (dec ((ds4 s).map dg))] H (.tup [.str ((ds4 s).map dg), .int .i64 0]) H := by
      have h := run12 (dec ((ds4 s).map dg)) H
      have hd := dec_mul ((ds4 s).map dg)
      simp only [List.length_map] at hd
      rw [encR, if_neg (by omega), if_neg (by omega), enc_dec _ (ds4_lt s) (by omega)] at h
      exact h
    refine c_skip ?_
    refine q_then ?_
    -- on
    -- region 3
    repeat (with_reducible refine c_seq ?_)
    refine c_region rfl ?_
    refine p_val (F' := [(3, 0, 0)]) rfl rfl rfl (s_nil (.inr rfl) rfl ty30) rfl ?_
    refine p_nil (q_endL rfl (t' := [(0, _), (3, _)]) rfl (bx' := []) rfl (F' := [(3, 0, 0)]) rfl ?_)
    refine q_then ?_
    -- region 4
    repeat (with_reducible refine c_seq ?_)
    refine c_region rfl ?_
    refine p_val (F' := [(3, 0, 0)]) rfl rfl rfl rfl rfl ?_
    refine p_val (F' := [(3, 0, 0)]) rfl rfl rfl rfl rfl ?_
    refine p_val (F' := [(3, 0, 0)]) rfl rfl rfl (s_lenL rfl rfl rfl rfl ty30 rfl) rfl ?_
    refine p_val (F' := [(3, 0, 0)]) rfl rfl rfl (s_bin rfl rfl rfl rfl (b_quok 4 rfl (by decide) (by simp; omega))) rfl ?_
    refine p_val (F' := [(3, 0, 0)]) rfl rfl rfl (s_bin rfl rfl rfl rfl (b_mulk 4 rfl (by simp; omega))) rfl ?_
    refine p_val (F' := [(3, 0, 0)]) rfl rfl rfl (s_sliceL rfl rfl ty30 rfl rfl rfl (bd_hiN (by simp; omega))) rfl ?_
    refine p_val (F' := [(3, 0, 0)]) rfl rfl rfl (s_lenL rfl rfl rfl rfl ty30 rfl) rfl ?_
    refine p_val (F' := [(3, 0, 0)]) rfl rfl rfl rfl rfl ?_
    refine p_nil (q_endL rfl (t' := [(3, _), (21, _), (22, _), (23, _)]) rfl (bx' := []) rfl (F' := [(3, 0, 0)]) rfl ?_)
    refine q_then ?_
    repeat (with_reducible refine c_seq ?_)
    refine c_block ?_
    refine c_loopH (fun e => ∃ k : Nat, e = ⟨[(3, .v (.slice 1 (((ds4 s).take k).map (fun x => byteP (dg x))))), (21, .v (.slice 1 ((s.map byteP).take (s.length / 4 * 4)))), (22, .v (.int .i64 ((s.length / 4 * 4 : Nat) : Int))), (23, .v (.int .i64 (k : Int)))], [], H, [(3, 0, 0)]⟩ ∧ k ≤ s.length / 4 * 4) (fun e => match lkp e.t 23 with | some (.v (.int _ k)) => (400 - k).toNat | _ => 0) rfl (t' := [(3, _), (21, _), (22, _), (23, _)]) rfl (bx' := []) rfl (F' := [(3, 0, 0)]) rfl ?_ ?_
    · exact ⟨0, by simp; omega, by omega⟩
    rintro e ⟨k, rfl, hk⟩
    -- region 5
    repeat (with_reducible refine c_seq ?_)
    refine c_region rfl ?_
    refine p_val (F' := [(3, 0, 0)]) rfl rfl rfl rfl rfl ?_
    refine p_nil (q_endL rfl (t' := [(3, _), (21, _), (22, _), (23, _), (24, _)]) rfl (bx' := []) rfl (F' := [(3, 0, 0)]) rfl ?_)
    refine q_then ?_
    repeat (with_reducible refine c_seq ?_)
    refine c_if rfl (fun hc => ?_) (fun hc => ?_)
    · have hk2 : k < s.length / 4 * 4 := by have := of_decide_eq_true hc; omega
      obtain ⟨x, hx1, hx2⟩ := ds4_get s hk2
      have hx3 : ((s.map byteP).take (s.length / 4 * 4))[((k : Nat) : Int).toNat]? = some (byteP x) := by
        rw [Int.toNat_natCast, List.getElem?_take, if_pos hk2, List.getElem?_map, hx1]; rfl
      have hx4 : x.toNat % 64 < 64 := by omega
      have hx5 : (ds4 s).take (k + 1) = (ds4 s).take k ++ [x.toNat % 64] := by rw [List.take_add_one, hx2]; rfl
      refine c_skip ?_
      refine q_then ?_
      -- on
      repeat (with_reducible refine c_seq ?_)
      refine c_block ?_
      -- region 6
      repeat (with_reducible refine c_seq ?_)
      refine c_region rfl ?_
      refine p_val (F' := [(3, 0, 0)]) rfl rfl rfl (s_elem rfl rfl ty30 rfl rfl (by omega) hx3) rfl ?_
      refine p_val (F' := [(3, 0, 0)]) rfl rfl rfl (s_load rfl rfl ty5 rfl rfl) rfl ?_
      refine p_val (F' := [(3, 0, 0)]) rfl rfl rfl rfl rfl ?_
      refine p_nil (q_endL rfl (t' := [(3, _), (5, _), (21, _), (22, _), (23, _)]) rfl (bx' := []) rfl (F' := [(3, 0, 0)]) rfl ?_)
      refine q_then ?_
      -- region 7
      repeat (with_reducible refine c_seq ?_)
      refine c_region rfl ?_
      refine p_val (F' := [(3, 0, 0)]) rfl rfl rfl rfl rfl ?_
      refine p_val (F' := [(3, 0, 0)]) rfl rfl rfl (s_bin rfl rfl rfl rfl (b_remk 64 rfl (by decide))) rfl ?_
      refine p_val (F' := [(3, 0, 0)]) rfl rfl rfl (s_convert rfl rfl rfl (v_64 ty5 ty3 (by omega))) rfl ?_
      refine p_go (F' := [(3, 0, 0)]) rfl rfl rfl (run9k hx4 _) rfl ?_
      refine p_val (F' := [(3, 0, 0)]) rfl rfl rfl rfl rfl ?_
      refine p_val (F' := [(3, 0, 0)]) rfl rfl rfl rfl rfl ?_
      refine p_val (F' := [(3, 0, 0)]) rfl rfl rfl rfl rfl ?_
      refine p_val (F' := [(3, 0, 0)]) rfl rfl rfl rfl rfl ?_
      refine p_val (F' := [(3, 0, 0)]) rfl rfl rfl rfl rfl ?_
      refine p_nil (q_endL rfl (t' := [(3, _), (6, _), (7, _), (21, _), (22, _), (23, _)]) rfl (bx' := []) rfl (F' := [(3, 0, 0)]) rfl ?_)
      refine q_then ?_
      -- region 8
      repeat (with_reducible refine c_seq ?_)
      refine c_region rfl ?_
      refine p_val (F' := [(3, 0, 0)]) rfl rfl rfl rfl rfl ?_
      refine p_val (F' := [(3, 0, 0)]) rfl rfl rfl rfl rfl ?_
      refine p_nil (q_endL rfl (t' := [(3, _), (6, _), (21, _), (22, _), (23, _), (35, _)]) rfl (bx' := []) rfl (F' := [(3, 0, 0)]) rfl ?_)
      refine q_then ?_
      repeat (with_reducible refine c_seq ?_)
      refine c_if rfl (fun hc => ?_) (fun hc => ?_)
      · exact absurd hc (by decide)
      · refine c_skip ?_
        refine q_then ?_
        -- on
        -- region 10
        repeat (with_reducible refine c_seq ?_)
        refine c_region rfl ?_
        refine p_val (F' := [(36, 0, 0)]) rfl rfl rfl rfl rfl ?_
        refine p_val (F' := [(36, 0, 0)]) rfl rfl rfl rfl rfl ?_
        refine p_val (F' := [(38, 0, 0), (36, 0, 0)]) rfl rfl rfl (s_lit rfl rfl ty30 ty5 rfl ⟨rfl, by decide, by decide, by simp [byteP, PV.cells, PV.one]⟩) rfl ?_
        refine p_val (F' := [(39, 0, 0), (38, 0, 0)]) rfl rfl rfl (s_app rfl rfl rfl rfl ty30 rfl (zero_ok ty5) ty30 rfl (by decide) (by simp; unfold roomy; omega)) rfl ?_
        refine p_val (F' := [(3, 0, 0), (38, 0, 0)]) rfl rfl rfl rfl rfl ?_
        refine p_nil (q_endL rfl (t' := [(3, _), (21, _), (22, _), (23, _)]) rfl (bx' := []) rfl (F' := [(3, 0, 0)]) rfl ?_)
        repeat (with_reducible refine q_then ?_)
        refine i_norm ?_
        refine q_then ?_
        -- on
        -- region 11
        repeat (with_reducible refine c_seq ?_)
        refine c_region rfl ?_
        refine p_val (F' := [(3, 0, 0)]) rfl rfl rfl (s_bin rfl rfl rfl rfl (b_addk 1 rfl (by omega))) rfl ?_
        refine p_val (F' := [(3, 0, 0)]) rfl rfl rfl rfl rfl ?_
        refine p_nil (q_endL rfl (t' := [(3, _), (21, _), (22, _), (23, _)]) rfl (bx' := []) rfl (F' := [(3, 0, 0)]) rfl ?_)
        refine l_normH rfl (t' := [(3, _), (21, _), (22, _), (23, _)]) rfl (bx' := []) rfl (F' := [(3, 0, 0)]) rfl ?_ ?_
        · exact ⟨k + 1, by rw [hx5]; simp, by omega⟩
        · simp [lkp]; omega
    · have hk2 : k = s.length / 4 * 4 := by have := of_decide_eq_false hc; omega
      have ht : (ds4 s).take k = ds4 s := List.take_of_length_le (by omega)
      have hu : unbytes ((ds4 s).map (fun x => byteP (dg x))) = some ((ds4 s).map dg) := by
        have := unbytes_byteP ((ds4 s).map dg)
        rw [List.map_map] at this
        exact this
      rw [ht]
      refine c_exit ?_
      repeat (with_reducible first | refine q_exit ?_ | refine l_exit ?_ | refine i_past (by decide) ?_)
      refine i_here ?_
      refine q_then ?_
      -- on
      -- region 12
      repeat (with_reducible refine c_seq ?_)
      refine c_region rfl ?_
      refine p_val (F' := [(3, 0, 0)]) rfl rfl rfl rfl rfl ?_
      refine p_val (F' := [(3, 0, 0)]) rfl rfl rfl (s_convert rfl rfl rfl (v_str ty30 ty9 ty5 hu)) rfl ?_
      refine p_go (F' := [(3, 0, 0)]) rfl rfl rfl r11 rfl ?_
      refine p_val (F' := [(3, 0, 0)]) rfl rfl rfl rfl rfl ?_
      refine p_val (F' := [(3, 0, 0)]) rfl rfl rfl rfl rfl ?_
      refine p_val (F' := [(3, 0, 0)]) rfl rfl rfl rfl rfl ?_
      refine p_val (F' := [(3, 0, 0)]) rfl rfl rfl rfl rfl ?_
      refine p_val (F' := [(3, 0, 0)]) rfl rfl rfl rfl rfl ?_
      refine p_nil (q_endL rfl (t' := [(3, _), (8, _), (9, _)]) rfl (bx' := []) rfl (F' := [(3, 0, 0)]) rfl ?_)
      refine q_then ?_
      -- region 13
      repeat (with_reducible refine c_seq ?_)
      refine c_region rfl ?_
      refine p_val (F' := [(3, 0, 0)]) rfl rfl rfl rfl rfl ?_
      refine p_go (F' := [(3, 0, 0)]) rfl rfl rfl r12 rfl ?_
      refine p_val (F' := [(3, 0, 0)]) rfl rfl rfl rfl rfl ?_
      refine p_val (F' := [(3, 0, 0)]) rfl rfl rfl rfl rfl ?_
      refine p_val (F' := [(3, 0, 0)]) rfl rfl rfl rfl rfl ?_
      refine p_val (F' := [(3, 0, 0)]) rfl rfl rfl rfl rfl ?_
      refine p_val (F' := [(3, 0, 0)]) rfl rfl rfl rfl rfl ?_
      refine p_nil (q_endL rfl (t' := [(3, _), (9, _), (10, _), (11, _)]) rfl (bx' := []) rfl (F' := [(3, 0, 0)]) rfl ?_)
      refine q_then ?_
      -- region 14
      repeat (with_reducible refine c_seq ?_)
      refine c_region rfl ?_
      refine p_val (F' := [(3, 0, 0)]) rfl rfl rfl rfl rfl ?_
      refine p_val (F' := [(3, 0, 0)]) rfl rfl rfl rfl rfl ?_
      refine p_val (F' := [(3, 0, 0)]) rfl rfl rfl rfl rfl ?_
      refine p_val (F' := [(3, 0, 0)]) rfl rfl rfl rfl rfl ?_
      refine p_val (F' := [(3, 0, 0)]) rfl rfl rfl rfl rfl ?_
      refine p_val (F' := [(3, 0, 0)]) rfl rfl rfl rfl rfl ?_
      refine p_val (F' := [(3, 0, 0)]) rfl rfl rfl rfl rfl ?_
      refine p_val (F' := [(3, 0, 0)]) rfl rfl rfl rfl rfl ?_
      refine p_val (F' := [(3, 0, 0)]) rfl rfl rfl rfl rfl ?_
      refine p_val (F' := [(3, 0, 0)]) rfl rfl rfl (s_convert rfl rfl rfl (v_str ty30 ty9 ty5 hu)) rfl ?_
      refine p_val (F' := [(3, 0, 0)]) rfl rfl rfl (s_bin rfl rfl rfl rfl (b_eqS rfl)) rfl ?_
      refine p_val (F' := [(3, 0, 0)]) rfl rfl rfl rfl rfl ?_
      refine p_val (F' := [(3, 0, 0)]) rfl rfl rfl rfl rfl ?_
      refine p_go (F' := [(3, 0, 0)]) rfl rfl rfl (run10 _) rfl ?_
      refine p_val (F' := [(3, 0, 0)]) rfl rfl rfl rfl rfl ?_
      refine p_val (F' := [(3, 0, 0)]) rfl rfl rfl rfl rfl ?_
      refine p_nil (q_endL rfl (t' := [(2, _)]) rfl (bx' := []) rfl (F' := []) rfl ?_)
      refine q_then ?_
      refine c_ret ?_
      exact ⟨rfl, rfl, rfl⟩

end Go.Proofs.Ytielbjjdgdblcaa.B

/- Law 01: the table of values. -/
import Derived.Test.YtielbjjdgdblcaaB1
namespace Go.Proofs.Ytielbjjdgdblcaa.B
open Go Go.Proofs Go.Proofs.Ytielbjjdgdblcaa.Vm
theorem ty44 : tyOf Try.prog 44 = some ⟨.arr 256 5 1 false, 256, true, some (.agg (List.replicate 256 (.int .u8 0))), none⟩ := by kernel_rfl
/-- The table behind k digits. -/
def tb : Nat → List PV
  | 0 => List.replicate 256 (.int .u8 0)
  | k + 1 => splice (tb k) (dg k).toNat [.int .u8 (((k + 1) % 256 : Nat) : Int)]
theorem dg_lt (k : Nat) : (dg k).toNat < 256 := (dg k).toNat_lt
theorem tb_len : ∀ k, (tb k).length = 256
  | 0 => List.length_replicate
  | k + 1 => by rw [tb, splice_length (by simp [tb_len k]; have := dg_lt k; omega)]; exact tb_len k
theorem load_all {t : List (Nat × Cl)} {H : List HObj} {p : PV} {cs : List PV} (h : cs.length = 256) : loadA ⟨t, [(0, p), (1, .agg cs)], H, []⟩ ⟨.arr 256 5 1 false, 256, true, some (.agg (List.replicate 256 (.int .u8 0))), none⟩ (.loc 1 0) = some (.agg cs) := by
  have e : (cs.drop 0).take 256 = cs := by rw [List.drop_zero, ← h, List.take_length]
  show mkv true 256 ((cs.drop 0).take 256) = _
  rw [e]
  simp only [mkv, h, if_true]
theorem store_all {cs ns : List PV} (h : cs.length = 256) (k : ns.length = 256) : setb [(0, .agg cs), (1, .agg ns)] 0 (remk (.agg cs) (splice (PV.agg cs).cells 0 (PV.agg ns).cells)) = [(0, .agg ns), (1, .agg ns)] := by
  have e : splice cs 0 ns = ns := by simp [splice, k, ← h]
  show [(0, PV.agg (splice cs 0 ns)), (1, PV.agg ns)] = _
  rw [e]
theorem res_cell {C : Ctx} {t : List (Nat × Cl)} {H : List HObj} {cs : List PV} (hT : tyOf C.P 44 = some ⟨.arr 256 5 1 false, 256, true, some (.agg (List.replicate 256 (.int .u8 0))), none⟩) (h : cs.length = 256) :
    resP C ⟨t, [(0, .agg cs)], H, []⟩ [.cell 0 44] = some (.agg cs) := by
  have e : (cs.drop 0).take 256 = cs := by rw [List.drop_zero, ← h, List.take_length]
  have e2 : resOne C ⟨t, [(0, .agg cs)], H, []⟩ (.cell 0 44) = some (.agg cs) := by
    simp only [resOne, lkp, if_true, hT]
    show mkv true 256 ((cs.drop 0).take 256) = _
    rw [e]
    simp only [mkv, h, if_true]
  simp only [resP, resAll, e2, PV.isTup, Bool.false_eq_true, if_false]
theorem tb_one : ∀ k, ∀ c ∈ tb k, c.one = true
  | 0 => by intro c hc; rw [List.eq_of_mem_replicate hc]; rfl
  | k + 1 => splice_one (tb_one k) (by intro p hp; simp at hp; subst hp; rfl)

noncomputable def c24 : Ctx := { P := Try.prog, box := [0, 1], esc := [], own := false, fr := fr, n := 14, slots := [] }
def w24 : Wk := { live := [(0, [0]), (1, [0, 1]), (2, [0, 1, 3]), (3, [0, 1, 3, 4]), (4, [0, 1, 2, 3]), (5, [0, 1, 3]), (6, [0, 1, 3]), (7, [0])], head := [(0, [0, 1, 3])], tr := [] }
theorem k24 : chkFn c24 Try.f24 0 = true := by kernel_rfl

-- types: 3 5 9 44
set_option maxHeartbeats 1000000 in
set_option maxRecDepth 20000 in
theorem run24 (H : List HObj) : Run Try.prog fr 24 [] H (.agg (tb 64)) H := by
  refine run_of_body (C := c24) (W := w24) Try.func24 rfl k24 ?_
  -- region 0
  repeat (with_reducible refine c_seq ?_)
  refine c_region rfl ?_
  refine p_eff rfl rfl rfl (s_alloc rfl rfl ty44 rfl rfl rfl) (f0 rfl) ?_
  refine p_nil (q_endL rfl (t' := []) rfl (bx' := [(0, _)]) rfl (F' := []) rfl ?_)
  refine q_then ?_
  -- region 1
  repeat (with_reducible refine c_seq ?_)
  refine c_region rfl ?_
  refine p_eff rfl rfl rfl (s_alloc rfl rfl ty44 rfl rfl rfl) (f0 rfl) ?_
  refine p_nil (q_endL rfl (t' := []) rfl (bx' := [(0, _), (1, _)]) rfl (F' := []) rfl ?_)
  refine q_then ?_
  -- region 2
  repeat (with_reducible refine c_seq ?_)
  refine c_region rfl ?_
  refine p_val rfl rfl rfl rfl (f0 rfl) ?_
  refine p_nil (q_endL rfl (t' := [(3, _)]) rfl (bx' := [(0, _), (1, _)]) rfl (F' := []) rfl ?_)
  refine q_then ?_
  repeat (with_reducible refine c_seq ?_)
  refine c_block ?_
  refine c_loopH (fun e => ∃ k : Nat, k ≤ 64 ∧ e = ⟨[(3, .v (.int .i64 (k : Int)))], [(0, .agg (List.replicate 256 (.int .u8 0))), (1, .agg (tb k))], H, []⟩) (fun e => match lkp e.t 3 with | some (.v (.int _ k)) => (64 - k).toNat | _ => 0) rfl (t' := [(3, _)]) rfl (bx' := [(0, _), (1, _)]) rfl (F' := []) rfl ?_ ?_
  · exact ⟨0, by decide, rfl⟩
  rintro e ⟨k, hk, rfl⟩
  -- region 3
  repeat (with_reducible refine c_seq ?_)
  refine c_region rfl ?_
  refine p_val rfl rfl rfl rfl (f0 rfl) ?_
  refine p_nil (q_endL rfl (t' := [(3, _), (4, _)]) rfl (bx' := [(0, _), (1, _)]) rfl (F' := []) rfl ?_)
  refine q_then ?_
  repeat (with_reducible refine c_seq ?_)
  refine c_if rfl (fun hc => ?_) (fun hc => ?_)
  · have hk2 : k < 64 := by have := of_decide_eq_true hc; omega
    refine c_skip ?_
    refine q_then ?_
    -- on
    repeat (with_reducible refine c_seq ?_)
    refine c_block ?_
    -- region 4
    repeat (with_reducible refine c_seq ?_)
    refine c_region rfl ?_
    refine p_val rfl rfl rfl rfl (f0 rfl) ?_
    refine p_val rfl rfl rfl rfl (f0 rfl) ?_
    refine p_nil (q_endL rfl (t' := [(2, _), (3, _)]) rfl (bx' := [(0, _), (1, _)]) rfl (F' := []) rfl ?_)
    refine q_then ?_
    -- region 5
    repeat (with_reducible refine c_seq ?_)
    refine c_region rfl ?_
    refine p_val rfl rfl rfl rfl (f0 rfl) ?_
    refine p_val rfl rfl rfl (s_indexS rfl rfl ty9 rfl rfl (by omega) (al_get (by omega))) (f0 rfl) ?_
    refine p_val rfl rfl rfl rfl (f0 rfl) ?_
    refine p_val rfl rfl rfl (s_bin rfl rfl rfl rfl (b_addk 1 rfl (by omega))) (f0 rfl) ?_
    refine p_val rfl rfl rfl (s_convert rfl rfl rfl (v_8 ty3 ty5)) (f0 rfl) ?_
    refine p_val rfl rfl rfl (s_place rfl rfl ty44 rfl rfl ?_) (f0 rfl) ?_
    · exact ⟨⟨by simp [byteP], by have := dg_lt k; omega⟩, by decide⟩
    refine p_eff rfl rfl rfl (s_store rfl ty5 rfl rfl rfl ?_) (f0 rfl) ?_
    · exact ⟨rfl, by intro c hc; simp [PV.cells] at hc; subst hc; rfl, by simp [PV.cells, tb_len, byteP]; have := dg_lt k; omega⟩
    refine p_nil (q_endL rfl (t' := [(3, _)]) rfl (bx' := [(0, _), (1, _)]) rfl (F' := []) rfl ?_)
    repeat (with_reducible refine q_then ?_)
    refine i_norm ?_
    refine q_then ?_
    -- on
    -- region 6
    repeat (with_reducible refine c_seq ?_)
    refine c_region rfl ?_
    refine p_val rfl rfl rfl (s_bin rfl rfl rfl rfl (b_addk 1 rfl (by omega))) (f0 rfl) ?_
    refine p_val rfl rfl rfl rfl (f0 rfl) ?_
    refine p_nil (q_endL rfl (t' := [(3, _)]) rfl (bx' := [(0, _), (1, _)]) rfl (F' := []) rfl ?_)
    refine l_normH rfl (t' := [(3, _)]) rfl (bx' := [(0, _), (1, _)]) rfl (F' := []) rfl ?_ ?_
    · refine ⟨k + 1, by omega, ?_⟩; simp only [tb, remk, PV.cells, Nat.zero_add, Nat.mul_one, Int.toNat_natCast]
    · simp [lkp]; omega
  · skip
    have hk3 : k = 64 := by have := of_decide_eq_false hc; omega
    subst hk3
    refine c_exit ?_
    repeat (with_reducible first | refine q_exit ?_ | refine l_exit ?_ | refine i_past (by decide) ?_)
    refine i_here ?_
    refine q_then ?_
    -- on
    -- region 7
    repeat (with_reducible refine c_seq ?_)
    refine c_region rfl ?_
    refine p_val rfl rfl rfl (s_load (p := .agg (tb 64)) rfl rfl ty44 rfl (load_all (tb_len 64))) (f0 rfl) ?_
    refine p_eff rfl rfl rfl (s_store rfl ty44 rfl rfl rfl ?_) (f0 rfl) ?_
    · exact ⟨tb_len _, tb_one _, by simp [PV.cells]⟩
    rw [store_all List.length_replicate (tb_len 64)]
    refine p_nil (q_endL rfl (t' := []) rfl (bx' := [(0, _)]) rfl (F' := []) rfl ?_)
    refine q_then ?_
    refine c_ret ?_
    exact ⟨res_cell ty44 (tb_len 64), rfl, rfl⟩

theorem store_one {cs ns : List PV} (h : cs.length = 256) (k : ns.length = 256) : setb [(0, .agg cs)] 0 (remk (.agg cs) (splice (PV.agg cs).cells 0 (PV.agg ns).cells)) = [(0, .agg ns)] := by
  have e : splice cs 0 ns = ns := by simp [splice, k, ← h]
  show [(0, PV.agg (splice cs 0 ns))] = _
  rw [e]
noncomputable def c22 : Ctx := { P := Try.prog, box := [0], esc := [], own := false, fr := fr, n := 2, slots := [] }
def w22 : Wk := { live := [(0, [0]), (1, [0])], head := [], tr := [] }
theorem k22 : chkFn c22 Try.f22 0 = true := by kernel_rfl

-- types: 44
set_option maxHeartbeats 1000000 in
set_option maxRecDepth 20000 in
theorem run22 (H : List HObj) : Run Try.prog fr 22 [] H (.agg (tb 64)) H := by
  refine run_of_body (C := c22) (W := w22) Try.func22 rfl k22 ?_
  -- region 0
  repeat (with_reducible refine c_seq ?_)
  refine c_region rfl ?_
  refine p_eff rfl rfl rfl (s_alloc rfl rfl ty44 rfl rfl rfl) (f0 rfl) ?_
  refine p_nil (q_endL rfl (t' := []) rfl (bx' := [(0, _)]) rfl (F' := []) rfl ?_)
  refine q_then ?_
  -- region 1
  repeat (with_reducible refine c_seq ?_)
  refine c_region rfl ?_
  refine p_go rfl rfl rfl (run24 _) (f0 rfl) ?_
  refine p_eff rfl rfl rfl (s_store rfl ty44 rfl rfl rfl ?_) (f0 rfl) ?_
  · exact ⟨tb_len _, tb_one _, by simp [PV.cells]⟩
  rw [store_one List.length_replicate (tb_len 64)]
  refine p_nil (q_endL rfl (t' := []) rfl (bx' := [(0, _)]) rfl (F' := []) rfl ?_)
  refine q_then ?_
  refine c_ret ?_
  exact ⟨res_cell ty44 (tb_len 64), rfl, rfl⟩

end Go.Proofs.Ytielbjjdgdblcaa.B

/- Law 01: the value of a digit. -/
import Derived.Test.YtielbjjdgdblcaaB2
namespace Go.Proofs.Ytielbjjdgdblcaa.B
open Go Go.Proofs Go.Proofs.Ytielbjjdgdblcaa.Vm
def vt (n : Nat) : Nat := match al.findIdx? (fun b => b.toNat == n) with | some k => k + 1 | none => 0
theorem tb_all : tb 64 = (List.range 256).map fun n => PV.int .u8 ((vt n : Nat) : Int) := by kernel_rfl
theorem tb_at (b : UInt8) : mkv false 1 (((tb 64).drop (((b.toNat : Nat) : Int).toNat * 1)).take 1) = some (.int .u8 ((vt b.toNat : Nat) : Int)) := by
  have h : b.toNat < (tb 64).length := by rw [tb_len]; exact b.toNat_lt
  rw [Int.toNat_natCast, Nat.mul_one, List.drop_eq_getElem_cons h]
  have e : (tb 64)[b.toNat] = PV.int .u8 ((vt b.toNat : Nat) : Int) := by
    have : (tb 64)[b.toNat]? = some (PV.int .u8 ((vt b.toNat : Nat) : Int)) := by
      rw [tb_all, List.getElem?_map, List.getElem?_range b.toNat_lt]; rfl
    rw [List.getElem?_eq_getElem h] at this
    exact Option.some.inj this
  rw [e]
  simp [mkv]
theorem b_subk {P : Program} {ty : TypeId} {x y z : Int} (hz : x - y = z) (h0 : -9223372036854775808 ≤ x - y) (h : x - y < 9223372036854775808) : binP P .sub ty (.int .i64 x) (.int .i64 y) = some (.int .i64 z) := by
  subst hz
  simp only [binP, if_true]
  rw [wr64 h0 h]
def valP (b : UInt8) : PV := if vt b.toNat = 0 then .tup [.int .i64 0, .bool false] else .tup [.int .i64 ((vt b.toNat : Int) - 1), .bool true]
theorem vt_le : ∀ n, vt n ≤ 64 := by
  intro n
  unfold vt
  split
  · rename_i k hk
    have := (List.findIdx?_eq_some_iff_getElem.1 hk).1
    exact this
  · omega

noncomputable def c8 : Ctx := { P := Try.prog, box := [], esc := [], own := false, fr := fr, n := 13, slots := [] }
def w8 : Wk := { live := [(0, [0]), (1, [0, 7]), (2, [2, 3]), (3, [2, 3])], head := [], tr := [] }
theorem k8 : chkFn c8 Try.f8 1 = true := by kernel_rfl

-- types: 3 5 44
set_option maxHeartbeats 1000000 in
set_option maxRecDepth 20000 in
theorem run8 (b : UInt8) (H : List HObj) : Run Try.prog fr 8 [byteP b] H (valP b) H := by
  have hb := b.toNat_lt
  have hv := vt_le b.toNat
  refine run_of_body (C := c8) (W := w8) Try.func8 rfl k8 ?_
  -- region 0
  repeat (with_reducible refine c_seq ?_)
  refine c_region rfl ?_
  refine p_val rfl rfl rfl rfl (f0 rfl) ?_
  refine p_val rfl rfl rfl rfl (f0 rfl) ?_
  refine p_nil (q_endL rfl (t' := [(0, _)]) rfl (bx' := []) rfl (F' := []) rfl ?_)
  refine q_then ?_
  -- region 1
  repeat (with_reducible refine c_seq ?_)
  refine c_region rfl ?_
  refine p_go rfl rfl rfl (run22 _) (f0 rfl) ?_
  refine p_val rfl rfl rfl rfl (f0 rfl) ?_
  refine p_val rfl rfl rfl (s_indexA rfl rfl ty44 rfl rfl ⟨by omega, by omega, by rw [tb_len]; omega⟩ (tb_at b)) (f0 rfl) ?_
  refine p_val rfl rfl rfl rfl (f0 rfl) ?_
  refine p_nil (q_endL rfl (t' := [(0, _), (7, _)]) rfl (bx' := []) rfl (F' := []) rfl ?_)
  refine q_then ?_
  repeat (with_reducible refine c_seq ?_)
  refine c_if rfl (fun hc => ?_) (fun hc => ?_)
  · have h0 : vt b.toNat = 0 := by simp at hc; omega
    -- region 2
    repeat (with_reducible refine c_seq ?_)
    refine c_region rfl ?_
    refine p_val rfl rfl rfl rfl (f0 rfl) ?_
    refine p_val rfl rfl rfl rfl (f0 rfl) ?_
    refine p_nil (q_endL rfl (t' := [(2, _), (3, _)]) rfl (bx' := []) rfl (F' := []) rfl ?_)
    refine q_then ?_
    refine c_ret ?_
    exact ⟨by rw [valP, if_pos h0]; rfl, rfl, rfl⟩
  · have h0 : vt b.toNat ≠ 0 := by simp at hc; omega
    refine c_skip ?_
    refine q_then ?_
    -- on
    -- region 3
    repeat (with_reducible refine c_seq ?_)
    refine c_region rfl ?_
    refine p_go rfl rfl rfl (run22 _) (f0 rfl) ?_
    refine p_val rfl rfl rfl rfl (f0 rfl) ?_
    refine p_val rfl rfl rfl (s_indexA rfl rfl ty44 rfl rfl ⟨by omega, by omega, by rw [tb_len]; omega⟩ (tb_at b)) (f0 rfl) ?_
    refine p_val rfl rfl rfl (s_convert rfl rfl rfl (v_64 ty5 ty3 (by omega))) (f0 rfl) ?_
    refine p_val rfl rfl rfl (s_bin rfl rfl rfl rfl (b_subk rfl (by omega) (by omega))) (f0 rfl) ?_
    refine p_val rfl rfl rfl rfl (f0 rfl) ?_
    refine p_val rfl rfl rfl rfl (f0 rfl) ?_
    refine p_nil (q_endL rfl (t' := [(2, _), (3, _)]) rfl (bx' := []) rfl (F' := []) rfl ?_)
    refine q_then ?_
    refine c_ret ?_
    exact ⟨by rw [valP, if_neg h0]; rfl, rfl, rfl⟩

end Go.Proofs.Ytielbjjdgdblcaa.B

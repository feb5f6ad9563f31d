/- Law 01: a text with one byte changed. -/
import Derived.Test.YtielbjjdgdblcaaB16
namespace Go.Proofs.Ytielbjjdgdblcaa.B
open Go Go.Proofs Go.Proofs.Ytielbjjdgdblcaa.Vm

def spoil (s : List UInt8) (a b : Int) : List UInt8 :=
  if s = [] then [] else s.set (modR a s.length).toNat (UInt8.ofNat (IntKind.u8.wrap (((s.getD (modR a s.length).toNat 0).toNat : Int) + IntKind.u8.wrap b)).toNat)
theorem spoil_len (s : List UInt8) (a b : Int) : (spoil s a b).length = s.length := by
  unfold spoil; split
  · rename_i h; rw [h]
  · simp
theorem u8_wrap (n : Int) : PV.int .u8 (IntKind.u8.wrap n) = byteP (UInt8.ofNat (IntKind.u8.wrap n).toNat) := by
  have h : 0 ≤ IntKind.u8.wrap n ∧ IntKind.u8.wrap n < 256 := by
    unfold IntKind.wrap
    simp [IntKind.bits, IntKind.signed]
    omega
  simp only [byteP, PV.int.injEq, true_and, UInt8.toNat_ofNat']
  omega
theorem flat_bytes (s : List UInt8) : flat (s.map byteP) = s.map byteP := by
  induction s with
  | nil => rfl
  | cons a s ih => simp only [flat, List.map_cons, List.flatMap_cons] at *; rw [ih]; rfl
theorem splice_set (s : List UInt8) (k : Nat) (h : k < s.length) (x : UInt8) : splice (s.map byteP) (0 + ((k : Nat) : Int).toNat * 1) (byteP x).cells = (s.set k x).map byteP := by
  have e0 : 0 + ((k : Nat) : Int).toNat * 1 = k := by simp
  rw [e0]
  have l2 : (byteP x).cells = [byteP x] := rfl
  rw [l2, splice, List.set_eq_take_append_cons_drop, if_pos h]
  simp

theorem b_addU {P : Program} {ty : TypeId} (x y : Int) : binP P .add ty (.int .u8 x) (.int .u8 y) = some (.int .u8 (IntKind.u8.wrap (x + y))) := rfl

noncomputable def c16 : Ctx := { P := Try.prog, box := [], esc := [], own := false, fr := fr, n := 26, slots := [] }
def w16 : Wk := { live := [(0, [0, 1, 2]), (1, [0, 1, 2, 9]), (2, [6]), (3, [1, 2, 7]), (4, [7]), (5, [6])], head := [], tr := [] }
theorem k16 : chkFn c16 Try.f16 3 = true := by kernel_rfl

-- types: 3 5 9 30
set_option maxHeartbeats 1000000 in
theorem run16 (s : List UInt8) (a b : Int) (hs : s.length ≤ 100000) (H : List HObj) : Run Try.prog fr 16 [.str s, .int .i64 a, .int .i64 b] H (.str (spoil s a b)) H := by
  refine run_of_bodyT (C := c16) (W := w16) Try.func16 rfl k16 ?_
  -- region 0
  repeat (with_reducible refine c_seq ?_)
  refine c_region rfl ?_
  refine p_val rfl rfl rfl rfl (f0 rfl) ?_
  refine p_nil (q_endL rfl (t' := [(0, _), (1, _), (2, _)]) rfl (bx' := []) rfl (F' := []) rfl ?_)
  refine q_then ?_
  -- region 1
  repeat (with_reducible refine c_seq ?_)
  refine c_region rfl ?_
  refine p_val rfl rfl rfl rfl (f0 rfl) ?_
  refine p_val rfl rfl rfl rfl (f0 rfl) ?_
  refine p_nil (q_endL rfl (t' := [(0, _), (1, _), (2, _), (9, _)]) rfl (bx' := []) rfl (F' := []) rfl ?_)
  refine q_then ?_
  repeat (with_reducible refine c_seq ?_)
  refine c_if rfl (fun hc => ?_) (fun hc => ?_)
  · have hb : s = [] := by simpa using hc
    -- region 2
    repeat (with_reducible refine c_seq ?_)
    refine c_region rfl ?_
    refine p_val rfl rfl rfl rfl (f0 rfl) ?_
    refine p_val rfl rfl rfl rfl (f0 rfl) ?_
    refine p_nil (q_endL rfl (t' := [(6, _)]) rfl (bx' := []) rfl (F' := []) rfl ?_)
    refine q_then ?_
    refine c_ret ?_
    exact ⟨by rw [spoil, if_pos hb, hb]; rfl, ⟨[], (List.append_nil _).symm⟩, rfl, rfl⟩
  · have hb : s ≠ [] := by simpa using hc
    have hl : 0 < s.length := List.length_pos_iff.2 hb
    obtain ⟨k, hk, e0⟩ := mod_nat a (b := s.length) hl (by omega)
    have r7 : Run Try.prog fr 7 [.int .i64 a, .int .i64 (s.length : Int)] (H ++ [⟨0, s.map byteP⟩]) (.int .i64 (k : Int)) (H ++ [⟨0, s.map byteP⟩]) := e0 ▸ run7 a s.length _
    have hsp : spoil s a b = s.set k (UInt8.ofNat (IntKind.u8.wrap (((s.getD k 0).toNat : Int) + IntKind.u8.wrap b)).toNat) := by rw [spoil, if_neg hb, e0]; rfl
    rw [hsp]
    have hg : mkv false 1 (((s.map byteP).drop (0 + ((k : Nat) : Int).toNat * 1)).take 1) = some (byteP (s.getD k 0)) := by
      have e1 : 0 + ((k : Nat) : Int).toNat * 1 = k := by simp
      rw [e1]
      have : ((s.map byteP).drop k).take 1 = [byteP (s.getD k 0)] := by
        rw [List.take_one, List.head?_drop, List.getElem?_map, List.getD_eq_getElem?_getD, List.getElem?_eq_getElem hk]; rfl
      rw [this]; rfl
    refine c_skip ?_
    refine q_then ?_
    -- on
    -- region 3
    repeat (with_reducible refine c_seq ?_)
    refine c_region rfl ?_
    refine p_val rfl rfl rfl rfl (f0 rfl) ?_
    refine p_mk (n := s.length) rfl rfl rfl rfl (s_convert rfl rfl rfl (v_bytes ty9 ty30 ty5)) (by simp) (f0' rfl) ?_
    rw [flat_bytes]
    refine p_val rfl rfl rfl rfl (f0 rfl) ?_
    refine p_nil (q_endL rfl (t' := [(1, _), (2, _), (7, _)]) rfl (bx' := []) rfl (F' := []) rfl ?_)
    refine q_then ?_
    -- region 4
    repeat (with_reducible refine c_seq ?_)
    refine c_region rfl ?_
    refine p_val rfl rfl rfl rfl (f0 rfl) ?_
    refine p_val rfl rfl rfl rfl (f0 rfl) ?_
    refine p_val rfl rfl rfl rfl (f0 rfl) ?_
    refine p_xlen rfl rfl rfl rfl rfl rfl ty30 rfl (f0' rfl) ?_
    refine p_go rfl rfl rfl r7 (f0 rfl) ?_
    refine p_xaddr rfl rfl rfl rfl ty30 rfl rfl (by omega) (f0' rfl) ?_
    refine p_val rfl rfl rfl (s_loadH rfl rfl ty5 rfl (get_last _ _) hg) (f0 rfl) ?_
    refine p_val rfl rfl rfl rfl (f0 rfl) ?_
    refine p_val rfl rfl rfl (s_convert rfl rfl rfl (v_int ty3 ty5)) (f0 rfl) ?_
    refine p_val rfl rfl rfl (s_bin rfl rfl rfl rfl (b_addU _ _)) (f0 rfl) ?_
    rw [u8_wrap]
    refine p_xaddr rfl rfl rfl rfl ty30 rfl rfl (by omega) (f0' rfl) ?_
    refine p_eff rfl rfl rfl (s_storeH rfl ty5 rfl rfl (get_last _ _) ⟨rfl, by simp [byteP, PV.cells, PV.one], by simp; omega, by decide⟩) (f0 rfl) ?_
    rw [set_last]
    simp only [splice_set s k hk]
    refine p_nil (q_endL rfl (t' := [(7, _)]) rfl (bx' := []) rfl (F' := []) rfl ?_)
    refine q_then ?_
    -- region 5
    repeat (with_reducible refine c_seq ?_)
    refine c_region rfl ?_
    refine p_val rfl rfl rfl rfl (f0 rfl) ?_
    refine p_xstr rfl rfl rfl rfl ty30 ty9 ty5 rfl (get_last _ _) (by simp) (by rw [List.drop_zero, List.take_of_length_le (by simp)]; exact unbytes_byteP _) (f0' rfl) ?_
    refine p_val rfl rfl rfl rfl (f0 rfl) ?_
    refine p_nil (q_endL rfl (t' := [(6, _)]) rfl (bx' := []) rfl (F' := []) rfl ?_)
    refine q_then ?_
    refine c_ret ?_
    exact ⟨rfl, ⟨_, rfl⟩, rfl, rfl⟩

end Go.Proofs.Ytielbjjdgdblcaa.B

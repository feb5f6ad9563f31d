/- Law 01: the examples of the chapter hold. -/
import Derived.Test.YtielbjjdgdblcaaB9
namespace Go.Proofs.Ytielbjjdgdblcaa.B
open Go Go.Proofs Go.Proofs.Ytielbjjdgdblcaa.Vm

theorem encA : encR [0, 0, 0] = .tup [.str [65, 65, 65, 65], .int .i64 0] := by
  have h : enc [0, 0, 0] = [65, 65, 65, 65] := by decide +kernel
  rw [encR, if_neg (by decide), if_neg (by decide), h]
theorem encZ : encR [255, 255, 255] = .tup [.str [95, 95, 95, 95], .int .i64 0] := by
  have h : enc [255, 255, 255] = [95, 95, 95, 95] := by decide +kernel
  rw [encR, if_neg (by decide), if_neg (by decide), h]
theorem run12A (H : List HObj) : Run Try.prog fr 12 [.str [0, 0, 0]] H (.tup [.str [65, 65, 65, 65], .int .i64 0]) H := encA ▸ run12 [0, 0, 0] H
theorem run12Z (H : List HObj) : Run Try.prog fr 12 [.str [255, 255, 255]] H (.tup [.str [95, 95, 95, 95], .int .i64 0]) H := encZ ▸ run12 [255, 255, 255] H
noncomputable def c10 : Ctx := { P := Try.prog, box := [], esc := [], own := false, fr := fr, n := 27, slots := [] }
def w10 : Wk := { live := [(0, []), (1, [1, 2]), (2, [1, 2, 3, 4]), (3, [0])], head := [], tr := [] }
theorem k10 : chkFn c10 Try.f10 0 = true := by kernel_rfl

-- types: 9 25
theorem run10 (H : List HObj) : Run Try.prog fr 10 [] H (.bool true) H := by
  refine run_of_body (C := c10) (W := w10) Try.func10 rfl k10 ?_
  -- region 0
  repeat (with_reducible refine c_seq ?_)
  refine c_region rfl ?_
  refine p_val rfl rfl rfl rfl (f0 rfl) ?_
  refine p_nil (q_endL rfl (t' := []) rfl (bx' := []) rfl (F' := []) rfl ?_)
  refine q_then ?_
  -- region 1
  repeat (with_reducible refine c_seq ?_)
  refine c_region rfl ?_
  refine p_go rfl rfl rfl (run12A _) (f0 rfl) ?_
  refine p_val rfl rfl rfl rfl (f0 rfl) ?_
  refine p_val rfl rfl rfl rfl (f0 rfl) ?_
  refine p_val rfl rfl rfl rfl (f0 rfl) ?_
  refine p_val rfl rfl rfl rfl (f0 rfl) ?_
  refine p_val rfl rfl rfl rfl (f0 rfl) ?_
  refine p_nil (q_endL rfl (t' := [(1, _), (2, _)]) rfl (bx' := []) rfl (F' := []) rfl ?_)
  refine q_then ?_
  -- region 2
  repeat (with_reducible refine c_seq ?_)
  refine c_region rfl ?_
  refine p_go rfl rfl rfl (run12Z _) (f0 rfl) ?_
  refine p_val rfl rfl rfl rfl (f0 rfl) ?_
  refine p_val rfl rfl rfl rfl (f0 rfl) ?_
  refine p_val rfl rfl rfl rfl (f0 rfl) ?_
  refine p_val rfl rfl rfl rfl (f0 rfl) ?_
  refine p_val rfl rfl rfl rfl (f0 rfl) ?_
  refine p_nil (q_endL rfl (t' := [(1, _), (2, _), (3, _), (4, _)]) rfl (bx' := []) rfl (F' := []) rfl ?_)
  refine q_then ?_
  -- region 3
  repeat (with_reducible refine c_seq ?_)
  refine c_region rfl ?_
  refine p_val rfl rfl rfl rfl (f0 rfl) ?_
  refine p_val rfl rfl rfl rfl (f0 rfl) ?_
  refine p_val rfl rfl rfl rfl (f0 rfl) ?_
  refine p_val rfl rfl rfl rfl (f0 rfl) ?_
  refine p_val rfl rfl rfl rfl (f0 rfl) ?_
  refine p_val rfl rfl rfl rfl (f0 rfl) ?_
  refine p_val rfl rfl rfl rfl (f0 rfl) ?_
  refine p_val rfl rfl rfl rfl (f0 rfl) ?_
  refine p_val rfl rfl rfl rfl (f0 rfl) ?_
  refine p_val rfl rfl rfl rfl (f0 rfl) ?_
  refine p_val rfl rfl rfl rfl (f0 rfl) ?_
  refine p_val rfl rfl rfl rfl (f0 rfl) ?_
  refine p_val rfl rfl rfl rfl (f0 rfl) ?_
  refine p_val rfl rfl rfl rfl (f0 rfl) ?_
  refine p_val rfl rfl rfl rfl (f0 rfl) ?_
  refine p_nil (q_endL rfl (t' := [(0, _)]) rfl (bx' := []) rfl (F' := []) rfl ?_)
  refine q_then ?_
  refine c_ret ?_
  exact ⟨rfl, rfl, rfl⟩

end Go.Proofs.Ytielbjjdgdblcaa.B

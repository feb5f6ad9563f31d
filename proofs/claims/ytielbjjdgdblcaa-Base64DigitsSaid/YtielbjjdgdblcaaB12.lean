/- Law 01, Base64Digits: there are 64 digits, each with its own number. -/
import Derived.Test.YtielbjjdgdblcaaB11
import Derived.Test.YtielbjjdgdblcaaVm27
import Derived.Test.YtielbjjdgdblcaaRows
namespace Go.Proofs.Ytielbjjdgdblcaa
open Go Go.ChangeShapes Go.WideShapes Go.ChangeAt Go.RowKit Go.Proofs.Ytielbjjdgdblcaa.Vm Go.Proofs.Ytielbjjdgdblcaa.B

theorem Try.own : ownKnob Try.prog.godebug = none := by kernel_rfl
theorem Try.laidOut : laidOutB Try.prog = true := by kernel_rfl

set_option maxRecDepth 100000 in
theorem digits_lifted (os : Os) (started : os.Started) (H : Type) (enc : TypeId × Value → H) :
    ReturnsInHanded {} Try.checked os 3 .any (Rows.base64DigitsSpec.pre6 enc Try.prog Try.f3 Rows.base64DigitsRow.domain false) (Rows.base64DigitsSpec.post enc Try.prog Try.f3 false true false false) := by
  refine returnsInHanded_of_change (C := Try.checked) Try.own started (by kernel_rfl) Try.func3
    (ChangeSpec.witness6 (enc := enc) (C := Try.checked) false ⟨#[], #[.int .i64 0], []⟩ 8 (by kernel_rfl) (by kernel_rfl) (by kernel_rfl) (by kernel_rfl)) ?_
  intro W base args ds gs before hval0 hW _ _
  have hval : ∀ (j : Nat) t v, Try.f3.params[j]? = some t → args[j]? = some v → Value.okWide Try.prog W .any base t v := hval0
  have hW' := hW
  obtain ⟨p, q, hA0, hV, rfl, hfz, hnd⟩ := hW
  have hA : DataW.TrodAll enc Try.prog W 0 (fun _ => true) true Try.f3.params.toList args.toList ds p := hA0
  rw [Try.params3] at hA hval
  obtain ⟨v0, d0, rfl, rfl, h0⟩ := trodAll_one hA
  obtain ⟨a, rfl, rfl, rfl, wa⟩ := open_int Try.underlying3 (hval 0 3 v0 rfl rfl) h0
  refine (law_calls (run3 a []) W [.int .i64 a] ⟨rfl, fun i p v hp hv => ?_⟩).mono fun e W' ⟨he, hb⟩ => ?_
  · match i with
    | 0 => cases hp; cases hv; exact .int _ _
    | _ + 1 => simp at hp
  · exact ⟨_, he, law_post Try.laidOut hW' rfl rfl Try.underlying4 rfl (by rw [Try.params3]; decide +kernel) hb⟩

theorem Base64Digits_holds : Rows.Base64DigitsSaid :=
  OpenClaim.holds_of_wide 3 Try.f3 rfl rfl rfl rfl rfl rfl rfl ⟨rfl, rfl, rfl, rfl, rfl⟩ rfl rfl rfl rfl rfl (by kernel_rfl) Try.func3 (by kernel_rfl)
    (of_decide_eq_true (by kernel_rfl)) (by unfold Func.isWrapper; first | (rw [if_pos (by decide +kernel)]; kernel_rfl) | (rw [if_neg (by decide +kernel)]; exact ⟨rfl, rfl⟩))
    (fun os started H enc _ => digits_lifted os started H enc)
#print axioms Base64Digits_holds
end Go.Proofs.Ytielbjjdgdblcaa

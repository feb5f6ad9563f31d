/- Law 01, Base64Once: each text of digits is that of its bytes. -/
import Derived.Test.YtielbjjdgdblcaaB14
import Derived.Test.YtielbjjdgdblcaaB0r
namespace Go.Proofs.Ytielbjjdgdblcaa
open Go Go.ChangeShapes Go.WideShapes Go.ChangeAt Go.RowKit Go.Proofs.Ytielbjjdgdblcaa.Vm Go.Proofs.Ytielbjjdgdblcaa.B

set_option maxRecDepth 100000 in
theorem once_lifted (os : Os) (started : os.Started) (H : Type) (enc : TypeId × Value → H) :
    ReturnsInHanded {} Try.checked os 4 .any (Rows.base64OnceSpec.pre6 enc Try.prog Try.f4 Rows.base64OnceRow.domain false) (Rows.base64OnceSpec.post enc Try.prog Try.f4 false true false false) := by
  refine returnsInHanded_of_change (C := Try.checked) Try.own started (by kernel_rfl) Try.func4
    (ChangeSpec.witness6 (enc := enc) (C := Try.checked) false ⟨#[], #[.slice none 0 0], []⟩ 8 (by kernel_rfl) (by kernel_rfl) (by kernel_rfl) (by kernel_rfl)) ?_
  intro W base args ds gs before hval0 hW _ _
  have hval : ∀ (j : Nat) t v, Try.f4.params[j]? = some t → args[j]? = some v → Value.okWide Try.prog W .any base t v := hval0
  have hW' := hW
  obtain ⟨p, q, hA0, hV, rfl, hfz, hnd⟩ := hW
  have hA : DataW.TrodAll enc Try.prog W 0 (fun _ => true) true Try.f4.params.toList args.toList ds p := hA0
  rw [Try.params4] at hA hval
  obtain ⟨v0, d0, rfl, rfl, h0⟩ := trodAll_one hA
  obtain ⟨zs, hv, hwf, _⟩ := vr_ints Try.underlying30 Try.underlying5 (by kernel_rfl) (hval 0 30 v0 rfl rfl) h0
  rw [u8_bytes zs hwf] at hv
  refine (law_calls (run4 (zs.map fun n => UInt8.ofNat n.toNat) []) W [v0] ⟨rfl, fun i p v hp hv' => ?_⟩).mono fun e W' ⟨he, hb⟩ => ?_
  · match i with
    | 0 => cases hp; cases hv'; exact hv
    | _ + 1 => simp at hp
  · exact ⟨_, he, law_post Try.laidOut hW' rfl rfl Try.underlying4 rfl (by rw [Try.params4]; decide +kernel) hb⟩

theorem Base64Once_holds : Rows.Base64OnceSaid :=
  OpenClaim.holds_of_wide 4 Try.f4 rfl rfl rfl rfl rfl rfl rfl ⟨rfl, rfl, rfl, rfl, rfl⟩ rfl rfl rfl rfl rfl (by kernel_rfl) Try.func4 (by kernel_rfl)
    (of_decide_eq_true (by kernel_rfl)) (by unfold Func.isWrapper; first | (rw [if_pos (by decide +kernel)]; kernel_rfl) | (rw [if_neg (by decide +kernel)]; exact ⟨rfl, rfl⟩))
    (fun os started H enc _ => once_lifted os started H enc)
#print axioms Base64Once_holds
end Go.Proofs.Ytielbjjdgdblcaa

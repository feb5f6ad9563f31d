/- Base64Back: bytes and numbers come back from their texts, which have only digits. -/
import Derived.Test.YtielbjjdgdblcaaB18
import Derived.Test.YtielbjjdgdblcaaB0r
namespace Go.Proofs.Ytielbjjdgdblcaa
open Go Go.ChangeShapes Go.WideShapes Go.ChangeAt Go.RowKit Go.ChangeMaps Go.Proofs.Ytielbjjdgdblcaa.Vm Go.Proofs.Ytielbjjdgdblcaa.B

set_option maxRecDepth 100000 in
theorem base64Back_lifted (os : Os) (started : os.Started) (H : Type) (enc : TypeId × Value → H) :
    ReturnsInHanded {} Try.checked os 5 .any (Rows.base64BackSpec.pre6 enc Try.prog Try.f5 Rows.base64BackRow.domain false) (Rows.base64BackSpec.post enc Try.prog Try.f5 false true false false) := by
  refine returnsInHanded_of_change (C := Try.checked) Try.own started (by kernel_rfl) Try.func5
    (ChangeSpec.witness6 (enc := enc) (C := Try.checked) false ⟨#[], #[.string ByteArray.empty, .int .i64 0, .int .i64 0], []⟩ 8 (by kernel_rfl) (by kernel_rfl) (by kernel_rfl) (by kernel_rfl)) ?_
  intro W base args ds gs before hval0 hW _ _
  have hval : ∀ (j : Nat) t v, Try.f5.params[j]? = some t → args[j]? = some v → Value.okWide Try.prog W .any base t v := hval0
  have hW' := hW
  obtain ⟨p, q, hA0, hV, rfl, hfz, hnd⟩ := hW
  have hA : DataW.TrodAll enc Try.prog W 0 (fun _ => true) true Try.f5.params.toList args.toList ds p := hA0
  rw [Try.params5] at hA hval
  obtain ⟨v0, vs0, d0, ds0, p0, q0, hargs, rfl, rfl, h0, r0⟩ := trodAll_cons hA
  obtain ⟨v1, vs1, d1, ds1, p1, q1, rfl, rfl, rfl, h1, r1⟩ := trodAll_cons r0
  obtain ⟨v2, vs2, d2, ds2, p2, q2, rfl, rfl, rfl, h2, r2⟩ := trodAll_cons r1
  obtain ⟨rfl, rfl, rfl⟩ := trodAll_nil r2
  obtain rfl : args = #[v0, v1, v2] := by cases args; simp_all
  obtain ⟨a0, rfl, rfl, rfl, w0⟩ := open_string Try.underlying9 (hval 0 9 v0 rfl rfl) h0
  obtain ⟨a1, rfl, rfl, rfl, w1⟩ := open_int Try.underlying3 (hval 1 3 v1 rfl rfl) h1
  obtain ⟨a2, rfl, rfl, rfl, w2⟩ := open_int Try.underlying3 (hval 2 3 v2 rfl rfl) h2
  refine (law_calls (run5 a0.data.toList a1 a2 []) W [.string a0, .int .i64 a1, .int .i64 a2] ⟨rfl, fun i p v hp hv => ?_⟩).mono fun e W' ⟨he, hb⟩ => ?_
  · match i with
    | 0 => cases hp; cases hv; exact vr_text _
    | 1 => cases hp; cases hv; exact .int _ _
    | 2 => cases hp; cases hv; exact .int _ _
    | _ + 3 => simp at hp
  · exact ⟨_, he, law_post Try.laidOut hW' rfl rfl Try.underlying4 rfl (by rw [Try.params5]; decide +kernel) hb⟩

theorem Base64Back_holds : Rows.Base64BackSaid :=
  OpenClaim.holds_of_wide 5 Try.f5 rfl rfl rfl rfl rfl rfl rfl ⟨rfl, rfl, rfl, rfl, rfl⟩ rfl rfl rfl rfl rfl (by kernel_rfl) Try.func5 (by kernel_rfl)
    (of_decide_eq_true (by kernel_rfl)) (by unfold Func.isWrapper; first | (rw [if_pos (by decide +kernel)]; kernel_rfl) | (rw [if_neg (by decide +kernel)]; exact ⟨rfl, rfl⟩))
    (fun os started H enc _ => base64Back_lifted os started H enc)
#print axioms Base64Back_holds
end Go.Proofs.Ytielbjjdgdblcaa


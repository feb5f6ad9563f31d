/- Base64Acts: what all functions return, or the error. -/
import Derived.Test.YtielbjjdgdblcaaB22
import Derived.Test.YtielbjjdgdblcaaB0r
namespace Go.Proofs.Ytielbjjdgdblcaa
open Go Go.ChangeShapes Go.WideShapes Go.ChangeAt Go.RowKit Go.ChangeMaps Go.Proofs.Ytielbjjdgdblcaa.Vm Go.Proofs.Ytielbjjdgdblcaa.B

set_option maxRecDepth 100000 in
theorem base64Acts_lifted (os : Os) (started : os.Started) (H : Type) (enc : TypeId × Value → H) :
    ReturnsInHanded {} Try.checked os 6 .any (Rows.base64ActsSpec.pre6 enc Try.prog Try.f6 Rows.base64ActsRow.domain false) (Rows.base64ActsSpec.post enc Try.prog Try.f6 false true false false) := by
  refine returnsInHanded_of_change (C := Try.checked) Try.own started (by kernel_rfl) Try.func6
    (ChangeSpec.witness6 (enc := enc) (C := Try.checked) false ⟨#[], #[.string ByteArray.empty, .string ByteArray.empty, .int .i64 0, .int .i64 0, .int .u8 0], []⟩ 8 (by kernel_rfl) (by kernel_rfl) (by kernel_rfl) (by kernel_rfl)) ?_
  intro W base args ds gs before hval0 hW _ _
  have hval : ∀ (j : Nat) t v, Try.f6.params[j]? = some t → args[j]? = some v → Value.okWide Try.prog W .any base t v := hval0
  have hW' := hW
  obtain ⟨p, q, hA0, hV, rfl, hfz, hnd⟩ := hW
  have hA : DataW.TrodAll enc Try.prog W 0 (fun _ => true) true Try.f6.params.toList args.toList ds p := hA0
  rw [Try.params6] at hA hval
  obtain ⟨v0, vs0, d0, ds0, p0, q0, hargs, rfl, rfl, h0, r0⟩ := trodAll_cons hA
  obtain ⟨v1, vs1, d1, ds1, p1, q1, rfl, rfl, rfl, h1, r1⟩ := trodAll_cons r0
  obtain ⟨v2, vs2, d2, ds2, p2, q2, rfl, rfl, rfl, h2, r2⟩ := trodAll_cons r1
  obtain ⟨v3, vs3, d3, ds3, p3, q3, rfl, rfl, rfl, h3, r3⟩ := trodAll_cons r2
  obtain ⟨v4, vs4, d4, ds4, p4, q4, rfl, rfl, rfl, h4, r4⟩ := trodAll_cons r3
  obtain ⟨rfl, rfl, rfl⟩ := trodAll_nil r4
  obtain rfl : args = #[v0, v1, v2, v3, v4] := by cases args; simp_all
  obtain ⟨a0, rfl, rfl, rfl, w0⟩ := open_string Try.underlying9 (hval 0 9 v0 rfl rfl) h0
  obtain ⟨a1, rfl, rfl, rfl, w1⟩ := open_string Try.underlying9 (hval 1 9 v1 rfl rfl) h1
  obtain ⟨a2, rfl, rfl, rfl, w2⟩ := open_int Try.underlying3 (hval 2 3 v2 rfl rfl) h2
  obtain ⟨a3, rfl, rfl, rfl, w3⟩ := open_int Try.underlying3 (hval 3 3 v3 rfl rfl) h3
  obtain ⟨a4, rfl, rfl, rfl, w4⟩ := open_int Try.underlying5 (hval 4 5 v4 rfl rfl) h4
  obtain ⟨b4, hb4⟩ : ∃ b, PV.int .u8 a4 = byteP b := by
    have := u8_bytes [a4] (by simpa using w4)
    exact ⟨_, (List.cons.inj this).1⟩
  refine (law_calls (run6 a0.data.toList a1.data.toList a2 a3 b4 (wf_lt w2) []) W [.string a0, .string a1, .int .i64 a2, .int .i64 a3, .int .u8 a4] ⟨rfl, fun i p v hp hv => ?_⟩).mono fun e W' ⟨he, hb⟩ => ?_
  · match i with
    | 0 => cases hp; cases hv; exact vr_text _
    | 1 => cases hp; cases hv; exact vr_text _
    | 2 => cases hp; cases hv; exact .int _ _
    | 3 => cases hp; cases hv; exact .int _ _
    | 4 => cases hp; cases hv; exact hb4 ▸ VR.int _ _
    | _ + 5 => simp at hp
  · exact ⟨_, he, law_post Try.laidOut hW' rfl rfl Try.underlying4 rfl (by rw [Try.params6]; decide +kernel) hb⟩

theorem Base64Acts_holds : Rows.Base64ActsSaid :=
  OpenClaim.holds_of_wide 6 Try.f6 rfl rfl rfl rfl rfl rfl rfl ⟨rfl, rfl, rfl, rfl, rfl⟩ rfl rfl rfl rfl rfl (by kernel_rfl) Try.func6 (by kernel_rfl)
    (of_decide_eq_true (by kernel_rfl)) (by unfold Func.isWrapper; first | (rw [if_pos (by decide +kernel)]; kernel_rfl) | (rw [if_neg (by decide +kernel)]; exact ⟨rfl, rfl⟩))
    (fun os started H enc _ => base64Acts_lifted os started H enc)
#print axioms Base64Acts_holds
end Go.Proofs.Ytielbjjdgdblcaa


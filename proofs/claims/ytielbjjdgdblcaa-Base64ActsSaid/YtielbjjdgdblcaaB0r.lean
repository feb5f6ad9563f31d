/- What all rows of this seat lean on. -/
import Derived.Test.YtielbjjdgdblcaaVm27
import Derived.Test.YtielbjjdgdblcaaRows
namespace Go.Proofs.Ytielbjjdgdblcaa
open Go Go.ChangeShapes Go.WideShapes Go.ChangeAt Go.RowKit Go.Proofs.Ytielbjjdgdblcaa.Vm

theorem Try.own : ownKnob Try.prog.godebug = none := by kernel_rfl
theorem Try.laidOut : laidOutB Try.prog = true := by kernel_rfl

theorem u8_bytes : ∀ zs : List Int, (∀ n ∈ zs, (Lit.int .u8 n).wf = true) → zs.map (PV.int .u8) = (zs.map fun n => UInt8.ofNat n.toNat).map byteP
  | [], _ => rfl
  | z :: r, h => by
    have hz := h z (by simp)
    have ih := u8_bytes r (fun n hn => h n (by simp [hn]))
    simp [Lit.wf, IntKind.min, IntKind.max, IntKind.signed, IntKind.bits] at hz
    have e : PV.int .u8 z = byteP (UInt8.ofNat z.toNat) := by
      simp only [byteP, PV.int.injEq, true_and, UInt8.toNat_ofNat']
      omega
    simp only [List.map_cons, ih, e]
theorem wf_lt {n : Int} (h : (Lit.int .i64 n).wf = true) : n < 9223372036854775808 := by
  simp [Lit.wf, IntKind.min, IntKind.max, IntKind.signed, IntKind.bits] at h
  omega
end Go.Proofs.Ytielbjjdgdblcaa

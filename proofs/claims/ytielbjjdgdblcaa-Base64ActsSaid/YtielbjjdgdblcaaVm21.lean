/- Rules for operations that are not always wanted. -/
import Derived.Test.YtielbjjdgdblcaaVm20
namespace Go.Proofs.Ytielbjjdgdblcaa.Vm
open Go
section
variable {C : Ctx} {W : Wk} {ops : Array Oper} {Q : En → Prop} {e e' : En} {K : Ex → En → Prop} {n : Nat}
variable {o : Oper} {tr : Bool} {r : List (Oper × Bool)} {t : List (Nat × Cl)} {bx : List (Nat × PV)} {H : List HObj} {F : List (Nat × Nat × Nat)} {d : Nat} {b : Bool}

/-- A value that is there if the operation is wanted. -/
def gv (b : Bool) (c : Cl) : Cl := bif b then c else .und

theorem gv_true {c : Cl} (h : b = true) : gv b c = c := by rw [h]; rfl

theorem p_gval {c : Cl} (hg : wantedP ops o ⟨t, bx, H, F⟩ = some b) (hd : o.dst = some d)
    (hs : b = true → callOf C o ⟨t, bx, H, F⟩ = none ∧ appOk C o ⟨t, bx, H, F⟩ = true ∧ fnext C tr o ⟨t, bx, H, F⟩ = (if C.own = false then [] else rmF d F) ∧ stepO C o ⟨t, bx, H, F⟩ = some ⟨(d, c) :: t, bx, H, F⟩)
    (h : opsP C ops r Q ⟨(d, gv b c) :: t, bx, H, if C.own = false then [] else rmF d F⟩) : opsP C ops ((o, tr) :: r) Q ⟨t, bx, H, F⟩ := by
  cases b with
  | true => obtain ⟨h1, h2, h3, h4⟩ := hs rfl; exact p_val hg h1 h2 h4 h3 h
  | false => exact p_no hg hd h

theorem p_ggo {f : FuncId} {args : List PV} {x : PV} (hg : wantedP ops o ⟨t, bx, H, F⟩ = some b) (hd : o.dst = some d)
    (hs : b = true → callOf C o ⟨t, bx, H, F⟩ = some (f, args) ∧ fnext C tr o ⟨t, bx, H, F⟩ = (if C.own = false then [] else rmF d F) ∧ Run C.P C.fr f args H x H)
    (h : opsP C ops r Q ⟨(d, gv b (.v x)) :: t, bx, H, if C.own = false then [] else rmF d F⟩) : opsP C ops ((o, tr) :: r) Q ⟨t, bx, H, F⟩ := by
  cases b with
  | true => obtain ⟨h1, h2, h3⟩ := hs rfl; exact p_go hg hd h1 h3 h2 h
  | false => exact p_no hg hd h

theorem g0 (h : C.own = false) : fnext C tr o e = (if C.own = false then [] else rmF d F) := by simp only [fnext, h, if_true]

/-- 'and' -/
theorem s_and {q : Bool} {c x : Nat} (ho : o.op = .pick (.tmp c) (.tmp x) (.const (.bool false))) (hd : o.dst = some d) (hc : lkp t c = some (.v (.bool b))) (hx : lkp t x = some (gv (b == true) (.v (.bool q)))) :
    stepO C o ⟨t, bx, H, F⟩ = some ⟨(d, .v (.bool (b && q))) :: t, bx, H, F⟩ := by
  cases b with
  | true => simp only [stepO, ho, ev, hc, hx, gv, beq_self_eq_true, cond_true, if_true, putv, put, hd, Option.map_some, Bool.true_and]
  | false => simp [stepO, ho, ev, hc, putv, put, hd, cpv]
/-- 'or' -/
theorem s_or {q : Bool} {c x : Nat} (ho : o.op = .pick (.tmp c) (.const (.bool true)) (.tmp x)) (hd : o.dst = some d) (hc : lkp t c = some (.v (.bool b))) (hx : lkp t x = some (gv (b == false) (.v (.bool q)))) :
    stepO C o ⟨t, bx, H, F⟩ = some ⟨(d, .v (.bool (b || q))) :: t, bx, H, F⟩ := by
  cases b with
  | false => simp [stepO, ho, ev, hc, hx, gv, putv, put, hd]
  | true => simp [stepO, ho, ev, hc, putv, put, hd, cpv]
theorem s_bin {op : BinOp} {ty yt : TypeId} {x y : Operand} {p q v : PV} (ho : o.op = .binOp op ty x y yt) (hd : o.dst = some d) (hx : ev C.P ⟨t, bx, H, F⟩ ty x = some p) (hy : ev C.P ⟨t, bx, H, F⟩ yt y = some q)
    (hv : binP C.P op ty p q = some v) : stepO C o ⟨t, bx, H, F⟩ = some ⟨(d, .v v) :: t, bx, H, F⟩ := by
  simp only [stepO, ho, hx, hy, hv, putv, put, hd, Option.map_some]
theorem b_rem {P : Program} {ty : TypeId} {k : IntKind} {x y : Int} (h : y ≠ 0) : binP P .rem ty (.int k x) (.int k y) = some (.int k (x.tmod y)) := by
  simp only [binP]; rw [if_pos ⟨trivial, h⟩]
theorem b_quo {P : Program} {ty : TypeId} {k : IntKind} {x y : Int} (h : y ≠ 0) : binP P .quo ty (.int k x) (.int k y) = some (.int k (k.wrap (x.tdiv y))) := by
  simp only [binP]; rw [if_pos ⟨trivial, h⟩]
theorem b_shr {P : Program} {ty : TypeId} {k k' : IntKind} {x y : Int} (h : 0 ≤ y) : binP P .shr ty (.int k x) (.int k' y) = some (.int k (x.fdiv (2 ^ (min y.toNat k.bits)))) := by
  simp only [binP]; rw [if_pos h]
theorem b_shl {P : Program} {ty : TypeId} {k k' : IntKind} {x y : Int} (h : 0 ≤ y) : binP P .shl ty (.int k x) (.int k' y) = some (.int k (k.wrap (x * 2 ^ (min y.toNat k.bits)))) := by
  simp only [binP]; rw [if_pos h]
theorem b_cat {P : Program} {ty : TypeId} {x y : List UInt8} (h : x.length + y.length ≤ 4611686018427387904) : binP P .add ty (.str x) (.str y) = some (.str (x ++ y)) := by
  simp only [binP]; rw [if_pos h]
theorem bd_lo {n : Nat} {k : IntKind} {i : Int} (h : 0 ≤ i ∧ i ≤ n) : bounds n n (some (.int k i)) none = some (i.toNat, n) := by
  simp only [bounds, hiB, loB]; rw [if_pos h]
theorem bd_hi {n : Nat} {k : IntKind} {i : Int} (h : 0 ≤ i ∧ i ≤ n) : bounds n n none (some (.int k i)) = some (0, i.toNat) := by
  simp only [bounds, hiB, loB]; rw [if_pos h]
theorem bd_both {n : Nat} {k k' : IntKind} {i j : Int} (h : 0 ≤ i ∧ i ≤ j ∧ j ≤ n) : bounds n n (some (.int k i)) (some (.int k' j)) = some (i.toNat, j.toNat) := by
  simp only [bounds, hiB, loB]; rw [if_pos ⟨by omega, h.2.2⟩]; simp only; rw [if_pos ⟨h.1, by omega⟩]
end
end Go.Proofs.Ytielbjjdgdblcaa.Vm

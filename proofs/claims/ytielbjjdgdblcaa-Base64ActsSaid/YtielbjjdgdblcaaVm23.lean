/- Regions whose operations may go in any order. -/
import Derived.Test.YtielbjjdgdblcaaVm22
namespace Go.Proofs.Ytielbjjdgdblcaa.Vm
open Go

/-- An item: an operation, whether a move carries the right to append, whether it touches that right at all. -/
structure It where
  o : Oper
  tr : Bool
  ac : Bool

/-- What an item does to the state. -/
structure Does (C : Ctx) (ops : Array Oper) (Kf : List Nat) (x : It) (e : En) (d : Nat) (c : Cl) (F' : List (Nat × Nat × Nat)) : Prop where
  dst : x.o.dst = some d
  val : isVal x.o.op = true
  run : ∃ b, wantedP ops x.o e = some b ∧ (b = false → c = .und) ∧ (b = true → (callOf C x.o e = none ∧ appOk C x.o e = true ∧ stepO C x.o e = some ⟨(d, c) :: e.t, e.bx, e.H, e.F⟩) ∨
    ∃ f args v, callOf C x.o e = some (f, args) ∧ Run C.P C.fr f args e.H v e.H ∧ c = .v v) ∧ (x.ac = true → b = true)
  ow : C.own = false → e.F = []
  off : x.ac = false → F' = e.F ∧ d ∉ Kf ∧ ∀ t F, (∀ l ∈ (if C.own = false then [] else rmF d F), l ∈ fnext C x.tr x.o ⟨t, e.bx, e.H, F⟩) ∧ appOk C x.o ⟨t, e.bx, e.H, F⟩ = true
  on : x.ac = true → F' = fnext C x.tr x.o e
  keys : (∀ l ∈ e.F, l.1 ∈ Kf) ∧ ∀ l ∈ F', l.1 ∈ Kf

def after1 (e : En) (d : Nat) (c : Cl) (F' : List (Nat × Nat × Nat)) : En := ⟨(d, c) :: e.t, e.bx, e.H, F'⟩

/-- Items in the order of the text. -/
def opsD (C : Ctx) (ops : Array Oper) (Kf : List Nat) : List It → (En → Prop) → En → Prop
  | [], Q, e => Q e
  | x :: r, Q, e => ∃ d c F', Does C ops Kf x e d c F' ∧ opsD C ops Kf r Q (after1 e d c F')

/-- The same, but for the order in which temporaries were given. -/
structure Same (e e2 : En) : Prop where
  t : ∀ x, lkp e2.t x = lkp e.t x
  bx : e2.bx = e.bx
  H : e2.H = e.H
  F : e2.F = e.F

def indep (ops : Array Oper) (x y : It) : Bool := x.o.apart ops y.o && !(x.ac && y.ac)

section
variable {C : Ctx} {ops : Array Oper} {Kf : List Nat} {Q : En → Prop} {base : Nat} {e e2 : En} {a : Act} {w : World} {g : Gh}

theorem fnext_agr {t t2 : List (Nat × Cl)} {bx : List (Nat × PV)} {H : List HObj} {F : List (Nat × Nat × Nat)} {tr : Bool} {o : Oper} {d : Nat} (hd : o.dst = some d) (hv : isVal o.op = true) (h : Agr t t2 o.op.operands.toList) :
    fnext C tr o ⟨t2, bx, H, F⟩ = fnext C tr o ⟨t, bx, H, F⟩ := by
  unfold fnext
  split
  · rfl
  · rw [hd]
    cases hop : o.op with
    | load ty x =>
      have := adr_agr (bx := bx) (H := H) (F := F) (F2 := F) h (x := x) (by simp [hop, Op.operands])
      simp only [this]
    | store _ _ _ => simp [hop, isVal] at hv
    | alloc _ => simp [hop, isVal] at hv
    | box _ _ => simp [hop, isVal] at hv
    | slice ty x lo hi mx =>
      cases hi with
      | none => rfl
      | some _ => cases mx <;> rfl
    | call cl =>
      obtain ⟨callee, args, tys⟩ := cl
      cases callee with
      | builtin b => cases b <;> rfl
      | value f => cases f <;> rfl
      | invoke _ _ => rfl
    | extract x i => cases x <;> rfl
    | _ => rfl

theorem appOk_same {o : Oper} {t t2 : List (Nat × Cl)} {bx bx2 : List (Nat × PV)} {H H2 : List HObj} {F : List (Nat × Nat × Nat)} : appOk C o ⟨t2, bx2, H2, F⟩ = appOk C o ⟨t, bx, H, F⟩ := by
  unfold appOk
  rfl

theorem wantedP_agr {t t2 : List (Nat × Cl)} {bx bx2 : List (Nat × PV)} {H H2 : List HObj} {F F2 : List (Nat × Nat × Nat)} {o : Oper} (h : ∀ s ∈ o.looksAt ops, lkp t2 s = lkp t s) :
    wantedP ops o ⟨t2, bx2, H2, F2⟩ = wantedP ops o ⟨t, bx, H, F⟩ := by
  unfold wantedP
  cases hg : o.guard with
  | none => rfl
  | some jw =>
    obtain ⟨j, want⟩ := jw
    simp only
    cases hd : (ops[j]?).bind (·.dst) with
    | none => rfl
    | some d =>
      simp only
      rw [h d (by simp [Oper.looksAt, hg, hd])]

theorem agr_looks {o : Oper} {t t2 : List (Nat × Cl)} (h : ∀ s ∈ o.looksAt ops, lkp t2 s = lkp t s) : Agr t t2 o.op.operands.toList := by
  intro s hs
  refine h s ?_
  simp only [Oper.looksAt, List.mem_append, List.mem_filterMap]
  exact .inl ⟨_, hs, rfl⟩

/-- An item does the same where what it looks at is the same. -/
theorem Does.agr {x : It} {d : Nat} {c : Cl} {F' : List (Nat × Nat × Nat)} {t2 : List (Nat × Cl)} {F2 F2' : List (Nat × Nat × Nat)} (h : Does C ops Kf x e d c F') (ha : ∀ s ∈ x.o.looksAt ops, lkp t2 s = lkp e.t s)
    (hk : ∀ l ∈ F2, l.1 ∈ Kf) (ho : C.own = false → F2 = []) (hF : (x.ac = false ∧ F2' = F2) ∨ (x.ac = true ∧ F2 = e.F ∧ F2' = F')) : Does C ops Kf x ⟨t2, e.bx, e.H, F2⟩ d c F2' := by
  have hag := agr_looks ha
  obtain ⟨b, h1, h2, h3, h4⟩ := h.run
  refine ⟨h.dst, h.val, ⟨b, by rw [← h1]; exact wantedP_agr ha, h2, ?_, h4⟩, ho, ?_, ?_, hk, ?_⟩
  · intro hb
    rcases h3 hb with ⟨k1, k2, k3⟩ | ⟨f, args, v, k1, k2, k3⟩
    · refine .inl ⟨by rw [callOf_agr (F := e.F) hag]; exact k1, ?_, ?_⟩
      · rcases hF with ⟨q1, _⟩ | ⟨q1, q2, _⟩
        · exact ((h.off q1).2.2 t2 F2).2
        · rw [q2, appOk_same (t := e.t) (bx := e.bx) (H := e.H)]; exact k2
      · obtain ⟨c', k4, k5⟩ := stepO_agr (F2 := F2) h.val h.dst hag k3
        cases k4
        exact k5
    · exact .inr ⟨f, args, v, by rw [callOf_agr (F := e.F) hag]; exact k1, k2, k3⟩
  · intro q
    rcases hF with ⟨q1, q2⟩ | ⟨q1, _, _⟩
    · exact ⟨q2, (h.off q).2.1, (h.off q).2.2⟩
    · rw [q] at q1; cases q1
  · intro q
    rcases hF with ⟨q1, _⟩ | ⟨_, q2, q3⟩
    · rw [q] at q1; cases q1
    · rw [q3, h.on q, q2]
      exact (fnext_agr h.dst h.val hag).symm
  · rcases hF with ⟨_, q2⟩ | ⟨_, _, q3⟩
    · rw [q2]; exact hk
    · rw [q3]; exact h.keys.2

theorem Does.same {x : It} {d : Nat} {c : Cl} {F' : List (Nat × Nat × Nat)} (h : Does C ops Kf x e d c F') (hs : Same e e2) : Does C ops Kf x e2 d c F' := by
  obtain ⟨t2, bx2, H2, F2⟩ := e2
  obtain ⟨h1, h2, h3, h4⟩ := hs
  simp only at h1 h2 h3 h4
  subst h2; subst h3; subst h4
  refine h.agr (fun s _ => h1 s) h.keys.1 h.ow ?_
  · cases hx : x.ac with
    | false => exact .inl ⟨rfl, (h.off hx).1⟩
    | true => exact .inr ⟨rfl, rfl, rfl⟩

theorem Same.after {d : Nat} {c : Cl} {F' : List (Nat × Nat × Nat)} (h : Same e e2) : Same (after1 e d c F') (after1 e2 d c F') :=
  ⟨fun x => by simp only [after1, lkp_cons]; split; rfl; exact h.t x, h.bx, h.H, rfl⟩

theorem opsD_same (hQ : ∀ e e2, Same e e2 → Q e → Q e2) : ∀ (l : List It) (e e2 : En), Same e e2 → opsD C ops Kf l Q e → opsD C ops Kf l Q e2
  | [], e, e2, hs, h => hQ e e2 hs h
  | x :: r, e, e2, hs, h => by
    obtain ⟨d, c, F', hd, h⟩ := h
    exact ⟨d, c, F', hd.same hs, opsD_same hQ r _ _ hs.after h⟩

theorem indep_spec {x y : It} (h : indep ops x y = true) : (∀ d, x.o.dst = some d → d ∉ y.o.looksAt ops) ∧ (∀ d, x.o.dst = some d → y.o.dst ≠ some d) ∧ (∀ d, y.o.dst = some d → d ∉ x.o.looksAt ops) ∧ (x.ac = false ∨ y.ac = false) := by
  simp only [indep, Bool.and_eq_true] at h
  obtain ⟨h1, h2, h3⟩ := Oper.apart_spec h.1
  refine ⟨h1, fun d hd hd' => h2 d hd hd', h3, ?_⟩
  cases hx : x.ac <;> cases hy : y.ac <;> simp_all

/-- Two items that are apart, the other way round. -/
theorem Does.swap {x y : It} (hi : indep ops y x = true) {dy d : Nat} {cy c : Cl} {Fy F' : List (Nat × Nat × Nat)} (hy : Does C ops Kf y e dy cy Fy) (hx : Does C ops Kf x (after1 e dy cy Fy) d c F') :
    ∃ Fx, Does C ops Kf x e d c Fx ∧ Does C ops Kf y (after1 e d c Fx) dy cy F' ∧ d ≠ dy := by
  obtain ⟨i1, i2, i3, i4⟩ := indep_spec hi
  have hne : d ≠ dy := fun h => i2 dy hy.dst (by rw [hx.dst, h])
  have ax : ∀ s ∈ x.o.looksAt ops, lkp e.t s = lkp (after1 e dy cy Fy).t s := by
    intro s hs
    simp only [after1, lkp_cons]
    rw [if_neg]
    rintro rfl
    exact i1 _ hy.dst hs
  have ay : ∀ s ∈ y.o.looksAt ops, lkp ((d, c) :: e.t) s = lkp e.t s := by
    intro s hs
    simp only [lkp_cons]
    rw [if_neg]
    rintro rfl
    exact i3 _ hx.dst hs
  cases hxa : x.ac with
  | false =>
    -- x leaves the right alone
    have hF : F' = Fy := (hx.off hxa).1
    subst hF
    have hdx : Does C ops Kf x e d c e.F := hx.agr (t2 := e.t) (F2 := e.F) (F2' := e.F) ax hy.keys.1 hy.ow (.inl ⟨hxa, rfl⟩)
    refine ⟨e.F, hdx, ?_, hne⟩
    refine hy.agr (t2 := (d, c) :: e.t) (F2 := e.F) ay hy.keys.1 hy.ow ?_
    cases hya : y.ac with
    | false => exact .inl ⟨rfl, (hy.off hya).1⟩
    | true => exact .inr ⟨rfl, rfl, rfl⟩
  | true =>
    have hya : y.ac = false := by
      rcases i4 with h | h
      · exact h
      · rw [hxa] at h; cases h
    have hFy : Fy = e.F := (hy.off hya).1
    subst hFy
    have hdx : Does C ops Kf x e d c F' := hx.agr (t2 := e.t) (F2 := e.F) (F2' := F') ax hy.keys.1 hy.ow (.inr ⟨hxa, rfl, rfl⟩)
    refine ⟨F', hdx, ?_, hne⟩
    refine hy.agr (t2 := (d, c) :: e.t) (F2 := F') (F2' := F') ay hx.keys.2 ?_ (.inl ⟨hya, rfl⟩)
    intro q
    rw [hx.on hxa]
    simp only [fnext, q, if_true]

/-- An item may go first if it is apart from all that stand before it. -/
theorem opsD_take (hQ : ∀ e e2, Same e e2 → Q e → Q e2) (x : It) (l2 : List It) : ∀ (l1 : List It) (e : En), (∀ y ∈ l1, indep ops y x = true) → opsD C ops Kf (l1 ++ x :: l2) Q e →
    ∃ d c F', Does C ops Kf x e d c F' ∧ opsD C ops Kf (l1 ++ l2) Q (after1 e d c F')
  | [], e, _, h => h
  | y :: l1, e, hi, h => by
    obtain ⟨dy, cy, Fy, hy, h⟩ := h
    obtain ⟨d, c, F', hx, h⟩ := opsD_take hQ x l2 l1 _ (fun z hz => hi z (by simp [hz])) h
    obtain ⟨Fx, h1, h2, hne⟩ := hy.swap (hi y (by simp)) hx
    refine ⟨d, c, Fx, h1, dy, cy, F', h2, opsD_same hQ _ _ _ ?_ h⟩
    refine ⟨?_, rfl, rfl, rfl⟩
    intro z
    simp only [after1, lkp_cons]
    by_cases h3 : d = z
    · subst h3
      simp [Ne.symm hne]
    · by_cases h4 : dy = z
      · simp [h3, h4]
      · simp [h3, h4]

end
end Go.Proofs.Ytielbjjdgdblcaa.Vm

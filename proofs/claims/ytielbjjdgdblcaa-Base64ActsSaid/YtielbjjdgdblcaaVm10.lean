/- Who may append, behind an operation that puts a value into a temporary. -/
import Derived.Test.YtielbjjdgdblcaaVm9
namespace Go.Proofs.Ytielbjjdgdblcaa.Vm
open Go

/-- What one operation does to the memory that a call did not make itself. -/
structure ExtB (base : Nat) (w : World) (g : Gh) (w' : World) (g' : Gh) : Prop where
  os : w'.os = w.os
  tape : w'.tape = w.tape
  output : w'.output = w.output
  size : w.heap.size ≤ w'.heap.size
  block : ∀ b, b < base → b ∉ g.io ∨ 0 < g.D b → w'.heap[b]? = w.heap[b]?
  D : ∀ b, b < base → b ∉ g.io → g'.D b = g.D b
  Dle : ∀ b, b < base → g.D b ≤ g'.D b
  io : ∃ n, g'.io = g.io ++ n ∧ ∀ b ∈ n, base ≤ b

theorem ExtB.refl (base : Nat) (w : World) (g : Gh) : ExtB base w g w g := ⟨rfl, rfl, rfl, Nat.le_refl _, fun _ _ _ => rfl, fun _ _ _ => rfl, fun _ _ => Nat.le_refl _, [], by simp, by simp⟩

theorem ExtB.trans {base : Nat} {w w' w'' : World} {g g' g'' : Gh} (h : ExtB base w g w' g') (k : ExtB base w' g' w'' g'') : ExtB base w g w'' g'' := by
  obtain ⟨n, hn, hn'⟩ := h.io
  obtain ⟨m, hm, hm'⟩ := k.io
  have hio : ∀ b, b < base → b ∉ g.io → b ∉ g'.io := by
    intro b hb hi
    rw [hn]; intro hx
    rcases List.mem_append.1 hx with hx | hx
    · exact hi hx
    · have := hn' b hx; omega
  refine ⟨k.os.trans h.os, k.tape.trans h.tape, k.output.trans h.output, Nat.le_trans h.size k.size, ?_, fun b hb hi => (k.D b hb (hio b hb hi)).trans (h.D b hb hi), fun b hb => Nat.le_trans (h.Dle b hb) (k.Dle b hb), n ++ m, by rw [hm, hn, List.append_assoc], ?_⟩
  · intro b hb hi
    rw [k.block b hb ?_, h.block b hb hi]
    rcases hi with hi | hi
    · exact .inl (hio b hb hi)
    · exact .inr (Nat.lt_of_lt_of_le hi (h.Dle b hb))
  · intro b hb
    rcases List.mem_append.1 hb with hb | hb
    · exact hn' b hb
    · exact hm' b hb

theorem Grow.extB {w w' : World} {g g' : Gh} (h : Grow w g w' g') {base : Nat} (hb : base ≤ w.heap.size) : ExtB base w g w' g' :=
  ⟨h.os, h.tape, h.output, h.size, fun b hb' _ => h.block b (by omega), fun b hb' _ => h.D b (by omega), fun b hb' => Nat.le_of_eq (h.D b (by omega)).symm, [], by simp [h.io], by simp⟩

/-- Begun at 'w', with 'base' its number of blocks. -/
theorem ext_extB {w w' w'' : World} {g g' g'' : Gh} (h : Ext w g w' g') (k : ExtB w.heap.size w' g' w'' g'') : Ext w g w'' g'' := by
  obtain ⟨n, hn, hn'⟩ := h.io
  obtain ⟨m, hm, hm'⟩ := k.io
  have hio : ∀ b, b < w.heap.size → b ∉ g.io → b ∉ g'.io := by
    intro b hb hi
    rw [hn]; intro hx
    rcases List.mem_append.1 hx with hx | hx
    · exact hi hx
    · have := hn' b hx; omega
  refine ⟨k.os.trans h.os, k.tape.trans h.tape, k.output.trans h.output, Nat.le_trans h.size k.size, ?_, fun b hb hi => (k.D b hb (hio b hb hi)).trans (h.D b hb hi), fun b hb => Nat.le_trans (h.Dle b hb) (k.Dle b hb), n ++ m, by rw [hm, hn, List.append_assoc], ?_⟩
  · intro b hb hi
    rw [k.block b hb ?_, h.block b hb hi]
    rcases hi with hi | hi
    · exact .inl (hio b hb hi)
    · exact .inr (Nat.lt_of_lt_of_le hi (h.Dle b hb))
  · intro b hb
    rcases List.mem_append.1 hb with hb | hb
    · exact hn' b hb
    · exact hm' b hb

section
variable {C : Ctx} {base : Nat} {e : En} {a : Act} {w : World} {g : Gh}

def pvalC (c : Cl) (l : Nat × Nat × Nat) : Option PV := match c with | .v p => (compP p l.2.1).cells[l.2.2]? | _ => none
def cvalV (v : Value) (l : Nat × Nat × Nat) : Option Value := (compV v l.2.1).cells[l.2.2]?

theorem bx_lt (hr : REL C base e a w g) {s : Nat} {p : PV} (h : lkp e.bx s = some p) {b : Nat} (hb : a.tmps.getD s undef = .pointer (some ⟨b, 0, none⟩)) : b < w.heap.size := by
  obtain ⟨_, _, b', h1, _, _, _, h2⟩ := hr.bx s p h
  rw [h1] at hb; cases hb
  obtain ⟨_, cs, e', fz, hh, _⟩ := h2
  exact (Array.getElem?_eq_some_iff.1 hh).1

theorem bx_box (hr : REL C base e a w g) {s : Nat} (h : s ∉ C.box) : lkp e.bx s = none := by
  cases hq : lkp e.bx s with
  | none => rfl
  | some p => exact absurd (hr.bx s p hq).1 h

/-- Every place outside the temporary that is written is as it was. -/
theorem vals_old (hr : REL C base e a w g) {w' : World} {g' : Gh} {H' : List HObj} (hG : Mild e a w g w' g' H') {d : Nat} (hds : d < a.tmps.size) {c : Cl} {v : Value} {l : Nat × Nat × Nat} (hl : l.1 ≠ d) (F : List (Nat × Nat × Nat)) :
    (∀ H, pval { e with t := (d, c) :: e.t, F, H } l = pval e l) ∧ ∀ z s u, pval e l = some (.slice z s) → cval C (a.put (some d) v) w' l = some u → cval C a w l = some u := by
  refine ⟨?_, ?_⟩
  · intro H
    simp only [pval, lkp_cons]
    rw [if_neg (fun h => hl h.symm)]
  · intro z s u hp hc
    have hget : (a.put (some d) v).tmps.getD l.1 undef = a.tmps.getD l.1 undef := by rw [put_getD a d l.1 v hds, if_neg (fun h => hl h.symm)]
    unfold cval at *
    rw [hget] at hc
    split at hc
    · rename_i hb
      rw [if_pos hb]
      cases hx : lkp e.bx l.1 with
      | none =>
        exfalso
        simp only [pval, hx] at hp
        split at hp
        · rename_i q hq
          exact (hr.t _ _ hq).1 hb
        · cases hp
      | some p =>
        obtain ⟨_, _, b, h1, _⟩ := hr.bx l.1 p hx
        rw [h1] at hc ⊢
        simp only at hc ⊢
        rw [← hc]
        exact (cell?_congr (hG.bx l.1 p b hx h1).1).symm
    · rename_i hb
      rw [if_neg hb]
      exact hc

theorem own_put' (hr : REL C base e a w g) {w' : World} {g' : Gh} {H' : List HObj} (hG : Mild e a w g w' g' H') (hA : ∀ z v, Appv w g base z v → Appv w' g' base z v) {d : Nat} (hds : d < a.tmps.size) (hdb : d ∉ C.box) {c : Cl} {v : Value} {F' : List (Nat × Nat × Nat)}
    (rho : Nat × Nat × Nat → Option (Nat × Nat × Nat))
    (h1 : ∀ l' ∈ F', (l'.1 ≠ d ∧ l' ∈ e.F ∧ rho l' = some l') ∨ (l'.1 = d ∧ ∃ l ∈ e.F, rho l' = some l ∧ ∀ z s u, pvalC c l' = some (.slice z s) → cvalV v l' = some u → pval e l = some (.slice z s) ∧ cval C a w l = some u) ∨
      (l'.1 = d ∧ rho l' = none ∧ ∀ z s u, pvalC c l' = some (.slice z s) → cvalV v l' = some u → Appv w' g' base z u ∧ ∀ b, ownb u = some b → w.heap.size ≤ b))
    (h2 : ∀ l ∈ F', ∀ l' ∈ F', ∀ k, rho l = some k → rho l' = some k → l = l') (h3 : ∀ l ∈ F', ∀ l' ∈ F', rho l = none → rho l' = none → l ≠ l' → ∀ z s u z' s' u' b, pvalC c l = some (.slice z s) → cvalV v l = some u → pvalC c l' = some (.slice z' s') → cvalV v l' = some u' → ownb u = some b → ownb u' ≠ some b) :
    OwnF C base { e with t := (d, c) :: e.t, F := F', H := H' } (a.put (some d) v) w' g' := by
  have hd : ∀ (l : Nat × Nat × Nat) z s u, l.1 = d → pval { e with t := (d, c) :: e.t, F := F', H := H' } l = some (.slice z s) → cval C (a.put (some d) v) w' l = some u → pvalC c l = some (.slice z s) ∧ cvalV v l = some u := by
    intro l z s u hl hp hc
    have hx : lkp e.bx l.1 = none := bx_box hr (by rw [hl]; exact hdb)
    simp only [pval, hx, lkp_cons] at hp
    rw [if_pos hl.symm] at hp
    refine ⟨?_, ?_⟩
    · cases c with
      | v p => simpa [pvalC] using hp
      | _ => cases hp
    · unfold cval at hc
      rw [if_neg (by rw [hl]; exact hdb), put_getD a d l.1 v hds, if_pos hl.symm] at hc
      exact hc
  have hval : ∀ l' ∈ F', ∀ z s u, pval { e with t := (d, c) :: e.t, F := F', H := H' } l' = some (.slice z s) → cval C (a.put (some d) v) w' l' = some u →
      (∃ l ∈ e.F, rho l' = some l ∧ pval e l = some (.slice z s) ∧ cval C a w l = some u) ∨ (rho l' = none ∧ (pvalC c l' = some (.slice z s) ∧ cvalV v l' = some u) ∧ Appv w' g' base z u ∧ ∀ b, ownb u = some b → w.heap.size ≤ b) := by
    intro l' hl z s u hp hc
    rcases h1 l' hl with ⟨hne, hm, hrho⟩ | ⟨he, l, hm, hrho, hh⟩ | ⟨he, hrho, hh⟩
    · obtain ⟨e1, e2⟩ := vals_old hr hG hds (c := c) (v := v) hne F'
      rw [e1] at hp
      exact .inl ⟨l', hm, hrho, hp, e2 z s u hp hc⟩
    · obtain ⟨p1, p2⟩ := hd l' z s u he hp hc
      exact .inl ⟨l, hm, hrho, hh z s u p1 p2⟩
    · obtain ⟨p1, p2⟩ := hd l' z s u he hp hc
      exact .inr ⟨hrho, ⟨p1, p2⟩, hh z s u p1 p2⟩
  refine OwnF.map hr.own rho ?_ (fun _ _ _ _ z _ v _ _ ha _ _ => hA z v ha) h2 ?_ ?_
  · intro l' hl l hrho
    have hm : l ∈ e.F := by
      rcases h1 l' hl with ⟨_, hm, hr2⟩ | ⟨_, l2, hm, hr2, _⟩ | ⟨_, hr2, _⟩
      · rw [hrho] at hr2; cases hr2; exact hm
      · rw [hrho] at hr2; cases hr2; exact hm
      · rw [hrho] at hr2; cases hr2
    refine ⟨hm, fun z s u hp hc => ?_⟩
    rcases hval l' hl z s u hp hc with ⟨l2, _, hr2, h4⟩ | ⟨hr2, _⟩
    · rw [hrho] at hr2; cases hr2; exact h4
    · rw [hrho] at hr2; cases hr2
  · intro l' hl hrho z s u hp hc
    rcases hval l' hl z s u hp hc with ⟨l2, _, hr2, h4⟩ | ⟨_, h8, h5, h6⟩
    · rw [hrho] at hr2; cases hr2
    · refine ⟨h5, fun b hb l hl2 hne z2 s2 u2 hp2 hc2 hb2 => ?_⟩
      rcases hval l hl2 z2 s2 u2 hp2 hc2 with ⟨l3, hm3, _, hp3, hc3⟩ | ⟨hr3, h7, _⟩
      · have := (Appv.block (hr.own.app l3 hm3 z2 s2 u2 hp3 hc3) hb2).2.1
        have := h6 b hb
        omega
      · exact h3 l hl2 l' hl hr3 hrho hne z2 s2 u2 z s u b h7.1 h7.2 h8.1 h8.2 hb2 hb
  · intro l' hl z s u b hp hc hb s' p hs' heq
    have hs'b : s' ≠ d := by intro h; subst h; exact hdb (hr.bx s' p hs').1
    rw [put_getD a d s' v hds, if_neg (fun h => hs'b h.symm)] at heq
    rcases hval l' hl z s u hp hc with ⟨l3, hm3, _, hp3, hc3⟩ | ⟨_, _, _, h6⟩
    · exact hr.own.box l3 hm3 z s u b hp3 hc3 hb s' p hs' heq
    · have := h6 b hb
      have := bx_lt hr hs' heq
      omega

theorem own_put (hr : REL C base e a w g) {w' : World} {g' : Gh} (hG : Grow w g w' g') {d : Nat} (hds : d < a.tmps.size) (hdb : d ∉ C.box) {c : Cl} {v : Value} {F' : List (Nat × Nat × Nat)}
    (rho : Nat × Nat × Nat → Option (Nat × Nat × Nat))
    (h1 : ∀ l' ∈ F', (l'.1 ≠ d ∧ l' ∈ e.F ∧ rho l' = some l') ∨ (l'.1 = d ∧ ∃ l ∈ e.F, rho l' = some l ∧ ∀ z s u, pvalC c l' = some (.slice z s) → cvalV v l' = some u → pval e l = some (.slice z s) ∧ cval C a w l = some u) ∨
      (l'.1 = d ∧ rho l' = none ∧ ∀ z s u, pvalC c l' = some (.slice z s) → cvalV v l' = some u → Appv w' g' base z u ∧ ∀ b, ownb u = some b → w.heap.size ≤ b))
    (h2 : ∀ l ∈ F', ∀ l' ∈ F', ∀ k, rho l = some k → rho l' = some k → l = l') (h3 : ∀ l ∈ F', ∀ l' ∈ F', rho l = none → rho l' = none → l = l') :
    OwnF C base { e with t := (d, c) :: e.t, F := F' } (a.put (some d) v) w' g' :=
  own_put' (H' := e.H) hr (hG.mild hr) (fun _ _ ha => ha.grow hG) hds hdb rho h1 h2 (fun l hl l' hl' k1 k2 hne => absurd (h3 l hl l' hl' k1 k2) hne)

theorem own_none (hr : REL C base e a w g) {w' : World} {g' : Gh} (hG : Grow w g w' g') : OwnF C base e a w' g' := by
  have hval : ∀ l z s u, pval e l = some (.slice z s) → cval C a w' l = some u → cval C a w l = some u := by
    intro l z s u hp hc
    unfold cval at *
    split at hc
    · rename_i hb
      rw [if_pos hb]
      cases hx : lkp e.bx l.1 with
      | none =>
        exfalso
        simp only [pval, hx] at hp
        split at hp
        · rename_i q hq
          exact (hr.t _ _ hq).1 hb
        · cases hp
      | some p =>
        obtain ⟨_, _, b, h1, _⟩ := hr.bx l.1 p hx
        rw [h1] at hc ⊢
        simp only at hc ⊢
        rw [← hc]
        exact (cell?_congr (hG.block b (bx_lt hr hx h1))).symm
    · rename_i hb
      rw [if_neg hb]
      exact hc
  exact ⟨fun l hl z s v hp hc => (hr.own.app l hl z s v hp (hval l z s v hp hc)).grow hG,
    fun l hl l' hl' hne z s v z' s' v' b hp hc hp' hc' => hr.own.uniq l hl l' hl' hne z s v z' s' v' b hp (hval l z s v hp hc) hp' (hval l' z' s' v' hp' hc'),
    fun l hl z s v b hp hc => hr.own.box l hl z s v b hp (hval l z s v hp hc)⟩

theorem mem_rmF {d : Nat} {F : List (Nat × Nat × Nat)} {l : Nat × Nat × Nat} : l ∈ rmF d F ↔ l ∈ F ∧ l.1 ≠ d := by
  simp [rmF]

/-- An operation's outcome: memory, state, and what it gave. -/
def StepOK (C : Ctx) (base : Nat) (o : Oper) (e' : En) (a : Act) (w : World) (g : Gh) : Prop :=
  ∃ w' g', ExtB base w g w' g' ∧ ((∃ v, (execOp a.eval o).run C.P w = .ok (.value v) w' ∧ REL C base e' (a.put o.dst v) w' g') ∨ ((execOp a.eval o).run C.P w = .ok .skip w' ∧ REL C base e' (a.put o.dst undef) w' g'))

def DstOK (C : Ctx) (o : Oper) (a : Act) : Prop := ∀ d, o.dst = some d → d < a.tmps.size ∧ d ∉ C.box

/-- A value, and nobody may append to it. -/
theorem ok_plain (hr : REL C base e a w g) {o : Oper} {w' : World} {g' : Gh} (hG : Grow w g w' g') (hd : DstOK C o a) {c : Cl} {v : Value} (hrun : (execOp a.eval o).run C.P w = .ok (.value v) w') (hc : ClR C a w' g' c v)
    {F' : List (Nat × Nat × Nat)} (hF : ∀ l ∈ F', l ∈ e.F ∧ ∀ d, o.dst = some d → l.1 ≠ d) : StepOK C base o { put o c e with F := F' } a w g := by
  refine ⟨w', g', hG.extB hr.hb, .inl ⟨v, hrun, rel_put hr hG hd hc ?_⟩⟩
  cases ho : o.dst with
  | none =>
    have e1 : ({ put o c e with F := F' } : En) = { e with F := F' } := by simp [put, ho]
    simp only [e1, Act.put]
    have h := own_none hr hG
    exact ⟨fun l hl => h.app l (hF l hl).1, fun l hl l' hl' => h.uniq l (hF l hl).1 l' (hF l' hl').1, fun l hl => h.box l (hF l hl).1⟩
  | some d =>
    have e1 : ∀ F, ({ put o c e with F := F } : En) = { e with t := (d, c) :: e.t, F } := by intro F; simp [put, ho]
    rw [e1]
    refine own_put hr hG (hd d ho).1 (hd d ho).2 some ?_ ?_ ?_
    · intro l' hl
      exact .inl ⟨(hF l' hl).2 d ho, (hF l' hl).1, rfl⟩
    · intro l _ l' _ k h1 h2; cases h1; cases h2; rfl
    · intro l _ l' _ h1; cases h1

/-- A value that brings the right to append with it. -/
theorem ok_trans (hr : REL C base e a w g) {o : Oper} (hd : DstOK C o a) {c : Cl} {v : Value} (hrun : (execOp a.eval o).run C.P w = .ok (.value v) w) (hc : ClR C a w g c v)
    {d : Nat} (ho : o.dst = some d) (src : Nat × Nat × Nat → Nat × Nat × Nat) {F' : List (Nat × Nat × Nat)}
    (hF : ∀ l' ∈ F', (l'.1 ≠ d ∧ l' ∈ e.F) ∨ (l'.1 = d ∧ src l' ∈ e.F ∧ src l' ∉ F' ∧ ∀ z s u, pvalC c l' = some (.slice z s) → cvalV v l' = some u → pval e (src l') = some (.slice z s) ∧ cval C a w (src l') = some u))
    (hinj : ∀ l ∈ F', ∀ l' ∈ F', l.1 = d → l'.1 = d → src l = src l' → l = l') : StepOK C base o { put o c e with F := F' } a w g := by
  have hG := Grow.refl (w := w) (g := g) hr.good
  refine ⟨w, g, hG.extB hr.hb, .inl ⟨v, hrun, rel_put hr hG hd hc ?_⟩⟩
  have e1 : ∀ F, ({ put o c e with F := F } : En) = { e with t := (d, c) :: e.t, F } := by intro F; simp [put, ho]
  rw [e1, ho]
  refine own_put hr hG (hd d ho).1 (hd d ho).2 (fun l => if l.1 = d then some (src l) else some l) ?_ ?_ ?_
  · intro l' hl
    rcases hF l' hl with ⟨h1, h2⟩ | ⟨h1, h2, _, h3⟩
    · exact .inl ⟨h1, h2, by simp [h1]⟩
    · exact .inr (.inl ⟨h1, src l', h2, by simp [h1], h3⟩)
  · intro l hl l' hl' k h1 h2
    split at h1
    · rename_i e1
      cases h1
      split at h2
      · rename_i e2
        cases h2' : src l'
        simp only [Option.some.injEq] at h2
        exact hinj l hl l' hl' e1 e2 h2.symm
      · rename_i e2
        cases h2
        rcases hF l hl with ⟨h3, _⟩ | ⟨_, _, h3, _⟩
        · exact absurd e1 h3
        · exact absurd hl' h3
    · rename_i e1
      cases h1
      split at h2
      · rename_i e2
        simp only [Option.some.injEq] at h2
        rcases hF l' hl' with ⟨h3, _⟩ | ⟨_, _, h3, _⟩
        · exact absurd e2 h3
        · rw [h2] at h3; exact absurd hl h3
      · cases h2; rfl
  · intro l hl l' hl' h1
    split at h1 <;> cases h1

/-- A value of a new slice, or a nil one. -/
theorem ok_fresh (hr : REL C base e a w g) {o : Oper} {w' : World} {g' : Gh} (hG : Grow w g w' g') (hd : DstOK C o a) {z0 : Nat} {l0 : List PV} {v : Value} (hrun : (execOp a.eval o).run C.P w = .ok (.value v) w') (hc : VR w' g' (.slice z0 l0) v)
    {d : Nat} (ho : o.dst = some d) (hfr : Appv w' g' base z0 v ∧ ∀ b, ownb v = some b → w.heap.size ≤ b) {F' : List (Nat × Nat × Nat)} (hF : F' = (d, 0, 0) :: rmF d e.F) :
    StepOK C base o { put o (.v (.slice z0 l0)) e with F := F' } a w g := by
  subst hF
  refine ⟨w', g', hG.extB hr.hb, .inl ⟨v, hrun, rel_put hr hG hd (c := .v (.slice z0 l0)) hc ?_⟩⟩
  have e1 : ∀ F, ({ put o (.v (.slice z0 l0)) e with F := F } : En) = { e with t := (d, .v (.slice z0 l0)) :: e.t, F } := by intro F; simp [put, ho]
  rw [e1, ho]
  refine own_put hr hG (hd d ho).1 (hd d ho).2 (fun l => if l.1 = d then none else some l) ?_ ?_ ?_
  · intro l' hl
    rcases List.mem_cons.1 hl with rfl | hl
    · refine .inr (.inr ⟨rfl, by simp, ?_⟩)
      intro z s u hp hcv
      cases hc with
      | slice z' l ad c' a1 a2 a3 a4 f a5 a6 =>
        simp [pvalC, compP, PV.cells] at hp
        simp [cvalV, compV, Value.cells] at hcv
        subst hcv
        rw [← hp.1]
        exact hfr
    · obtain ⟨h1, h2⟩ := mem_rmF.1 hl
      exact .inl ⟨h2, h1, by simp [h2]⟩
  · intro l hl l' hl' k h1 h2
    split at h1
    · cases h1
    · split at h2
      · cases h2
      · cases h1; cases h2; rfl
  · intro l hl l' hl' h1 h2
    split at h1
    · rename_i e1
      split at h2
      · rename_i e2
        rcases List.mem_cons.1 hl with rfl | hl
        · rcases List.mem_cons.1 hl' with rfl | hl'
          · rfl
          · exact absurd e2 (mem_rmF.1 hl').2
        · exact absurd e1 (mem_rmF.1 hl).2
      · cases h2
    · cases h1

theorem mem_mvF {s d : Nat} (hsd : s ≠ d) {F : List (Nat × Nat × Nat)} {l : Nat × Nat × Nat} : l ∈ mvF s d F ↔ (l.1 ≠ d ∧ l.1 ≠ s ∧ l ∈ F) ∨ (l.1 = d ∧ (s, l.2) ∈ F) := by
  simp only [mvF, List.mem_map, mem_rmF]
  constructor
  · rintro ⟨x, ⟨h1, h2⟩, h3⟩
    split at h3
    · rename_i h4
      subst h3
      refine .inr ⟨rfl, ?_⟩
      rw [← h4]; exact h1
    · rename_i h4
      subst h3
      exact .inl ⟨h2, h4, h1⟩
  · rintro (⟨h1, h2, h3⟩ | ⟨h1, h2⟩)
    · exact ⟨l, ⟨h3, h1⟩, by rw [if_neg h2]⟩
    · exact ⟨(s, l.2), ⟨h2, hsd⟩, by rw [if_pos rfl, ← h1]⟩

theorem tmp_get (hr : REL C base e a w g) {s : Nat} {p : PV} (h : lkp e.t s = some (.v p)) (k : Nat × Nat) : pval e (s, k) = (compP p k.1).cells[k.2]? ∧ cval C a w (s, k) = cvalV (a.tmps.getD s undef) (s, k) := by
  have hb := (hr.t s _ h).1
  refine ⟨?_, ?_⟩
  · simp only [pval, bx_box hr hb, h]
  · simp only [cval]; rw [if_neg hb]; rfl

theorem ok_move (hr : REL C base e a w g) {o : Oper} {x : Operand} {tr : Bool} {e' : En} (ho : o.op = .move x ∨ o.op = .assign x) (hd : DstOK C o a) (h : stepO C o e = some e') : StepOK C base o { e' with F := fnext C tr o e } a w g := by
  have h' : putv o e (ev C.P e o.type x) = some e' := by rcases ho with ho | ho <;> simpa only [stepO, ho] using h
  have hf : fnext C tr o e = if C.own = false then [] else match o.dst with
    | some d => (match x with
      | .tmp s => if (tr = true ∧ s ≠ d) then mvF s d e.F else rmF d e.F
      | x => if isNil x then (d, 0, 0) :: rmF d e.F else rmF d e.F)
    | none => e.F := by
    unfold fnext
    rcases ho with ho | ho <;> rw [ho] <;> cases o.dst <;> rfl
  cases hp : ev C.P e o.type x with
  | none => rw [hp] at h'; cases h'
  | some p =>
    rw [hp] at h'; cases h'
    have hv := ev_sound hr hp
    have hrun : (execOp a.eval o).run C.P w = .ok (.value (a.eval x)) w := by rcases ho with ho | ho <;> simp [execOp, ho]
    have hG := Grow.refl (w := w) (g := g) hr.good
    have plain : ∀ F', (∀ l ∈ F', l ∈ e.F ∧ ∀ d, o.dst = some d → l.1 ≠ d) → StepOK C base o { put o (.v p) e with F := F' } a w g := fun F' hF => ok_plain hr hG hd (c := .v p) hrun hv hF
    rw [hf]
    split
    · exact plain [] (by simp)
    · cases hdst : o.dst with
      | none => exact plain _ (fun l hl => ⟨hl, fun d hd' => by rw [hdst] at hd'; cases hd'⟩)
      | some d =>
        have hplain : StepOK C base o { put o (.v p) e with F := rmF d e.F } a w g := plain _ (fun l hl => ⟨(mem_rmF.1 hl).1, fun d' hd' => by rw [hdst] at hd'; cases hd'; exact (mem_rmF.1 hl).2⟩)
        have hnil : isNil x = true → StepOK C base o { put o (.v p) e with F := (d, 0, 0) :: rmF d e.F } a w g := by
          intro hn
          unfold isNil at hn
          split at hn
          · simp only [ev] at hp
            split at hp
            · cases hp
              exact ok_fresh hr hG hd hrun hv hdst ⟨trivial, by simp [ownb, Act.eval]⟩ rfl
            · cases hp
          · cases hn
        simp only
        split
        · rename_i s
          split
          · rename_i hts
            simp only [ev] at hp
            split at hp
            · rename_i q hq
              cases hp
              refine ok_trans hr hd (c := .v p) hrun hv hdst (fun l => (s, l.2)) ?_ ?_
              · intro l hl
                rcases (mem_mvF hts.2).1 hl with ⟨h1, h2, h3⟩ | ⟨h1, h2⟩
                · exact .inl ⟨h1, h3⟩
                · refine .inr ⟨h1, h2, ?_, ?_⟩
                  · intro hc
                    rcases (mem_mvF hts.2).1 hc with ⟨_, h4, _⟩ | ⟨h4, _⟩
                    · exact h4 rfl
                    · exact hts.2 h4
                  · intro z t u hp hc
                    obtain ⟨e1, e2⟩ := tmp_get hr hq l.2
                    rw [e1, e2]
                    exact ⟨hp, hc⟩
              · intro l hl l' hl' h1 h2 h3
                have : l.2 = l'.2 := by simpa using h3
                exact Prod.ext (h1.trans h2.symm) this
            · cases hp
          · exact hplain
        · split
          · rename_i hn; exact hnil hn
          · exact hplain

end
end Go.Proofs.Ytielbjjdgdblcaa.Vm

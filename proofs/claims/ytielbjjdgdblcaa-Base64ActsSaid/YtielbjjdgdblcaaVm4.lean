/- The relation between a call's pure state and the machine's; what a new value keeps. -/
import Derived.Test.YtielbjjdgdblcaaVm3
namespace Go.Proofs.Ytielbjjdgdblcaa.Vm
open Go

theorem getD_set {α : Type} (a : Array α) (d i : Nat) (v z : α) (hd : d < a.size) : (a.setIfInBounds d v).getD i z = if d = i then v else a.getD i z := by
  simp only [Array.getD_eq_getD_getElem?, Array.getElem?_setIfInBounds]
  by_cases h : d = i
  · subst h; simp [hd]
  · simp [h]

theorem lkp_cons {α : Type} (k : Nat) (v : α) (r : List (Nat × α)) (x : Nat) : lkp ((k, v) :: r) x = if k = x then some v else lkp r x := rfl

def ClR (C : Ctx) (a : Act) (w : World) (g : Gh) : Cl → Value → Prop
  | .v p, v => VR w g p v
  | .loc s off, v => s ∈ C.box ∧ ∃ b, a.tmps.getD s undef = .pointer (some ⟨b, 0, none⟩) ∧ v = .pointer (some ⟨b, off, none⟩)
  | .elem cs, v => ∃ b o, v = .pointer (some ⟨b, o, none⟩) ∧ (∀ p ∈ cs, p.one = true) ∧
      ∀ (k : Nat) p, cs[k]? = some p → ∃ u, w.cell? ⟨b, o + k, none⟩ = some u ∧ o + k < g.D b ∧ VR w g p u
  | .und, _ => True

def compP (p : PV) (c : Nat) : PV := match p with | .tup vs => vs.getD c .opq | p => p
def compV (v : Value) (c : Nat) : Value := match v with | .tuple vs => vs.getD c .nilIface | v => v

def pval (e : En) (l : Nat × Nat × Nat) : Option PV :=
  match lkp e.bx l.1 with
  | some p => p.cells[l.2.2]?
  | none => match lkp e.t l.1 with
    | some (.v p) => (compP p l.2.1).cells[l.2.2]?
    | _ => none

def cval (C : Ctx) (a : Act) (w : World) (l : Nat × Nat × Nat) : Option Value :=
  if l.1 ∈ C.box then match a.tmps.getD l.1 undef with
    | .pointer (some ad) => w.cell? ⟨ad.block, ad.off + l.2.2, none⟩
    | _ => none
  else (compV (a.tmps.getD l.1 undef) l.2.1).cells[l.2.2]?

structure OwnF (C : Ctx) (base : Nat) (e : En) (a : Act) (w : World) (g : Gh) : Prop where
  app : ∀ l ∈ e.F, ∀ z s v, pval e l = some (.slice z s) → cval C a w l = some v → Appv w g base z v
  uniq : ∀ l ∈ e.F, ∀ l' ∈ e.F, l ≠ l' → ∀ z s v z' s' v' b, pval e l = some (.slice z s) → cval C a w l = some v → pval e l' = some (.slice z' s') → cval C a w l' = some v' →
    ownb v = some b → ownb v' ≠ some b
  box : ∀ l ∈ e.F, ∀ z s v b, pval e l = some (.slice z s) → cval C a w l = some v → ownb v = some b → ∀ s' p, lkp e.bx s' = some p → a.tmps.getD s' undef ≠ .pointer (some ⟨b, 0, none⟩)

structure REL (C : Ctx) (base : Nat) (e : En) (a : Act) (w : World) (g : Gh) : Prop where
  hb : base ≤ w.heap.size
  defers : a.defers = []
  good : Good w g e.H
  t : ∀ (d : Nat) c, lkp e.t d = some c → d ∉ C.box ∧ ClR C a w g c (a.tmps.getD d undef)
  bx : ∀ (s : Nat) p, lkp e.bx s = some p → s ∈ C.box ∧ s < a.tmps.size ∧ ∃ b, a.tmps.getD s undef = .pointer (some ⟨b, 0, none⟩) ∧ base ≤ b ∧ g.D b = 0 ∧ b ∉ g.io ∧ RowIs w g b p.cells
  dist : ∀ (s s' b : Nat) p p', lkp e.bx s = some p → lkp e.bx s' = some p' → a.tmps.getD s undef = .pointer (some ⟨b, 0, none⟩) → a.tmps.getD s' undef = .pointer (some ⟨b, 0, none⟩) → s = s'
  own : OwnF C base e a w g

/-- New memory alone. -/
structure Grow (w : World) (g : Gh) (w' : World) (g' : Gh) : Prop where
  os : w'.os = w.os
  tape : w'.tape = w.tape
  output : w'.output = w.output
  size : w.heap.size ≤ w'.heap.size
  block : ∀ b, b < w.heap.size → w'.heap[b]? = w.heap[b]?
  D : ∀ b, b < w.heap.size → g'.D b = g.D b
  fresh : ∀ b, w'.heap.size ≤ b → g'.D b = 0
  io : g'.io = g.io

theorem Grow.refl {w : World} {g : Gh} {H : List HObj} (h : Good w g H) : Grow w g w g := ⟨rfl, rfl, rfl, Nat.le_refl _, fun _ _ => rfl, fun _ _ => rfl, h.fresh, rfl⟩

theorem Grow.ext {w w' : World} {g g' : Gh} (h : Grow w g w' g') : Ext w g w' g' :=
  ⟨h.os, h.tape, h.output, h.size, fun b hb _ => h.block b hb, fun b hb _ => h.D b hb, fun b hb => Nat.le_of_eq (h.D b hb).symm, [], by simp [h.io], by simp⟩

theorem Grow.keep {w w' : World} {g g' : Gh} {H : List HObj} (hg : Good w g H) (h : Grow w g w' g') : Keep w g w' g' := h.ext.keep hg

theorem io_lt {w : World} {g : Gh} {H : List HObj} (h : Good w g H) {b : Nat} (hb : b ∈ g.io) : b < w.heap.size := by
  obtain ⟨i, hi, rfl⟩ := List.getElem_of_mem hb
  have h2 : i < H.length := by rw [← h.len]; exact hi
  obtain ⟨_, _, cs, e, fz, hh, _⟩ := h.obj i g.io[i] H[i] (by simp [hi]) (by simp [h2])
  exact (Array.getElem?_eq_some_iff.1 hh).1

theorem Good.grow {w w' : World} {g g' : Gh} {H : List HObj} (hg : Good w g H) (h : Grow w g w' g') : Good w' g' H := by
  refine ⟨h.fresh, by rw [h.io]; exact hg.len, by rw [h.io]; exact hg.nodup, ?_⟩
  intro i b ob hi ho
  rw [h.io] at hi
  obtain ⟨h1, h2⟩ := hg.obj i b ob hi ho
  have hb : b < w.heap.size := io_lt hg (List.mem_of_getElem? hi)
  exact ⟨fun hne => by rw [h.D b hb]; exact h1 hne, h2.keep (h.keep hg) (h.block b hb)⟩

theorem ClR.keep {C : Ctx} {a a' : Act} {w w' : World} {g g' : Gh} (k : Keep w g w' g') {c : Cl} {v : Value} (ha : ∀ s, s ∈ C.box → a'.tmps.getD s undef = a.tmps.getD s undef)
    (h : ClR C a w g c v) : ClR C a' w' g' c v := by
  cases c with
  | v p => exact VR.keep k h
  | loc s off => obtain ⟨hs, b, h1, h2⟩ := h; exact ⟨hs, b, by rw [ha s hs]; exact h1, h2⟩
  | elem cs =>
    obtain ⟨b, o, hv, h1, h2⟩ := h
    refine ⟨b, o, hv, h1, fun k' p hp => ?_⟩
    obtain ⟨u, hu, hlt, hr⟩ := h2 k' p hp
    exact ⟨u, by rw [k.cell _ _ hlt]; exact hu, Nat.lt_of_lt_of_le hlt (k.D _), hr.keep k⟩
  | und => trivial

theorem put_getD (a : Act) (d i : Nat) (v : Value) (hd : d < a.tmps.size) : (a.put (some d) v).tmps.getD i undef = if d = i then v else a.tmps.getD i undef := by
  simp only [Act.put]; exact getD_set _ _ _ _ _ hd

theorem put_size (a : Act) (d : Option Tmp) (v : Value) : (a.put d v).tmps.size = a.tmps.size := by
  cases d <;> simp [Act.put]

theorem put_defers (a : Act) (d : Option Tmp) (v : Value) : (a.put d v).defers = a.defers := by
  cases d <;> rfl

theorem Appv.grow {w w' : World} {g g' : Gh} {base z : Nat} {v : Value} (h : Grow w g w' g') (ha : Appv w g base z v) : Appv w' g' base z v := by
  unfold Appv at *
  split
  · rename_i ad n c
    rcases ha with ha | ⟨h1, h2, hs, h3, cs, e, fz, hh, h4, h5⟩
    · exact .inl ha
    · have hb : ad.block < w.heap.size := (Array.getElem?_eq_some_iff.1 hh).1
      exact .inr ⟨h1, by rw [h.io]; exact h2, hs, by rw [h.D _ hb]; exact h3, cs, e, fz, (h.block _ hb).trans hh, h4, h5⟩
  · trivial

theorem Appv.none {w : World} {g : Gh} {base z : Nat} {v : Value} (h : ownb v = none) : Appv w g base z v := by
  cases v with
  | slice a n c =>
    cases a with
    | none => trivial
    | some ad =>
      simp only [ownb] at h
      split at h
      · rename_i hn; exact .inl hn
      · cases h
  | _ => trivial

theorem Appv.block {w : World} {g : Gh} {base z b : Nat} {v : Value} (ha : Appv w g base z v) (hb : ownb v = some b) : base ≤ b ∧ b < w.heap.size ∧ b ∉ g.io := by
  unfold Appv ownb at *
  split at ha
  · rename_i ad n c
    dsimp only at hb
    split at hb
    · cases hb
    · rename_i hn
      cases hb
      rcases ha with ha | ⟨h1, h2, _, _, cs, e, fz, hh, _⟩
      · exact absurd ha hn
      · exact ⟨h1, (Array.getElem?_eq_some_iff.1 hh).1, h2⟩
  · rename_i hx
    split at hb
    · rename_i ad n c; exact absurd rfl (hx ad n c)
    · cases hb

/-- What a step that puts a value into a temporary may do to memory. -/
structure Mild (e : En) (a : Act) (w : World) (g : Gh) (w' : World) (g' : Gh) (H' : List HObj) : Prop where
  size : w.heap.size ≤ w'.heap.size
  keep : Keep w g w' g'
  good : Good w' g' H'
  io : ∀ b, b < w.heap.size → b ∉ g.io → b ∉ g'.io
  bx : ∀ s p b, lkp e.bx s = some p → a.tmps.getD s undef = .pointer (some ⟨b, 0, none⟩) → w'.heap[b]? = w.heap[b]? ∧ g'.D b = g.D b

theorem Grow.mild {C : Ctx} {base : Nat} {e : En} {a : Act} {w w' : World} {g g' : Gh} (hr : REL C base e a w g) (hG : Grow w g w' g') : Mild e a w g w' g' e.H := by
  refine ⟨hG.size, hG.keep hr.good, hr.good.grow hG, fun b _ h => by rw [hG.io]; exact h, ?_⟩
  intro s p b hs hb
  obtain ⟨_, _, b', h3, _, _, _, h7⟩ := hr.bx s p hs
  rw [h3] at hb; cases hb
  have hb : b < w.heap.size := by obtain ⟨_, cs, e', fz, hh, _⟩ := h7; exact (Array.getElem?_eq_some_iff.1 hh).1
  exact ⟨hG.block b hb, hG.D b hb⟩

/-- A step that puts a value into a temporary: what it keeps but for who may append. -/
theorem rel_put' {C : Ctx} {base : Nat} {e : En} {a : Act} {w w' : World} {g g' : Gh} (hr : REL C base e a w g) {H' : List HObj} (hG : Mild e a w g w' g' H') {o : Oper} {c : Cl} {v : Value}
    (hd : ∀ d, o.dst = some d → d < a.tmps.size ∧ d ∉ C.box) (hc : ClR C a w' g' c v) {F : List (Nat × Nat × Nat)}
    (hF : OwnF C base { put o c e with F, H := H' } (a.put o.dst v) w' g') : REL C base { put o c e with F, H := H' } (a.put o.dst v) w' g' := by
  have hk := hG.keep
  cases ho : o.dst with
  | none =>
    rw [ho] at hF
    have e1 : ({ put o c e with F, H := H' } : En) = { e with F, H := H' } := by simp [put, ho]
    rw [e1] at hF ⊢
    refine ⟨Nat.le_trans hr.hb hG.size, hr.defers, hG.good, ?_, ?_, hr.dist, hF⟩
    · intro d c' h
      exact ⟨(hr.t d c' h).1, (hr.t d c' h).2.keep hk (fun _ _ => rfl)⟩
    · intro s p h
      obtain ⟨h1, h2, b, h3, h4, h5, h6, h7⟩ := hr.bx s p h
      obtain ⟨hb1, hb2⟩ := hG.bx s p b h h3
      exact ⟨h1, h2, b, h3, h4, by rw [hb2]; exact h5, hG.io b (by obtain ⟨_, cs, e', fz, hh, _⟩ := h7; exact (Array.getElem?_eq_some_iff.1 hh).1) h6, h7.keep hk hb1⟩
  | some d =>
    rw [ho] at hF
    obtain ⟨hds, hdb⟩ := hd d ho
    have e1 : ({ put o c e with F, H := H' } : En) = { e with t := (d, c) :: e.t, F, H := H' } := by simp [put, ho]
    rw [e1] at hF ⊢
    have hbox : ∀ s, s ∈ C.box → (a.put (some d) v).tmps.getD s undef = a.tmps.getD s undef := by
      intro s hs
      rw [put_getD a d s v hds, if_neg]
      intro h; subst h; exact hdb hs
    refine ⟨Nat.le_trans hr.hb hG.size, by rw [put_defers]; exact hr.defers, hG.good, ?_, ?_, ?_, hF⟩
    · intro x c' h
      simp only [lkp_cons] at h
      rw [put_getD a d x v hds]
      split at h
      · rename_i hx
        cases h
        subst hx
        rw [if_pos rfl]
        exact ⟨hdb, hc.keep (Keep.refl _ _) hbox⟩
      · rename_i hx
        rw [if_neg hx]
        exact ⟨(hr.t x c' h).1, (hr.t x c' h).2.keep hk hbox⟩
    · intro s p h
      obtain ⟨h1, h2, b, h3, h4, h5, h6, h7⟩ := hr.bx s p h
      obtain ⟨hb1, hb2⟩ := hG.bx s p b h h3
      exact ⟨h1, by rw [put_size]; exact h2, b, by rw [hbox s h1]; exact h3, h4, by rw [hb2]; exact h5, hG.io b (by obtain ⟨_, cs, e', fz, hh, _⟩ := h7; exact (Array.getElem?_eq_some_iff.1 hh).1) h6, h7.keep hk hb1⟩
    · intro s s' b p p' h h' h1 h2
      rw [hbox s (hr.bx s p h).1] at h1
      rw [hbox s' (hr.bx s' p' h').1] at h2
      exact hr.dist s s' b p p' h h' h1 h2

theorem rel_put {C : Ctx} {base : Nat} {e : En} {a : Act} {w w' : World} {g g' : Gh} (hr : REL C base e a w g) (hG : Grow w g w' g') {o : Oper} {c : Cl} {v : Value}
    (hd : ∀ d, o.dst = some d → d < a.tmps.size ∧ d ∉ C.box) (hc : ClR C a w' g' c v) {F : List (Nat × Nat × Nat)}
    (hF : OwnF C base { put o c e with F } (a.put o.dst v) w' g') : REL C base { put o c e with F } (a.put o.dst v) w' g' := by
  have e1 : ({ put o c e with F } : En) = { put o c e with F, H := e.H } := by
    cases ho : o.dst <;> simp [put, ho]
  rw [e1] at hF ⊢
  exact rel_put' hr (hG.mild hr) hd hc hF

/-- Who may append behind a step: each place is an old one, or new. -/
theorem OwnF.map {C : Ctx} {base : Nat} {e e' : En} {a a' : Act} {w w' : World} {g g' : Gh} (h : OwnF C base e a w g)
    (rho : Nat × Nat × Nat → Option (Nat × Nat × Nat))
    (h1 : ∀ l' ∈ e'.F, ∀ l, rho l' = some l → l ∈ e.F ∧ ∀ z s v, pval e' l' = some (.slice z s) → cval C a' w' l' = some v → pval e l = some (.slice z s) ∧ cval C a w l = some v)
    (hA : ∀ l' ∈ e'.F, ∀ l, rho l' = some l → ∀ z s v, pval e l = some (.slice z s) → cval C a w l = some v → Appv w g base z v → ∀ b, ownb v = some b → Appv w' g' base z v)
    (h2 : ∀ l ∈ e'.F, ∀ l' ∈ e'.F, ∀ k, rho l = some k → rho l' = some k → l = l')
    (h3 : ∀ l' ∈ e'.F, rho l' = none → ∀ z s v, pval e' l' = some (.slice z s) → cval C a' w' l' = some v → Appv w' g' base z v ∧ ∀ b, ownb v = some b →
      (∀ l ∈ e'.F, l ≠ l' → ∀ z s v, pval e' l = some (.slice z s) → cval C a' w' l = some v → ownb v ≠ some b))
    (h4 : ∀ l' ∈ e'.F, ∀ z s v b, pval e' l' = some (.slice z s) → cval C a' w' l' = some v → ownb v = some b → ∀ s' p, lkp e'.bx s' = some p → a'.tmps.getD s' undef ≠ .pointer (some ⟨b, 0, none⟩)) :
    OwnF C base e' a' w' g' := by
  refine ⟨?_, ?_, h4⟩
  · intro l' hl z s v hp hc
    cases hrho : rho l' with
    | none => exact (h3 l' hl hrho z s v hp hc).1
    | some l =>
      obtain ⟨hl2, hm⟩ := h1 l' hl l hrho
      obtain ⟨hp2, hc2⟩ := hm z s v hp hc
      have ha := h.app l hl2 z s v hp2 hc2
      cases ho : ownb v with
      | some b => exact hA l' hl l hrho z s v hp2 hc2 ha b ho
      | none => exact Appv.none ho
  · intro l hl l' hl' hne z s v z' s' v' b hp hc hp' hc' ho ho'
    cases hrho : rho l with
    | none => exact (h3 l hl hrho z s v hp hc).2 b ho l' hl' (Ne.symm hne) z' s' v' hp' hc' ho'
    | some k =>
      cases hrho' : rho l' with
      | none => exact (h3 l' hl' hrho' z' s' v' hp' hc').2 b ho' l hl hne z s v hp hc ho
      | some k' =>
        obtain ⟨hk, hm⟩ := h1 l hl k hrho
        obtain ⟨hk', hm'⟩ := h1 l' hl' k' hrho'
        have hkk : k ≠ k' := by intro e; subst e; exact hne (h2 l hl l' hl' k hrho hrho')
        exact h.uniq k hk k' hk' hkk z s v z' s' v' b (hm z s v hp hc).1 (hm z s v hp hc).2 (hm' z' s' v' hp' hc').1 (hm' z' s' v' hp' hc').2 ho ho'

end Go.Proofs.Ytielbjjdgdblcaa.Vm

/- Regions whose operations may go in any order: what the machine does. -/
import Derived.Test.YtielbjjdgdblcaaVm23
namespace Go.Proofs.Ytielbjjdgdblcaa.Vm
open Go
section
variable {C : Ctx} {ops : Array Oper} {Kf : List Nat} {Q : En → Prop} {base : Nat} {e e2 : En} {a : Act} {w : World} {g : Gh}

theorem REL.sub {F F' : List (Nat × Nat × Nat)} {t : List (Nat × Cl)} {bx : List (Nat × PV)} {H : List HObj} (hr : REL C base ⟨t, bx, H, F⟩ a w g) (hs : ∀ l ∈ F', l ∈ F) : REL C base ⟨t, bx, H, F'⟩ a w g :=
  ⟨hr.hb, hr.defers, hr.good, hr.t, hr.bx, hr.dist, own_sub (e' := ⟨t, bx, H, F⟩) hr.own hs⟩

theorem does_F {x : It} {d : Nat} {c : Cl} {F' : List (Nat × Nat × Nat)} (hx : Does C ops Kf x e d c F') : ∀ l ∈ F', l ∈ fnext C x.tr x.o e := by
  intro l hl
  cases hxa : x.ac with
  | true => rw [← hx.on hxa]; exact hl
  | false =>
    obtain ⟨h1, h2, h3⟩ := hx.off hxa
    refine (h3 e.t e.F).1 l ?_
    subst h1
    split
    · rename_i ho; rw [hx.ow ho] at hl; exact hl
    · exact mem_rmF.2 ⟨hl, fun h => h2 (h ▸ hx.keys.1 l hl)⟩

/-- An item, as the machine goes. -/
theorem does_wp {x : It} {i d : Nat} {c : Cl} {F' : List (Nat × Nat × Nat)} {K : Act → World → Prop} {QQ : Exit → Act → World → Prop} (hx : Does C ops Kf x e d c F') (hi : ops[i]? = some x.o) (hco : opChk C x.o = true)
    (hr : REL C base e a w g) (hn : a.tmps.size = C.n) (hK : ∀ a' w' g', ExtB base w g w' g' → REL C base (after1 e d c F') a' w' g' → a'.tmps.size = C.n → K a' w') : wpOp C.P ops QQ i K a w := by
  simp only [opChk, Bool.and_eq_true] at hco
  obtain ⟨hok, hgn⟩ := hco
  rw [← hn] at hok
  obtain ⟨b, hb, hf, ht, hac⟩ := hx.run
  have hw := wanted_sound hr hb
  unfold wpOp
  rw [hi]
  simp only [hw]
  have hnn : isNew x.o.op = false := by
    have := hx.val
    cases ho : x.o.op <;> simp_all [isVal, isNew]
  cases b with
  | false =>
    rw [if_neg (by simp)]
    have hc := hf rfl
    subst hc
    have hr' := skip_ok hr hok (.inl hnn)
    refine hK _ w g (ExtB.refl _ _ _) ?_ (by rw [put_size]; exact hn)
    have hxa : x.ac = false := by
      cases h : x.ac with
      | false => rfl
      | true => have := hac h; cases this
    obtain ⟨h1, h2, h3⟩ := hx.off hxa
    simp only [skipE, hx.dst] at hr'
    rw [hx.dst]
    refine REL.sub hr' ?_
    intro l hl
    subst h1
    split
    · rename_i ho; rw [hx.ow ho] at hl; exact hl
    · exact mem_rmF.2 ⟨hl, fun h => h2 (h ▸ hx.keys.1 l hl)⟩
  | true =>
    rw [if_pos rfl]
    left
    rcases ht rfl with ⟨h1, h2, h3⟩ | ⟨f, args, v, h1, h2, h3⟩
    · have hs : stepF C x.tr x.o e = some ⟨(d, c) :: e.t, e.bx, e.H, fnext C x.tr x.o e⟩ := by
        simp only [stepF, h2, if_true, h3, Option.map_some]
      obtain ⟨w', g', hext, hh⟩ := step_ok hr hok hs
      unfold Oper.wp
      rcases hh with ⟨v, hrun, hr'⟩ | ⟨hrun, hr'⟩
      · rw [hrun, Oper.upon_value]
        exact hK _ w' g' hext (REL.sub hr' (does_F hx)) (by rw [put_size]; exact hn)
      · rw [hrun, Oper.upon_skip]
        exact hK _ w' g' hext (REL.sub hr' (does_F hx)) (by rw [put_size]; exact hn)
    · refine call_ok hr (tr := x.tr) hok h1 h2 ?_
      intro a' w' g' hext hr' hsz
      subst h3
      have e1 : ({ put x.o (.v v) { e with H := e.H } with F := fnext C x.tr x.o e } : En) = ⟨(d, .v v) :: e.t, e.bx, e.H, fnext C x.tr x.o e⟩ := by simp [put, hx.dst]
      rw [e1] at hr'
      exact hK _ w' g' hext (REL.sub hr' (does_F hx)) (by rw [hsz]; exact hn)

/-- Which of two items stands first. -/
def ordered (ops : Array Oper) (p q : Nat × It) : Prop := p.1 < q.1 ∧ ((∃ e ∈ q.2.o.after, Region.binds .any e = true ∧ e.on = p.1) ∨ indep ops p.2 q.2 = true)

theorem any_sound (hQ : ∀ e e2, Same e e2 → Q e → Q e2) {QQ : Exit → Act → World → Prop} : ∀ (fuel : Nat) (l : List (Nat × It)) (listed : Array Bool) (e : En) (a : Act) (w : World) (g : Gh), l.length ≤ fuel →
    (∀ k, (∃ x, (k, x) ∈ l) ↔ listed.getD k true = false) → listed.size = ops.size → (∀ p ∈ l, ops[p.1]? = some p.2.o ∧ opChk C p.2.o = true ∧ ∀ e ∈ p.2.o.after, Region.binds .any e = true → e.on < p.1) →
    l.Pairwise (ordered ops) → opsD C ops Kf (l.map (·.2)) Q e → REL C base e a w g → a.tmps.size = C.n →
    (∀ e' a' w' g', Q e' → REL C base e' a' w' g' → a'.tmps.size = C.n → ExtB base w g w' g' → QQ .normal a' w') → wpAny C.P .any ops QQ fuel listed a w
  | 0, l, listed, e, a, w, g, hl, hm, _, _, _, h, hr, hn, hK => by
    have hnil : l = [] := by cases l with | nil => rfl | cons _ _ => simp at hl
    subst hnil
    refine ⟨?_, hK e a w g h hr hn (ExtB.refl _ _ _)⟩
    apply List.eq_nil_iff_forall_not_mem.2
    intro j hj
    obtain ⟨x, hx⟩ := (hm j).2 (mem_ready.1 hj).1
    cases hx
  | fuel + 1, l, listed, e, a, w, g, hl, hm, hsz, hc, hp, h, hr, hn, hK => by
    refine ⟨?_, ?_⟩
    · intro h0
      cases l with
      | nil => exact hK e a w g h hr hn (ExtB.refl _ _ _)
      | cons p r =>
        exfalso
        have hin : p.1 ∈ Region.ready .any ops listed := by
          refine mem_ready.2 ⟨(hm p.1).1 ⟨p.2, by simp⟩, p.2.o, (hc p (by simp)).1, ?_⟩
          intro ed hed hb
          have hlt := (hc p (by simp)).2.2 ed hed hb
          have hps : p.1 < listed.size := by rw [hsz]; exact (Array.getElem?_eq_some_iff.1 (hc p (by simp)).1).1
          cases hq : listed.getD ed.on false with
          | true => rfl
          | false =>
            exfalso
            have hon : ed.on < listed.size := by omega
            have : listed.getD ed.on true = false := by
              rw [Array.getD_eq_getD_getElem?] at hq ⊢
              simp only [hon, Array.getElem?_eq_getElem, Option.getD_some] at hq ⊢
              exact hq
            obtain ⟨y, hy⟩ := (hm ed.on).2 this
            rcases List.mem_cons.1 hy with hy | hy
            · rw [← hy] at hlt; exact Nat.lt_irrefl _ hlt
            · have := ((List.pairwise_cons.1 hp).1 _ hy).1
              simp only at this
              omega
        rw [h0] at hin
        cases hin
    · intro i hi
      obtain ⟨h1, o, h2, h3⟩ := mem_ready.1 hi
      obtain ⟨x, hx⟩ := (hm i).2 h1
      obtain ⟨l1, l2, rfl⟩ := List.append_of_mem hx
      have hpw := List.pairwise_append.1 hp
      have hind : ∀ y ∈ l1.map (·.2), indep ops y x = true := by
        intro y hy
        obtain ⟨q, hq, rfl⟩ := List.mem_map.1 hy
        rcases (hpw.2.2 q hq (i, x) (by simp)).2 with ⟨ed, hed, hb, hon⟩ | hi'
        · exfalso
          have ho : o = x.o := by have := (hc (i, x) hx).1; rw [h2] at this; cases this; rfl
          subst ho
          have hl1 := h3 ed hed hb
          have hl2 := (hm q.1).1 ⟨q.2, by simp [hq]⟩
          rw [hon] at hl1
          rw [Array.getD_eq_getD_getElem?] at hl1 hl2
          cases hz : listed[q.1]? with
          | none => rw [hz] at hl1; cases hl1
          | some b => rw [hz] at hl1 hl2; simp at hl1 hl2; rw [hl1] at hl2; cases hl2
        · exact hi'
      rw [List.map_append, List.map_cons] at h
      obtain ⟨d, c, F', hd, h⟩ := opsD_take hQ x (l2.map (·.2)) (l1.map (·.2)) e hind h
      refine does_wp hd (hc (i, x) hx).1 (hc (i, x) hx).2.1 hr hn ?_
      intro a' w' g' hext hr' hn'
      have hi_lt : i < listed.size := by rw [hsz]; exact (Array.getElem?_eq_some_iff.1 (hc (i, x) hx).1).1
      refine any_sound hQ fuel (l1 ++ l2) (listed.setIfInBounds i true) (after1 e d c F') a' w' g' ?_ ?_ ?_ ?_ ?_ ?_ hr' hn' ?_
      · simp at hl ⊢; omega
      · intro k
        by_cases hk : i = k
        · subst hk
          constructor
          · rintro ⟨y, hy⟩
            exfalso
            rcases List.mem_append.1 hy with hy | hy
            · have := (hpw.2.2 _ hy (i, x) (by simp)).1; simp at this
            · have := ((List.pairwise_cons.1 hpw.2.1).1 _ hy).1; simp at this
          · intro hq
            simp [hi_lt] at hq
        · rw [getD_set_ne true hk, ← hm k]
          constructor
          · rintro ⟨y, hy⟩
            refine ⟨y, ?_⟩
            rcases List.mem_append.1 hy with hy | hy
            · simp [hy]
            · simp [hy]
          · rintro ⟨y, hy⟩
            refine ⟨y, ?_⟩
            rcases List.mem_append.1 hy with hy | hy
            · simp [hy]
            · rcases List.mem_cons.1 hy with hy | hy
              · cases hy; exact absurd rfl hk
              · simp [hy]
      · simp [hsz]
      · intro p hp'
        refine hc p ?_
        rcases List.mem_append.1 hp' with hy | hy
        · simp [hy]
        · simp [hy]
      · exact hp.sublist ((List.sublist_cons_self _ _).append_left l1)
      · rw [List.map_append]; exact h
      · intro e' a2 w2 g2 k1 k2 k3 k4
        exact hK e' a2 w2 g2 k1 k2 k3 (hext.trans k4)

end
end Go.Proofs.Ytielbjjdgdblcaa.Vm

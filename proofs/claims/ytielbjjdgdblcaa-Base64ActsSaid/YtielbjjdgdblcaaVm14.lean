/- Stores to objects, new variables. -/
import Derived.Test.YtielbjjdgdblcaaVm13
namespace Go.Proofs.Ytielbjjdgdblcaa.Vm
open Go

section
variable {C : Ctx} {base : Nat} {e : En} {a : Act} {w : World} {g : Gh}

theorem own_sub {F' : List (Nat × Nat × Nat)} {e' : En} (h : OwnF C base e' a w g) (hs : ∀ l ∈ F', l ∈ e'.F) : OwnF C base { e' with F := F' } a w g :=
  ⟨fun l hl => h.app l (hs l hl), fun l hl l' hl' => h.uniq l (hs l hl) l' (hs l' hl'), fun l hl => h.box l (hs l hl)⟩

theorem ok_store_heap (hr : REL C base e a w g) {o : Oper} {ty : TypeId} {x ax : Operand} {T : Ty} {id off : Nat} {p : PV} {e' : En} (ho : o.op = .store ty ax x) (hod : o.dst = none) (hT : tyOf C.P ty = some T) (hA : adr e ax = some (.heap id off)) (hp : ev C.P e ty x = some p)
    (h : storeA e T p (.heap id off) = some e') {F' : List (Nat × Nat × Nat)} (hF : ∀ l ∈ F', l ∈ e.F) : StepOK C base o { e' with F := F' } a w g := by
  simp only [storeA] at h
  cases hob : e.H[id]? with
  | none => rw [hob] at h; cases h
  | some ob =>
    rw [hob] at h
    simp only at h
    split at h
    case isFalse => cases h
    rename_i hc
    obtain ⟨hn, h1, hle, hT0⟩ := hc
    cases h
    have hA' := adr_sound hr hA
    have hv := ev_sound hr hp
    generalize hax : a.eval ax = av at hA'
    cases hA' with
    | ptr _ _ b hb =>
      obtain ⟨hD, hrow⟩ := hr.good.obj id b ob hb hob
      have hD := hD (by intro h0; rw [h0] at hle; simp at hle; omega)
      obtain ⟨cs, cs', el, fz, w', hrun, hR, hfz, hold, hnew, _, _⟩ := run_store_row hT hrow hv hn h1 hle
      have hk := hR.keep0 hD
      have hbm : b ∈ g.io := List.mem_of_getElem? hb
      have hbxb : ∀ s p b', lkp e.bx s = some p → a.tmps.getD s undef = .pointer (some ⟨b', 0, none⟩) → b' ≠ b := by
        intro s p b' hs hb' h
        obtain ⟨_, _, b2, k1, _, _, k4, _⟩ := hr.bx s p hs
        rw [k1] at hb'; cases hb'
        rw [h] at k4
        exact k4 hbm
      have hrunO : (execOp a.eval o).run C.P w = .ok .skip w' := by
        simp only [execOp, ho, hax, Instr.storeAt, Instr.sureAddr, Sem.run_bind, Sem.run_pure, Result.andThen_ok, hrun]
      have hgood : Good w' g (e.H.set id { ob with cells := splice ob.cells off p.cells }) := by
        refine ⟨fun k hk' => hr.good.fresh k (by rw [← hR.size]; exact hk'), by simp [hr.good.len], hr.good.nodup, ?_⟩
        intro i k ob' hi ho'
        by_cases hid : i = id
        · subst hid
          rw [hb] at hi; cases hi
          have hlt : i < e.H.length := (List.getElem?_eq_some_iff.1 hob).1
          rw [List.getElem?_set_self hlt] at ho'
          cases ho'
          refine ⟨fun _ => hD, splice_one hrow.1 h1, cs', el, fz, hR.new, by rw [hR.sz]; exact hfz, hnew.1, fun j q u hq hu => (hnew.2 j q u hq hu).keep hk⟩
        · rw [List.getElem?_set_ne (fun h => hid h.symm)] at ho'
          obtain ⟨k1, k2⟩ := hr.good.obj i k ob' hi ho'
          refine ⟨k1, k2.keep hk (hR.other k ?_)⟩
          intro h; subst h
          exact hid (hr.good.nodup i id k hi hb)
      have hcv : ∀ l z t u, pval e l = some (.slice z t) → cval C a w' l = some u → cval C a w l = some u := by
        intro l z t u hpl hcl
        unfold cval at *
        split at hcl
        · rename_i hlb
          rw [if_pos hlb]
          cases hx : lkp e.bx l.1 with
          | none =>
            exfalso
            simp only [pval, hx] at hpl
            split at hpl
            · rename_i q hq
              exact (hr.t _ _ hq).1 hlb
            · cases hpl
          | some q =>
            obtain ⟨_, _, b2, k1, _⟩ := hr.bx l.1 q hx
            rw [k1] at hcl ⊢
            simp only at hcl ⊢
            rw [← hcl]
            exact (cell?_congr (hR.other b2 (hbxb l.1 q b2 hx k1))).symm
        · rename_i hlb
          rw [if_neg hlb]
          exact hcl
      refine ⟨w', g, ⟨hR.os, hR.tape, hR.output, by rw [hR.size]; exact Nat.le_refl _, fun k _ hki => hR.other k (by intro h; subst h; rcases hki with hki | hki; exact hki hbm; omega), fun _ _ _ => rfl, fun _ _ => Nat.le_refl _, [], by simp, by simp⟩, .inr ⟨hrunO, ?_⟩⟩
      rw [hod]
      refine ⟨by rw [hR.size]; exact hr.hb, hr.defers, hgood, ?_, ?_, hr.dist, ?_⟩
      · intro d c hc
        exact ⟨(hr.t d c hc).1, (hr.t d c hc).2.keep hk (fun _ _ => rfl)⟩
      · intro s p' hs
        obtain ⟨k1, k2, b2, k3, k4, k5, k6, k7⟩ := hr.bx s p' hs
        exact ⟨k1, k2, b2, k3, k4, k5, k6, k7.keep hk (hR.other b2 (hbxb s p' b2 hs k3))⟩
      · refine ⟨?_, ?_, ?_⟩
        · intro l hl z t u hpl hcl
          exact (hr.own.app l (hF l hl) z t u hpl (hcv l z t u hpl hcl)).row hR
        · intro l hl l' hl' hne z t u z' t' u' b2 q1 q2 q3 q4
          exact hr.own.uniq l (hF l hl) l' (hF l' hl') hne z t u z' t' u' b2 q1 (hcv l z t u q1 q2) q3 (hcv l' z' t' u' q3 q4)
        · intro l hl z t u b2 q1 q2
          exact hr.own.box l (hF l hl) z t u b2 q1 (hcv l z t u q1 q2)

/-- A new local variable. -/
theorem rel_newbox (hr : REL C base e a w g) {d : Nat} (hdb : d ∈ C.box) (hds : d < a.tmps.size) {p : PV} (h1 : ∀ c ∈ p.cells, c.one = true) (hnl : noLoc d e.t = true) {cs : Array Value} {el : TypeId} (hl : VRL w g p.cells cs.toList)
    {F' : List (Nat × Nat × Nat)} (hF : OwnF C base { e with bx := setb e.bx d p, F := F' } (a.put (some d) (.pointer (some ⟨w.heap.size, 0, none⟩))) (w.alloc (.cells cs el)) (g.up w.heap.size 0)) :
    REL C base { e with bx := setb e.bx d p, F := F' } (a.put (some d) (.pointer (some ⟨w.heap.size, 0, none⟩))) (w.alloc (.cells cs el)) (g.up w.heap.size 0) := by
  have hG := grow_alloc hr.good cs el 0
  have hk := hG.keep hr.good
  have hget : ∀ x, (a.put (some d) (.pointer (some ⟨w.heap.size, 0, none⟩))).tmps.getD x undef = if d = x then .pointer (some ⟨w.heap.size, 0, none⟩) else a.tmps.getD x undef := fun x => put_getD a d x _ hds
  have hnloc : ∀ (t : List (Nat × Cl)), noLoc d t = true → ∀ x s off, lkp t x = some (.loc s off) → s ≠ d := by
    intro t
    induction t with
    | nil => intro _ x s off h; cases h
    | cons c t ih =>
      intro hn x s off h
      obtain ⟨k, c⟩ := c
      simp only [lkp] at h
      cases c with
      | loc s' off' =>
        simp only [noLoc, Bool.and_eq_true, bne_iff_ne] at hn
        split at h
        · cases h; exact hn.1
        · exact ih hn.2 x s off h
      | v p =>
        simp only [noLoc] at hn
        split at h
        · cases h
        · exact ih hn x s off h
      | elem cs =>
        simp only [noLoc] at hn
        split at h
        · cases h
        · exact ih hn x s off h
      | und =>
        simp only [noLoc] at hn
        split at h
        · cases h
        · exact ih hn x s off h
  refine ⟨Nat.le_trans hr.hb hG.size, by rw [put_defers]; exact hr.defers, hr.good.grow hG, ?_, ?_, ?_, hF⟩
  · intro x c hc
    obtain ⟨k1, k2⟩ := hr.t x c hc
    have hxd : d ≠ x := by intro h; subst h; exact k1 hdb
    rw [hget x, if_neg hxd]
    refine ⟨k1, ?_⟩
    cases c with
    | und => trivial
    | v q => exact VR.keep hk k2
    | elem cs2 =>
      obtain ⟨b, o, hv, q1, q2⟩ := k2
      refine ⟨b, o, hv, q1, fun k' p hp => ?_⟩
      obtain ⟨u, hu, hlt, hr⟩ := q2 k' p hp
      exact ⟨u, by rw [hk.cell _ _ hlt]; exact hu, Nat.lt_of_lt_of_le hlt (hk.D _), hr.keep hk⟩
    | loc s off =>
      obtain ⟨m1, b, m2, m3⟩ := k2
      exact ⟨m1, b, by rw [hget s, if_neg (fun h => hnloc e.t hnl x s off hc h.symm)]; exact m2, m3⟩
  · intro s q hs
    rw [lkp_setb] at hs
    split at hs
    · rename_i he
      subst he
      cases hs
      refine ⟨hdb, by rw [put_size]; exact hds, w.heap.size, by rw [hget s, if_pos rfl], hr.hb, by simp [Gh.up], ?_, h1, cs, el, (0, 0), ?_, .inr (Nat.le_refl _), Nat.le_of_eq hl.1, fun i q u hq hu => (hl.2 i q u hq hu).keep hk⟩
      · intro hm
        have := io_lt hr.good hm
        omega
      · rw [heap_alloc_get, if_pos rfl]
    · rename_i hne
      obtain ⟨k1, k2, b, k3, k4, k5, k6, k7⟩ := hr.bx s q hs
      have hbl := bx_lt hr hs k3
      refine ⟨k1, by rw [put_size]; exact k2, b, by rw [hget s, if_neg (fun h => hne h.symm)]; exact k3, k4, ?_, k6, k7.keep hk (hG.block b hbl)⟩
      rw [hG.D b hbl]; exact k5
  · intro s s' b p1 p2 g1 g2 h3 h4
    rw [lkp_setb] at g1 g2
    rw [hget] at h3 h4
    split at g1
    · rename_i he
      subst he
      rw [if_pos rfl] at h3
      cases h3
      split at g2
      · rename_i he2; exact he2.symm
      · rename_i hne
        rw [if_neg (fun h => hne h.symm)] at h4
        have := bx_lt hr g2 h4
        omega
    · rename_i hne
      rw [if_neg (fun h => hne h.symm)] at h3
      split at g2
      · rename_i he2
        subst he2
        rw [if_pos rfl] at h4
        cases h4
        have := bx_lt hr g1 h3
        omega
      · rename_i hne2
        rw [if_neg (fun h => hne2 h.symm)] at h4
        exact hr.dist s s' b p1 p2 g1 g2 h3 h4

/-- Who may append, behind a new local variable. -/
theorem own_newbox (hr : REL C base e a w g) {d : Nat} (hdb : d ∈ C.box) (hds : d < a.tmps.size) {p : PV} {cs : Array Value} {el : TypeId} {F' : List (Nat × Nat × Nat)} (rho : Nat × Nat × Nat → Option (Nat × Nat × Nat))
    (h1 : ∀ l' ∈ F', (l'.1 ≠ d ∧ l' ∈ e.F ∧ rho l' = some l') ∨
      (l'.1 = d ∧ ∃ l ∈ e.F, rho l' = some l ∧ ∀ z s u, p.cells[l'.2.2]? = some (.slice z s) → cs[l'.2.2]? = some u → pval e l = some (.slice z s) ∧ cval C a w l = some u) ∨
      (l'.1 = d ∧ rho l' = none ∧ ∀ z s u, p.cells[l'.2.2]? = some (.slice z s) → cs[l'.2.2]? = some u → ownb u = none))
    (h2 : ∀ l ∈ F', ∀ l' ∈ F', ∀ k, rho l = some k → rho l' = some k → l = l') :
    OwnF C base { e with bx := setb e.bx d p, F := F' } (a.put (some d) (.pointer (some ⟨w.heap.size, 0, none⟩))) (w.alloc (.cells cs el)) (g.up w.heap.size 0) := by
  have hG := grow_alloc hr.good cs el 0
  have hget : ∀ x, (a.put (some d) (.pointer (some ⟨w.heap.size, 0, none⟩))).tmps.getD x undef = if d = x then .pointer (some ⟨w.heap.size, 0, none⟩) else a.tmps.getD x undef := fun x => put_getD a d x _ hds
  have hval : ∀ l' ∈ F', ∀ z s u, pval { e with bx := setb e.bx d p, F := F' } l' = some (.slice z s) → cval C (a.put (some d) (.pointer (some ⟨w.heap.size, 0, none⟩))) (w.alloc (.cells cs el)) l' = some u →
      (∃ l ∈ e.F, rho l' = some l ∧ pval e l = some (.slice z s) ∧ cval C a w l = some u) ∨ (rho l' = none ∧ ownb u = none) := by
    intro l' hl z s u hp hc
    have hd : l'.1 = d → p.cells[l'.2.2]? = some (.slice z s) ∧ cs[l'.2.2]? = some u := by
      intro hl'
      obtain ⟨l1, l2, l3⟩ := l'
      simp only at hl'; subst hl'
      simp only [pval, lkp_setb, if_true] at hp
      simp only [cval] at hc
      rw [if_pos hdb, hget, if_pos rfl] at hc
      simp only [World.cell?, heap_alloc_get, if_true, Nat.zero_add, Option.isSome_none, Bool.false_eq_true, if_false] at hc
      exact ⟨hp, hc⟩
    rcases h1 l' hl with ⟨k1, k2, k3⟩ | ⟨k1, l, k2, k3, k4⟩ | ⟨k1, k2, k3⟩
    · refine .inl ⟨l', k2, k3, ?_, ?_⟩
      · simp only [pval, lkp_setb] at hp
        rw [if_neg k1] at hp
        simpa only [pval] using hp
      · have hp' : pval e l' = some (.slice z s) := by
          simp only [pval, lkp_setb] at hp
          rw [if_neg k1] at hp
          simpa only [pval] using hp
        have hg2 : (a.put (some d) (.pointer (some ⟨w.heap.size, 0, none⟩))).tmps.getD l'.1 undef = a.tmps.getD l'.1 undef := by rw [hget, if_neg (fun h => k1 h.symm)]
        unfold cval at *
        rw [hg2] at hc
        split at hc
        · rename_i hb
          rw [if_pos hb]
          cases hx : lkp e.bx l'.1 with
          | none =>
            exfalso
            simp only [pval, hx] at hp'
            split at hp'
            · rename_i q hq
              exact (hr.t _ _ hq).1 hb
            · cases hp'
          | some q =>
            obtain ⟨_, _, b, m1, _⟩ := hr.bx l'.1 q hx
            rw [m1] at hc ⊢
            simp only at hc ⊢
            rw [← hc]
            exact (cell?_congr (hG.block b (bx_lt hr hx m1))).symm
        · rename_i hb
          rw [if_neg hb]
          exact hc
    · exact .inl ⟨l, k2, k3, k4 z s u (hd k1).1 (hd k1).2⟩
    · exact .inr ⟨k2, k3 z s u (hd k1).1 (hd k1).2⟩
  refine OwnF.map hr.own rho ?_ (fun _ _ _ _ _ _ _ _ _ ha _ _ => ha.grow hG) h2 ?_ ?_
  · intro l' hl l hrho
    have hm : l ∈ e.F := by
      rcases h1 l' hl with ⟨_, hm, hr2⟩ | ⟨_, l2, hm, hr2, _⟩ | ⟨_, hr2, _⟩
      · rw [hrho] at hr2; cases hr2; exact hm
      · rw [hrho] at hr2; cases hr2; exact hm
      · rw [hrho] at hr2; cases hr2
    refine ⟨hm, fun z s u hp hc => ?_⟩
    rcases hval l' hl z s u hp hc with ⟨l2, _, hr2, h4⟩ | ⟨hr2, _⟩
    · rw [hrho] at hr2; cases hr2; exact h4
    · rw [hrho] at hr2; cases hr2
  · intro l' hl hrho z s u hp hc
    rcases hval l' hl z s u hp hc with ⟨l2, _, hr2, h4⟩ | ⟨_, h5⟩
    · rw [hrho] at hr2; cases hr2
    · exact ⟨Appv.none h5, fun b hb => by rw [h5] at hb; cases hb⟩
  · intro l' hl z s u b hp hc hb s' p' hs' heq
    rw [lkp_setb] at hs'
    rw [hget] at heq
    rcases hval l' hl z s u hp hc with ⟨l3, hm3, _, hp3, hc3⟩ | ⟨_, h5⟩
    · split at hs'
      · rename_i he
        subst he
        rw [if_pos rfl] at heq
        cases heq
        have := (Appv.block (hr.own.app l3 hm3 z s u hp3 hc3) hb).2.1
        omega
      · rename_i hne
        rw [if_neg (fun h => hne h.symm)] at heq
        exact hr.own.box l3 hm3 z s u b hp3 hc3 hb s' p' hs' heq
    · rw [h5] at hb; cases hb

/-- A new object that pointers, or slices, lead to. -/
theorem rel_newobj (hr : REL C base e a w g) {d : Nat} (hdb : d ∉ C.box) (hds : d < a.tmps.size) {w' : World} {g1 : Gh} (hG : Grow w g w' g1) (hD0 : g1.D w.heap.size = 0) {cells : List PV} {ty : TypeId}
    (hrow : RowIs w' g1 w.heap.size cells) {q : PV} {v : Value} (hq : ∀ g2 : Gh, g2.io = g.io ++ [w.heap.size] → VR w' g2 q v)
    {F' : List (Nat × Nat × Nat)} (hF : ∀ l ∈ F', l ∈ e.F ∧ l.1 ≠ d) :
    REL C base { e with t := (d, .v q) :: e.t, H := e.H ++ [⟨ty, cells⟩], F := F' } (a.put (some d) v) w' ⟨g1.D, g.io ++ [w.heap.size]⟩ ∧
      ExtB base w g w' ⟨g1.D, g.io ++ [w.heap.size]⟩ := by
  have hsz : ∀ b ∈ g.io, b < w.heap.size := fun b hb => io_lt hr.good hb
  have hio1 : g1.io = g.io := hG.io
  have hk : Keep w g w' ⟨g1.D, g.io ++ [w.heap.size]⟩ := by
    have h := hG.keep hr.good
    refine ⟨h.cell, h.D, fun i b hi => ?_⟩
    rw [List.getElem?_append_left (List.getElem?_eq_some_iff.1 hi).1]
    exact hi
  have hk1 : Keep w' g1 w' ⟨g1.D, g.io ++ [w.heap.size]⟩ := by
    refine ⟨fun _ _ _ => rfl, fun _ => Nat.le_refl _, fun i b hi => ?_⟩
    rw [hio1] at hi
    rw [List.getElem?_append_left (List.getElem?_eq_some_iff.1 hi).1]
    exact hi
  have hgood : Good w' ⟨g1.D, g.io ++ [w.heap.size]⟩ (e.H ++ [⟨ty, cells⟩]) := by
    refine ⟨hG.fresh, by simp [hr.good.len], ?_, ?_⟩
    · intro i j b hi hj
      simp only at hi hj
      rw [List.getElem?_append] at hi hj
      split at hi
      · split at hj
        · exact hr.good.nodup i j b hi hj
        · rename_i h2
          have h3 := hsz b (List.mem_of_getElem? hi)
          have h4 := List.mem_of_getElem? hj
          simp at h4; omega
      · rename_i h1'
        split at hj
        · have h3 := hsz b (List.mem_of_getElem? hj)
          have h4 := List.mem_of_getElem? hi
          simp at h4; omega
        · have h3 := (List.getElem?_eq_some_iff.1 hi).1
          have h4 := (List.getElem?_eq_some_iff.1 hj).1
          simp at h3 h4
          omega
    · intro i b ob hi ho
      simp only at hi
      rw [List.getElem?_append] at hi ho
      rw [hr.good.len] at hi
      split at hi
      · rename_i hlt
        rw [if_pos hlt] at ho
        obtain ⟨k1, k2⟩ := hr.good.obj i b ob hi ho
        have hb := hsz b (List.mem_of_getElem? hi)
        refine ⟨fun hne => ?_, k2.keep hk (hG.block b hb)⟩
        show g1.D b = 0
        rw [hG.D b hb]; exact k1 hne
      · rename_i hge
        rw [if_neg hge] at ho
        have h3 := (List.getElem?_eq_some_iff.1 hi).1
        simp at h3
        have hi0 : i - e.H.length = 0 := by omega
        rw [hi0] at hi ho
        simp at hi ho
        subst hi
        subst ho
        exact ⟨fun _ => hD0, hrow.keep hk1 rfl⟩
  have hmild : Mild e a w g w' g1 e.H := hG.mild hr
  refine ⟨⟨Nat.le_trans hr.hb hG.size, by rw [put_defers]; exact hr.defers, hgood, ?_, ?_, ?_, ?_⟩, ⟨hG.os, hG.tape, hG.output, hG.size, fun b hb _ => hG.block b (by have := hr.hb; omega), fun b hb _ => hG.D b (by have := hr.hb; omega),
    fun b hb => Nat.le_of_eq (hG.D b (by have := hr.hb; omega)).symm, [w.heap.size], rfl, by simp; exact hr.hb⟩⟩
  · intro x c hc
    simp only [lkp_cons] at hc
    rw [put_getD a d x _ hds]
    have hbox : ∀ s, s ∈ C.box → (a.put (some d) v).tmps.getD s undef = a.tmps.getD s undef := by
      intro s hs
      rw [put_getD a d s _ hds, if_neg]
      intro h; subst h; exact hdb hs
    split at hc
    · rename_i hx
      cases hc
      subst hx
      rw [if_pos rfl]
      exact ⟨hdb, hq _ rfl⟩
    · rename_i hx
      rw [if_neg hx]
      exact ⟨(hr.t x c hc).1, (hr.t x c hc).2.keep hk hbox⟩
  · intro s p hs
    obtain ⟨k1, k2, b, k3, k4, k5, k6, k7⟩ := hr.bx s p hs
    have hbl := bx_lt hr hs k3
    have hne : d ≠ s := by intro h; subst h; exact hdb k1
    refine ⟨k1, by rw [put_size]; exact k2, b, by rw [put_getD a d s _ hds, if_neg hne]; exact k3, k4, ?_, ?_, k7.keep hk (hG.block b hbl)⟩
    · show g1.D b = 0
      rw [hG.D b hbl]; exact k5
    · simp only [List.mem_append, List.mem_singleton]
      rintro (h | h)
      · exact k6 h
      · omega
  · intro s s' b p1 p2 g1 g2 h3 h4
    have hne : ∀ s p, lkp e.bx s = some p → d ≠ s := by intro s p hs h; subst h; exact hdb (hr.bx _ p hs).1
    rw [put_getD a d s _ hds, if_neg (hne s p1 g1)] at h3
    rw [put_getD a d s' _ hds, if_neg (hne s' p2 g2)] at h4
    exact hr.dist s s' b p1 p2 g1 g2 h3 h4
  · have hold := own_put hr hG hds hdb (c := .v q) (v := v) (F' := F') some
      (fun l hl => .inl ⟨(hF l hl).2, (hF l hl).1, rfl⟩) (fun l _ l' _ k h1 h2 => by cases h1; cases h2; rfl) (fun l _ l' _ h1 => by cases h1)
    refine ⟨?_, hold.uniq, hold.box⟩
    intro l hl z s v' hp hc
    have ha := hold.app l hl z s v' hp hc
    have h5 : l ∈ e.F := (hF l hl).1
    have hmild2 := vals_old hr hmild hds (c := .v q) (v := v) (hF l hl).2 F'
    have hp' : pval e l = some (.slice z s) := by rw [← hmild2.1]; exact hp
    have hc' := hmild2.2 z s _ hp' hc
    have ha2 := hr.own.app l h5 z s _ hp' hc'
    unfold Appv at ha ha2 ⊢
    split at ha
    · rename_i ad n c
      simp only at ha2
      rcases ha2 with ha2 | ⟨_, _, _, _, cs3, e4, fz3, q5, _⟩
      · exact .inl ha2
      · rcases ha with ha | ⟨k1, k2, k3, k4, cs2, e3, fz2, k5, k6, k7⟩
        · exact .inl ha
        · refine .inr ⟨k1, ?_, k3, k4, cs2, e3, fz2, k5, k6, k7⟩
          rw [hio1] at k2
          simp only [List.mem_append, List.mem_singleton]
          rintro (h | h)
          · exact k2 h
          · have := (Array.getElem?_eq_some_iff.1 q5).1
            omega
    · trivial

/-- A new object that pointers lead to. -/
theorem rel_newesc (hr : REL C base e a w g) {d : Nat} (hdb : d ∉ C.box) (hds : d < a.tmps.size) {p : PV} (h1 : ∀ c ∈ p.cells, c.one = true) {cs : Array Value} {el ty : TypeId} (hl : VRL w g p.cells cs.toList)
    {F' : List (Nat × Nat × Nat)} (hF : ∀ l ∈ F', l ∈ e.F ∧ l.1 ≠ d) :
    REL C base { e with t := (d, .v (.ptr (some (e.H.length, 0)))) :: e.t, H := e.H ++ [⟨ty, p.cells⟩], F := F' } (a.put (some d) (.pointer (some ⟨w.heap.size, 0, none⟩))) (w.alloc (.cells cs el)) ⟨(g.up w.heap.size 0).D, g.io ++ [w.heap.size]⟩ ∧
      ExtB base w g (w.alloc (.cells cs el)) ⟨(g.up w.heap.size 0).D, g.io ++ [w.heap.size]⟩ := by
  have hG := grow_alloc hr.good cs el 0
  have hk := hG.keep hr.good
  refine rel_newobj hr hdb hds hG (by simp [Gh.up]) ?_ ?_ hF
  · refine ⟨h1, cs, el, (0, 0), ?_, .inr (Nat.le_refl _), Nat.le_of_eq hl.1, fun i q u hq hu => (hl.2 i q u hq hu).keep hk⟩
    rw [heap_alloc_get, if_pos rfl]
  · intro g2 h2
    refine .ptr _ _ _ ?_
    rw [h2, ← hr.good.len]
    simp

end
end Go.Proofs.Ytielbjjdgdblcaa.Vm

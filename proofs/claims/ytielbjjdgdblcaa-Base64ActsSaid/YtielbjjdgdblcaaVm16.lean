/- Calls of Go functions. -/
import Derived.Test.YtielbjjdgdblcaaVm15
namespace Go.Proofs.Ytielbjjdgdblcaa.Vm
open Go

/-- Which slices of a result may be appended to. -/
structure FreshRes (w : World) (g : Gh) (base : Nat) (fr : List (Nat × Nat)) (r : PV) (v : Value) : Prop where
  app : ∀ l ∈ fr, ∀ z s u, (compP r l.1).cells[l.2]? = some (.slice z s) → (compV v l.1).cells[l.2]? = some u → Appv w g base z u
  uniq : ∀ l ∈ fr, ∀ l' ∈ fr, l ≠ l' → ∀ z s u z' s' u' b, (compP r l.1).cells[l.2]? = some (.slice z s) → (compV v l.1).cells[l.2]? = some u → (compP r l'.1).cells[l'.2]? = some (.slice z' s') →
    (compV v l'.1).cells[l'.2]? = some u' → ownb u = some b → ownb u' ≠ some b

/-- A Go function that the machine enters. -/
def Enters (P : Program) (f : FuncId) : Prop := ∃ fn, P.funcs[f]? = some fn ∧ fn.body.isSome = true ∧ (fn.name == "runtime.NumGoroutine") = false

/-- CALLED with these values, and these objects, a function returns this one, and leaves these objects; nothing else that was there has changed. -/
def Run (P : Program) (fr : FuncId → List (Nat × Nat)) (f : FuncId) (args : List PV) (H : List HObj) (r : PV) (H' : List HObj) : Prop :=
  Enters P f ∧ ∀ (w : World) (g : Gh) (vs : List Value), Good w g H → VRL w g args vs → Calls P f vs.toArray w fun en w' =>
    ∃ v g', en = .returned v ∧ VR w' g' r v ∧ Good w' g' H' ∧ Ext w g w' g' ∧ FreshRes w' g' w.heap.size (fr f) r v

section
variable {C : Ctx} {base : Nat} {e : En} {a : Act} {w : World} {g : Gh}

theorem Appv.ext {w' : World} {g' : Gh} (h : Ext w g w' g') {z : Nat} {v : Value} (ha : Appv w g base z v) : Appv w' g' base z v := by
  unfold Appv at *
  split at ha
  · rename_i ad n c
    rcases ha with ha | ⟨k1, k2, k3, k4, cs2, e3, fz2, k5, k6, k7⟩
    · exact .inl ha
    · have hb : ad.block < w.heap.size := (Array.getElem?_eq_some_iff.1 k5).1
      obtain ⟨n', hn, hn'⟩ := h.io
      refine .inr ⟨k1, ?_, k3, by rw [h.D _ hb k2]; exact k4, cs2, e3, fz2, (h.block _ hb (.inl k2)).trans k5, k6, k7⟩
      rw [hn]
      intro hm
      rcases List.mem_append.1 hm with hm | hm
      · exact k2 hm
      · have := hn' _ hm; omega
  · trivial

theorem Appv.lower {b b' z : Nat} {v : Value} (h : Appv w g b z v) (hb : b' ≤ b) : Appv w g b' z v := by
  unfold Appv at *
  split at h
  · rcases h with h | ⟨k1, k2⟩
    · exact .inl h
    · exact .inr ⟨by omega, k2⟩
  · trivial

theorem Ext.mild (hr : REL C base e a w g) {w' : World} {g' : Gh} {H' : List HObj} (h : Ext w g w' g') (hg : Good w' g' H') : Mild e a w g w' g' H' := by
  refine ⟨h.size, h.keep hr.good, hg, ?_, ?_⟩
  · intro b hb hi
    obtain ⟨n, hn, hn'⟩ := h.io
    rw [hn]
    intro hm
    rcases List.mem_append.1 hm with hm | hm
    · exact hi hm
    · have := hn' _ hm; omega
  · intro s p b hs hb
    obtain ⟨_, _, b', h1, _, _, h2, _⟩ := hr.bx s p hs
    have h3 := bx_lt hr hs hb
    rw [h1] at hb; cases hb
    exact ⟨h.block b h3 (.inl h2), h.D b h3 h2⟩

theorem Ext.toB {w' : World} {g' : Gh} (h : Ext w g w' g') (hb : base ≤ w.heap.size) : ExtB base w g w' g' := by
  obtain ⟨n, hn, hn'⟩ := h.io
  exact ⟨h.os, h.tape, h.output, h.size, fun b hb' hi => h.block b (by omega) hi, fun b hb' hi => h.D b (by omega) hi, fun b hb' => h.Dle b (by omega), n, hn, fun b hb' => Nat.le_trans hb (hn' b hb')⟩

theorem zip_snd : ∀ (l : List TypeId) (m : List Operand), l.length = m.length → (List.zip l m).map (fun x => a.eval x.2) = m.map a.eval
  | [], [], _ => rfl
  | [], _ :: _, h => by simp at h
  | _ :: _, [], h => by simp at h
  | x :: l, y :: m, h => by simp [zip_snd l m (by simpa using h)]

theorem VRL.append {ps qs : List PV} {us vs : List Value} (h : VRL w g ps us) (k : VRL w g qs vs) : VRL w g (ps ++ qs) (us ++ vs) := by
  refine ⟨by simp [h.1, k.1], ?_⟩
  intro i p v hp hv
  rw [List.getElem?_append] at hp hv
  rw [h.1] at hp
  split at hp
  · rename_i hlt; rw [if_pos hlt] at hv; exact h.2 i p v hp hv
  · rename_i hge; rw [if_neg hge] at hv; exact k.2 _ p v hp hv

/-- What the machine enters at a call. -/
theorem call_enter (hr : REL C base e a w g) {o : Oper} {f : FuncId} {ps : List PV} (h : callOf C o e = some (f, ps)) (hen : Enters C.P f) :
    ∃ vs : List Value, VRL w g ps vs ∧ (execOp a.eval o).run C.P w = .ok (.enter f vs.toArray) w := by
  unfold callOf at h
  split at h
  · rename_i fo args tys hop
    split at h
    · rename_i f' first caps ps' hf hp
      split at h
      case isFalse => cases h
      rename_i hlen
      cases h
      obtain ⟨vf, vc, hv, hl1, hl2⟩ := vr_func (ev_sound hr hf)
      have hl3 := evs_sound hr _ _ hp
      rw [zip_snd _ _ hlen] at hl3
      refine ⟨vf.toList ++ args.toList.map a.eval ++ vc.toList, (hl1.append hl3).append hl2, ?_⟩
      obtain ⟨fn, h1, h2, h3⟩ := hen
      have h2' : fn.body.isNone = false := by cases hb : fn.body <;> simp_all
      have e1 : (vf.toList ++ args.toList.map a.eval ++ vc.toList).toArray = vf ++ args.map a.eval ++ vc := by
        apply Array.toList_inj.1
        simp
      rw [e1]
      simp only [execOp, hop, resolve, hv, Deferred.ofValue, Sem.run_bind, Sem.run_pure, Result.andThen_ok, invoke, callFunc, run_program, h1, h3, Bool.false_eq_true, if_false, h2']
    · cases h
  · cases h

/-- Behind a call. -/
theorem call_ok (hr : REL C base e a w g) {o : Oper} {tr : Bool} {f : FuncId} {ps : List PV} {r : PV} {H' : List HObj} (hok : OpOK C a.tmps.size o = true) (h : callOf C o e = some (f, ps)) (hrun : Run C.P C.fr f ps e.H r H') {K : Act → World → Prop} {Q : Exit → Act → World → Prop}
    (hK : ∀ a' w' g', ExtB base w g w' g' → REL C base { put o (.v r) { e with H := H' } with F := fnext C tr o e } a' w' g' → a'.tmps.size = a.tmps.size → K a' w') : o.wp C.P a w K Q := by
  obtain ⟨vs, hvs, hex⟩ := call_enter hr h hrun.1
  unfold Oper.wp
  rw [hex, Oper.upon_enter]
  refine (hrun.2 w g vs hr.good hvs).mono ?_
  rintro en w' ⟨v, g', rfl, hv, hg, hext, hfresh⟩
  refine hK _ w' g' (hext.toB hr.hb) ?_ (put_size _ _ _)
  have hm := hext.mild hr hg
  have hop : ∃ c args tys, o.op = .call { callee := .value c, args, argTypes := tys } := by
    unfold callOf at h
    split at h
    · rename_i fo args tys hop; exact ⟨_, _, _, hop⟩
    · cases h
  obtain ⟨c, args, tys, hop⟩ := hop
  have hnew : isNew o.op = false := by rw [hop]; rfl
  have hd : DstOK C o a := by
    intro d hd
    simp only [OpOK, hd, Bool.and_eq_true, decide_eq_true_eq, hnew, Bool.false_or] at hok
    exact ⟨hok.1.1, hok.1.2⟩
  have e0 : ({ put o (.v r) { e with H := H' } with F := fnext C tr o e } : En) = { put o (.v r) e with F := fnext C tr o e, H := H' } := by
    cases hdd : o.dst <;> simp [put, hdd]
  rw [e0]
  refine rel_put' hr hm hd (c := .v r) hv ?_
  cases hdd : o.dst with
  | none =>
    have e1 : ({ put o (.v r) e with F := fnext C tr o e, H := H' } : En) = { e with F := fnext C tr o e, H := H' } := by simp [put, hdd]
    rw [e1]
    have hF : ∀ l ∈ fnext C tr o e, l ∈ e.F := by
      intro l hl
      unfold fnext at hl
      split at hl
      · cases hl
      · rw [hop, hdd] at hl
        cases c <;> exact hl
    have hval : ∀ l z s u, pval e l = some (.slice z s) → cval C a w' l = some u → cval C a w l = some u := by
      intro l z s u hp hc
      unfold cval at *
      split at hc
      · rename_i hb
        rw [if_pos hb]
        cases hx : lkp e.bx l.1 with
        | none =>
          exfalso
          simp only [pval, hx] at hp
          split at hp
          · rename_i q hq
            exact (hr.t _ _ hq).1 hb
          · cases hp
        | some p =>
          obtain ⟨_, _, b, h1, _⟩ := hr.bx l.1 p hx
          rw [h1] at hc ⊢
          simp only at hc ⊢
          rw [← hc]
          exact (cell?_congr (hm.bx l.1 p b hx h1).1).symm
      · rename_i hb
        rw [if_neg hb]
        exact hc
    exact ⟨fun l hl z s v hp hc => (hr.own.app l (hF l hl) z s v hp (hval l z s v hp hc)).ext hext,
      fun l hl l' hl' hne z s v z' s' v' b hp hc hp' hc' => hr.own.uniq l (hF l hl) l' (hF l' hl') hne z s v z' s' v' b hp (hval l z s v hp hc) hp' (hval l' z' s' v' hp' hc'),
      fun l hl z s v b hp hc => hr.own.box l (hF l hl) z s v b hp (hval l z s v hp hc)⟩
  | some d =>
    have e1 : ({ put o (.v r) e with F := fnext C tr o e, H := H' } : En) = { e with t := (d, .v r) :: e.t, F := fnext C tr o e, H := H' } := by simp [put, hdd]
    rw [e1]
    have hF : ∀ l ∈ fnext C tr o e, (l.1 ≠ d ∧ l ∈ e.F) ∨ (l.1 = d ∧ l.2 ∈ C.fr f) := by
      intro l hl
      unfold fnext at hl
      split at hl
      · cases hl
      · rw [hop, hdd] at hl
        cases c with
        | func f' =>
          have hff : f' = f := by
            unfold callOf at h
            rw [hop] at h
            simp only [ev] at h
            split at h
            · split at h
              · rename_i hq _ _; cases hq; cases h; rfl
              · cases h
            · cases h
          subst hff
          rcases List.mem_append.1 hl with hl | hl
          · obtain ⟨y, hy, rfl⟩ := List.mem_map.1 hl
            exact .inr ⟨rfl, hy⟩
          · exact .inl ⟨(mem_rmF.1 hl).2, (mem_rmF.1 hl).1⟩
        | _ => exact .inl ⟨(mem_rmF.1 hl).2, (mem_rmF.1 hl).1⟩
    refine own_put' hr hm (fun _ _ ha => ha.ext hext) (hd d hdd).1 (hd d hdd).2 (fun l => if l.1 = d then none else some l) ?_ ?_ ?_
    · intro l hl
      rcases hF l hl with ⟨k1, k2⟩ | ⟨k1, k2⟩
      · exact .inl ⟨k1, k2, by simp [k1]⟩
      · refine .inr (.inr ⟨k1, by simp [k1], ?_⟩)
        intro z s u hp hc
        have ha := hfresh.app l.2 k2 z s u hp hc
        exact ⟨ha.lower hr.hb, fun b hb => (Appv.block ha hb).1⟩
    · intro l _ l' _ k h1 h2
      split at h1
      · cases h1
      · split at h2
        · cases h2
        · cases h1; cases h2; rfl
    · intro l hl l' hl' h1 h2 hne z s u z' s' u' b p1 p2 p3 p4
      split at h1
      · rename_i q1
        split at h2
        · rename_i q2
          rcases hF l hl with ⟨k1, _⟩ | ⟨k1, k2⟩
          · exact absurd q1 k1
          · rcases hF l' hl' with ⟨k3, _⟩ | ⟨k3, k4⟩
            · exact absurd q2 k3
            · exact hfresh.uniq l.2 k2 l'.2 k4 (by intro h; exact hne (Prod.ext (k1.trans k3.symm) h)) z s u z' s' u' b p1 p2 p3 p4
        · cases h2
      · cases h1

end
end Go.Proofs.Ytielbjjdgdblcaa.Vm

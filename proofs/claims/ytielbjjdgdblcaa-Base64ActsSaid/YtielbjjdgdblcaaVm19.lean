/- From the code of a function to what a call of it does. -/
import Derived.Test.YtielbjjdgdblcaaVm18
namespace Go.Proofs.Ytielbjjdgdblcaa.Vm
open Go

def PV.isTup : PV → Bool
  | .tup _ => true
  | _ => false

def resOne (C : Ctx) (e : En) : ResultVar → Option PV
  | .tmp t => match lkp e.t t with | some (.v p) => if p.isTup = true then none else some p | _ => none
  | .cell t ty => match lkp e.bx t, tyOf C.P ty with | some _, some T => loadA e T (.loc t 0) | _, _ => none

def resAll (C : Ctx) (e : En) : List ResultVar → Option (List PV)
  | [] => some []
  | r :: rs => match resOne C e r, resAll C e rs with
    | some p, some ps => if p.isTup = true then none else some (p :: ps)
    | _, _ => none

def resP (C : Ctx) (e : En) (rs : List ResultVar) : Option PV :=
  match resAll C e rs with
  | some [p] => some p
  | some ps => some (.tup ps)
  | none => none

def resTmp : ResultVar → Nat
  | .tmp t => t
  | .cell t _ => t

/-- The results that may be appended to. -/
def frOK (C : Ctx) (rs : List ResultVar) (e : En) (fr : List (Nat × Nat)) : Bool :=
  fr.all fun l => match rs[l.1]? with
    | some (.tmp t) => e.F.contains (t, 0, l.2)
    | some (.cell t ty) => e.F.contains (t, 0, l.2) && (match tyOf C.P ty with | some T => decide (l.2 < T.size) | none => false)
    | none => false

def initE (args : List PV) (H : List HObj) : En := { t := (List.range args.length).zip (args.map Cl.v), bx := [], H := H, F := [] }

/-- How a function's code must end. -/
def endQ (C : Ctx) (rs : List ResultVar) (fr : List (Nat × Nat)) (r : PV) (H' : List HObj) : Ex → En → Prop
  | .exit _, _ => False
  | _, e => resP C e rs = some r ∧ e.H = H' ∧ frOK C rs e fr = true

section
variable {C : Ctx} {W : Wk} {base : Nat} {e : En} {a : Act} {w : World} {g : Gh}

theorem lkp_zip (d : Nat) (c : Cl) : ∀ (n : Nat) (vs : List Cl), lkp ((List.range' n vs.length).zip vs) d = some c → n ≤ d ∧ vs[d - n]? = some c
  | _, [], h => by cases h
  | n, v :: vs, h => by
    simp only [List.length_cons, List.range'_succ, List.zip_cons_cons, lkp_cons] at h
    split at h
    · rename_i hn; cases h; subst hn; simp
    · rename_i hn
      obtain ⟨h1, h2⟩ := lkp_zip d c (n + 1) vs h
      refine ⟨by omega, ?_⟩
      rw [show d - n = (d - (n + 1)) + 1 by omega]
      simpa using h2

theorem init_rel {args : List PV} {H : List HObj} {vs : List Value} (hg : Good w g H) (hv : VRL w g args vs) (hb : ∀ s ∈ C.box, args.length ≤ s) (n : Nat) :
    REL C w.heap.size (initE args H) { tmps := vs.toArray ++ Array.replicate n undef, defers := [] } w g := by
  refine ⟨Nat.le_refl _, rfl, hg, ?_, ?_, ?_, ?_, ?_, ?_⟩
  · intro d c h
    simp only [initE, List.range_eq_range'] at h
    have h' : lkp ((List.range' 0 (args.map Cl.v).length).zip (args.map Cl.v)) d = some c := by simpa using h
    obtain ⟨_, h2⟩ := lkp_zip d c 0 _ h'
    simp only [Nat.sub_zero, List.getElem?_map] at h2
    cases hp : args[d]? with
    | none => rw [hp] at h2; cases h2
    | some p =>
      rw [hp] at h2; cases h2
      have hd : d < args.length := (List.getElem?_eq_some_iff.1 hp).1
      refine ⟨fun hm => by have := hb d hm; omega, ?_⟩
      have hd' : d < vs.length := by rw [← hv.1]; exact hd
      have : (vs.toArray ++ Array.replicate n undef).getD d undef = vs[d] := by
        rw [Array.getD_eq_getD_getElem?, Array.getElem?_append_left (by simpa using hd')]
        simp [hd']
      rw [this]
      exact hv.2 d p vs[d] hp (by simp [hd'])
  · intro s p h; cases h
  · intro s s' b p p' h; cases h
  · intro l hl; cases hl
  · intro l hl; cases hl
  · intro l hl; cases hl

/-- One result variable. -/
theorem resOne_sound (hr : REL C base e a w g) {r : ResultVar} {p : PV} (h : resOne C e r = some p) :
    ∃ v, ((match r with | .tmp t => pure (a.tmps.getD t undef) | .cell ad t => do loadVar t (← asAddr (a.tmps.getD ad undef)) : Sem Value)).run C.P w = .ok v w ∧ VR w g p v ∧
      ∀ k z s u, (match r with | .tmp _ => True | .cell _ ty => ∃ T, tyOf C.P ty = some T ∧ k < T.size) → p.cells[k]? = some (.slice z s) → v.cells[k]? = some u → pval e (resTmp r, 0, k) = some (.slice z s) ∧ cval C a w (resTmp r, 0, k) = some u := by
  cases r with
  | tmp t =>
    simp only [resOne] at h
    split at h
    · rename_i q hq
      split at h
      · cases h
      · rename_i hnt
        cases h
        refine ⟨_, rfl, (hr.t t _ hq).2, ?_⟩
        intro k z s u _ hp hv
        have hnb : t ∉ C.box := (hr.t t _ hq).1
        have hx : lkp e.bx t = none := by
          cases hx : lkp e.bx t with
          | none => rfl
          | some p' => exact absurd (hr.bx _ _ hx).1 hnb
        have hc : compP p 0 = p := by cases p <;> first | rfl | (simp [PV.isTup] at hnt)
        constructor
        · simp only [pval, resTmp, hx, hq, hc]; exact hp
        · simp only [cval, resTmp, hnb, if_false]
          have hcv : compV (a.tmps.getD t undef) 0 = a.tmps.getD t undef := by
            have hvr := (hr.t t _ hq).2
            simp only [ClR] at hvr
            generalize a.tmps.getD t undef = v0 at *
            cases hvr with
            | tup cs vs _ _ => simp [PV.isTup] at hnt
            | opq v0 h0 => simp [PV.cells] at hp; cases k <;> simp at hp
            | _ => rfl
          rw [hcv]; exact hv
    · cases h
  | cell t ty =>
    simp only [resOne] at h
    split at h
    · rename_i q T hq hT
      obtain ⟨hbox, hsz, b, h1, _⟩ := hr.bx t q hq
      have hA : AdrR C a w g (.loc t 0) (a.tmps.getD t undef) := ⟨hbox, b, h1, h1⟩
      obtain ⟨b', off, cs, hv, hc, hm, h1'⟩ := loadA_cells hr hA h
      obtain ⟨v, k1, k2, k3⟩ := run_loadV hT hm hc h1'
      have hbb : b' = b ∧ off = 0 := by rw [h1] at hv; cases hv; exact ⟨rfl, rfl⟩
      obtain ⟨rfl, rfl⟩ := hbb
      refine ⟨v, ?_, k2, ?_⟩
      · simp only [hv, asAddr, Sem.run_bind, Sem.run_pure, Result.andThen_ok, k1]
      · intro k z s u hk hp hu
        obtain ⟨T', hT', hk⟩ := hk
        rw [hT] at hT'; cases hT'
        constructor
        · simp only [pval, resTmp, hq]
          simp only [loadA, hq] at h
          unfold mkv at h
          split at h
          · split at h
            · cases h
              have hp' : ((q.cells.drop 0).take T.size)[k]? = some (.slice z s) := hp
              simpa using (take_drop_get hp').1
            · split at h
              · rename_i x hx
                cases h
                have hp1 : p.cells = [p] := by
                  have := h1' 
                  have h1p : p.one = true := by
                    have hmem : p ∈ q.cells := by
                      have : p ∈ ((q.cells.drop 0).take T.size) := by rw [hx]; simp
                      exact List.mem_of_mem_drop (List.mem_of_mem_take this)
                    obtain ⟨_, _, _, _, _, _, _, hR⟩ := hr.bx t q hq
                    exact hR.1 p hmem
                  cases p <;> first | rfl | (simp [PV.one] at h1p)
                rw [hp1] at hp
                have hp' : ((q.cells.drop 0).take T.size)[k]? = some (.slice z s) := by rw [hx]; exact hp
                simpa using (take_drop_get hp').1
              · cases h
          · cases h
        · simp only [cval, resTmp, hbox, if_true, h1]
          rw [← k3 k hk]
          exact hu
    · cases h

theorem resAll_sound (hr : REL C base e a w g) : ∀ (rs : List ResultVar) (ps : List PV), resAll C e rs = some ps →
    ∃ vs : List Value, (rs.mapM (fun r => (match r with | .tmp t => pure (a.tmps.getD t undef) | .cell ad t => do loadVar t (← asAddr (a.tmps.getD ad undef)) : Sem Value))).run C.P w = .ok vs w ∧ VRL w g ps vs ∧ rs.length = ps.length ∧ (∀ p ∈ ps, p.isTup = false) ∧
      ∀ (i : Nat) (r : ResultVar) p v, rs[i]? = some r → ps[i]? = some p → vs[i]? = some v → ∀ k z s u, (match r with | .tmp _ => True | .cell _ ty => ∃ T, tyOf C.P ty = some T ∧ k < T.size) →
        p.cells[k]? = some (.slice z s) → v.cells[k]? = some u → pval e (resTmp r, 0, k) = some (.slice z s) ∧ cval C a w (resTmp r, 0, k) = some u
  | [], ps, h => by
    cases h
    exact ⟨[], rfl, ⟨rfl, fun i p v h => by simp at h⟩, rfl, by simp, fun i r p v h => by simp at h⟩
  | r :: rs, ps, h => by
    simp only [resAll] at h
    split at h
    · rename_i p ps' hp hps
      split at h
      · cases h
      rename_i hnt
      cases h
      obtain ⟨v, h1, h2, h3⟩ := resOne_sound hr hp
      obtain ⟨vs, k1, k2, k3, k5, k4⟩ := resAll_sound hr rs ps' hps
      refine ⟨v :: vs, ?_, ?_, by simp [k3], (by intro q hq; rcases List.mem_cons.1 hq with rfl | hq; exact Bool.eq_false_iff.2 hnt; exact k5 q hq), ?_⟩
      · simp only [List.mapM_cons, Sem.run_bind, h1, Result.andThen_ok, k1, Sem.run_pure]
      · refine ⟨by simp [k2.1], ?_⟩
        intro i q u hq hu
        cases i with
        | zero => simp at hq hu; subst hq; subst hu; exact h2
        | succ i => exact k2.2 i q u (by simpa using hq) (by simpa using hu)
      · intro i r' q u hr' hq hu
        cases i with
        | zero => simp at hr' hq hu; subst hr'; subst hq; subst hu; exact h3
        | succ i => exact k4 i r' q u (by simpa using hr') (by simpa using hq) (by simpa using hu)
    · cases h

theorem compV_slice {p : PV} {u : Value} (h : VR w g p u) (ht : p.isTup = false) {k z c : Nat} {s : List PV} (hp : p.cells[k]? = some (.slice z s)) : compV u c = u := by
  cases h with
  | tup cs vs _ _ => simp [PV.isTup] at ht
  | opq v0 h0 => simp [PV.cells] at hp; cases k <;> simp at hp
  | _ => rfl

theorem resP_sound (hr : REL C base e a w g) {fn : Func} {r : PV} (h : resP C e fn.results.toList = some r) {fr : List (Nat × Nat)} (hnd : (fn.results.toList.map resTmp).Nodup)
    (hf : frOK C fn.results.toList e fr = true) : ∃ v, (results fn a.tmps).run C.P w = .ok v w ∧ VR w g r v ∧ FreshRes w g base fr r v := by
  unfold resP at h
  obtain ⟨ps, hps⟩ : ∃ ps, resAll C e fn.results.toList = some ps := by
    cases hq : resAll C e fn.results.toList with
    | none => rw [hq] at h; cases h
    | some ps => exact ⟨ps, rfl⟩
  rw [hps] at h
  obtain ⟨vs, h1, h2, h3, h5, h4⟩ := resAll_sound hr _ ps hps
  have hrun : ∀ v, v = (if h : vs.toArray.size = 1 then vs.toArray[0] else .tuple vs.toArray) → (results fn a.tmps).run C.P w = .ok v w := by
    rintro v rfl
    unfold results
    rw [Array.mapM_eq_mapM_toList]
    have h1m : (List.toArray <$> List.mapM (m := Sem) (fun r => (match r with | .tmp t => pure (a.tmps.getD t undef) | .cell ad t => do loadVar t (← asAddr (a.tmps.getD ad undef)) : Sem Value)) fn.results.toList).run C.P w = .ok vs.toArray w := by
      rw [map_eq_pure_bind, Sem.run_bind, h1, Result.andThen_ok, Sem.run_pure]
    rw [Sem.run_bind]
    refine (congrArg (fun x => Result.andThen x _) h1m).trans ?_
    rfl
  obtain ⟨v, hv⟩ : ∃ v, v = (if h : vs.toArray.size = 1 then vs.toArray[0] else .tuple vs.toArray) := ⟨_, rfl⟩
  refine ⟨v, hrun v hv, ?_⟩
  have hlen := h2.1
  have hsize : vs.toArray.size = vs.length := by simp
  -- a part that may be appended to
  have hpart : VR w g r v ∧ ∀ (i : Nat), i < ps.length → (∀ (k z : Nat) (s : List PV), (compP r i).cells[k]? = some (PV.slice z s) → ∃ p, ps[i]? = some p ∧ p.cells[k]? = some (PV.slice z s) ∧
      ∀ u : Value, (compV v i).cells[k]? = some u → ∃ x, vs[i]? = some x ∧ x.cells[k]? = some u) := by
    by_cases h1' : ps.length = 1
    · obtain ⟨p, rfl⟩ : ∃ p, ps = [p] := by
        match ps, h1' with
        | [p], _ => exact ⟨p, rfl⟩
      obtain ⟨u, rfl⟩ : ∃ u, vs = [u] := by
        match vs, hlen with
        | [u], _ => exact ⟨u, rfl⟩
      simp only [Option.some.injEq] at h
      subst h
      have hv' : v = u := by rw [hv]; rfl
      subst hv'
      have hvr := h2.2 0 p v rfl rfl
      have hnt := h5 p (by simp)
      refine ⟨hvr, ?_⟩
      intro i hi k z s hk
      have hi0 : i = 0 := by simp at hi; exact hi
      subst hi0
      have hc : compP p 0 = p := by cases p <;> first | rfl | (simp [PV.isTup] at hnt)
      rw [hc] at hk
      exact ⟨p, rfl, hk, fun u hu => ⟨v, rfl, by rw [compV_slice hvr hnt hk] at hu; exact hu⟩⟩
    · have hr' : r = .tup ps := by
        match ps, h1', h with
        | [], _, h => simp at h; exact h.symm
        | _ :: _ :: _, _, h => simp at h; exact h.symm
      subst hr'
      have hv' : v = .tuple vs.toArray := by rw [hv, dif_neg (by rw [hsize, ← hlen]; exact h1')]
      subst hv'
      refine ⟨.tup ps vs h2.1 h2.2, ?_⟩
      intro i hi k z s hk
      obtain ⟨p, hp⟩ : ∃ p, ps[i]? = some p := ⟨ps[i], by simp [hi]⟩
      have hvi : i < vs.length := by rw [← hlen]; exact hi
      refine ⟨p, hp, ?_, ?_⟩
      · simp only [compP, List.getD_eq_getElem?_getD, hp, Option.getD_some] at hk; exact hk
      · intro u hu
        refine ⟨vs[i], by simp [hvi], ?_⟩
        have e1 : compV (.tuple vs.toArray) i = vs[i] := by
          simp only [compV, Array.getD_eq_getD_getElem?]
          simp [hvi]
        rw [e1] at hu
        exact hu
  refine ⟨hpart.1, ?_⟩
  have hloc : ∀ l ∈ fr, ∃ rv, fn.results.toList[l.1]? = some rv ∧ (resTmp rv, 0, l.2) ∈ e.F ∧ ∀ (z : Nat) (s : List PV) (u : Value), (compP r l.1).cells[l.2]? = some (PV.slice z s) → (compV v l.1).cells[l.2]? = some u →
      pval e (resTmp rv, 0, l.2) = some (.slice z s) ∧ cval C a w (resTmp rv, 0, l.2) = some u := by
    intro l hl
    simp only [frOK, List.all_eq_true] at hf
    have hfl := hf l hl
    cases hq : fn.results.toList[l.1]? with
    | none => rw [hq] at hfl; cases hfl
    | some rv =>
      rw [hq] at hfl
      have hlt : l.1 < ps.length := by rw [← h3]; exact (List.getElem?_eq_some_iff.1 hq).1
      refine ⟨rv, rfl, ?_, ?_⟩
      · cases rv with
        | tmp t => simpa [resTmp] using hfl
        | cell t ty => simp only [Bool.and_eq_true] at hfl; simpa [resTmp] using hfl.1
      · intro z s u hk hu
        obtain ⟨p, k1, k2, k3⟩ := hpart.2 l.1 hlt l.2 z s hk
        obtain ⟨x, k4, k5⟩ := k3 u hu
        refine h4 l.1 rv p x hq k1 k4 l.2 z s u ?_ k2 k5
        cases rv with
        | tmp t => trivial
        | cell t ty =>
          simp only [Bool.and_eq_true] at hfl
          have h6 := hfl.2
          split at h6
          · rename_i T hT; exact ⟨T, hT, by simpa using h6⟩
          · cases h6
  refine ⟨?_, ?_⟩
  · intro l hl z s u hk hu
    obtain ⟨rv, _, h7, h8⟩ := hloc l hl
    obtain ⟨h9, h10⟩ := h8 z s u hk hu
    exact hr.own.app _ h7 z s u h9 h10
  · intro l hl l' hl' hne z s u z' s' u' b hk hu hk' hu'
    obtain ⟨rv, q1, h7, h8⟩ := hloc l hl
    obtain ⟨rv', q1', h7', h8'⟩ := hloc l' hl'
    obtain ⟨h9, h10⟩ := h8 z s u hk hu
    obtain ⟨h9', h10'⟩ := h8' z' s' u' hk' hu'
    refine hr.own.uniq _ h7 _ h7' ?_ z s u z' s' u' b h9 h10 h9' h10'
    intro heq
    simp only [Prod.mk.injEq, true_and] at heq
    apply hne
    refine Prod.ext ?_ heq.2
    have m1 : (fn.results.toList.map resTmp)[l.1]? = some (resTmp rv) := by simp only [List.getElem?_map, q1, Option.map_some]
    have m2 : (fn.results.toList.map resTmp)[l'.1]? = some (resTmp rv') := by simp only [List.getElem?_map, q1', Option.map_some]
    obtain ⟨i1, i2⟩ := List.getElem?_eq_some_iff.1 m1
    obtain ⟨j1, j2⟩ := List.getElem?_eq_some_iff.1 m2
    have hpw := List.pairwise_iff_getElem.1 hnd
    rcases Nat.lt_trichotomy l.1 l'.1 with hlt | he | hlt
    · exact absurd (by rw [i2, j2]; exact heq.1) (hpw l.1 l'.1 i1 j1 hlt)
    · exact he
    · exact absurd (by rw [i2, j2]; exact heq.1.symm) (hpw l'.1 l.1 j1 i1 hlt)

/-- What is checked of a function once for all. -/
def chkFn (C : Ctx) (fn : Func) (nargs : Nat) : Bool :=
  (match fn.body with | some c => chkCode C c | none => false) && fn.ntmps == C.n && !(fn.name == "runtime.NumGoroutine") && decide (nargs ≤ C.n) && C.box.all (fun s => decide (nargs ≤ s)) &&
    decide (fn.results.toList.map resTmp).Nodup

/-- From the code to the call. -/
theorem run_of_body {f : FuncId} {fn : Func} {c : Code} (hf : C.P.funcs[f]? = some fn) (hb : fn.body = some c) {args : List PV} {H H' : List HObj} {r : PV} (hc : chkFn C fn args.length = true)
    (h : CP C W 0 c (endQ C fn.results.toList (C.fr f) r H') (initE args H)) : Run C.P C.fr f args H r H' := by
  simp only [chkFn, hb, Bool.and_eq_true, beq_iff_eq, decide_eq_true_eq, List.all_eq_true, Bool.not_eq_true'] at hc
  obtain ⟨⟨⟨⟨⟨h1, h2⟩, h3⟩, h4⟩, h5⟩, h6⟩ := hc
  refine ⟨⟨fn, hf, by rw [hb]; rfl, h3⟩, ?_⟩
  intro w g vs hg hv
  refine calls_of_wp hf hb ?_
  have hsz : (vs.toArray ++ Array.replicate (fn.ntmps - vs.toArray.size) undef).size = C.n := by
    have := hv.1
    simp; omega
  refine wp_mono (CP_sound (base := w.heap.size) c 0 _ _ _ w g h1 (init_rel hg hv h5 _) hsz h) ?_
  have key : ∀ e' a' w' g', endQ C fn.results.toList (C.fr f) r H' .norm e' → REL C w.heap.size e' a' w' g' → ExtB w.heap.size w g w' g' →
      a'.defers = [] ∧ ∃ v, (results fn a'.tmps).run C.P w' = .ok v w' ∧ ∃ v2 g', Ending.returned v = .returned v2 ∧ VR w' g' r v2 ∧ Good w' g' H' ∧ Ext w g w' g' ∧ FreshRes w' g' w.heap.size (C.fr f) r v2 := by
    rintro e' a' w' g' ⟨q1, q2, q3⟩ hr hx
    obtain ⟨v, k1, k2, k3⟩ := resP_sound hr q1 h6 q3
    refine ⟨hr.defers, v, k1, v, g', rfl, k2, q2 ▸ hr.good, ⟨hx.os, hx.tape, hx.output, hx.size, hx.block, hx.D, hx.Dle, hx.io⟩, k3⟩
  intro ex a' w' he
  cases ex with
  | normal => obtain ⟨e', g', q, hr, _, hx⟩ := he; exact key e' a' w' g' q hr hx
  | ret => obtain ⟨e', g', q, hr, _, hx⟩ := he; exact key e' a' w' g' q hr hx
  | exit id => obtain ⟨e', g', q, _⟩ := he; exact q.elim
  | _ => exact he.elim

end
end Go.Proofs.Ytielbjjdgdblcaa.Vm

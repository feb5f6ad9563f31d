/- One operation. -/
import Derived.Test.YtielbjjdgdblcaaVm14
namespace Go.Proofs.Ytielbjjdgdblcaa.Vm
open Go

section
variable {C : Ctx} {base : Nat} {e : En} {a : Act} {w : World} {g : Gh}

def isNew : Op → Bool
  | .alloc _ | .box .. => true
  | _ => false

def isStore : Op → Bool
  | .store .. => true
  | _ => false

/-- What is asked of an operation's place, once for all. -/
def OpOK (C : Ctx) (n : Nat) (o : Oper) : Bool :=
  match o.dst with
  | some d => decide (d < n) && (isNew o.op || decide (d ∉ C.box)) && !isStore o.op
  | none => !isNew o.op

theorem vrc_slice {z : Nat} {s : List PV} {u : Value} (h : vrc (.slice z s) u = true) : ownb u = none := by
  cases s with
  | cons _ _ => cases u <;> simp [vrc] at h
  | nil =>
    cases u with
    | slice a n c =>
      cases a with
      | none => rfl
      | some _ => simp [vrc] at h
    | _ => rfl

theorem vrcs_get : ∀ (ps : List PV) (vs : List Value), vrcs ps vs = true → ∀ (i : Nat) p v, ps[i]? = some p → vs[i]? = some v → vrc p v = true
  | [], _, _, i, p, v, hp, _ => by simp at hp
  | _ :: _, [], h, _, _, _, _, _ => by simp [vrcs] at h
  | q :: ps, u :: vs, h, i, p, v, hp, hv => by
    simp only [vrcs, Bool.and_eq_true] at h
    cases i with
    | zero => simp at hp hv; subst hp; subst hv; exact h.1
    | succ i => simp at hp hv; exact vrcs_get ps vs h.2 i p v hp hv

theorem vrc_cells {p : PV} {v : Value} (h : vrc p v = true) (i : Nat) {q : PV} {u : Value} (hq : p.cells[i]? = some q) (hu : v.cells[i]? = some u) : vrc q u = true := by
  cases p with
  | agg cs =>
    cases v with
    | agg vs =>
      simp only [vrc] at h
      exact vrcs_get cs vs.toList h i q u hq (by simpa [Value.cells] using hu)
    | _ => simp [vrc] at h
  | tup cs => cases v <;> simp [vrc] at h
  | slice z l =>
    have hq' : i = 0 := by have := (List.getElem?_eq_some_iff.1 hq).1; simp [PV.cells] at this; omega
    subst hq'
    simp [PV.cells] at hq
    subst hq
    cases l with
    | cons _ _ => cases v <;> simp [vrc] at h
    | nil =>
      cases v with
      | slice a n c => simp [Value.cells] at hu; subst hu; exact h
      | _ => simp [vrc] at h
  | ptr p0 =>
    have hq' : i = 0 := by have := (List.getElem?_eq_some_iff.1 hq).1; simp [PV.cells] at this; omega
    subst hq'
    simp [PV.cells] at hq
    subst hq
    cases p0 with
    | some _ => cases v <;> simp [vrc] at h
    | none =>
      cases v with
      | pointer a => simp [Value.cells] at hu; subst hu; exact h
      | _ => simp [vrc] at h
  | _ =>
    have hq' : i = 0 := by have := (List.getElem?_eq_some_iff.1 hq).1; simp [PV.cells] at this; omega
    subst hq'
    simp [PV.cells] at hq
    subst hq
    have hv : v.cells = #[v] := by
      cases v <;> first | rfl | (simp [vrc, Value.oneCell'] at h)
    rw [hv] at hu
    simp at hu
    subst hu
    exact h

theorem mem_sliceCells : ∀ (l : List PV) (k i : Nat), i ∈ sliceCells k l → k ≤ i ∧ ∃ z s, l[i - k]? = some (.slice z s)
  | [], k, i, h => by simp [sliceCells] at h
  | p :: l, k, i, h => by
    have go : i ∈ sliceCells (k + 1) l → k ≤ i ∧ ∃ z s, (p :: l)[i - k]? = some (.slice z s) := by
      intro h
      obtain ⟨h1, z, s, h2⟩ := mem_sliceCells l (k + 1) i h
      refine ⟨by omega, z, s, ?_⟩
      have : i - k = (i - (k + 1)) + 1 := by omega
      rw [this]; simpa using h2
    cases p with
    | slice z s =>
      simp only [sliceCells, List.mem_cons] at h
      rcases h with rfl | h
      · exact ⟨Nat.le_refl _, z, s, by simp⟩
      · exact go h
    | _ => exact go (by simpa [sliceCells] using h)

theorem ok_alloc (hr : REL C base e a w g) {o : Oper} {ty : TypeId} {tr : Bool} {e' : En} (ho : o.op = .alloc ty) (hok : OpOK C a.tmps.size o = true) (h : stepO C o e = some e') : StepOK C base o { e' with F := fnext C tr o e } a w g := by
  simp only [stepO, ho] at h
  split at h
  case h_2 => cases h
  rename_i T hT
  split at h
  case h_2 => cases h
  rename_i p hp
  obtain ⟨d0, i, hi⟩ := tyOf_is hT
  obtain ⟨zv, hz1, hz2, hz3, hz4, _⟩ := hi.zero p hp
  have hrun : (execOp a.eval o).run C.P w = .ok (.value (.pointer (some ⟨w.heap.size, 0, none⟩))) (w.alloc (.cells zv.cells ty)) := by
    simp only [execOp, ho, Instr.alloc, Sem.run_bind, run_zero hi.info hz1, Result.andThen_ok, Go.newVar, run_newRow, Sem.run_pure]
  have hl : VRL w g p.cells zv.cells.toList := (vrc_sound (w := w) (g := g) p zv hz2).cells
  simp only [Vm.newVar] at h
  cases hd : o.dst with
  | none => rw [hd] at h; cases h
  | some d =>
    rw [hd] at h
    simp only at h
    have hds : d < a.tmps.size := by simp only [OpOK, hd, Bool.and_eq_true, decide_eq_true_eq] at hok; exact hok.1.1
    split at h
    · rename_i hdb
      split at h
      case isFalse => cases h
      rename_i hc
      cases h
      have hG := grow_alloc hr.good zv.cells ty 0
      have hf : ∃ fr, fnext C tr o e = fr ∧ ∀ l' ∈ fr, (l'.1 ≠ d ∧ l' ∈ e.F) ∨ l'.1 = d := by
        refine ⟨_, rfl, ?_⟩
        unfold fnext
        split
        · simp
        · simp only [ho, hd, hdb, if_true, hT]
          intro l' hl'
          split at hl'
          · rcases List.mem_append.1 hl' with hl' | hl'
            · obtain ⟨k, _, rfl⟩ := List.mem_map.1 hl'
              exact .inr rfl
            · exact .inl ⟨(mem_rmF.1 hl').2, (mem_rmF.1 hl').1⟩
          · exact .inl ⟨(mem_rmF.1 hl').2, (mem_rmF.1 hl').1⟩
      obtain ⟨fr, hfe, hfr⟩ := hf
      rw [hfe]
      have hown := own_newbox hr hdb hds (p := p) (cs := zv.cells) (el := ty) (F' := fr) (fun l => if l.1 = d then none else some l) ?_ ?_
      · refine ⟨_, _, hG.extB hr.hb, .inl ⟨_, hrun, ?_⟩⟩
        rw [hd]
        exact rel_newbox hr hdb hds hc.2 hc.1 hl hown
      · intro l' hl'
        rcases hfr l' hl' with ⟨k1, k2⟩ | k1
        · exact .inl ⟨k1, k2, by simp [k1]⟩
        · refine .inr (.inr ⟨k1, by simp [k1], ?_⟩)
          intro z s u hpz hu
          exact vrc_slice (vrc_cells hz2 _ hpz hu)
      · intro l _ l' _ k h1 h2
        split at h1
        · cases h1
        · split at h2
          · cases h2
          · cases h1; cases h2; rfl
    · rename_i hdb
      split at h
      case isFalse => cases h
      split at h
      case isFalse => cases h
      rename_i hc
      cases h
      have hf : ∀ l ∈ fnext C tr o e, l ∈ e.F ∧ l.1 ≠ d := by
        unfold fnext
        split
        · simp
        · simp only [ho, hd, hdb, if_false]
          intro l hl'
          exact mem_rmF.1 hl'
      obtain ⟨h1, h2⟩ := rel_newesc hr hdb hds hc hl (ty := ty) (el := ty) hf
      refine ⟨_, _, h2, .inl ⟨_, hrun, ?_⟩⟩
      rw [hd]
      exact h1

theorem ok_box (hr : REL C base e a w g) {o : Oper} {ty : TypeId} {x : Operand} {tr : Bool} {e' : En} (ho : o.op = .box ty x) (hok : OpOK C a.tmps.size o = true) (h : stepO C o e = some e') : StepOK C base o { e' with F := fnext C tr o e } a w g := by
  simp only [stepO, ho] at h
  split at h
  case h_2 => cases h
  rename_i T p hT hp
  split at h
  case isFalse => cases h
  have hv := ev_sound hr hp
  have hl : VRL w g p.cells (a.eval x).cells.toList := hv.cells
  have hrun : (execOp a.eval o).run C.P w = .ok (.value (.pointer (some ⟨w.heap.size, 0, none⟩))) (w.alloc (.cells (a.eval x).cells ty)) := by
    simp only [execOp, ho, Instr.box, Sem.run_bind, Go.newVar, run_newRow, Result.andThen_ok, Sem.run_pure]
  simp only [Vm.newVar] at h
  cases hd : o.dst with
  | none => rw [hd] at h; cases h
  | some d =>
    rw [hd] at h
    simp only at h
    have hds : d < a.tmps.size := by simp only [OpOK, hd, Bool.and_eq_true, decide_eq_true_eq] at hok; exact hok.1.1
    split at h
    · rename_i hdb
      split at h
      case isFalse => cases h
      rename_i hc
      cases h
      have hG := grow_alloc hr.good (a.eval x).cells ty 0
      have fin : ∀ fr, OwnF C base { e with bx := setb e.bx d p, F := fr } (a.put (some d) (.pointer (some ⟨w.heap.size, 0, none⟩))) (w.alloc (.cells (a.eval x).cells ty)) (g.up w.heap.size 0) → StepOK C base o { e with bx := setb e.bx d p, F := fr } a w g := by
        intro fr hown
        refine ⟨_, _, hG.extB hr.hb, .inl ⟨_, hrun, ?_⟩⟩
        rw [hd]
        exact rel_newbox hr hdb hds hc.2 hc.1 hl hown
      have plain : ∀ fr, (∀ l ∈ fr, l ∈ e.F ∧ l.1 ≠ d) → StepOK C base o { e with bx := setb e.bx d p, F := fr } a w g := by
        intro fr hfr
        refine fin fr (own_newbox hr hdb hds some (fun l' hl' => .inl ⟨(hfr l' hl').2, (hfr l' hl').1, rfl⟩) (fun l _ l' _ k h1 h2 => by cases h1; cases h2; rfl))
      have hf : fnext C tr o e = if C.own = false then [] else match x with
        | .tmp s => if d ∈ C.box ∧ s ≠ d then (rmF d e.F).map fun l => if l.1 = s ∧ l.2.1 = 0 then (d, l.2) else l else rmF d e.F
        | _ => rmF d e.F := by
        unfold fnext
        simp only [ho, hd]
        cases x <;> rfl
      rw [hf]
      split
      · exact plain [] (by simp)
      · split
        · rename_i s
          split
          · rename_i hsd
            have hsd2 := hsd.2
            simp only [ev] at hp
            split at hp
            · rename_i q hq
              cases hp
              have hnt : ∀ vs, p ≠ .tup vs := by
                intro vs hvs; subst hvs
                have := hc.2 (.tup vs) (by simp [PV.cells])
                simp [PV.one] at this
              refine fin _ (own_newbox hr hdb hds (fun l => if l.1 = d then some (s, l.2) else some l) ?_ ?_)
              · intro l' hl'
                obtain ⟨y, hy, hyl⟩ := List.mem_map.1 hl'
                obtain ⟨k1, k2⟩ := mem_rmF.1 hy
                split at hyl
                · rename_i hcy
                  subst hyl
                  have hys : (s, y.2) = y := by rw [← hcy.1]
                  refine .inr (.inl ⟨rfl, y, k1, by simp [hys], ?_⟩)
                  intro z t u hpz hu
                  obtain ⟨e1, e2⟩ := tmp_get hr hq y.2
                  rw [← hys, e1, e2]
                  refine ⟨by rw [compP_not hnt]; exact hpz, ?_⟩
                  show (compV (a.eval (.tmp s)) _).cells[_]? = some u
                  rw [compV_not (hv.notTup hnt)]
                  exact hu
                · subst hyl
                  exact .inl ⟨k2, k1, by simp [k2]⟩
              · have q : ∀ l ∈ ((rmF d e.F).map fun l => if l.1 = s ∧ l.2.1 = 0 then (d, l.2) else l), (l.1 = d ∧ l.2.1 = 0) ∨ (l.1 ≠ d ∧ ¬(l.1 = s ∧ l.2.1 = 0)) := by
                  intro l hl'
                  obtain ⟨y, hy, hyl⟩ := List.mem_map.1 hl'
                  split at hyl
                  · rename_i hcy; subst hyl; exact .inl ⟨rfl, hcy.2⟩
                  · rename_i hcy; subst hyl; exact .inr ⟨(mem_rmF.1 hy).2, hcy⟩
                intro l hl1 l' hl2 k h1 h2
                rcases q l hl1 with ⟨q1, q2⟩ | ⟨q1, q2⟩ <;> rcases q l' hl2 with ⟨q3, q4⟩ | ⟨q3, q4⟩
                · rw [if_pos q1] at h1; rw [if_pos q3] at h2
                  rw [Option.some.injEq] at h1 h2
                  have : l.2 = l'.2 := by have := h1.trans h2.symm; simpa using this
                  exact Prod.ext (q1.trans q3.symm) this
                · rw [if_pos q1] at h1; rw [if_neg q3] at h2
                  rw [Option.some.injEq] at h1 h2
                  exact absurd (by rw [h2, ← h1]; exact ⟨rfl, q2⟩) q4
                · rw [if_neg q1] at h1; rw [if_pos q3] at h2
                  rw [Option.some.injEq] at h1 h2
                  exact absurd (by rw [h1, ← h2]; exact ⟨rfl, q4⟩) q2
                · rw [if_neg q1] at h1; rw [if_neg q3] at h2
                  rw [Option.some.injEq] at h1 h2
                  rw [h1, h2]
            · cases hp
          · exact plain _ (fun l hl' => mem_rmF.1 hl')
        · exact plain _ (fun l hl' => mem_rmF.1 hl')
    · rename_i hdb
      split at h
      case isFalse => cases h
      split at h
      case isFalse => cases h
      rename_i hc
      cases h
      have hf : ∀ l ∈ fnext C tr o e, l ∈ e.F ∧ l.1 ≠ d := by
        unfold fnext
        split
        · simp
        · simp only [ho, hd]
          cases x with
          | tmp s => simp only [hdb, false_and, if_false]; intro l hl'; exact mem_rmF.1 hl'
          | _ => intro l hl'; exact mem_rmF.1 hl'
      obtain ⟨h1, h2⟩ := rel_newesc hr hdb hds hc hl (ty := ty) (el := ty) hf
      refine ⟨_, _, h2, .inl ⟨_, hrun, ?_⟩⟩
      rw [hd]
      exact h1

theorem putv_slice {o : Oper} {z : Nat} {l : List PV} {p : PV} (h : put o (.v (.slice z l)) e = put o (.v p) e) : o.dst = none ∨ ∃ z l, p = .slice z l := by
  cases ho : o.dst with
  | none => exact .inl rfl
  | some d =>
    simp only [put, ho] at h
    have := congrArg (fun e => lkp e.t d) h
    simp [lkp] at this
    exact .inr ⟨_, _, this.symm⟩

/-- An operation that makes a slice. -/
theorem ok_fresh' (hr : REL C base e a w g) {o : Oper} {tr : Bool} {e' : En} (hd : DstOK C o a) (h : Makes C o e e' a w g) (_hn : isNew o.op = false) (hp : ∀ p, e' = put o (.v p) e → o.dst = none ∨ ∃ z l, p = .slice z l)
    (hf : fnext C tr o e = if C.own = false then [] else match o.dst with | some d => (d, 0, 0) :: rmF d e.F | none => e.F) : StepOK C base o { e' with F := fnext C tr o e } a w g := by
  have h0 := h
  obtain ⟨v, p, w', g', hrun, rfl, hG, hv, hfr⟩ := h
  rw [hf]
  cases hdd : o.dst with
  | none =>
    split
    · exact ok_plain hr hG hd (c := .v p) hrun hv (by simp)
    · exact ok_plain hr hG hd (c := .v p) hrun hv (fun l hl => ⟨hl, fun d hd' => by rw [hdd] at hd'; cases hd'⟩)
  | some d =>
    rcases hp p rfl with hp | ⟨z, l, rfl⟩
    · rw [hdd] at hp; cases hp
    · split
      · exact ok_plain hr hG hd (c := .v (.slice z l)) hrun hv (by simp)
      · refine ok_makes hr hd h0 (fun _ _ _ _ _ => trivial) (.inr ⟨d, hdd, rfl, z, l, ?_⟩)
        simp [put, hdd, lkp]

/-- One operation that is no call of a Go function. -/
theorem step_ok (hr : REL C base e a w g) {o : Oper} {tr : Bool} {e' : En} (hok : OpOK C a.tmps.size o = true) (h : stepF C tr o e = some e') : StepOK C base o e' a w g := by
  unfold stepF at h
  split at h
  case isFalse => cases h
  rename_i happ
  cases hs : stepO C o e with
  | none => rw [hs] at h; cases h
  | some e1 =>
    rw [hs] at h
    cases h
    have hd : isNew o.op = false → DstOK C o a := by
      intro hn d hd
      simp only [OpOK, hd, Bool.and_eq_true, decide_eq_true_eq, hn, Bool.false_or] at hok
      exact ⟨hok.1.1, hok.1.2⟩
    have hfp : (∀ l ∈ fnext C tr o e, l ∈ e.F ∧ ∀ d, o.dst = some d → l.1 ≠ d) → Gives C o e e1 a w g → isNew o.op = false → StepOK C base o { e1 with F := fnext C tr o e } a w g := fun hF hg hn => ok_gives hr (hd hn) hg hF
    have fdef : (fnext C tr o e = if C.own = false then [] else match o.dst with | some d => rmF d e.F | none => e.F) → ∀ l ∈ fnext C tr o e, l ∈ e.F ∧ ∀ d, o.dst = some d → l.1 ≠ d := by
      intro hf l hl
      rw [hf] at hl
      split at hl
      · cases hl
      · exact sub_rmF l hl
    cases hop : o.op with
    | move x => exact ok_move hr (.inl hop) (hd (by rw [hop]; rfl)) hs
    | assign x => exact ok_move hr (.inr hop) (hd (by rw [hop]; rfl)) hs
    | pick c x y => exact hfp (fdef (by unfold fnext; rw [hop]; cases o.dst <;> rfl)) (g_pick hr hop hs) (by rw [hop]; rfl)
    | alloc ty => exact ok_alloc hr hop hok hs
    | box ty x => exact ok_box hr hop hok hs
    | build ty ps => exact hfp (fdef (by unfold fnext; rw [hop]; cases o.dst <;> rfl)) (g_build hr hop hs) (by rw [hop]; rfl)
    | buildSlice ty n ps =>
      refine ok_fresh' hr (hd (by rw [hop]; rfl)) (m_buildSlice hr hop hs) (by rw [hop]; rfl) ?_ ?_
      · intro p hp
        simp only [stepO, hop] at hs
        split at hs
        · split at hs
          · split at hs
            · cases hs
              exact putv_slice hp
            · cases hs
          · cases hs
        · cases hs
      · unfold fnext; rw [hop]; cases o.dst <;> rfl
    | load ty x => exact ok_load hr hop (hd (by rw [hop]; rfl)) hs
    | store ty ax x =>
      have hod : o.dst = none := by
        cases hdd : o.dst with
        | none => rfl
        | some d => simp [OpOK, hdd, hop, isStore] at hok
      have hs' := hs
      simp only [stepO, hop] at hs'
      split at hs'
      · rename_i T A p hT hA hp
        cases A with
        | loc s off => exact ok_store_loc hr hop hod hT hA hp hs'
        | heap id off =>
          refine ok_store_heap hr hop hod hT hA hp hs' ?_
          intro l hl
          unfold fnext at hl
          simp only [hop, hod, hT, hA] at hl
          split at hl
          · cases hl
          · exact hl
        | elem cs => cases hs'
      · cases hs'
    | nilCheck x => exact hfp (fdef (by unfold fnext; rw [hop]; cases o.dst <;> rfl)) (g_nilCheck hr hop hs) (by rw [hop]; rfl)
    | binOp op ty x y yt => exact hfp (fdef (by unfold fnext; rw [hop]; cases o.dst <;> rfl)) (g_bin hr hop hs) (by rw [hop]; rfl)
    | unOp op ty x => exact hfp (fdef (by unfold fnext; rw [hop]; cases o.dst <;> rfl)) (g_un hr hop hs) (by rw [hop]; rfl)
    | convert s d x =>
      by_cases hsl : ∃ z el bs ag T, tyOf C.P d = some T ∧ T.desc = .slice el z ag bs
      · have hm := m_bytes hr hop hs hsl
        obtain ⟨z, el, bs, ag, T, hT, hTd⟩ := hsl
        simp only [stepO, hop] at hs
        split at hs
        · rename_i p hp
          have hss : ∃ s' , tyOf C.P s = some s' ∧ s'.desc = .str ∧ ∃ str, p = .str str ∧ ∃ l, convP C.P s d p = some (.slice 1 l) := by
            have hcp : ∃ r, convP C.P s d p = some r := by
              cases hcc : convP C.P s d p with
              | none => rw [hcc] at hs; cases hs
              | some r => exact ⟨r, rfl⟩
            obtain ⟨r, hcc⟩ := hcp
            rw [hcc]
            unfold convP at hcc
            split at hcc
            · rename_i h2; rw [hT] at h2; cases h2; cases hTd
            · rename_i h2; rw [hT] at h2; cases h2; cases hTd
            · rename_i str h1 h2
              split at hcc
              · cases hcc; exact ⟨_, h1, rfl, _, rfl, _, rfl⟩
              · cases hcc
            · rename_i h2; rw [hT] at h2; cases h2; cases hTd
            · rename_i h2; rw [hT] at h2; cases h2; cases hTd
            · cases hcc
          obtain ⟨s', hs1, hs2, str, rfl, l, hl⟩ := hss
          rw [hl] at hs
          cases hs
          refine ok_fresh' hr (hd (by rw [hop]; rfl)) hm (by rw [hop]; rfl) (fun p hp => putv_slice hp) ?_
          unfold fnext
          obtain ⟨d1, n1, a1, z1, e1⟩ := s'
          obtain ⟨d2, n2, a2, z2, e2⟩ := T
          simp only at hs2 hTd
          subst hs2
          subst hTd
          cases hdd2 : o.dst with
          | none => simp only [hop]
          | some d2 => simp only [hop, hs1, hT]
        · cases hs
      · refine hfp ?_ (g_convert hr hop hs ?_) (by rw [hop]; rfl)
        · intro l hl
          unfold fnext at hl
          split at hl
          · cases hl
          · simp only [hop] at hl
            cases hdd : o.dst with
            | none => rw [hdd] at hl; exact ⟨hl, fun d hd => by cases hd⟩
            | some d' =>
              rw [hdd] at hl
              simp only at hl
              split at hl
              · rename_i hs1 hs2
                exact absurd ⟨_, _, _, _, _, hs2, rfl⟩ hsl
              · exact ⟨(mem_rmF.1 hl).1, fun d hd => by cases hd; exact (mem_rmF.1 hl).2⟩
        · intro z el bs ag ⟨T, hT, hTd⟩
          exact hsl ⟨z, el, bs, ag, T, hT, hTd⟩
    | makeFunc fn xs ys =>
      cases fn with
      | func f => exact hfp (fdef (by unfold fnext; rw [hop]; cases o.dst <;> rfl)) (g_func hr hop hs) (by rw [hop]; rfl)
      | _ => simp [stepO, hop] at hs
    | makeSlice ty l c =>
      refine ok_fresh' hr (hd (by rw [hop]; rfl)) (m_makeSlice hr hop hs) (by rw [hop]; rfl) ?_ ?_
      · intro p hp
        simp only [stepO, hop] at hs
        split at hs
        · split at hs
          · split at hs
            · cases hs
              exact putv_slice hp
            · cases hs
          · cases hs
        · cases hs
      · unfold fnext; rw [hop]; cases o.dst <;> rfl
    | slice ty x lo hi mx =>
      rcases g_slice hr hop hs with ⟨hmx, hg⟩ | ⟨z, l, ad, n, hrun, rfl, hv⟩
      · refine hfp (fdef ?_) hg (by rw [hop]; rfl)
        subst hmx
        unfold fnext; rw [hop]; cases hi <;> cases o.dst <;> rfl
      · have hG := Grow.refl (w := w) (g := g) hr.good
        have hfull : ownb (.slice ad n n) = none := by cases ad <;> simp [ownb]
        have hplain : ∀ F', (∀ l ∈ F', l ∈ e.F ∧ ∀ d, o.dst = some d → l.1 ≠ d) → StepOK C base o { put o (.v (.slice z l)) e with F := F' } a w g := fun F' hF => ok_plain hr hG (hd (by rw [hop]; rfl)) (c := .v (.slice z l)) hrun hv hF
        cases hdd : o.dst with
        | none =>
          refine hplain _ (fdef ?_)
          unfold fnext; rw [hop, hdd]; cases hi <;> cases mx <;> rfl
        | some d =>
          have h2 : fnext C tr o e = [] ∨ fnext C tr o e = rmF d e.F ∨ fnext C tr o e = (d, 0, 0) :: rmF d e.F := by
            unfold fnext
            rw [hop, hdd]
            split
            · exact .inl rfl
            · cases hi <;> cases mx <;> first | exact .inr (.inl rfl) | exact .inr (.inr rfl)
          rcases h2 with h2 | h2 | h2
          · rw [h2]; exact hplain [] (by simp)
          · rw [h2]; exact hplain _ (fun l hl => ⟨(mem_rmF.1 hl).1, fun d' hd' => by rw [hdd] at hd'; cases hd'; exact (mem_rmF.1 hl).2⟩)
          · rw [h2]; exact ok_fresh hr hG (hd (by rw [hop]; rfl)) hrun hv hdd ⟨Appv.none hfull, fun b hb => by rw [hfull] at hb; cases hb⟩ rfl
    | fieldAddr ty x i => exact hfp (fdef (by unfold fnext; rw [hop]; cases o.dst <;> rfl)) (g_fieldAddr hr hop hs) (by rw [hop]; rfl)
    | field ty x i => exact hfp (fdef (by unfold fnext; rw [hop]; cases o.dst <;> rfl)) (g_field hr hop hs) (by rw [hop]; rfl)
    | indexAddr ty x ix => exact hfp (fdef (by unfold fnext; rw [hop]; cases o.dst <;> rfl)) (g_indexAddr hr hop hs) (by rw [hop]; rfl)
    | index ty x ix => exact hfp (fdef (by unfold fnext; rw [hop]; cases o.dst <;> rfl)) (g_index hr hop hs) (by rw [hop]; rfl)
    | extract x i => exact ok_extract hr hop (hd (by rw [hop]; rfl)) hs
    | call c =>
      obtain ⟨callee, args, tys⟩ := c
      cases callee with
      | value f => simp [stepO, hop] at hs
      | invoke r m => simp [stepO, hop] at hs
      | builtin b =>
        cases b with
        | len => exact hfp (fdef (by unfold fnext; rw [hop]; cases o.dst <;> rfl)) (g_len hr hop hs) (by rw [hop]; rfl)
        | min => exact hfp (fdef (by unfold fnext; rw [hop]; cases o.dst <;> rfl)) (g_min hr hop hs) (by rw [hop]; rfl)
        | max => exact hfp (fdef (by unfold fnext; rw [hop]; cases o.dst <;> rfl)) (g_max hr hop hs) (by rw [hop]; rfl)
        | append => exact ok_append hr hop (hd (by rw [hop]; rfl)) happ hs
        | _ => simp [stepO, hop] at hs
    | _ => simp [stepO, hop] at hs

end
end Go.Proofs.Ytielbjjdgdblcaa.Vm

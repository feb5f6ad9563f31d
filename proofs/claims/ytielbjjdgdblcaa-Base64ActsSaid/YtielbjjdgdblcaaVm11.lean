/- The right to append moves with parts of tuples and with loads; all operations that only compute. -/
import Derived.Test.YtielbjjdgdblcaaVm10
namespace Go.Proofs.Ytielbjjdgdblcaa.Vm
open Go

section
variable {C : Ctx} {base : Nat} {e : En} {a : Act} {w : World} {g : Gh}

theorem VR.notTup {p : PV} {v : Value} (h : VR w g p v) (hp : ∀ vs, p ≠ .tup vs) : ∀ us, v ≠ .tuple us := by
  intro us hu
  subst hu
  cases h with
  | tup cs vs _ _ => exact hp _ rfl
  | opq _ h => simp [Value.oneCell'] at h

theorem compP_not {p : PV} (hp : ∀ vs, p ≠ .tup vs) (c : Nat) : compP p c = p := by
  unfold compP
  split
  · exact absurd rfl (hp _)
  · rfl

theorem compV_not {v : Value} (hv : ∀ us, v ≠ .tuple us) (c : Nat) : compV v c = v := by
  unfold compV
  split
  · exact absurd rfl (hv _)
  · rfl

theorem ok_extract (hr : REL C base e a w g) {o : Oper} {x : Operand} {i : Nat} {tr : Bool} {e' : En} (ho : o.op = .extract x i) (hd : DstOK C o a) (h : stepO C o e = some e') : StepOK C base o { e' with F := fnext C tr o e } a w g := by
  have h0 := h
  simp only [stepO, ho] at h
  split at h
  · rename_i vs hp
    obtain ⟨us, hu, hl⟩ := vr_tup (ev_sound hr hp)
    cases hi : vs[i]? with
    | none => rw [hi] at h; cases h
    | some p =>
      rw [hi] at h
      have hnt : ∀ vs, p ≠ .tup vs := by
        intro vs hv; subst hv; cases h
      replace h : putv o e (some p) = some e' := by
        split at h
        · cases h
        · exact h
      cases h
      have hlt : i < us.size := by
        have := (List.getElem?_eq_some_iff.1 hi).1
        have := hl.1
        simp at this; omega
      have hv : VR w g p us[i] := hl.2 i p us[i] hi (by simp [hlt])
      have hrun : (execOp a.eval o).run C.P w = .ok (.value us[i]) w := by simp [execOp, ho, hu, Instr.extract, hlt]
      have hG := Grow.refl (w := w) (g := g) hr.good
      have plain : ∀ F', (∀ l ∈ F', l ∈ e.F ∧ ∀ d, o.dst = some d → l.1 ≠ d) → StepOK C base o { put o (.v p) e with F := F' } a w g := fun F' hF => ok_plain hr hG hd (c := .v p) hrun hv hF
      have hf : fnext C tr o e = if C.own = false then [] else match x, o.dst with
        | .tmp s, some d => if s ≠ d then (rmF d e.F).map fun l => if l.1 = s ∧ l.2.1 = i then (d, 0, l.2.2) else l else rmF d e.F
        | _, some d => rmF d e.F
        | _, none => e.F := by
        unfold fnext
        rw [ho]
        cases x <;> cases o.dst <;> rfl
      rw [hf]
      split
      · exact plain [] (by simp)
      · cases hdst : o.dst with
        | none =>
          have : ∀ F, F = e.F → StepOK C base o { put o (.v p) e with F := F } a w g := fun F hF => plain F (fun l hl => ⟨hF ▸ hl, fun d hd' => by rw [hdst] at hd'; cases hd'⟩)
          cases x <;> exact this _ rfl
        | some d =>
          have hplain : StepOK C base o { put o (.v p) e with F := rmF d e.F } a w g := plain _ (fun l hl => ⟨(mem_rmF.1 hl).1, fun d' hd' => by rw [hdst] at hd'; cases hd'; exact (mem_rmF.1 hl).2⟩)
          cases x with
          | tmp s =>
            simp only
            split
            · rename_i hsd
              simp only [ev] at hp
              split at hp
              · rename_i q hq
                cases hp
                refine ok_trans hr hd (c := .v p) hrun hv hdst (fun l => (s, i, l.2.2)) ?_ ?_
                · intro l' hl'
                  obtain ⟨y, hy, hyl⟩ := List.mem_map.1 hl'
                  obtain ⟨hy1, hy2⟩ := mem_rmF.1 hy
                  split at hyl
                  · rename_i hc
                    subst hyl
                    have hys : (s, i, y.2.2) = y := by rw [← hc.1, ← hc.2]
                    refine .inr ⟨rfl, by rw [hys]; exact hy1, ?_, ?_⟩
                    · intro hm
                      obtain ⟨y2, hy3, hy4⟩ := List.mem_map.1 hm
                      split at hy4
                      · exact hsd (congrArg Prod.fst hy4).symm
                      · rename_i hn
                        exact hn (by rw [hy4]; exact ⟨rfl, rfl⟩)
                    · intro z t u hpz hcv
                      obtain ⟨e1, e2⟩ := tmp_get hr hq (i, y.2.2)
                      rw [e1, e2]
                      simp only [pvalC, cvalV, compP_not hnt, compV_not (hv.notTup hnt)] at hpz hcv
                      have hus : a.tmps.getD s undef = .tuple us := hu
                      refine ⟨?_, ?_⟩
                      · simp only [compP, List.getD_eq_getElem?_getD, hi, Option.getD_some]; exact hpz
                      · simp only [cvalV, hus, compV, Array.getD_eq_getD_getElem?]
                        simp only [hlt, getElem?_pos, Option.getD_some]
                        exact hcv
                  · subst hyl
                    exact .inl ⟨hy2, hy1⟩
                · intro l hl1 l' hl2 h1 h2 h3
                  have h4 : l.2.2 = l'.2.2 := by simpa using h3
                  have h5 : ∀ l ∈ ((rmF d e.F).map fun l => if l.1 = s ∧ l.2.1 = i then (d, 0, l.2.2) else l), l.1 = d → l.2.1 = 0 := by
                    intro l hl hld
                    obtain ⟨y, hy, hyl⟩ := List.mem_map.1 hl
                    split at hyl
                    · subst hyl; rfl
                    · subst hyl; exact absurd hld (mem_rmF.1 hy).2
                  exact Prod.ext (h1.trans h2.symm) (Prod.ext ((h5 l hl1 h1).trans (h5 l' hl2 h2).symm) h4)
              · cases hp
            · exact hplain
          | _ => exact hplain
  · cases h

theorem inRange_iff {s off n : Nat} {l : Nat × Nat × Nat} : inRange s off n l = true ↔ l.1 = s ∧ l.2.1 = 0 ∧ off ≤ l.2.2 ∧ l.2.2 < off + n := by
  simp [inRange, and_assoc]

theorem ok_load (hr : REL C base e a w g) {o : Oper} {ty : TypeId} {x : Operand} {tr : Bool} {e' : En} (ho : o.op = .load ty x) (hd : DstOK C o a) (h : stepO C o e = some e') : StepOK C base o { e' with F := fnext C tr o e } a w g := by
  obtain ⟨T, A, r, v, b, off, hT, hA, hl, rfl, hrun, hv, hx, hcells⟩ := g_load hr ho h
  have hG := Grow.refl (w := w) (g := g) hr.good
  have plain : ∀ F', (∀ l ∈ F', l ∈ e.F ∧ ∀ d, o.dst = some d → l.1 ≠ d) → StepOK C base o { put o (.v r) e with F := F' } a w g := fun F' hF => ok_plain hr hG hd (c := .v r) hrun hv hF
  have hf : fnext C tr o e = if C.own = false then [] else match o.dst with
    | some d => (match tyOf C.P ty, adr e x with
      | some T, some (.loc s off) => if tr = true ∧ s ≠ d then (rmF d e.F).map fun l => if inRange s off T.size l then (d, 0, l.2.2 - off) else l else rmF d e.F
      | _, _ => rmF d e.F)
    | none => e.F := by
    unfold fnext
    rw [ho]
    cases o.dst <;> rfl
  rw [hf]
  split
  · exact plain [] (by simp)
  · cases hdst : o.dst with
    | none => exact plain _ (fun l hl => ⟨hl, fun d hd' => by rw [hdst] at hd'; cases hd'⟩)
    | some d =>
      have hplain : StepOK C base o { put o (.v r) e with F := rmF d e.F } a w g := plain _ (fun l hl => ⟨(mem_rmF.1 hl).1, fun d' hd' => by rw [hdst] at hd'; cases hd'; exact (mem_rmF.1 hl).2⟩)
      simp only [hT, hA]
      cases A with
      | elem cs => exact hplain
      | heap id of => exact hplain
      | loc s of =>
        simp only
        split
        · rename_i hts
          obtain ⟨hsb, b', h1, h2⟩ := adr_sound hr hA
          rw [hx] at h2
          simp only [Value.pointer.injEq, Option.some.injEq, Addr.mk.injEq, and_true] at h2
          obtain ⟨rfl, rfl⟩ := h2
          have hbx : ∃ p0, lkp e.bx s = some p0 ∧ mkv T.agg T.size ((p0.cells.drop off).take T.size) = some r := by
            simp only [loadA] at hl
            cases hq : lkp e.bx s with
            | none => rw [hq] at hl; cases hl
            | some p0 => rw [hq] at hl; exact ⟨p0, rfl, hl⟩
          obtain ⟨p0, hp0, hm⟩ := hbx
          have hone : ∀ q ∈ p0.cells, q.one = true := by obtain ⟨_, _, _, _, _, _, _, h4⟩ := hr.bx s p0 hp0; exact h4.1
          have hrc : (∀ vs, r ≠ .tup vs) ∧ r.cells = (p0.cells.drop off).take T.size ∧ ((p0.cells.drop off).take T.size).length = T.size := by
            unfold mkv at hm
            split at hm
            · rename_i hlen
              split at hm
              · cases hm; exact ⟨by simp, rfl, hlen⟩
              · split at hm
                · rename_i q hq
                  cases hm
                  have hro : r.one = true := hone r (List.mem_of_mem_drop (List.mem_of_mem_take (by rw [hq]; simp)))
                  refine ⟨by intro vs hvs; subst hvs; simp [PV.one] at hro, ?_, hlen⟩
                  rw [hq]
                  cases r <;> simp_all [PV.cells, PV.one]
                · cases hm
            · cases hm
          obtain ⟨hnt, hrc, hrl⟩ := hrc
          refine ok_trans hr hd (c := .v r) hrun hv hdst (fun l => (s, 0, off + l.2.2)) ?_ ?_
          · intro l' hl'
            obtain ⟨y, hy, hyl⟩ := List.mem_map.1 hl'
            obtain ⟨hy1, hy2⟩ := mem_rmF.1 hy
            split at hyl
            · rename_i hc
              obtain ⟨c1, c2, c3, c4⟩ := inRange_iff.1 hc
              subst hyl
              have hys : (s, 0, off + (y.2.2 - off)) = y := by rw [Nat.add_sub_cancel' c3, ← c1, ← c2]
              refine .inr ⟨rfl, by rw [hys]; exact hy1, ?_, ?_⟩
              · simp only
                rw [hys]
                intro hm
                obtain ⟨y2, hy3, hy4⟩ := List.mem_map.1 hm
                split at hy4
                · exact hts.2 (by rw [← c1]; exact (congrArg Prod.fst hy4).symm)
                · rename_i hn
                  rw [hy4] at hn
                  exact hn hc
              · intro z t u hpz hcv
                simp only [pvalC, cvalV, compP_not hnt, compV_not (hv.notTup hnt)] at hpz hcv
                have hk : y.2.2 - off < T.size := by omega
                rw [hrc] at hpz
                refine ⟨?_, ?_⟩
                · simp only [pval, hp0]
                  exact (take_drop_get hpz).1
                · simp only [cval]
                  rw [if_pos hsb, h1]
                  simp only
                  rw [← hcv, hcells _ hk, Nat.zero_add]
            · subst hyl
              exact .inl ⟨hy2, hy1⟩
          · intro l hl1 l' hl2 h1 h2 h3
            have h4 : l.2.2 = l'.2.2 := by have : off + l.2.2 = off + l'.2.2 := by simpa using h3
                                           omega
            have h5 : ∀ l ∈ ((rmF d e.F).map fun l => if inRange s off T.size l then (d, 0, l.2.2 - off) else l), l.1 = d → l.2.1 = 0 := by
              intro l hl hld
              obtain ⟨y, hy, hyl⟩ := List.mem_map.1 hl
              split at hyl
              · subst hyl; rfl
              · subst hyl; exact absurd hld (mem_rmF.1 hy).2
            exact Prod.ext (h1.trans h2.symm) (Prod.ext ((h5 l hl1 h1).trans (h5 l' hl2 h2).symm) h4)
        · exact hplain

/-- Behind an operation that gives a plain value. -/
theorem ok_gives (hr : REL C base e a w g) {o : Oper} {e' : En} (hd : DstOK C o a) (h : Gives C o e e' a w g) {F' : List (Nat × Nat × Nat)} (hF : ∀ l ∈ F', l ∈ e.F ∧ ∀ d, o.dst = some d → l.1 ≠ d) : StepOK C base o { e' with F := F' } a w g := by
  obtain ⟨v, c, hrun, rfl, hc⟩ := h
  exact ok_plain hr (Grow.refl hr.good) hd hrun hc hF

theorem sub_rmF {o : Oper} {F : List (Nat × Nat × Nat)} : ∀ l ∈ (match o.dst with | some d => rmF d F | none => F), l ∈ F ∧ ∀ d, o.dst = some d → l.1 ≠ d := by
  intro l hl
  cases ho : o.dst with
  | none => rw [ho] at hl; exact ⟨hl, fun d hd => by cases hd⟩
  | some d => rw [ho] at hl; exact ⟨(mem_rmF.1 hl).1, fun d' hd => by cases hd; exact (mem_rmF.1 hl).2⟩

theorem ok_makes (hr : REL C base e a w g) {o : Oper} {e' : En} (hd : DstOK C o a) (h : Makes C o e e' a w g) (hs : ∀ v p, e' = put o (.v p) e → o.dst ≠ none → VR w g p v → True) {F' : List (Nat × Nat × Nat)}
    (hF : (∀ l ∈ F', l ∈ e.F ∧ ∀ d, o.dst = some d → l.1 ≠ d) ∨ ∃ d, o.dst = some d ∧ F' = (d, 0, 0) :: rmF d e.F ∧ ∃ z l, lkp e'.t d = some (.v (.slice z l))) : StepOK C base o { e' with F := F' } a w g := by
  obtain ⟨v, p, w', g', hrun, rfl, hG, hv, hfr⟩ := h
  rcases hF with hF | ⟨d, ho, hF, z, l, hl⟩
  · exact ok_plain hr hG hd (c := .v p) hrun hv hF
  · simp only [put, ho, lkp_cons, if_true, Option.some.injEq, Cl.v.injEq] at hl
    subst hl
    obtain ⟨ad, n, c, rfl, h1, h2, h3, rfl, h4, cs, el, fz, h5, h6, h7, _⟩ := hfr z l rfl
    refine ok_fresh hr hG hd hrun hv ho ⟨?_, ?_⟩ hF
    · refine .inr ⟨by rw [h1]; exact hr.hb, ?_, h2, by rw [h4, h3]; omega, cs, el, fz, h5, by rw [h3]; omega, ?_⟩
      · rw [hG.io, h1]
        intro hm
        have := io_lt hr.good hm
        omega
      · intro o ho1 ho2
        rw [h3] at ho2
        rcases h7 with h7 | h7 <;> omega
    · intro b hb
      simp only [ownb] at hb
      split at hb
      · cases hb
      · cases hb; rw [h1]; exact Nat.le_refl _

end
end Go.Proofs.Ytielbjjdgdblcaa.Vm

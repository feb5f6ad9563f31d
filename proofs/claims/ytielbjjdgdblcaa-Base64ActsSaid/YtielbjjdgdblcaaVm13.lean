/- Stores. -/
import Derived.Test.YtielbjjdgdblcaaVm12
namespace Go.Proofs.Ytielbjjdgdblcaa.Vm
open Go

theorem lkp_setb {α : Type} (l : List (Nat × α)) (s : Nat) (a : α) (x : Nat) : lkp (setb l s a) x = if x = s then some a else lkp l x := by
  induction l with
  | nil => simp only [setb, lkp]; by_cases h : s = x <;> simp [h, eq_comm]
  | cons p l ih =>
    obtain ⟨k, v⟩ := p
    simp only [setb]
    split
    · rename_i h
      subst h
      simp only [lkp]
      by_cases h2 : k = x
      · simp [h2]
      · simp [h2, Ne.symm h2]
    · rename_i h
      simp only [lkp, ih]
      by_cases h2 : k = x
      · subst h2; simp [h]
      · simp [h2]

section
variable {C : Ctx} {base : Nat} {e : En} {a : Act} {w : World} {g : Gh}

theorem remk_cells {p : PV} {cs : List PV} (h1 : ∀ q ∈ cs, q.one = true) (hl : cs.length = p.cells.length) (hp : ∀ q ∈ p.cells, q.one = true) : (remk p cs).cells = cs := by
  unfold remk
  split
  · rfl
  · rename_i hna
    split
    · rename_i q
      have := h1 q (by simp)
      cases q <;> simp_all [PV.cells, PV.one]
    · rename_i hne
      exfalso
      have : p.cells.length = 1 := by
        cases p with
        | agg cs => exact absurd rfl (hna cs)
        | _ => rfl
      rw [this] at hl
      match cs, hl with
      | [q], _ => exact hne q rfl

/-- Storing a value's cells into an own row. -/
theorem run_store_row {P : Program} {ty : TypeId} {T : Ty} (hT : tyOf P ty = some T) {b off : Nat} {old : List PV} (hR : RowIs w g b old) {p : PV} {v : Value} (hv : VR w g p v) (hn : p.cells.length = T.size) (h1 : ∀ c ∈ p.cells, c.one = true) (hle : off + T.size ≤ old.length) :
    ∃ cs cs' el fz w', (storeVar ty ⟨b, off, none⟩ v).run P w = .ok () w' ∧ RowSet w w' b cs cs' el fz ∧ (cs.size ≤ fz.1 ∨ fz.2 ≤ fz.1) ∧ VRP w g old cs.toList ∧ VRP w g (splice old off p.cells) cs'.toList ∧
      (∀ k, ¬(off ≤ k ∧ k < off + T.size) → cs'[k]? = cs[k]?) ∧ (∀ k, k < T.size → cs'[off + k]? = v.cells[k]?) := by
  obtain ⟨ho1, cs, el, fz, hh, hfz, hl⟩ := hR
  obtain ⟨d, i, hd⟩ := tyOf_is hT
  have hc := hv.cells
  have hvc : v.cells.size = T.size := by have := hc.1; simp at this; omega
  have hcs : old.length ≤ cs.size := by simpa using hl.1
  obtain ⟨cs', hRS, hk⟩ := setCells_row b v.cells.toList off w cs el fz hh (by simp; omega)
  have hone : ∀ u ∈ v.cells.toList, u.oneCell' = true := by
    intro u hu
    obtain ⟨k, hk, rfl⟩ := List.getElem_of_mem hu
    have hk' : k < p.cells.length := by have := hc.1; omega
    exact (hc.2 k p.cells[k] _ (by simp [hk']) (by simp [hk])).one (h1 _ (List.getElem_mem _))
  have hst := run_storeCells_cells (P := P) b off v.cells.toList 0 w (fun j hj => by
      have hlt : off + j < cs.size := by simp at hj; omega
      simp [World.cell?, hh, hlt])
    (fun j hj => by
      simp only [World.frozen?, hh, Bool.and_eq_false_iff, decide_eq_false_iff_not]
      simp at hj
      omega) hone
  simp only [Nat.add_zero] at hst
  have hk2 : ∀ k, cs'[k]? = if off ≤ k ∧ k < off + T.size then v.cells[k - off]? else cs[k]? := by
    intro k
    rw [hk k]
    simp [hvc]
  refine ⟨cs, cs', el, fz, _, ?_, hRS, hfz, hl, ?_, ?_, ?_⟩
  · unfold storeVar
    rw [Sem.run_bind, run_size hd.info]
    simp only [Result.andThen_ok]
    rw [if_neg (by rw [hvc, hd.size]; simp)]
    exact hst
  · refine ⟨by rw [splice_length (by omega)]; simp [hRS.sz]; omega, ?_⟩
    intro k q u hq hu
    rw [splice_get (by omega)] at hq
    rw [Array.getElem?_toList, hk2 k] at hu
    by_cases hr : off ≤ k ∧ k < off + T.size
    · rw [if_pos (by omega)] at hq
      rw [if_pos hr] at hu
      exact hc.2 _ q u hq (by simpa using hu)
    · rw [if_neg (by omega)] at hq
      rw [if_neg hr] at hu
      exact hl.2 k q u hq (by simpa using hu)
  · intro k hr
    rw [hk2 k, if_neg hr]
  · intro k hkk
    rw [hk2 (off + k), if_pos (by omega), Nat.add_sub_cancel_left]

theorem splice_one {old ns : List PV} {off : Nat} (h1 : ∀ p ∈ old, p.one = true) (h2 : ∀ p ∈ ns, p.one = true) : ∀ p ∈ splice old off ns, p.one = true := by
  intro p hp
  simp only [splice, List.mem_append] at hp
  rcases hp with (hp | hp) | hp
  · exact h1 p (List.mem_of_mem_take hp)
  · exact h2 p hp
  · exact h1 p (List.mem_of_mem_drop hp)

/-- A row that nothing is known of for ever is written: what stays. -/
theorem RowSet.keep0 {w w' : World} {b : Nat} {cs cs' : Array Value} {el : TypeId} {fz : Nat × Nat} (h : RowSet w w' b cs cs' el fz) (hD : g.D b = 0) : Keep w g w' g :=
  h.keep (fun _ => Nat.le_refl _) (fun _ _ h => h) (fun o ho => by omega)

theorem Appv.row {w w' : World} {b : Nat} {cs cs' : Array Value} {el : TypeId} {fz : Nat × Nat} (h : RowSet w w' b cs cs' el fz) {z : Nat} {v : Value} (ha : Appv w g base z v) : Appv w' g base z v := by
  unfold Appv at *
  split at ha
  · rename_i ad n c
    rcases ha with ha | ⟨k1, k2, k3, k4, cs2, e3, fz2, k5, k6, k7⟩
    · exact .inl ha
    · by_cases hb : ad.block = b
      · rw [hb, h.old] at k5
        cases k5
        exact .inr ⟨k1, k2, k3, k4, cs', el, fz, by rw [hb]; exact h.new, by rw [h.sz]; exact k6, k7⟩
      · exact .inr ⟨k1, k2, k3, k4, cs2, e3, fz2, by rw [h.other _ hb]; exact k5, k6, k7⟩
  · trivial

/-- A store into a local variable. -/
theorem rel_store (hr : REL C base e a w g) {s off : Nat} {old p : PV} (hs : lkp e.bx s = some old) {b : Nat} (hb : a.tmps.getD s undef = .pointer (some ⟨b, 0, none⟩)) {w' : World} {cs cs' : Array Value} {el : TypeId} {fz : Nat × Nat}
    (hR : RowSet w w' b cs cs' el fz) (hfz : cs.size ≤ fz.1 ∨ fz.2 ≤ fz.1) (hnew : VRP w g (splice old.cells off p.cells) cs'.toList) (h1 : ∀ c ∈ p.cells, c.one = true) (hle : off + p.cells.length ≤ old.cells.length)
    {F' : List (Nat × Nat × Nat)} (hF : OwnF C base { e with bx := setb e.bx s (remk old (splice old.cells off p.cells)), F := F' } a w' g) :
    REL C base { e with bx := setb e.bx s (remk old (splice old.cells off p.cells)), F := F' } a w' g ∧ ExtB base w g w' g := by
  obtain ⟨hsb, hsz, b', hb', hbase, hD, hio, hrow⟩ := hr.bx s old hs
  rw [hb] at hb'; cases hb'
  have hk := hR.keep0 hD
  have hold := hrow.1
  have hcells : (remk old (splice old.cells off p.cells)).cells = splice old.cells off p.cells := remk_cells (splice_one hold h1) (splice_length hle) hold
  refine ⟨⟨by rw [hR.size]; exact hr.hb, hr.defers, ?_, ?_, ?_, ?_, hF⟩, ⟨hR.os, hR.tape, hR.output, by rw [hR.size]; exact Nat.le_refl _, fun k hk' _ => hR.other k (by omega), fun _ _ _ => rfl, fun _ _ => Nat.le_refl _, [], by simp, by simp⟩⟩
  · refine ⟨fun k hk' => hr.good.fresh k (by rw [← hR.size]; exact hk'), hr.good.len, hr.good.nodup, ?_⟩
    intro i k ob hi ho
    obtain ⟨h2, h3⟩ := hr.good.obj i k ob hi ho
    exact ⟨h2, h3.keep hk (hR.other k (by intro h; subst h; exact hio (List.mem_of_getElem? hi)))⟩
  · intro d c hc
    exact ⟨(hr.t d c hc).1, (hr.t d c hc).2.keep hk (fun _ _ => rfl)⟩
  · intro s' p' hs'
    rw [lkp_setb] at hs'
    split at hs'
    · rename_i he
      subst he
      cases hs'
      refine ⟨hsb, hsz, b, hb, hbase, hD, hio, ?_⟩
      rw [hcells]
      exact ⟨splice_one hold h1, cs', el, fz, hR.new, by rw [hR.sz]; exact hfz, hnew.1, fun i q u hq hu => (hnew.2 i q u hq hu).keep hk⟩
    · rename_i hne
      obtain ⟨k1, k2, b2, k3, k4, k5, k6, k7⟩ := hr.bx s' p' hs'
      refine ⟨k1, k2, b2, k3, k4, k5, k6, k7.keep hk (hR.other b2 ?_)⟩
      intro h; subst h
      exact hne (hr.dist s' s b2 p' old hs' hs k3 hb)
  · intro s1 s2 b2 p1 p2 h1' h2' h3 h4
    rw [lkp_setb] at h1' h2'
    have g1 : ∃ p, lkp e.bx s1 = some p := by
      split at h1'
      · rename_i he; subst he; exact ⟨_, hs⟩
      · exact ⟨_, h1'⟩
    have g2 : ∃ p, lkp e.bx s2 = some p := by
      split at h2'
      · rename_i he; subst he; exact ⟨_, hs⟩
      · exact ⟨_, h2'⟩
    exact hr.dist s1 s2 b2 _ _ g1.choose_spec g2.choose_spec h3 h4

theorem ok_store_loc (hr : REL C base e a w g) {o : Oper} {ty : TypeId} {x ax : Operand} {tr : Bool} {T : Ty} {s off : Nat} {p : PV} {e' : En} (ho : o.op = .store ty ax x) (hod : o.dst = none) (hT : tyOf C.P ty = some T) (hA : adr e ax = some (.loc s off)) (hp : ev C.P e ty x = some p)
    (h : storeA e T p (.loc s off) = some e') : StepOK C base o { e' with F := fnext C tr o e } a w g := by
  simp only [storeA] at h
  cases hs : lkp e.bx s with
  | none => rw [hs] at h; cases h
  | some old =>
    rw [hs] at h
    simp only at h
    split at h
    case isFalse => cases h
    rename_i hc
    obtain ⟨hn, h1, hle⟩ := hc
    cases h
    obtain ⟨hsb, b, hb, hav⟩ := adr_sound hr hA
    obtain ⟨_, hsz, b', hb', hbase, hD, hio, hrow⟩ := hr.bx s old hs
    rw [hb] at hb'; cases hb'
    have hv := ev_sound hr hp
    obtain ⟨cs, cs', el, fz, w', hrun, hR, hfz, hold, hnew, hout, hin⟩ := run_store_row hT hrow hv hn h1 hle
    have hcells : (remk old (splice old.cells off p.cells)).cells = splice old.cells off p.cells := remk_cells (splice_one hrow.1 h1) (splice_length (by omega)) hrow.1
    have hrunO : (execOp a.eval o).run C.P w = .ok .skip w' := by
      simp only [execOp, ho, hav, Instr.storeAt, Instr.sureAddr, Sem.run_bind, Sem.run_pure, Result.andThen_ok, hrun]
    have fin : ∀ F', OwnF C base { e with bx := setb e.bx s (remk old (splice old.cells off p.cells)), F := F' } a w' g → StepOK C base o { e with bx := setb e.bx s (remk old (splice old.cells off p.cells)), F := F' } a w g := by
      intro F' hF
      obtain ⟨h2, h3⟩ := rel_store hr hs hb hR hfz hnew h1 (by omega) hF
      refine ⟨w', g, h3, .inr ⟨hrunO, ?_⟩⟩
      rw [hod]; exact h2
    refine fin _ ?_
    -- the places behind the store
    have hcv : ∀ l : Nat × Nat × Nat, l.1 ≠ s → ∀ z t u, pval e l = some (.slice z t) → cval C a w' l = some u → cval C a w l = some u := by
      intro l hl z t u hpl hcl
      unfold cval at *
      split at hcl
      · rename_i hlb
        rw [if_pos hlb]
        cases hx : lkp e.bx l.1 with
        | none =>
          exfalso
          simp only [pval, hx] at hpl
          split at hpl
          · rename_i q hq
            exact (hr.t _ _ hq).1 hlb
          · cases hpl
        | some q =>
          obtain ⟨_, _, b2, k1, _⟩ := hr.bx l.1 q hx
          rw [k1] at hcl ⊢
          simp only at hcl ⊢
          rw [← hcl]
          refine (cell?_congr (hR.other b2 ?_)).symm
          intro h; subst h
          exact hl (hr.dist l.1 s b2 q old hx hs k1 hb)
      · rename_i hlb
        rw [if_neg hlb]
        exact hcl
    have hpv : ∀ l : Nat × Nat × Nat, l.1 ≠ s → ∀ F', pval { e with bx := setb e.bx s (remk old (splice old.cells off p.cells)), F := F' } l = pval e l := by
      intro l hl F'
      simp only [pval, lkp_setb]
      rw [if_neg hl]
    -- a place within the variable
    have hps : ∀ k F' c, pval { e with bx := setb e.bx s (remk old (splice old.cells off p.cells)), F := F' } (s, c, k) = (splice old.cells off p.cells)[k]? := by
      intro k F' c
      simp only [pval, lkp_setb, if_true, hcells]
    have hps0 : ∀ k c, pval e (s, c, k) = old.cells[k]? := by
      intro k c
      simp only [pval, hs]
    have hcs : ∀ k c, cval C a w' (s, c, k) = cs'[k]? := by
      intro k c
      simp only [cval]
      rw [if_pos hsb, hb]
      simp [World.cell?, hR.new]
    have hcs0 : ∀ k c, cval C a w (s, c, k) = cs[k]? := by
      intro k c
      simp only [cval]
      rw [if_pos hsb, hb]
      simp [World.cell?, hR.old]
    have general : ∀ (F' : List (Nat × Nat × Nat)) (rho : Nat × Nat × Nat → Option (Nat × Nat × Nat)),
        (∀ l' ∈ F', (l'.1 ≠ s ∧ l' ∈ e.F ∧ rho l' = some l') ∨ (l'.1 = s ∧ ¬(off ≤ l'.2.2 ∧ l'.2.2 < off + T.size) ∧ l' ∈ e.F ∧ rho l' = some l') ∨
          (∃ xt k, x = .tmp xt ∧ l' = (s, 0, off + k) ∧ k < T.size ∧ (xt, 0, k) ∈ e.F ∧ rho l' = some (xt, 0, k)) ∨ (l' = (s, 0, off) ∧ isNil x = true ∧ rho l' = none)) →
        (∀ l ∈ F', ∀ l' ∈ F', ∀ k, rho l = some k → rho l' = some k → l = l') →
        OwnF C base { e with bx := setb e.bx s (remk old (splice old.cells off p.cells)), F := F' } a w' g := by
      intro F' rho hF hinj
      have hval : ∀ l' ∈ F', ∀ z t u, pval { e with bx := setb e.bx s (remk old (splice old.cells off p.cells)), F := F' } l' = some (.slice z t) → cval C a w' l' = some u →
          (∃ l ∈ e.F, rho l' = some l ∧ pval e l = some (.slice z t) ∧ cval C a w l = some u) ∨ (rho l' = none ∧ ownb u = none ∧ l' = (s, 0, off)) := by
        intro l' hl' z t u hpl hcl
        rcases hF l' hl' with ⟨k1, k2, k3⟩ | ⟨k1, k2, k3, k4⟩ | ⟨xt, k, rfl, rfl, k3, k4, k5⟩ | ⟨rfl, k2, k3⟩
        · rw [hpv l' k1 F'] at hpl
          exact .inl ⟨l', k2, k3, hpl, hcv l' k1 z t u hpl hcl⟩
        · obtain ⟨l1, l2, l3⟩ := l'
          simp only at k1; subst k1
          rw [hps] at hpl
          rw [hcs] at hcl
          simp only at k2
          rw [splice_get (by omega), if_neg (by omega)] at hpl
          rw [hout _ k2] at hcl
          exact .inl ⟨_, k3, k4, by rw [hps0]; exact hpl, by rw [hcs0]; exact hcl⟩
        · rw [hps] at hpl
          rw [hcs] at hcl
          rw [splice_get (by omega), if_pos (by omega), Nat.add_sub_cancel_left] at hpl
          rw [hin k k3] at hcl
          simp only [ev] at hp
          split at hp
          · rename_i q hq
            cases hp
            obtain ⟨e1, e2⟩ := tmp_get hr hq (0, k)
            have hnt : ∀ vs, p ≠ .tup vs := by
              intro vs hvs; subst hvs
              have := h1 (.tup vs) (by simp [PV.cells])
              simp [PV.one] at this
            refine .inl ⟨_, k4, k5, by rw [e1, compP_not hnt]; exact hpl, ?_⟩
            rw [e2]
            show (compV (a.eval (.tmp xt)) 0).cells[k]? = some u
            rw [compV_not (hv.notTup hnt)]
            exact hcl
          · cases hp
        · right
          rw [hcs] at hcl
          refine ⟨k3, ?_, rfl⟩
          unfold isNil at k2
          split at k2
          · simp only [ev] at hp
            split at hp
            · cases hp
              simp only [PV.cells, List.length_cons, List.length_nil, Nat.zero_add] at hn
              have := hin 0 (by omega)
              rw [Nat.add_zero, hcl] at this
              simp [Act.eval, Value.cells] at this
              subst this
              rfl
            · cases hp
          · cases k2
      have hnone : ∀ l ∈ F', ∀ l' ∈ F', rho l = none → rho l' = none → l = l' := by
        intro l hl l' hl' k1 k2
        have q : ∀ l ∈ F', rho l = none → l = (s, 0, off) := by
          intro l hl k1
          rcases hF l hl with ⟨_, _, k3⟩ | ⟨_, _, _, k4⟩ | ⟨xt, k, _, _, _, _, k5⟩ | ⟨k2, _, _⟩
          · rw [k1] at k3; cases k3
          · rw [k1] at k4; cases k4
          · rw [k1] at k5; cases k5
          · exact k2
        rw [q l hl k1, q l' hl' k2]
      refine OwnF.map hr.own rho ?_ (fun _ _ _ _ _ _ _ _ _ ha _ _ => ha.row hR) hinj ?_ ?_
      · intro l' hl' l hrho
        have hm : l ∈ e.F := by
          rcases hF l' hl' with ⟨_, k2, k3⟩ | ⟨_, _, k3, k4⟩ | ⟨xt, k, _, _, _, k4, k5⟩ | ⟨_, _, k3⟩
          · rw [hrho] at k3; cases k3; exact k2
          · rw [hrho] at k4; cases k4; exact k3
          · rw [hrho] at k5; cases k5; exact k4
          · rw [hrho] at k3; cases k3
        refine ⟨hm, fun z t u hpl hcl => ?_⟩
        rcases hval l' hl' z t u hpl hcl with ⟨l2, _, hr2, h4⟩ | ⟨hr2, _⟩
        · rw [hrho] at hr2; cases hr2; exact h4
        · rw [hrho] at hr2; cases hr2
      · intro l' hl' hrho z t u hpl hcl
        rcases hval l' hl' z t u hpl hcl with ⟨l2, _, hr2, h4⟩ | ⟨_, h5, _⟩
        · rw [hrho] at hr2; cases hr2
        · exact ⟨Appv.none h5, fun b hb' => by rw [h5] at hb'; cases hb'⟩
      · intro l' hl' z t u b2 hpl hcl hob s' p' hs' heq
        have hs2 : ∃ q, lkp e.bx s' = some q := by
          simp only [lkp_setb] at hs'
          split at hs'
          · rename_i he; subst he; exact ⟨_, hs⟩
          · exact ⟨_, hs'⟩
        rcases hval l' hl' z t u hpl hcl with ⟨l3, hm3, _, hp3, hc3⟩ | ⟨_, h5, _⟩
        · exact hr.own.box l3 hm3 z t u b2 hp3 hc3 hob s' _ hs2.choose_spec heq
        · rw [h5] at hob; cases hob
    have hrs : ∀ l, inRangeS s off T.size l = true ↔ l.1 = s ∧ off ≤ l.2.2 ∧ l.2.2 < off + T.size := by
      intro l; simp [inRangeS, and_assoc]
    have hF0 : ∀ l ∈ e.F.filter (fun l => !inRangeS s off T.size l), l ∈ e.F ∧ ¬(l.1 = s ∧ off ≤ l.2.2 ∧ l.2.2 < off + T.size) := by
      intro l hl
      obtain ⟨k1, k2⟩ := List.mem_filter.1 hl
      refine ⟨k1, fun hc => ?_⟩
      rw [(hrs l).2 hc] at k2
      cases k2
    have plain0 : ∀ F', (∀ l ∈ F', l ∈ e.F ∧ ¬(l.1 = s ∧ off ≤ l.2.2 ∧ l.2.2 < off + T.size)) → OwnF C base { e with bx := setb e.bx s (remk old (splice old.cells off p.cells)), F := F' } a w' g := by
      intro F' hF
      refine general F' some ?_ (fun l _ l' _ k h1 h2 => by cases h1; cases h2; rfl)
      intro l hl
      obtain ⟨k1, k2⟩ := hF l hl
      by_cases hls : l.1 = s
      · exact .inr (.inl ⟨hls, fun hrr => k2 ⟨hls, hrr.1, hrr.2⟩, k1, rfl⟩)
      · exact .inl ⟨hls, k1, rfl⟩
    have nilc : isNil x = true → OwnF C base { e with bx := setb e.bx s (remk old (splice old.cells off p.cells)), F := (s, 0, off) :: e.F.filter (fun l => !inRangeS s off T.size l) } a w' g := by
      intro hx
      refine general _ (fun l => if l = (s, 0, off) then none else some l) ?_ ?_
      · intro l hl
        rcases List.mem_cons.1 hl with rfl | hl
        · exact .inr (.inr (.inr ⟨rfl, hx, by simp⟩))
        · obtain ⟨k1, k2⟩ := hF0 l hl
          have hne : l ≠ (s, 0, off) := by
            intro h; subst h
            have hT1 : T.size = 1 := by
              unfold isNil at hx
              split at hx
              · simp only [ev] at hp
                split at hp
                · cases hp; simpa [PV.cells] using hn.symm
                · cases hp
              · cases hx
            exact k2 ⟨rfl, Nat.le_refl _, by simp [hT1]⟩
          by_cases hls : l.1 = s
          · exact .inr (.inl ⟨hls, fun hrr => k2 ⟨hls, hrr.1, hrr.2⟩, k1, by rw [if_neg hne]⟩)
          · exact .inl ⟨hls, k1, by rw [if_neg hne]⟩
      · intro l _ l' _ k h1 h2
        split at h1
        · cases h1
        · split at h2
          · cases h2
          · cases h1; cases h2; rfl
    have hf : fnext C tr o e = if C.own = false then [] else (match x with
      | .tmp x => if x ≠ s then (e.F.filter fun l => !inRangeS s off T.size l).map fun l => if l.1 = x ∧ l.2.1 = 0 ∧ l.2.2 < T.size then (s, 0, off + l.2.2) else l else e.F.filter fun l => !inRangeS s off T.size l
      | x => if isNil x then (s, 0, off) :: e.F.filter fun l => !inRangeS s off T.size l else e.F.filter fun l => !inRangeS s off T.size l) := by
      unfold fnext
      simp only [ho, hT, hA]
      rfl
    rw [hf]
    split
    · exact plain0 [] (by simp)
    · split
      · rename_i xt
        split
        · rename_i hxs
          refine general _ (fun l => if l.1 = s ∧ off ≤ l.2.2 ∧ l.2.2 < off + T.size then some (xt, 0, l.2.2 - off) else some l) ?_ ?_
          · intro l' hl'
            obtain ⟨y, hy, hyl⟩ := List.mem_map.1 hl'
            obtain ⟨k1, k2⟩ := hF0 y hy
            split at hyl
            · rename_i hc
              subst hyl
              refine .inr (.inr (.inl ⟨xt, y.2.2, rfl, rfl, hc.2.2, ?_, ?_⟩))
              · have : (xt, 0, y.2.2) = y := by rw [← hc.1, ← hc.2.1]
                rw [this]; exact k1
              · simp only
                rw [if_pos ⟨trivial, by omega, by omega⟩, Nat.add_sub_cancel_left]
            · subst hyl
              by_cases hls : y.1 = s
              · exact .inr (.inl ⟨hls, fun hrr => k2 ⟨hls, hrr.1, hrr.2⟩, k1, by rw [if_neg k2]⟩)
              · exact .inl ⟨hls, k1, by rw [if_neg k2]⟩
          · have q : ∀ l ∈ ((e.F.filter fun l => !inRangeS s off T.size l).map fun l => if l.1 = xt ∧ l.2.1 = 0 ∧ l.2.2 < T.size then (s, 0, off + l.2.2) else l),
                ((l.1 = s ∧ off ≤ l.2.2 ∧ l.2.2 < off + T.size) ∧ l.2.1 = 0) ∨ (¬(l.1 = s ∧ off ≤ l.2.2 ∧ l.2.2 < off + T.size) ∧ ¬(l.1 = xt ∧ l.2.1 = 0 ∧ l.2.2 < T.size)) := by
              intro l hl
              obtain ⟨y, hy, hyl⟩ := List.mem_map.1 hl
              obtain ⟨k1, k2⟩ := hF0 y hy
              split at hyl
              · rename_i hc
                subst hyl
                exact .inl ⟨⟨rfl, Nat.le_add_right _ _, Nat.add_lt_add_left hc.2.2 _⟩, rfl⟩
              · rename_i hc
                subst hyl
                exact .inr ⟨k2, hc⟩
            intro l hl l' hl' k h1 h2
            rcases q l hl with ⟨q1, q2⟩ | ⟨q1, q2⟩ <;> rcases q l' hl' with ⟨q3, q4⟩ | ⟨q3, q4⟩
            · rw [if_pos q1] at h1
              rw [if_pos q3] at h2
              have h5 : (xt, 0, l.2.2 - off) = (xt, 0, l'.2.2 - off) := by rw [Option.some.injEq] at h1 h2; rw [h1, h2]
              have h6 : l.2.2 - off = l'.2.2 - off := congrArg (fun x : Nat × Nat × Nat => x.2.2) h5
              exact Prod.ext (q1.1.trans q3.1.symm) (Prod.ext (q2.trans q4.symm) (by omega))
            · rw [if_pos q1] at h1
              rw [if_neg q3] at h2
              rw [Option.some.injEq] at h1 h2
              exact absurd (by rw [h2, ← h1]; simp; omega) q4
            · rw [if_neg q1] at h1
              rw [if_pos q3] at h2
              rw [Option.some.injEq] at h1 h2
              exact absurd (by rw [h1, ← h2]; simp; omega) q2
            · rw [if_neg q1] at h1
              rw [if_neg q3] at h2
              rw [Option.some.injEq] at h1 h2
              rw [h1, h2]
        · exact plain0 _ hF0
      · split
        · rename_i hx; exact nilc hx
        · exact plain0 _ hF0

end
end Go.Proofs.Ytielbjjdgdblcaa.Vm

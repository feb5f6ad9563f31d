/- Addresses, loads, parts, slices of what is known. -/
import Derived.Test.YtielbjjdgdblcaaVm6
namespace Go.Proofs.Ytielbjjdgdblcaa.Vm
open Go

section
variable {C : Ctx} {base : Nat} {e : En} {a : Act} {w : World} {g : Gh}

def CellsAt (w : World) (g : Gh) (b off : Nat) (cs : List PV) : Prop := ∀ (k : Nat) p, cs[k]? = some p → ∃ u, w.cell? ⟨b, off + k, none⟩ = some u ∧ VR w g p u

theorem add_none (b off n : Nat) : (⟨b, off, none⟩ : Addr).add n = ⟨b, off + n, none⟩ := by
  unfold Addr.add
  split
  · rename_i h; subst h; rfl
  · rfl

def AdrR (C : Ctx) (a : Act) (w : World) (g : Gh) : Adr → Value → Prop
  | .loc s off, v => ClR C a w g (.loc s off) v
  | .elem cs, v => ClR C a w g (.elem cs) v
  | .heap id off, v => VR w g (.ptr (some (id, off))) v

theorem adr_sound (hr : REL C base e a w g) {x : Operand} {A : Adr} (h : adr e x = some A) : AdrR C a w g A (a.eval x) := by
  unfold adr at h
  split at h
  · rename_i t
    split at h
    · rename_i hq; cases h; exact (hr.t t _ hq).2
    · rename_i hq; cases h; exact (hr.t t _ hq).2
    · rename_i hq; cases h; exact (hr.t t _ hq).2
    · cases h
    · split at h
      · rename_i hb
        cases h
        cases hq : lkp e.bx t with
        | none => rw [hq] at hb; simp at hb
        | some p =>
          obtain ⟨h1, _, b, h2, _⟩ := hr.bx t p hq
          exact ⟨h1, b, h2, h2⟩
      · cases h
  · cases h

theorem rowis_cells {b : Nat} {cs : List PV} (h : RowIs w g b cs) : CellsAt w g b 0 cs := by
  obtain ⟨_, us, e, fz, hh, _, hl⟩ := h
  intro k p hp
  have hlt : k < us.size := by have := (List.getElem?_eq_some_iff.1 hp).1; have := hl.1; simp at this; omega
  exact ⟨us[k], by simp [World.cell?, hh, hlt], hl.2 k p us[k] hp (by simp [hlt])⟩

theorem cellsAt_sub {b off o n : Nat} {cs : List PV} (h : CellsAt w g b off cs) : CellsAt w g b (off + o) ((cs.drop o).take n) := by
  intro k p hp
  obtain ⟨u, hu, hr⟩ := h (o + k) p (take_drop_get hp).1
  exact ⟨u, by rw [← hu, Nat.add_assoc], hr⟩

/-- What an address leads to. -/
theorem loadA_cells (hr : REL C base e a w g) {T : Ty} {A : Adr} {v : Value} (hA : AdrR C a w g A v) {r : PV} (h : loadA e T A = some r) :
    ∃ b off cs, v = .pointer (some ⟨b, off, none⟩) ∧ CellsAt w g b off cs ∧ mkv T.agg T.size cs = some r ∧ ∀ p ∈ cs, p.one = true := by
  unfold loadA at h
  split at h
  · rename_i s off
    split at h
    · rename_i p hp
      obtain ⟨_, b, h1, h2⟩ := hA
      obtain ⟨_, _, b', h3, _, _, _, h4⟩ := hr.bx s p hp
      rw [h3] at h1; cases h1
      have := cellsAt_sub (o := off) (n := T.size) (rowis_cells h4)
      simp only [Nat.zero_add] at this
      exact ⟨b, off, _, h2, this, h, fun q hq => h4.1 q (List.mem_of_mem_drop (List.mem_of_mem_take hq))⟩
    · cases h
  · rename_i cs
    obtain ⟨b, o, h1, ho1, h2⟩ := hA
    refine ⟨b, o, _, h1, ?_, h, fun q hq => ho1 q (List.mem_of_mem_take hq)⟩
    intro k p hp
    have : ((cs.drop 0).take T.size)[k]? = some p := by simpa using hp
    obtain ⟨u, hu, _, hr'⟩ := h2 k p (by simpa using (take_drop_get this).1)
    exact ⟨u, hu, hr'⟩
  · rename_i id off
    split at h
    · rename_i ob hob
      cases hA with
      | ptr _ _ b hb =>
        have h4 := (hr.good.obj id b ob hb hob).2
        have := cellsAt_sub (o := off) (n := T.size) (rowis_cells h4)
        simp only [Nat.zero_add] at this
        exact ⟨b, off, _, rfl, this, h, fun q hq => h4.1 q (List.mem_of_mem_drop (List.mem_of_mem_take hq))⟩
    · cases h

theorem run_loadV {P : Program} {t : TypeId} {T : Ty} (hT : tyOf P t = some T) {b off : Nat} {cs : List PV} {r : PV} (hm : mkv T.agg T.size cs = some r) (hc : CellsAt w g b off cs) (h1 : ∀ p ∈ cs, p.one = true) :
    ∃ v, (loadVar t ⟨b, off, none⟩).run P w = .ok v w ∧ VR w g r v ∧ ∀ k, k < T.size → v.cells[k]? = w.cell? ⟨b, off + k, none⟩ := by
  obtain ⟨d, i, hd⟩ := tyOf_is hT
  unfold mkv at hm
  split at hm
  · rename_i hlen
    unfold loadVar
    rw [Sem.run_bind, run_isAgg hd.u]
    simp only [Result.andThen_ok]
    rw [← hd.agg]
    split at hm
    · rename_i hag
      cases hm
      rw [if_pos hag]
      have hf : ∃ f : Nat → Value, ∀ k, k < cs.length → w.cell? ⟨b, off + k, none⟩ = some (f k) ∧ ∀ p, cs[k]? = some p → VR w g p (f k) := by
        refine ⟨fun k => (w.cell? ⟨b, off + k, none⟩).getD .nilIface, fun k hk => ?_⟩
        obtain ⟨u, hu, hr⟩ := hc k cs[k] (by simp [hk])
        refine ⟨by simp [hu], fun p hp => ?_⟩
        rw [show cs[k]? = some cs[k] from by simp [hk]] at hp
        cases hp
        simpa [hu] using hr
      obtain ⟨f, hf⟩ := hf
      have hl := run_loadCells_list (P := P) w ⟨b, off, none⟩ ((List.range cs.length).map f) (fun j v hv => by
        rw [add_none]
        simp only [List.getElem?_map] at hv
        cases hj : (List.range cs.length)[j]? with
        | none => rw [hj] at hv; cases hv
        | some j' =>
          rw [hj] at hv; cases hv
          obtain ⟨h1, h2⟩ := List.getElem?_eq_some_iff.1 hj
          simp at h1 h2
          subst h2
          exact (hf j h1).1)
      refine ⟨.agg ((List.range cs.length).map f).toArray, ?_, ?_, ?_⟩
      · have hn : i.size = cs.length := by rw [← hd.size, hlen]
        simp only [Sem.run_bind, run_size hd.info, Result.andThen_ok, hn]
        simp only [List.length_map, List.length_range] at hl
        rw [hl]
        rfl
      · refine VR.agg cs _ (by simp) ?_
        intro k p v hp hv
        have hk : k < cs.length := (List.getElem?_eq_some_iff.1 hp).1
        simp [hk] at hv
        subst hv
        exact (hf k hk).2 p hp
      · intro k hk
        rw [← hlen] at hk
        rw [(hf k hk).1]
        simp [Value.cells, hk]
    · rename_i hag
      rw [if_neg hag]
      split at hm
      · rename_i p
        cases hm
        obtain ⟨u, hu, hr⟩ := hc 0 r rfl
        simp only [List.length_cons, List.length_nil, Nat.zero_add] at hlen
        refine ⟨u, by simp only [Nat.add_zero] at hu; simp [hu], hr, fun k hk => ?_⟩
        have hk0 : k = 0 := by omega
        subst hk0
        rw [hu]
        have hu1 : u.cells = #[u] := by
          have := hr.one (h1 r (by simp))
          cases u <;> simp_all [Value.cells, Value.oneCell']
        rw [hu1]; rfl
      · cases hm
  · cases hm

theorem g_load (hr : REL C base e a w g) {o : Oper} {ty : TypeId} {x : Operand} {e' : En} (ho : o.op = .load ty x) (h : stepO C o e = some e') :
    ∃ T A r v b off, tyOf C.P ty = some T ∧ adr e x = some A ∧ loadA e T A = some r ∧ e' = put o (.v r) e ∧ (execOp a.eval o).run C.P w = .ok (.value v) w ∧ VR w g r v ∧ a.eval x = .pointer (some ⟨b, off, none⟩) ∧
      ∀ k, k < T.size → v.cells[k]? = w.cell? ⟨b, off + k, none⟩ := by
  simp only [stepO, ho] at h
  split at h
  · rename_i T A hT hA
    cases hl : loadA e T A with
    | none => rw [hl] at h; cases h
    | some r =>
      obtain ⟨b, off, cs, hv, hc, hm, h1'⟩ := loadA_cells hr (adr_sound hr hA) hl
      obtain ⟨v, h1, h2, h3⟩ := run_loadV hT hm hc h1'
      rw [hl] at h; cases h
      refine ⟨T, A, r, v, b, off, hT, hA, hl, rfl, ?_, h2, hv, h3⟩
      simp only [execOp, ho, hv, Instr.loadAt, Instr.sureAddr, Sem.run_bind, Sem.run_pure, Result.andThen_ok, h1]
  · cases h

theorem g_field (hr : REL C base e a w g) {o : Oper} {ty : TypeId} {x : Operand} {i : Nat} {e' : En} (ho : o.op = .field ty x i) (h : stepO C o e = some e') : Gives C o e e' a w g := by
  simp only [stepO, ho] at h
  split at h
  · rename_i fs _ _ _ _ cs hT hp
    split at h
    · rename_i ty' off n ag hf
      split at h
      · rename_i hle
        obtain ⟨us, hu, hl⟩ := vr_agg (ev_sound hr hp)
        obtain ⟨Fs, hF, hfs⟩ := td_struct hT rfl
        rw [hfs] at hf
        simp only [List.getElem?_map] at hf
        cases hq : Fs[i]? with
        | none => simp [hq] at hf
        | some f =>
          simp only [Array.getElem?_toList, hq, Option.map_some, Option.some.injEq, Prod.mk.injEq] at hf
          obtain ⟨rfl, rfl, rfl, rfl⟩ := hf
          cases hm : mkv (aggOf C.P f.type) (cellsK C.P f.type) ((cs.drop f.offset).take (cellsK C.P f.type)) with
          | none => rw [hm] at h; cases h
          | some r =>
            obtain ⟨d, inf, hd, hi, hsz⟩ := mkv_known hm
            rw [hsz] at hm
            obtain ⟨v, h1, h2⟩ := run_part (w := w) hd hi hl hm
            refine gives_putv h (v := v) ?_ (fun p hp => by rw [hsz, hm] at hp; cases hp; exact h2)
            simp only [execOp, ho, hu, Instr.field, Sem.run_bind, run_under hF, Result.andThen_ok, hq, asAgg, Sem.run_pure, h1]
      · cases h
    · cases h
  · cases h

theorem flat_get {l : List PV} {z i k : Nat} {p q : PV} (hz : ∀ e ∈ l, e.cells.length = z) (hl : l[i]? = some p) (hq : p.cells[k]? = some q) : (flat l)[i * z + k]? = some q := by
  induction l generalizing i with
  | nil => simp at hl
  | cons x l ih =>
    have hx : x.cells.length = z := hz x (by simp)
    simp only [flat, List.flatMap_cons]
    cases i with
    | zero =>
      simp at hl; subst hl
      have hk : k < x.cells.length := (List.getElem?_eq_some_iff.1 hq).1
      rw [Nat.zero_mul, Nat.zero_add, List.getElem?_append_left hk]
      exact hq
    | succ i =>
      simp only [List.getElem?_cons_succ] at hl
      have := ih (fun e he => hz e (by simp [he])) hl
      rw [List.getElem?_append_right (by rw [hx, Nat.succ_mul]; omega)]
      rw [← this, flat]
      congr 1
      rw [hx, Nat.succ_mul]; omega

theorem flat_length {l : List PV} {z : Nat} (hz : ∀ e ∈ l, e.cells.length = z) : (flat l).length = l.length * z := by
  induction l with
  | nil => simp [flat]
  | cons x l ih =>
    simp only [flat, List.flatMap_cons, List.length_append, List.length_cons]
    have := ih (fun e he => hz e (by simp [he]))
    simp only [flat] at this
    rw [this, hz x (by simp), Nat.succ_mul, Nat.add_comm]

theorem gives_cl {o : Oper} {v : Value} {c : Cl} (hv : (execOp a.eval o).run C.P w = .ok (.value v) w) (hc : ClR C a w g c v) : Gives C o e (put o c e) a w g := ⟨v, c, hv, rfl, hc⟩

/-- A place within what an address leads to. -/
theorem adr_in {A : Adr} {v : Value} (h : AdrR C a w g A v) (n : Nat) : ∃ b off, v = .pointer (some ⟨b, off, none⟩) ∧
    (match A with
      | .loc s off => ClR C a w g (.loc s (off + n)) (.pointer (some ⟨b, off + n, none⟩))
      | .elem cs => ClR C a w g (.elem (cs.drop n)) (.pointer (some ⟨b, off + n, none⟩))
      | .heap id off => VR w g (.ptr (some (id, off + n))) (.pointer (some ⟨b, off + n, none⟩))) ∧ (match A with | .loc _ o => o = off | .elem _ => True | .heap _ o => o = off) := by
  cases A with
  | loc s off =>
    obtain ⟨hs, b, h1, h2⟩ := h
    exact ⟨b, off, h2, ⟨hs, b, h1, rfl⟩, rfl⟩
  | elem cs =>
    obtain ⟨b, o, h1, h2, h3⟩ := h
    refine ⟨b, o, h1, ⟨b, o + n, rfl, fun p hp => h2 p (List.mem_of_mem_drop hp), fun k p hp => ?_⟩, trivial⟩
    rw [List.getElem?_drop] at hp
    have := h3 (n + k) p hp
    simpa [Nat.add_assoc] using this
  | heap id off =>
    cases h with
    | ptr _ _ b hb => exact ⟨b, off, rfl, .ptr _ _ b hb, rfl⟩

theorem g_fieldAddr (hr : REL C base e a w g) {o : Oper} {ty : TypeId} {x : Operand} {i : Nat} {e' : En} (ho : o.op = .fieldAddr ty x i) (h : stepO C o e = some e') : Gives C o e e' a w g := by
  simp only [stepO, ho] at h
  split at h
  · rename_i fs _ _ _ _ A hT hA
    split at h
    · rename_i ty' off n ag hf
      split at h
      · cases h
      · rename_i hn
        obtain ⟨Fs, hF, hfs⟩ := td_struct hT rfl
        rw [hfs] at hf
        simp only [List.getElem?_map] at hf
        cases hq : Fs[i]? with
        | none => simp [hq] at hf
        | some f =>
          simp only [Array.getElem?_toList, hq, Option.map_some, Option.some.injEq, Prod.mk.injEq] at hf
          obtain ⟨rfl, rfl, rfl, rfl⟩ := hf
          obtain ⟨d, inf, hd, hi, hsz⟩ := cellsK_pos hn
          have hsn : inf.size ≠ 0 := by rw [← hsz]; exact hn
          obtain ⟨b, of, hv, hc, ho'⟩ := adr_in (adr_sound hr hA) f.offset
          have hrun : (execOp a.eval o).run C.P w = .ok (.value (.pointer (some ⟨b, of + f.offset, none⟩))) w := by
            simp only [execOp, ho, hv, Instr.fieldAt, Sem.run_bind, run_under hF, Result.andThen_ok, hq, Instr.sureAddr, Sem.run_pure, fieldPlace, run_size hi, if_neg hsn, Sem.run_ite, add_none]
          cases A with
          | loc s o2 => cases h; simp only at ho'; subst ho'; exact gives_cl hrun hc
          | elem cs => cases h; exact gives_cl hrun hc
          | heap id o2 => cases h; simp only at ho'; subst ho'; exact gives_cl hrun hc
    · cases h
  · cases h

theorem g_indexAddr (hr : REL C base e a w g) {o : Oper} {ty : TypeId} {x ix : Operand} {e' : En} (ho : o.op = .indexAddr ty x ix) (h : stepO C o e = some e') : Gives C o e e' a w g := by
  simp only [stepO, ho] at h
  split at h
  · rename_i n el z ag _ _ _ _ k i hT hp
    have hi := vr_int (ev_sound hr hp)
    split at h
    · rename_i A hA
      split at h
      · rename_i hb
        obtain ⟨hu, hz, _⟩ := td_arr hT rfl
        obtain ⟨b, of, hv, hc, ho'⟩ := adr_in (adr_sound hr hA) (i.toNat * z)
        have hz0 : z ≠ 0 := by have := hb.2; omega
        · rw [← hz] at hz0
          obtain ⟨d, inf, hd, hinf, hsz⟩ := cellsK_pos hz0
          rw [hz] at hsz
          have hrun : (execOp a.eval o).run C.P w = .ok (.value (.pointer (some ⟨b, of + i.toNat * z, none⟩))) w := by
            simp only [execOp, ho, hv, hi, Instr.indexAt, asIntOf, Sem.run_bind, Sem.run_pure, run_under hu, Result.andThen_ok, Instr.sureAddr, if_pos hb.1, run_size hinf, add_none, ← hsz]
          cases A with
          | loc s o2 => cases h; simp only at ho'; subst ho'; exact gives_cl hrun hc
          | elem cs => cases h; exact gives_cl hrun hc
          | heap id o2 => cases h; simp only at ho'; subst ho'; exact gives_cl hrun hc
      · cases h
    · cases h
  · rename_i el z ag bs _ _ _ _ k i hT hp
    have hi := vr_int (ev_sound hr hp)
    split at h
    · rename_i z' l hx
      split at h
      · rename_i hb
        obtain ⟨rfl, h0⟩ := hb
        split at h
        · rename_i p hl
          cases h
          have hv := ev_sound hr hx
          generalize hu : a.eval x = u at hv
          cases hv with
          | slice _ _ ad c hc hn hz h1 f hm hrr =>
            have hlt : i.toNat < l.length := (List.getElem?_eq_some_iff.1 hl).1
            cases ad with
            | none => have := hn rfl; omega
            | some ad =>
              obtain ⟨hs, hm2⟩ := hm ad rfl
              obtain ⟨hut, inf, hinf, hsz, _, _⟩ := td_slice hT rfl
              obtain ⟨b, off, sp⟩ := ad
              simp only at hs hm2
              subst hs
              have hrun : (execOp a.eval o).run C.P w = .ok (.value (.pointer (some ⟨b, off + i.toNat * z', none⟩))) w := by
                have hb2 : 0 ≤ i ∧ i < (l.length : Int) := ⟨h0, by omega⟩
                simp only [execOp, ho, hu, hi, Instr.indexAt, asIntOf, Sem.run_bind, Sem.run_pure, run_under hut, Result.andThen_ok, if_pos hb2, run_size hinf, add_none, hsz]
              refine gives_cl hrun ⟨b, off + i.toNat * z', rfl, ?_, ?_⟩
              · intro q hq
                exact h1 q (List.mem_flatMap.2 ⟨p, List.mem_of_getElem? hl, hq⟩)
              · intro k' q hq
                have hk : k' < p.cells.length := (List.getElem?_eq_some_iff.1 hq).1
                rw [hz p (List.mem_of_getElem? hl)] at hk
                have hfl : (flat l)[i.toNat * z' + k']? = some q := flat_get hz hl hq
                have hlt2 : i.toNat * z' + k' < l.length * z' := by
                  have : i.toNat * z' + z' ≤ l.length * z' := by rw [← Nat.succ_mul]; exact Nat.mul_le_mul_right _ hlt
                  omega
                have := hm2 _ hlt2
                exact ⟨f (i.toNat * z' + k'), by rw [← this.1, Nat.add_assoc], by have := this.2; omega, hrr _ _ hfl⟩
        · cases h
      · cases h
    · cases h
  · cases h

theorem g_index (hr : REL C base e a w g) {o : Oper} {ty : TypeId} {x ix : Operand} {e' : En} (ho : o.op = .index ty x ix) (h : stepO C o e = some e') : Gives C o e e' a w g := by
  simp only [stepO, ho] at h
  split at h
  · rename_i n el z ag _ _ _ _ cs k i hT hx hp
    have hi := vr_int (ev_sound hr hp)
    split at h
    · rename_i hb
      obtain ⟨us, hu, hl⟩ := vr_agg (ev_sound hr hx)
      obtain ⟨hut, hz, hag⟩ := td_arr hT rfl
      cases hm : mkv ag z ((cs.drop (i.toNat * z)).take z) with
      | none => rw [hm] at h; cases h
      | some r =>
        have hm' := hm
        rw [← hag, ← hz] at hm'
        obtain ⟨d, inf, hd, hinf, hsz⟩ := mkv_known hm'
        rw [hsz] at hm'
        obtain ⟨v, h1, h2⟩ := run_part (w := w) hd hinf hl hm'
        refine gives_putv h (v := v) ?_ (fun p hp => by rw [hm] at hp; cases hp; exact h2)
        have hb2 : 0 ≤ i ∧ i < (n : Int) := ⟨hb.1, hb.2.1⟩
        simp only [execOp, ho, hu, hi, Instr.index, asIntOf, Sem.run_bind, run_under hut, Result.andThen_ok, Sem.run_pure, if_pos hb2, run_size hinf, h1]
    · cases h
  · rename_i s k i hT hx hp
    have hi := vr_int (ev_sound hr hp)
    split at h
    · rename_i h0
      split at h
      · rename_i b hb
        have hv := vr_str (ev_sound hr hx)
        have hut := td_str hT rfl
        refine gives_putv h (v := .int .u8 b.toNat) ?_ (fun p hp => by cases hp; exact .int _ _)
        have hlt : i.toNat < s.length := (List.getElem?_eq_some_iff.1 hb).1
        have hb' : (⟨s.toArray⟩ : ByteArray)[i.toNat]? = some b := by
          have hsz : i.toNat < (⟨s.toArray⟩ : ByteArray).size := by simpa [ByteArray.size] using hlt
          rw [getElem?_pos (⟨s.toArray⟩ : ByteArray) i.toNat hsz]
          have := (List.getElem?_eq_some_iff.1 hb).2
          rw [← this]
          rfl
        simp only [execOp, ho, hv, hi, Instr.index, asIntOf, Sem.run_bind, run_under hut, Result.andThen_ok, Sem.run_pure, if_pos h0, hb']
      · cases h
    · cases h
  · cases h

theorem run_sliceBound {y : Nat} {k : IntKind} {i : Int} {code : BoundsCode} (h : 0 ≤ i ∧ i ≤ y) {P : Program} : (Instr.sliceBound (.int k i) y code).run P w = .ok i.toNat w := by
  simp only [Instr.sliceBound, asIntOf, Sem.run_bind, Sem.run_pure, Result.andThen_ok, if_pos h]

theorem hiB_sound {len cap : Nat} {hi : Option PV} {h : Nat} (hb : hiB len cap hi = some h) {hi' : Option Value} (c : BoundsCode)
    (hhi : ∀ p, hi = some p → ∃ v, hi' = some v ∧ VR w g p v) (hhi0 : hi = none → hi' = none) {P : Program} :
    (match hi' with | some v => Instr.sliceBound v cap c | none => (pure len : Sem Nat)).run P w = .ok h w ∧ (hi ≠ none → h ≤ cap) ∧ (hi = none → h = len) := by
  unfold hiB at hb
  split at hb
  · rename_i k i
    obtain ⟨v, rfl, hr⟩ := hhi _ rfl
    have := vr_int hr; subst this
    split at hb
    · rename_i hc
      cases hb
      exact ⟨run_sliceBound hc, by intro _; omega, by simp⟩
    · cases hb
  · cases hb
  · cases hb
    rw [hhi0 rfl]
    exact ⟨rfl, by simp, by simp⟩

theorem loB_sound {h : Nat} {lo : Option PV} {l : Nat} (hb : loB h lo = some l) {lo' : Option Value} (c : BoundsCode)
    (hlo : ∀ p, lo = some p → ∃ v, lo' = some v ∧ VR w g p v) (hlo0 : lo = none → lo' = none) {P : Program} :
    (match lo' with | some v => Instr.sliceBound v h c | none => (pure 0 : Sem Nat)).run P w = .ok l w ∧ l ≤ h := by
  unfold loB at hb
  split at hb
  · rename_i k i
    obtain ⟨v, rfl, hr⟩ := hlo _ rfl
    have := vr_int hr; subst this
    split at hb
    · rename_i hc
      cases hb
      exact ⟨run_sliceBound hc, by omega⟩
    · cases hb
  · cases hb
  · cases hb
    rw [hlo0 rfl]
    exact ⟨rfl, Nat.zero_le _⟩

theorem bounds_sound {len cap : Nat} {lo hi : Option PV} {l h : Nat} (hb : bounds len cap lo hi = some (l, h)) {lo' hi' : Option Value} (isS : Bool)
    (hlo : ∀ p, lo = some p → ∃ v, lo' = some v ∧ VR w g p v) (hlo0 : lo = none → lo' = none) (hhi : ∀ p, hi = some p → ∃ v, hi' = some v ∧ VR w g p v) (hhi0 : hi = none → hi' = none) {P : Program} :
    (Instr.sliceBounds isS len cap lo' hi' none).run P w = .ok (l, h, cap) w ∧ l ≤ h ∧ (hi ≠ none → h ≤ cap) ∧ (hi = none → h = len) := by
  unfold bounds at hb
  split at hb
  · rename_i h' hh
    split at hb
    · rename_i l' hl
      cases hb
      obtain ⟨e2, e3, e4⟩ := hiB_sound (w := w) (g := g) (P := P) hh (if isS then .sliceAcap else .sliceAlen) hhi hhi0
      obtain ⟨e5, e6⟩ := loB_sound (w := w) (g := g) (P := P) hl .sliceB hlo hlo0
      refine ⟨?_, e6, e3, e4⟩
      simp only [Instr.sliceBounds, Sem.run_bind, Sem.run_pure, Result.andThen_ok]
      cases hi' with
      | none =>
        simp only [Sem.run_pure, Result.ok.injEq] at e2
        obtain ⟨rfl, _⟩ := e2
        cases lo' with
        | none => simp only [Sem.run_pure, Result.ok.injEq] at e5; simp [e5.1]
        | some v => simp only at e5; simp [e5]
      | some v' =>
        simp only at e2
        cases lo' with
        | none => simp only [Sem.run_pure, Result.ok.injEq] at e5; simp [e5.1, e2]
        | some v => simp only at e5; simp [e5, e2]
    · cases hb
  · cases hb

theorem evO_sound (hr : REL C base e a w g) {x : Option Operand} {p : Option PV} (h : evO C.P e x = some p) :
    (∀ q, p = some q → ∃ v, x.map a.eval = some v ∧ VR w g q v) ∧ (p = none → x.map a.eval = none) := by
  cases x with
  | none => cases h; simp
  | some x =>
    simp only [evO] at h
    cases hq : ev C.P e 0 x with
    | none => rw [hq] at h; cases h
    | some q =>
      rw [hq] at h; cases h
      refine ⟨fun q' hq' => ?_, by simp⟩
      cases hq'
      exact ⟨_, rfl, ev_sound hr hq⟩

theorem bounds_mono {len cap : Nat} {lo hi : Option PV} {r : Nat × Nat} (hb : bounds len len lo hi = some r) (hc : len ≤ cap) : bounds len cap lo hi = some r := by
  unfold bounds at *
  cases hh : hiB len len hi with
  | none => rw [hh] at hb; cases hb
  | some h =>
    rw [hh] at hb
    have : hiB len cap hi = some h := by
      unfold hiB at *
      split at hh
      · split at hh
        · rename_i hx; rw [if_pos (by omega)]; exact hh
        · cases hh
      · cases hh
      · exact hh
    rw [this]
    exact hb

theorem bounds_le {len : Nat} {lo hi : Option PV} {l h : Nat} (hb : bounds len len lo hi = some (l, h)) : h ≤ len := by
  unfold bounds at hb
  split at hb
  · rename_i h' hh
    split at hb
    · cases hb
      unfold hiB at hh
      split at hh
      · split at hh
        · cases hh; omega
        · cases hh
      · cases hh
      · cases hh; exact Nat.le_refl _
    · cases hb
  · cases hb

/-- A part of a slice. -/
theorem vr_sub {z : Nat} {s : List PV} {ad : Option Addr} {n c : Nat} (hv : VR w g (.slice z s) (.slice ad n c)) {l h m : Nat} (hlh : l ≤ h) (hh : h ≤ s.length) (hm : h ≤ m) (hmc : m ≤ c) :
    VR w g (.slice z ((s.take h).drop l)) (.slice (if m = l then ad else ad.map (·.add (l * z))) (h - l) (m - l)) := by
  cases hv with
  | slice _ _ _ _ hc hn hz h1 f hmm hrr =>
    have hlen : ((s.take h).drop l).length = h - l := by simp [Nat.min_eq_left hh]
    have hzz : ∀ e ∈ (s.take h).drop l, e.cells.length = z := fun e he => hz e (List.mem_of_mem_take (List.mem_of_mem_drop he))
    have hone : ∀ p ∈ flat ((s.take h).drop l), p.one = true := by
      intro p hp
      obtain ⟨x, hx, hp⟩ := List.mem_flatMap.1 hp
      exact h1 p (List.mem_flatMap.2 ⟨x, List.mem_of_mem_take (List.mem_of_mem_drop hx), hp⟩)
    have hflat : ∀ (k : Nat) p, (flat ((s.take h).drop l))[k]? = some p → (flat s)[l * z + k]? = some p := by
      intro k p hp
      have e1 : flat s = flat ((s.take h).take l) ++ (flat ((s.take h).drop l) ++ flat (s.drop h)) := by
        rw [← List.append_assoc]
        simp only [flat]
        rw [← List.flatMap_append, List.take_append_drop, ← List.flatMap_append, List.take_append_drop]
      have e2 : (flat ((s.take h).take l)).length = l * z := by
        have : ((s.take h).take l).length = l := by simp; omega
        rw [flat_length (z := z) (fun e he => hz e (List.mem_of_mem_take (List.mem_of_mem_take he))), this]
      rw [e1, List.getElem?_append_right (by rw [e2]; omega), e2, Nat.add_sub_cancel_left]
      rw [List.getElem?_append_left (List.getElem?_eq_some_iff.1 hp).1]
      exact hp
    rw [← hlen]
    refine .slice z _ _ _ (by rw [hlen]; omega) ?_ hzz hone (fun k => f (l * z + k)) ?_ (fun k p hp => hrr _ p (hflat k p hp))
    · intro hnone
      split at hnone
      · have := hn hnone; omega
      · cases ad with
        | none => have := hn rfl; omega
        | some ad => cases hnone
    · intro ad' had
      split at had
      · rename_i hml
        obtain ⟨h2, h3⟩ := hmm ad' had
        refine ⟨h2, fun k hk => ?_⟩
        rw [hlen] at hk
        have : h - l = 0 := by omega
        rw [this] at hk
        omega
      · rename_i hml
        cases ad with
        | none => cases had
        | some ad =>
          obtain ⟨h2, h3⟩ := hmm ad rfl
          simp only [Option.map_some, Option.some.injEq] at had
          subst had
          obtain ⟨b, off, sp⟩ := ad
          simp only at h2; subst h2
          rw [add_none]
          refine ⟨rfl, fun k hk => ?_⟩
          rw [hlen] at hk
          have hk2 : l * z + k < s.length * z := by
            have : l * z + (h - l) * z ≤ s.length * z := by rw [← Nat.add_mul]; exact Nat.mul_le_mul_right _ (by omega)
            omega
          have := h3 (l * z + k) hk2
          simp only at this ⊢
          exact ⟨by rw [← this.1, Nat.add_assoc], by have := this.2; omega⟩

theorem evO_map (hr : REL C base e a w g) {x : Option Operand} {p : PV} (h : evO C.P e x = some (some p)) : ∃ v, x.map a.eval = some v ∧ VR w g p v :=
  (evO_sound hr h).1 p rfl

theorem str_extract (s : List UInt8) (l h : Nat) : (⟨s.toArray⟩ : ByteArray).extract l h = ⟨((s.take h).drop l).toArray⟩ := by
  apply ByteArray.ext
  simp [ByteArray.data_extract, List.extract_toArray, List.drop_take]

theorem evO_none {x : Option Operand} (h : evO C.P e x = some none) : x = none := by
  cases x with
  | none => rfl
  | some x =>
    simp only [evO] at h
    cases hq : ev C.P e 0 x with
    | none => rw [hq] at h; cases h
    | some q => rw [hq] at h; cases h

theorem g_slice (hr : REL C base e a w g) {o : Oper} {ty : TypeId} {x : Operand} {lo hi mx : Option Operand} {e' : En} (ho : o.op = .slice ty x lo hi mx) (h : stepO C o e = some e') :
    (mx = none ∧ Gives C o e e' a w g) ∨ (∃ z l ad n, (execOp a.eval o).run C.P w = .ok (.value (.slice ad n n)) w ∧ e' = put o (.v (.slice z l)) e ∧ VR w g (.slice z l) (.slice ad n n)) := by
  simp only [stepO, ho] at h
  split at h
  · rename_i s lo' hi' hT hx hl hh hm
    refine .inl ⟨evO_none hm, ?_⟩
    split at h
    · rename_i l hh' hb
      have hv := vr_str (ev_sound hr hx)
      obtain ⟨l1, l2⟩ := evO_sound hr hl
      obtain ⟨h1, h2⟩ := evO_sound hr hh
      have hmx := (evO_sound hr hm).2 rfl
      obtain ⟨b1, b2, b3, b4⟩ := bounds_sound (w := w) (g := g) (P := C.P) hb false l1 l2 h1 h2
      refine gives_putv h ?_ (fun p hp => by cases hp; exact .str _)
      simp only [execOp, ho, hv, hmx, Instr.sliceAt, Instr.slice, Sem.run_bind, run_under (td_str hT rfl), Result.andThen_ok, Option.isSome_none, Bool.false_eq_true, if_false]
      have hsz : (⟨s.toArray⟩ : ByteArray).size = s.length := by simp [ByteArray.size]
      simp only [hsz, b1, Result.andThen_ok, Sem.run_pure, str_extract]
    · cases h
  · rename_i el z ag bs _ _ _ _ z' s lo' hi' hT hx hl hh hm
    refine .inl ⟨evO_none hm, ?_⟩
    split at h
    · rename_i l hh' hb
      split at h
      case isFalse => cases h
      rename_i hzz
      subst hzz
      have hv := ev_sound hr hx
      generalize hu : a.eval x = u at hv
      obtain ⟨l1, l2⟩ := evO_sound hr hl
      obtain ⟨h1, h2⟩ := evO_sound hr hh
      have hmx := (evO_sound hr hm).2 rfl
      obtain ⟨hut, inf, hinf, hsz, _, _⟩ := td_slice hT rfl
      have hv' := hv
      cases hv with
      | slice _ _ ad c hc hn hz hh1 f hmm hrr =>
        obtain ⟨b1, b2, b3, b4⟩ := bounds_sound (w := w) (g := g) (P := C.P) (bounds_mono hb hc) true l1 l2 h1 h2
        have hle := bounds_le hb
        refine gives_putv h (v := .slice (if c = l then ad else ad.map (·.add (l * inf.size))) (hh' - l) (c - l)) ?_ (fun p hp => ?_)
        · simp only [execOp, ho, hu, hmx, Instr.sliceAt, Instr.slice, Sem.run_bind, run_under hut, Result.andThen_ok, b1, run_size hinf, Sem.run_pure]
        · cases hp
          rw [hsz]
          exact vr_sub hv' b2 hle (Nat.le_trans hle hc) (Nat.le_refl _)
    · cases h
  · rename_i el z ag bs _ _ _ _ z' s lo' k hi' k' m' hT hx hl hh hm
    right
    split at h
    · rename_i l hh' hb
      split at h
      case isFalse => cases h
      rename_i hzz
      obtain ⟨rfl, rfl, rfl⟩ := hzz
      have hv := ev_sound hr hx
      generalize hu : a.eval x = u at hv
      obtain ⟨l1, l2⟩ := evO_sound hr hl
      obtain ⟨v1, hv1, hv1'⟩ := evO_map hr hh
      obtain ⟨v2, hv2, hv2'⟩ := evO_map hr hm
      have := vr_int hv1'; subst this
      have := vr_int hv2'; subst this
      obtain ⟨hut, inf, hinf, hsz, _, _⟩ := td_slice hT rfl
      have hv' := hv
      cases hv with
      | slice _ _ ad c hc hn hz hh1 f hmm hrr =>
        have hle := bounds_le hb
        unfold bounds at hb
        split at hb
        · rename_i h' hhb
          split at hb
          · rename_i l' hlb
            cases hb
            unfold hiB at hhb
            simp only at hhb
            split at hhb
            · rename_i hcc
              cases hhb
              obtain ⟨e5, e6⟩ := loB_sound (w := w) (g := g) (P := C.P) hlb .slice3C l1 l2
              have r1 := run_sliceBound (w := w) (y := c) (k := k) (i := hi') (code := .slice3Acap) (by omega) (P := C.P)
              have r2 := run_sliceBound (w := w) (y := hi'.toNat) (k := k) (i := hi') (code := .slice3B) (by omega) (P := C.P)
              have rb : (Instr.sliceBounds true s.length c (lo.map a.eval) (some (.int k hi')) (some (.int k hi'))).run C.P w = .ok (l, hi'.toNat, hi'.toNat) w := by
                cases hlo : lo.map a.eval with
                | none => rw [hlo] at e5; simp only [Sem.run_pure, Result.ok.injEq] at e5; simp [Instr.sliceBounds, r1, r2, e5.1]
                | some v => rw [hlo] at e5; simp only at e5; simp [Instr.sliceBounds, r1, r2, e5]
              cases h
              refine ⟨_, _, (if hi'.toNat = l then ad else ad.map (·.add (l * inf.size))), (hi'.toNat - l), ?_, rfl, ?_⟩
              · simp only [execOp, ho, hu, hv1, hv2, Instr.sliceAt, Instr.slice, Sem.run_bind, run_under hut, Result.andThen_ok, rb, run_size hinf, Sem.run_pure]
              · rw [hsz]
                exact vr_sub hv' e6 hle (Nat.le_refl _) (Nat.le_trans hle hc)
            · cases hhb
          · cases hb
        · cases hb
    · cases h
  · cases h

end
end Go.Proofs.Ytielbjjdgdblcaa.Vm

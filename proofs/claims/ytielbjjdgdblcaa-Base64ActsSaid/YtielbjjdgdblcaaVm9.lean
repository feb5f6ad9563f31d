/- The operations that make memory: slices that are put together, made, or appended to. -/
import Derived.Test.YtielbjjdgdblcaaVm8
namespace Go.Proofs.Ytielbjjdgdblcaa.Vm
open Go

section
variable {C : Ctx} {base : Nat} {e : En} {a : Act} {w : World} {g : Gh}

theorem heap_alloc_get (w : World) (o : Obj) (b : Nat) : (w.alloc o).heap[b]? = if b = w.heap.size then some o else w.heap[b]? := by
  show (w.heap.push o)[b]? = _
  rw [Array.getElem?_push]

def Gh.up (g : Gh) (b n : Nat) : Gh := { g with D := fun x => if x = b then n else g.D x }

/-- One new row of cells, and no more. -/
structure NewRow (w w' : World) (cs : Array Value) (el : TypeId) (fz : Nat × Nat) : Prop where
  os : w'.os = w.os
  tape : w'.tape = w.tape
  output : w'.output = w.output
  size : w'.heap.size = w.heap.size + 1
  heap : ∀ b, w'.heap[b]? = if b = w.heap.size then some (.cells cs el fz) else w.heap[b]?

theorem newRow_alloc (w : World) (cs : Array Value) (el : TypeId) (fz : Nat × Nat) : NewRow w (w.alloc (.cells cs el fz)) cs el fz := ⟨rfl, rfl, rfl, by simp, heap_alloc_get w _⟩

theorem grow_row {H : List HObj} (hg : Good w g H) {w' : World} {cs : Array Value} {el : TypeId} {fz : Nat × Nat} (hn : NewRow w w' cs el fz) (n : Nat) : Grow w g w' (g.up w.heap.size n) := by
  refine ⟨hn.os, hn.tape, hn.output, by rw [hn.size]; omega, ?_, ?_, ?_, rfl⟩
  · intro b hb
    rw [hn.heap, if_neg (by omega)]
  · intro b hb
    simp only [Gh.up]
    rw [if_neg (by omega)]
  · intro b hb
    rw [hn.size] at hb
    simp only [Gh.up]
    rw [if_neg (by omega)]
    exact hg.fresh b (by omega)

theorem grow_alloc {H : List HObj} (hg : Good w g H) (cs : Array Value) (el : TypeId) (n : Nat) : Grow w g (w.alloc (.cells cs el)) (g.up w.heap.size n) :=
  grow_row hg (newRow_alloc w cs el (0, 0)) n

theorem Grow.trans {w w' w'' : World} {g g' g'' : Gh} (h : Grow w g w' g') (k : Grow w' g' w'' g'') : Grow w g w'' g'' :=
  ⟨k.os.trans h.os, k.tape.trans h.tape, k.output.trans h.output, Nat.le_trans h.size k.size, fun b hb => (k.block b (Nat.lt_of_lt_of_le hb h.size)).trans (h.block b hb),
    fun b hb => (k.D b (Nat.lt_of_lt_of_le hb h.size)).trans (h.D b hb), k.fresh, k.io.trans h.io⟩

theorem grow_drew {H : List HObj} (hg : Good w g H) : Grow w g { w with drawn := w.drawn + 1 } g := ⟨rfl, rfl, rfl, Nat.le_refl _, fun _ _ => rfl, fun _ _ => rfl, hg.fresh, rfl⟩

/-- A slice in a new row. -/
theorem vr_row {H : List HObj} (hg : Good w g H) {w' : World} {z : Nat} {l : List PV} {cs : Array Value} {el : TypeId} {fz : Nat × Nat} (hn : NewRow w w' cs el fz) {c : Nat} (hc : l.length ≤ c)
    (hz : ∀ e ∈ l, e.cells.length = z) (h1 : ∀ p ∈ flat l, p.one = true) (hl : l.length * z ≤ cs.size) (hr : ∀ (k : Nat) p v, (flat l)[k]? = some p → cs[k]? = some v → VR w g p v) :
    VR w' (g.up w.heap.size (l.length * z)) (.slice z l) (.slice (some ⟨w.heap.size, 0, none⟩) l.length c) := by
  have hk := (grow_row hg hn (l.length * z)).keep hg
  refine .slice z l _ c hc (by simp) hz h1 (fun k => (cs[k]?).getD .nilIface) ?_ ?_
  · intro ad had
    cases had
    refine ⟨rfl, fun k hk => ⟨?_, ?_⟩⟩
    · have : k < cs.size := by omega
      simp only [World.cell?, hn.heap, if_true, Nat.zero_add, Option.isSome_none, Bool.false_eq_true, if_false]
      simp [this]
    · simp [Gh.up]; omega
  · intro k p hp
    have hlt : k < (flat l).length := (List.getElem?_eq_some_iff.1 hp).1
    rw [flat_length hz] at hlt
    have hk' : k < cs.size := by omega
    have := hr k p cs[k] hp (by simp [hk'])
    simp only [hk', getElem?_pos, Option.getD_some]
    exact this.keep hk

theorem vr_new {H : List HObj} (hg : Good w g H) {z : Nat} {l : List PV} {cs : Array Value} {el : TypeId} {fz : Nat × Nat} {c : Nat} (hc : l.length ≤ c)
    (hz : ∀ e ∈ l, e.cells.length = z) (h1 : ∀ p ∈ flat l, p.one = true) (hl : l.length * z ≤ cs.size) (hr : ∀ (k : Nat) p v, (flat l)[k]? = some p → cs[k]? = some v → VR w g p v) :
    VR (w.alloc (.cells cs el fz)) (g.up w.heap.size (l.length * z)) (.slice z l) (.slice (some ⟨w.heap.size, 0, none⟩) l.length c) :=
  vr_row hg (newRow_alloc w cs el fz) hc hz h1 hl hr

theorem run_newRow {P : Program} (el : TypeId) (cs : Array Value) : (newRow el cs).run P w = .ok ⟨w.heap.size, 0, none⟩ (w.alloc (.cells cs el)) := by
  simp [newRow]

/-- An operation that makes memory and gives a value. -/
def Makes (C : Ctx) (o : Oper) (e e' : En) (a : Act) (w : World) (g : Gh) : Prop :=
  ∃ v p w' g', (execOp a.eval o).run C.P w = .ok (.value v) w' ∧ e' = put o (.v p) e ∧ Grow w g w' g' ∧ VR w' g' p v ∧
    (∀ z l, p = .slice z l → ∃ ad n c, v = .slice (some ad) n c ∧ ad.block = w.heap.size ∧ ad.spot = none ∧ ad.off = 0 ∧ n = l.length ∧ g'.D ad.block = n * z ∧
      ∃ cs el fz, w'.heap[ad.block]? = some (.cells cs el fz) ∧ c * z ≤ cs.size ∧ (cs.size ≤ fz.1 ∨ fz.2 ≤ fz.1) ∧ ∀ (k : Nat) p u, (flat l)[k]? = some p → cs[k]? = some u → VR w g p u)

theorem zero_cells {P : Program} {t : TypeId} {T : Ty} (hT : tyOf P t = some T) {z : PV} (hz : T.zero = some z) : ∃ i zv, P.info? t = some i ∧ i.zero = some zv ∧ VRL w g z.cells zv.cells.toList ∧ z.cells.length = i.size ∧ zv.cells.size = i.size := by
  obtain ⟨d, i, hi⟩ := tyOf_is hT
  obtain ⟨zv, hz1, hz2, hz3, hz4, _⟩ := hi.zero z hz
  exact ⟨i, zv, hi.info, hz1, (vrc_sound (w := w) (g := g) z zv hz2).cells, hz4, hz3⟩

theorem flat_replicate (n : Nat) (p : PV) : flat (List.replicate n p) = (List.replicate n p.cells).flatten := by
  induction n with
  | zero => rfl
  | succ n ih => simp only [List.replicate_succ, flat, List.flatMap_cons, List.flatten_cons] at *; rw [ih]

theorem flatten_replicate_get {α : Type} (l : List α) : ∀ (n k : Nat), k < n * l.length → (List.replicate n l).flatten[k]? = l[k % l.length]?
  | 0, k, h => by simp at h
  | n + 1, k, h => by
    rw [List.replicate_succ, List.flatten_cons]
    by_cases hk : k < l.length
    · rw [List.getElem?_append_left hk, Nat.mod_eq_of_lt hk]
    · rw [Nat.succ_mul] at h
      rw [List.getElem?_append_right (by omega), flatten_replicate_get l n _ (by omega)]
      rw [← Nat.mod_eq_sub_mod (by omega)]

theorem m_makeSlice (hr : REL C base e a w g) {o : Oper} {ty : TypeId} {l c : Operand} {e' : En} (ho : o.op = .makeSlice ty l c) (h : stepO C o e = some e') : Makes C o e e' a w g := by
  simp only [stepO, ho] at h
  split at h
  · rename_i el z ag bs _ _ _ _ l' c' hT hl hc
    split at h
    · rename_i _ _ _ zp _ hT'
      split at h
      · rename_i hcond
        obtain ⟨h0, hlc, hb, hcr, hz0, hone⟩ := hcond
        cases h
        have hl' := vr_int (ev_sound hr hl)
        have hc' := vr_int (ev_sound hr hc)
        obtain ⟨hut, inf, hinf, hsz, hby, _⟩ := td_slice hT rfl
        obtain ⟨i2, zv, hi2, hzv, hzc, hzl, hzs⟩ := zero_cells (w := w) (g := g) hT' rfl
        rw [hinf] at hi2; cases hi2
        simp only [roomy] at hb hcr
        have hwl : IntKind.i64.wrap l' = l' := by simp [IntKind.wrap, IntKind.bits, IntKind.signed]; omega
        have hwc : IntKind.i64.wrap c' = c' := by simp [IntKind.wrap, IntKind.bits, IntKind.signed]; omega
        have hn : c'.toNat * inf.size ≠ 0 ∨ c'.toNat = 0 := by
          rcases Nat.eq_zero_or_pos c'.toNat with h | h
          · exact .inr h
          · refine .inl ?_
            rw [hsz]
            exact Nat.pos_iff_ne_zero.1 (Nat.mul_pos h hz0)
        have hcell : zp.cells.length = z := by rw [hzl, hsz]
        have hflat : flat (List.replicate l'.toNat zp) = (List.replicate l'.toNat zp.cells).flatten := flat_replicate _ _
        have hrun : ∃ zc : Array Value, (execOp a.eval o).run C.P w = .ok (.value (.slice (some ⟨w.heap.size, 0, none⟩) l'.toNat c'.toNat)) (w.alloc (.cells ((Array.range (c'.toNat * inf.size)).map (zc[· % zc.size]!)) el)) ∧ (c'.toNat ≠ 0 → zc = zv.cells) := by
          have hq : (inf.bytes : Int) * c' ≤ 35184372088832 := by rw [hby, Int.mul_comm]; simpa using hb
          generalize hqq : (inf.bytes : Int) * c' = q at hq
          by_cases hc0 : c'.toNat = 0
          · refine ⟨#[], ?_, fun h => absurd hc0 h⟩
            have hn0 : c'.toNat * inf.size = 0 := by rw [hc0, Nat.zero_mul]
            simp only [execOp, ho, hl', hc', Instr.makeSlice, Sem.run_bind, run_under hut, Result.andThen_ok, asInt, asIntOf, Sem.run_pure, run_tinfo hinf, hwl, hwc, run_size hinf, hn0, if_true]
            rw [hqq, if_neg (by simp; omega)]
            simp [run_newRow, run_size hinf, hc0]
          · refine ⟨zv.cells, ?_, fun _ => rfl⟩
            have hn0 : c'.toNat * inf.size ≠ 0 := hn.resolve_right hc0
            simp only [execOp, ho, hl', hc', Instr.makeSlice, Sem.run_bind, run_under hut, Result.andThen_ok, asInt, asIntOf, Sem.run_pure, run_tinfo hinf, hwl, hwc, run_size hinf, if_neg hn0]
            rw [hqq, if_neg (by simp; omega)]
            have hs0 : inf.size ≠ 0 := by omega
            have hc1 : ¬ c' ≤ 0 := by omega
            simp [run_newRow, run_size hinf, hs0, hc0, hc1, run_zero hinf hzv]
            intro h0
            exact absurd h0 hn0
        obtain ⟨zc, hrun, hzc'⟩ := hrun
        have hsize : ((Array.range (c'.toNat * inf.size)).map (zc[· % zc.size]!)).size = c'.toNat * z := by simp [hsz]
        have hcl : ∀ (k : Nat) p v, (flat (List.replicate l'.toNat zp))[k]? = some p → ((Array.range (c'.toNat * inf.size)).map (zc[· % zc.size]!))[k]? = some v → VR w g p v := by
          intro k p v hp hv
          rw [hflat] at hp
          have hk : k < l'.toNat * zp.cells.length := by
            have := (List.getElem?_eq_some_iff.1 hp).1
            simpa [List.length_flatten] using this
          rw [flatten_replicate_get _ _ _ hk] at hp
          have hc0 : c'.toNat ≠ 0 := by
            intro h0
            have : l'.toNat = 0 := by omega
            rw [this] at hk; omega
          have := hzc' hc0
          subst this
          have hkk : k < c'.toNat * z := by
            rw [hcell] at hk
            exact Nat.lt_of_lt_of_le hk (Nat.mul_le_mul_right _ (by omega))
          have hzvs : zv.cells.size = zp.cells.length := by rw [hzs, hzl]
          simp only [Array.getElem?_map, Array.getElem?_range, hsz, hkk, if_true, Option.map_some, Option.some.injEq] at hv
          have hm : k % zv.cells.size < zv.cells.size := Nat.mod_lt _ (by rw [hzvs, hcell]; exact hz0)
          subst hv
          refine hzc.2 (k % zp.cells.length) p _ hp ?_
          rw [← hzvs]
          simp [hm]
        refine ⟨_, _, _, g.up w.heap.size ((List.replicate l'.toNat zp).length * z), hrun, rfl, grow_alloc hr.good _ _ _, ?_, ?_⟩
        · have hlen : (List.replicate l'.toNat zp).length = l'.toNat := by simp
          have key := vr_new (w := w) (g := g) hr.good (z := z) (l := List.replicate l'.toNat zp) (cs := (Array.range (c'.toNat * inf.size)).map (zc[· % zc.size]!)) (el := el) (fz := (0, 0)) (c := c'.toNat) (by simp; omega)
            (fun e he => by rw [(List.mem_replicate.1 he).2]; exact hcell) ?_ ?_ ?_
          · rw [hlen] at key ⊢; exact key
          · intro p hp
            rw [hflat] at hp
            obtain ⟨q, hq, hp⟩ := List.mem_flatten.1 hp
            rw [(List.mem_replicate.1 hq).2] at hp
            exact hone p hp
          · rw [hsize, List.length_replicate]
            exact Nat.mul_le_mul_right _ (by omega)
          · exact hcl
        · intro z2 l2 hz2
          cases hz2
          refine ⟨_, _, _, rfl, rfl, rfl, rfl, by simp, by simp [Gh.up], (Array.range (c'.toNat * inf.size)).map (zc[· % zc.size]!), el, (0, 0), ?_, ?_, .inr (Nat.le_refl _), hcl⟩
          · rw [heap_alloc_get, if_pos rfl]
          · rw [hsize]; exact Nat.le_refl _
      · cases h
    · cases h
  · cases h

theorem list_range_get {n k i : Nat} (h : (List.range n)[k]? = some i) : i = k ∧ k < n := by
  obtain ⟨h1, h2⟩ := List.getElem?_eq_some_iff.1 h
  simp at h1 h2
  exact ⟨h2.symm, h1⟩

/-- What a whole literal's cells are: its parts, one behind the other. -/
theorem fill_all {w : World} {g : Gh} {z : Nat} (hz : 0 < z) : ∀ (vs : List (Nat × Value)) (ps : List PV) (k n : Nat) (us : Array Value), vs.length = ps.length → us.size = n * z → k + ps.length = n →
    (∀ (i : Nat) v, vs[i]? = some v → v.1 = k + i) → (∀ (i : Nat) p v, ps[i]? = some p → vs[i]? = some v → VR w g p v.2 ∧ p.cells.length = z) →
    ∃ rs, Instr.fill (fun i => some (i * z, z)) us vs = some rs ∧ rs.size = n * z ∧ (∀ j, j < k * z → rs[j]? = us[j]?) ∧
      ∀ (j : Nat) p v, (flat ps)[j]? = some p → rs[k * z + j]? = some v → VR w g p v
  | [], [], k, n, us, _, hs, _, _, _ => ⟨us, rfl, hs, fun _ _ => rfl, by simp [flat]⟩
  | [], _ :: _, _, _, _, hl, _, _, _, _ => by simp at hl
  | _ :: _, [], _, _, _, hl, _, _, _, _ => by simp at hl
  | (i, v) :: vs, p :: ps, k, n, us, hl, hs, hk, hi, hv => by
    obtain ⟨hr, hpc⟩ := hv 0 p (i, v) rfl rfl
    simp only at hr
    have hik : i = k := by have := hi 0 (i, v) rfl; simpa using this
    subst hik
    have hcells := hr.cells
    have hvc : v.cells.size = z := by have := hcells.1; simp at this; omega
    simp only [List.length_cons] at hk
    have hle : i * z + v.cells.size ≤ us.size := by
      rw [hs, hvc, ← Nat.succ_mul]
      exact Nat.mul_le_mul_right _ (by omega)
    have hfs := foldl_set (i * z) v.cells.toList 0 us (by simp; omega)
    have hzi : v.cells.zipIdx.foldl (fun (cs : Array Value) (x : Value × Nat) => cs.setIfInBounds (i * z + x.2) x.1) us = (v.cells.toList.zipIdx 0).foldl (fun (cs : Array Value) (x : Value × Nat) => cs.setIfInBounds (i * z + x.2) x.1) us := by
      rw [← Array.foldl_toList]; simp
    obtain ⟨rs, h1, h2, h3, h4⟩ := fill_all hz vs ps (i + 1) n (v.cells.zipIdx.foldl (fun (cs : Array Value) (x : Value × Nat) => cs.setIfInBounds (i * z + x.2) x.1) us) (by simpa using hl)
      (by rw [hzi, hfs.1, hs]) (by omega) (fun j v' hj => by have := hi (j + 1) v' (by simpa using hj); omega) (fun j p' v' hp' hv' => hv (j + 1) p' v' (by simpa using hp') (by simpa using hv'))
    have hset : ∀ j, (v.cells.zipIdx.foldl (fun (cs : Array Value) (x : Value × Nat) => cs.setIfInBounds (i * z + x.2) x.1) us)[j]? = if i * z ≤ j ∧ j < i * z + z then v.cells[j - i * z]? else us[j]? := by
      intro j
      rw [hzi, hfs.2 j]
      simp [hvc]
    refine ⟨rs, ?_, h2, ?_, ?_⟩
    · simp only [Instr.fill]
      rw [if_neg (by simp; omega)]
      exact h1
    · intro j hj
      rw [h3 j (by rw [Nat.succ_mul]; omega), hset j, if_neg (by omega)]
    · intro j q u hq hu
      simp only [flat, List.flatMap_cons] at hq
      by_cases hj : j < z
      · rw [List.getElem?_append_left (by omega)] at hq
        rw [h3 (i * z + j) (by rw [Nat.succ_mul]; omega), hset, if_pos (by omega), Nat.add_sub_cancel_left] at hu
        exact hcells.2 j q u hq (by simpa using hu)
      · rw [List.getElem?_append_right (by omega), hpc] at hq
        refine h4 (j - z) q u hq ?_
        rw [← hu, Nat.succ_mul]
        congr 1; omega

theorem m_buildSlice (hr : REL C base e a w g) {o : Oper} {ty : TypeId} {n : Nat} {ps : Array (Nat × Operand)} {e' : En} (ho : o.op = .buildSlice ty n ps) (h : stepO C o e = some e') : Makes C o e e' a w g := by
  simp only [stepO, ho] at h
  split at h
  · rename_i el z ag bs _ _ _ _ hT
    split at h
    · rename_i _ _ _ _ zp _ qs hT' hq
      split at h
      · rename_i hcond
        obtain ⟨hran, hle, hz0, hone⟩ := hcond
        cases h
        obtain ⟨hut, inf, hinf, hsz, hby, _⟩ := td_slice hT rfl
        obtain ⟨h1, h2⟩ := evParts_sound hr _ _ hq
        have hqn : qs.length = n := by have := congrArg List.length hran; simpa using this
        have hnn : n * inf.size ≠ 0 ∨ n = 0 := by
          rcases Nat.eq_zero_or_pos n with h | h
          · exact .inr h
          · exact .inl (by rw [hsz]; exact Nat.pos_iff_ne_zero.1 (Nat.mul_pos h hz0))
        have hq1 : ∀ (i : Nat) q, qs[i]? = some q → q.1 = i := by
          intro i q hi
          have : (qs.map (·.1))[i]? = some q.1 := by simp [hi]
          rw [hran] at this
          exact (list_range_get this).1
        obtain ⟨i2, zv, hi2, hzv, hzc, hzl, hzs⟩ := zero_cells (w := w) (g := g) hT' rfl
        rw [hinf] at hi2; cases hi2
        have hps : (ps.toList.map fun x => (x.1, a.eval x.2)).length = (qs.map (·.2)).length := by rw [← h1]; simp
        have hfill := fun (us : Array Value) (hus : us.size = n * z) => fill_all (w := w) (g := g) hz0 (ps.toList.map fun x => (x.1, a.eval x.2)) (qs.map (·.2)) 0 n us hps hus (by simp [hqn])
          (fun i v hv => by
            have hlt : i < qs.length := by have := (List.getElem?_eq_some_iff.1 hv).1; omega
            have := h2 i qs[i] v (by simp [hlt]) hv
            rw [← this.1, hq1 i qs[i] (by simp [hlt])]; omega)
          (fun i p v hp hv => by
            simp only [List.getElem?_map] at hp
            cases hqi : qs[i]? with
            | none => rw [hqi] at hp; cases hp
            | some q =>
              rw [hqi] at hp; cases hp
              exact ⟨(h2 i q v hqi hv).2, (hone q (List.mem_of_getElem? hqi)).1⟩)
        have hrun : ∃ rs : Array Value, (execOp a.eval o).run C.P w = .ok (.value (.slice (some ⟨w.heap.size, 0, none⟩) n n)) (w.alloc (.cells rs el)) ∧ rs.size = n * z ∧
            ∀ (j : Nat) p v, (flat (qs.map (·.2)))[j]? = some p → rs[j]? = some v → VR w g p v := by
          have hbuild : ∀ zc : Array Value, (n = 0 ∨ zc = zv.cells) → (n = 0 → zc = #[]) → ∃ rs, Instr.fill (fun i => some (i * inf.size, inf.size)) ((Array.range (n * inf.size)).map (zc[· % zc.size]!)) (ps.map fun x => (x.1, a.eval x.2)).toList = some rs ∧
              rs.size = n * z ∧ ∀ (j : Nat) p v, (flat (qs.map (·.2)))[j]? = some p → rs[j]? = some v → VR w g p v := by
            intro zc _ _
            obtain ⟨rs, f1, f2, _, f4⟩ := hfill ((Array.range (n * inf.size)).map (zc[· % zc.size]!)) (by simp [hsz])
            refine ⟨rs, by rw [hsz]; rw [hsz] at f1; simpa using f1, f2, fun j p v hp hv => f4 j p v hp (by simpa using hv)⟩
          by_cases hn0 : n = 0
          · obtain ⟨rs, f1, f2, f3⟩ := hbuild #[] (.inl hn0) (fun _ => rfl)
            refine ⟨rs, ?_, f2, f3⟩
            have hm0 : n * inf.size = 0 := by rw [hn0, Nat.zero_mul]
            simp only [execOp, ho, Instr.buildSlice, Sem.run_bind, run_under hut, Result.andThen_ok, run_size hinf]
            rw [if_neg (by rw [hsz]; omega)]
            rw [hm0] at f1 ⊢
            simp only [if_true, Sem.run_bind, Sem.run_pure, Result.andThen_ok, f1, run_newRow]
          · obtain ⟨rs, f1, f2, f3⟩ := hbuild zv.cells (.inr rfl) (fun h => absurd h hn0)
            refine ⟨rs, ?_, f2, f3⟩
            have hm0 : n * inf.size ≠ 0 := hnn.resolve_right hn0
            simp only [execOp, ho, Instr.buildSlice, Sem.run_bind, run_under hut, Result.andThen_ok, run_size hinf]
            rw [if_neg (by rw [hsz]; omega)]
            simp only [if_neg hm0, Sem.run_bind, Sem.run_ite, run_zero hinf hzv, Sem.run_pure, Result.andThen_ok, f1, run_newRow]
        obtain ⟨rs, hrun, hrs, hrv⟩ := hrun
        have hl2 : (qs.map (·.2)).length = n := by simp [hqn]
        refine ⟨_, _, _, g.up w.heap.size ((qs.map (·.2)).length * z), hrun, rfl, grow_alloc hr.good _ _ _, ?_, ?_⟩
        · have key := vr_new (w := w) (g := g) hr.good (z := z) (l := qs.map (·.2)) (cs := rs) (el := el) (fz := (0, 0)) (c := n) (by rw [hl2]; exact Nat.le_refl _)
            (fun e he => by obtain ⟨q, hq, rfl⟩ := List.mem_map.1 he; exact (hone q hq).1) ?_ ?_ hrv
          · rw [hl2] at key ⊢; exact key
          · intro p hp
            obtain ⟨x, hx, hp⟩ := List.mem_flatMap.1 hp
            obtain ⟨q, hq, rfl⟩ := List.mem_map.1 hx
            exact (hone q hq).2 p hp
          · rw [hl2, hrs]; exact Nat.le_refl _
        · intro z2 l2 hz2
          cases hz2
          refine ⟨_, _, _, rfl, rfl, rfl, rfl, hl2.symm, by simp [Gh.up, hqn], rs, el, (0, 0), ?_, ?_, .inr (Nat.le_refl _), hrv⟩
          · rw [heap_alloc_get, if_pos rfl]
          · rw [hrs]; exact Nat.le_refl _
      · cases h
    · cases h
  · cases h

/-- A draw, then one new row. -/
theorem NewRow.drew {w w' : World} {cs : Array Value} {el : TypeId} {fz : Nat × Nat} (h : NewRow { w with drawn := w.drawn + 1 } w' cs el fz) : NewRow w w' cs el fz := ⟨h.os, h.tape, h.output, h.size, h.heap⟩

theorem m_bytes (hr : REL C base e a w g) {o : Oper} {s d : TypeId} {x : Operand} {e' : En} (ho : o.op = .convert s d x) (h : stepO C o e = some e')
    (hn : ∃ z el bs ag T, tyOf C.P d = some T ∧ T.desc = .slice el z ag bs) : Makes C o e e' a w g := by
  obtain ⟨z0, el0, bs0, ag0, T0, hT0, hd0⟩ := hn
  simp only [stepO, ho] at h
  split at h
  · rename_i p hp
    have hv := ev_sound hr hp
    unfold convP at h
    split at h
    · rename_i hs hd
      rw [hd] at hT0; cases hT0; cases hd0
    · rename_i hs hd
      rw [hd] at hT0; cases hT0; cases hd0
    · rename_i el z ag bs _ _ _ _ str hs hd
      split at h
      · rename_i he
        cases h
        have hx := vr_str hv
        obtain ⟨hut, inf, hinf, hsz, _, _⟩ := td_slice hd rfl
        have hu8 := td_int he rfl
        have hss := td_str hs rfl
        let cap := Question.cut (.appendCap str.length 0 el) (w.tape w.drawn (.appendCap str.length 0 el))
        have hcap : str.length ≤ cap := by show str.length ≤ _ + _; omega
        let cs : Array Value := (str.toArray.map fun b => Value.int .u8 b.toNat) ++ Array.replicate (cap - str.length) (.int .u8 0)
        have hcs : cs.size = cap := by show (_ ++ _ : Array Value).size = _; simp; omega
        have hrun : ∃ w', (execOp a.eval o).run C.P w = .ok (.value (.slice (some ⟨w.heap.size, 0, none⟩) str.length cap)) w' ∧ NewRow w w' cs el (cap, cap + 1) := by
          refine ⟨(({ w with drawn := w.drawn + 1 } : World).alloc (.cells cs el)).freeze ⟨w.heap.size, cap, none⟩ 1, ?_, ?_⟩
          · have hsize : (⟨str.toArray⟩ : ByteArray).size = str.length := by simp [ByteArray.size]
            simp only [execOp, ho, hx, Sem.run_bind, convert, run_under hss, run_under hut, Result.andThen_ok, run_under hu8, Conv.stringToBytes, hsize, run_choose, Question.forced, Bool.false_eq_true, if_false, run_newRow, Sem.run_pure]
            simp only [markStringish, Sem.run_bind, run_shape, World.shape?]
            have hg : (({ w with drawn := w.drawn + 1 } : World).alloc (.cells cs el)).heap[w.heap.size]? = some (.cells cs el) := by rw [heap_alloc_get]; exact if_pos rfl
            simp only [cs, cap] at hg ⊢
            rw [hg]
            simp only [Result.andThen_ok, run_freeze]
            have h2 := hcs
            simp only [cs, cap] at h2
            rw [h2]
          · refine ⟨rfl, rfl, rfl, by simp [World.freeze], ?_⟩
            intro b
            simp only [World.freeze, Nat.one_ne_zero, if_false, Array.getElem?_modify, heap_alloc_get]
            by_cases hb : b = w.heap.size
            · subst hb; simp
            · rw [if_neg (fun h => hb h.symm), if_neg hb, if_neg (by exact hb)]
        obtain ⟨w', hrun, hrow⟩ := hrun
        have hl : (str.map byteP).length = str.length := by simp
        have hfl : flat (str.map byteP) = str.map byteP := flat_ones _ (fun p hp => by obtain ⟨b, _, rfl⟩ := List.mem_map.1 hp; rfl)
        have hcl : ∀ (k : Nat) p v, (flat (str.map byteP))[k]? = some p → cs[k]? = some v → VR w g p v := by
          intro k p v hp hv
          rw [hfl] at hp
          simp only [List.getElem?_map] at hp
          cases hk : str[k]? with
          | none => rw [hk] at hp; cases hp
          | some b =>
            rw [hk] at hp; cases hp
            have hlt : k < str.length := (List.getElem?_eq_some_iff.1 hk).1
            have : cs[k]? = some (.int .u8 b.toNat) := by
              show (_ ++ _ : Array Value)[k]? = _
              rw [Array.getElem?_append_left (by simpa using hlt)]
              simp [hk]
            rw [this] at hv; cases hv
            exact .int _ _
        refine ⟨_, _, _, g.up w.heap.size ((str.map byteP).length * 1), hrun, rfl, grow_row hr.good hrow _, ?_, ?_⟩
        · have key := vr_row (w := w) (g := g) hr.good (z := 1) (l := str.map byteP) hrow (c := cap) (by rw [hl]; exact hcap) (fun e he => by obtain ⟨b, _, rfl⟩ := List.mem_map.1 he; rfl) ?_ ?_ ?_
          · rw [hl] at key ⊢; exact key
          · rw [hfl]; intro p hp; obtain ⟨b, _, rfl⟩ := List.mem_map.1 hp; rfl
          · rw [hl, hcs]; omega
          · exact hcl
        · intro z2 l2 hz2
          cases hz2
          refine ⟨_, _, _, rfl, rfl, rfl, rfl, hl.symm, by simp [Gh.up], cs, el, (cap, cap + 1), ?_, ?_, .inl ?_, hcl⟩
          · rw [hrow.heap, if_pos rfl]
          · rw [hcs]; omega
          · rw [hcs]; exact Nat.le_refl _
      · cases h
    · rename_i hs hd
      rw [hd] at hT0; cases hT0; cases hd0
    · rename_i hs hd
      rw [hd] at hT0; cases hT0; cases hd0
    · cases h
  · cases h

end
end Go.Proofs.Ytielbjjdgdblcaa.Vm

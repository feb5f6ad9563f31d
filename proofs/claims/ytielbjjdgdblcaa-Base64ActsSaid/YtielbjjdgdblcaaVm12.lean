/- append. -/
import Derived.Test.YtielbjjdgdblcaaVm11
import Derived.Deep.AppendSrc
import Derived.Deep.Upon
namespace Go.Proofs.Ytielbjjdgdblcaa.Vm
open Go

/-- One row is written. -/
structure RowSet (w w' : World) (b : Nat) (cs cs' : Array Value) (el : TypeId) (fz : Nat × Nat) : Prop where
  os : w'.os = w.os
  tape : w'.tape = w.tape
  output : w'.output = w.output
  size : w'.heap.size = w.heap.size
  old : w.heap[b]? = some (.cells cs el fz)
  new : w'.heap[b]? = some (.cells cs' el fz)
  other : ∀ k, k ≠ b → w'.heap[k]? = w.heap[k]?
  sz : cs'.size = cs.size

theorem setCells_row (b : Nat) : ∀ (vs : List Value) (o : Nat) (w : World) (cs : Array Value) (el : TypeId) (fz : Nat × Nat), w.heap[b]? = some (.cells cs el fz) → o + vs.length ≤ cs.size →
    ∃ cs', RowSet w (w.setCells b o vs) b cs cs' el fz ∧ ∀ k, cs'[k]? = if o ≤ k ∧ k < o + vs.length then vs[k - o]? else cs[k]?
  | [], o, w, cs, el, fz, h, _ => ⟨cs, ⟨rfl, rfl, rfl, rfl, h, h, fun _ _ => rfl, rfl⟩, fun k => by rw [if_neg (by simp)]; ⟩
  | v :: r, o, w, cs, el, fz, h, hl => by
    simp only [List.length_cons] at hl
    have h1 : (w.setCell ⟨b, o, none⟩ v).heap[b]? = some (.cells (cs.setIfInBounds o v) el fz) := by
      simp [World.setCell, Array.getElem?_modify, h]
    obtain ⟨cs', hR, hk⟩ := setCells_row b r (o + 1) (w.setCell ⟨b, o, none⟩ v) (cs.setIfInBounds o v) el fz h1 (by simp; omega)
    refine ⟨cs', ⟨hR.os, hR.tape, hR.output, by rw [World.setCells, hR.size]; simp [World.setCell], h, hR.new, ?_, by rw [hR.sz]; simp⟩, ?_⟩
    · intro k hk'
      rw [World.setCells, hR.other k hk']
      simp [World.setCell, Array.getElem?_modify, Ne.symm hk']
    · intro k
      rw [hk k]
      simp only [List.length_cons]
      by_cases hko : k = o
      · subst hko
        rw [if_neg (by omega), if_pos (by omega), Array.getElem?_setIfInBounds_self_of_lt (by omega)]
        simp
      · by_cases hk2 : o + 1 ≤ k ∧ k < o + 1 + r.length
        · rw [if_pos hk2, if_pos (by omega)]
          have : k - o = (k - (o + 1)) + 1 := by omega
          rw [this]; simp
        · rw [if_neg hk2, if_neg (by omega), Array.getElem?_setIfInBounds_ne (by omega)]

theorem RowSet.keep {w w' : World} {b : Nat} {cs cs' : Array Value} {el : TypeId} {fz : Nat × Nat} (h : RowSet w w' b cs cs' el fz) {g g' : Gh} (hD : ∀ k, g.D k ≤ g'.D k) (hio : ∀ (i k : Nat), g.io[i]? = some k → g'.io[i]? = some k)
    (hc : ∀ o, o < g.D b → cs'[o]? = cs[o]?) : Keep w g w' g' := by
  refine ⟨?_, hD, hio⟩
  intro k o ho
  by_cases hk : k = b
  · subst hk
    simp [World.cell?, h.old, h.new, hc o ho]
  · exact cell?_congr (h.other k hk)

section
variable {C : Ctx} {base : Nat} {e : En} {a : Act} {w : World} {g : Gh}

/-- What is appended: its cells, as the model reads them. -/
theorem src_slice (hr : REL C base e a w g) {ty : TypeId} {z : Nat} {m : List PV} {y : Operand} {el' : TypeId} (hk : C.P.underlying ty = some (.slice el')) (hv : VR w g (.slice z m) (a.eval y)) :
    ∃ news, Src C.P z ty (a.eval y) m.length news w ∧ ∀ (k : Nat) p, (flat m)[k]? = some p → ∃ u, news[k]? = some u ∧ VR w g p u := by
  generalize hu : a.eval y = u at hv
  cases hv with
  | slice _ _ ad c hc hn hz h1 f hm hrr =>
    cases ad with
    | none =>
      have h0 := hn rfl
      have : m = [] := by
        have : m.length = 0 := by omega
        simpa using this
      subst this
      exact ⟨[], Src.ofNil w hk c, by simp [flat]⟩
    | some ad =>
      obtain ⟨hs, hm2⟩ := hm ad rfl
      obtain ⟨b, off, sp⟩ := ad
      simp only at hs hm2
      subst hs
      have hlen : ∀ k, k < m.length * z → ∃ p, (flat m)[k]? = some p := by
        intro k hk
        rw [← flat_length hz] at hk
        exact ⟨_, List.getElem?_eq_getElem hk⟩
      refine ⟨(List.range (m.length * z)).map f, Src.ofSlice w hk ⟨b, off, none⟩ m.length c _ (by simp) ?_ ?_, ?_⟩
      · intro j u hj
        rw [add_none]
        simp only [List.getElem?_map] at hj
        cases hjr : (List.range (m.length * z))[j]? with
        | none => rw [hjr] at hj; cases hj
        | some j' =>
          rw [hjr] at hj; cases hj
          obtain ⟨rfl, hlt⟩ := list_range_get hjr
          exact (hm2 j' hlt).1
      · intro u hu
        obtain ⟨j, hj, rfl⟩ := List.mem_map.1 hu
        simp at hj
        obtain ⟨p, hp⟩ := hlen j hj
        exact (hrr j p hp).one (h1 p (List.mem_of_getElem? hp))
      · intro k p hp
        have hk : k < m.length * z := by rw [← flat_length hz]; exact (List.getElem?_eq_some_iff.1 hp).1
        exact ⟨f k, by simp [hk], hrr k p hp⟩

theorem src_str {ty : TypeId} {s : List UInt8} (hk : C.P.underlying ty = some .string) :
    ∃ news, Src C.P 1 ty (.string ⟨s.toArray⟩) s.length news w ∧ ∀ (k : Nat) p, (flat (s.map byteP))[k]? = some p → ∃ u, news[k]? = some u ∧ VR w g p u := by
  have hsize : (⟨s.toArray⟩ : ByteArray).size = s.length := by simp [ByteArray.size]
  refine ⟨byteCells ⟨s.toArray⟩, by have := Src.ofString w hk ⟨s.toArray⟩; rw [hsize] at this; exact this, ?_⟩
  intro k p hp
  rw [flat_ones _ (fun p hp => by obtain ⟨b, _, rfl⟩ := List.mem_map.1 hp; rfl)] at hp
  simp only [List.getElem?_map] at hp
  cases hs : s[k]? with
  | none => rw [hs] at hp; cases hp
  | some b =>
    rw [hs] at hp; cases hp
    exact ⟨.int .u8 b.toNat, by simp [byteCells, hs], .int _ _⟩

theorem flat_append (l m : List PV) : flat (l ++ m) = flat l ++ flat m := by simp [flat]

/-- The three ways of an append: nothing more, in place, in a new row. -/
theorem append_run (hr : REL C base e a w g) {tx ty ty0 el : TypeId} {inf : TypeInfo} (hut : C.P.underlying tx = some (.slice el)) (hinf : C.P.info? el = some inf) {zv : Value} (hzv : inf.zero = some zv) (hzs : zv.cells.size = inf.size)
    {x : Value} {l m : List PV} (hv : VR w g (.slice inf.size l) x) (happ : Appv w g base inf.size x) (hz0 : 0 < inf.size) {y : Value} {news : List Value} (hsrc : Src C.P inf.size ty y m.length news w)
    (hmz : ∀ p ∈ m, p.cells.length = inf.size) (hm1 : ∀ p ∈ flat m, p.one = true)
    (hnew : ∀ (k : Nat) p, (flat m)[k]? = some p → ∃ u, news[k]? = some u ∧ VR w g p u) (hroom : (l.length + m.length) * (inf.bytes + inf.size) ≤ roomy) :
    (m = [] ∧ (Builtin.append_ #[tx, ty] ty0 #[x, y]).run C.P w = .ok x w) ∨
    (∃ b off c cs cs' e' fz w', x = .slice (some ⟨b, off, none⟩) l.length c ∧ m ≠ [] ∧ base ≤ b ∧ b ∉ g.io ∧ g.D b ≤ off + l.length * inf.size ∧ ownb x = some b ∧ RowSet w w' b cs cs' e' fz ∧ (∀ o, o < off + l.length * inf.size → cs'[o]? = cs[o]?) ∧
      (Builtin.append_ #[tx, ty] ty0 #[x, y]).run C.P w = .ok (.slice (some ⟨b, off, none⟩) (l.length + m.length) c) w' ∧
      VR w' (g.up b (off + (l.length + m.length) * inf.size)) (.slice inf.size (l ++ m)) (.slice (some ⟨b, off, none⟩) (l.length + m.length) c) ∧
      Appv w' (g.up b (off + (l.length + m.length) * inf.size)) base inf.size (.slice (some ⟨b, off, none⟩) (l.length + m.length) c)) ∨
    (∃ c w', (Builtin.append_ #[tx, ty] ty0 #[x, y]).run C.P w = .ok (.slice (some ⟨w.heap.size, 0, none⟩) (l.length + m.length) c) w' ∧ Grow w g w' (g.up w.heap.size ((l ++ m).length * inf.size)) ∧
      VR w' (g.up w.heap.size ((l ++ m).length * inf.size)) (.slice inf.size (l ++ m)) (.slice (some ⟨w.heap.size, 0, none⟩) (l.length + m.length) c) ∧
      Appv w' (g.up w.heap.size ((l ++ m).length * inf.size)) base inf.size (.slice (some ⟨w.heap.size, 0, none⟩) (l.length + m.length) c)) := by
  have hv0 := hv
  cases hv with
  | slice _ _ ad c hc hn hz h1 f hm hrr =>
    have hnl : news.length = m.length * inf.size := hsrc.newsLen
    by_cases hm0 : m = []
    · left
      subst hm0
      have hn0 : news = [] := by simpa using hnl
      subst hn0
      exact ⟨rfl, run_append_nothing w tx ty ty0 el inf hut hinf ad l.length c hc y hsrc⟩
    · right
      have hmpos : 0 < m.length := by cases m with | nil => exact absurd rfl hm0 | cons _ _ => simp
      have hallz : ∀ p ∈ l ++ m, p.cells.length = inf.size := by
        intro p hp; rcases List.mem_append.1 hp with hp | hp
        · exact hz p hp
        · exact hmz p hp
      have hall1 : ∀ p ∈ flat (l ++ m), p.one = true := by
        intro p hp; rw [flat_append] at hp; rcases List.mem_append.1 hp with hp | hp
        · exact h1 p hp
        · exact hm1 p hp
      have hfl : (flat l).length = l.length * inf.size := flat_length hz
      by_cases hroomc : l.length + m.length ≤ c
      · left
        cases ad with
        | none => have := hn rfl; omega
        | some ad =>
          obtain ⟨hs, hm2⟩ := hm ad rfl
          obtain ⟨b, off, sp⟩ := ad
          simp only at hs hm2
          subst hs
          simp only [Appv] at happ
          rcases happ with happ | ⟨hb1, hb2, _, hb3, cs, e', fz, hh, hle, hfz⟩
          · omega
          · have hroomz : l.length * inf.size + m.length * inf.size ≤ c * inf.size := by rw [← Nat.add_mul]; exact Nat.mul_le_mul_right _ hroomc
            obtain ⟨cs', hR, hk⟩ := setCells_row b news (off + l.length * inf.size) w cs e' fz hh (by rw [hnl]; omega)
            have hrun := run_append_room_src (P := C.P) w tx ty ty0 el inf hut hinf b off l.length c y m.length news hsrc hroomc
              (fun j hj => by
                have hlt : off + l.length * inf.size + j < cs.size := by omega
                simp [World.cell?, hh, hlt])
              (fun j hj => by
                have := hfz (off + l.length * inf.size + j) (by omega) (by omega)
                simp only [World.frozen?, hh]
                simp only [Bool.and_eq_false_iff, decide_eq_false_iff_not]
                omega)
            have hold : ∀ o, o < off + l.length * inf.size → cs'[o]? = cs[o]? := by
              intro o ho
              rw [hk o, if_neg (by omega)]
            have hDle : ∀ k, g.D k ≤ (g.up b (off + (l.length + m.length) * inf.size)).D k := by
              intro k
              simp only [Gh.up]
              split
              · rename_i hkb; subst hkb; rw [Nat.add_mul]; omega
              · exact Nat.le_refl _
            have hkeep : Keep w g (w.setCells b (off + l.length * inf.size) news) (g.up b (off + (l.length + m.length) * inf.size)) :=
              hR.keep hDle (fun _ _ h => h) (fun o ho => hold o (by omega))
            refine ⟨b, off, c, cs, cs', e', fz, _, rfl, hm0, hb1, hb2, hb3, ?_, hR, hold, hrun, ?_, ?_⟩
            · simp only [ownb]; rw [if_neg (by omega)]
            · have hlen : (l ++ m).length = l.length + m.length := List.length_append
              have key := VR.slice (w := w.setCells b (off + l.length * inf.size) news) (g := g.up b (off + (l.length + m.length) * inf.size)) inf.size (l ++ m) (some ⟨b, off, none⟩) c (by rw [hlen]; exact hroomc) (by simp) hallz hall1
                (fun k => (cs'[off + k]?).getD .nilIface) ?_ ?_
              · rw [hlen] at key; exact key
              · intro ad had
                cases had
                refine ⟨rfl, fun k hk' => ?_⟩
                rw [hlen, Nat.add_mul] at hk'
                have hlt : off + k < cs'.size := by rw [hR.sz]; omega
                refine ⟨by simp [World.cell?, hR.new, hlt], ?_⟩
                simp [Gh.up, Nat.add_mul]; omega
              · intro k p hp
                rw [flat_append] at hp
                by_cases hkl : k < l.length * inf.size
                · rw [List.getElem?_append_left (by rw [hfl]; exact hkl)] at hp
                  have h2 := (hm2 k hkl).1
                  simp only [World.cell?, hh, Option.isSome_none, Bool.false_eq_true, if_false] at h2
                  rw [hold (off + k) (by omega), h2]
                  exact (hrr k p hp).keep hkeep
                · rw [List.getElem?_append_right (by rw [hfl]; omega), hfl] at hp
                  obtain ⟨u, hu, hur⟩ := hnew _ p hp
                  have hkk : k - l.length * inf.size < news.length := (List.getElem?_eq_some_iff.1 hu).1
                  have : cs'[off + k]? = some u := by
                    rw [hk (off + k), if_pos (by omega), ← hu]
                    congr 1; omega
                  rw [this]
                  exact hur.keep hkeep
            · refine .inr ⟨hb1, hb2, rfl, by simp [Gh.up], cs', e', fz, hR.new, by rw [hR.sz]; exact hle, ?_⟩
              intro o ho1 ho2
              exact hfz o (by rw [Nat.add_mul] at ho1; simp only at ho1 ⊢; omega) ho2
      · right
        have hbn : (l.length + m.length) * inf.bytes ≤ roomy := Nat.le_trans (Nat.mul_le_mul_left _ (by omega)) hroom
        have hbs : l.length + m.length ≤ roomy := by
          refine Nat.le_trans ?_ hroom
          exact Nat.le_mul_of_pos_right _ (by omega)
        simp only [roomy] at hbn hbs
        have hfit : Builtin.nextslicecap (l.length + m.length) c * inf.bytes ≤ 281474976710656 := by
          have h2 := nextslicecap_le (need := l.length + m.length) (old := c) (by omega)
          have h3 := Nat.mul_le_mul_right inf.bytes h2
          rw [Nat.mul_assoc] at h3
          omega
        have hold : ∃ olds : List Value, (Builtin.firstCells inf.size l.length (.slice ad l.length c)).run C.P w.drew = .ok olds.toArray w.drew ∧ olds.length = l.length * inf.size ∧ ∀ (k : Nat) p, (flat l)[k]? = some p → ∃ u, olds[k]? = some u ∧ VR w g p u := by
          cases ad with
          | none =>
            have : l = [] := by
              have : l.length = 0 := by have := hn rfl; omega
              simpa using this
            subst this
            exact ⟨[], by simp [Builtin.firstCells], by simp, by simp [flat]⟩
          | some ad =>
            obtain ⟨hs, hm2⟩ := hm ad rfl
            obtain ⟨b, off, sp⟩ := ad
            simp only at hs hm2
            subst hs
            refine ⟨(List.range (l.length * inf.size)).map f, ?_, by simp, ?_⟩
            · refine run_firstCells_some w.drew inf.size l.length ⟨b, off, none⟩ l.length c _ (by simp) ?_
              intro j u hj
              rw [add_none]
              simp only [List.getElem?_map] at hj
              cases hjr : (List.range (l.length * inf.size))[j]? with
              | none => rw [hjr] at hj; cases hj
              | some j' =>
                rw [hjr] at hj; cases hj
                obtain ⟨rfl, hlt⟩ := list_range_get hjr
                exact (hm2 j' hlt).1
            · intro k p hp
              have hk : k < l.length * inf.size := by rw [← hfl]; exact (List.getElem?_eq_some_iff.1 hp).1
              exact ⟨f k, by simp [hk], hrr k p hp⟩
        obtain ⟨olds, ho1, ho2, ho3⟩ := hold
        have hrun := run_append_grow_src (P := C.P) w tx ty ty0 el inf zv hut hinf hzv ad l.length c olds ho1 y m.length news hsrc (by omega) (by omega) hfit
        generalize hgc : grownCap w (l.length + m.length) c el = gc at hrun
        have hgc2 : l.length + m.length ≤ gc := by rw [← hgc]; simp only [grownCap, Question.cut]; omega
        generalize hcs : ((olds ++ news).toArray ++ Builtin.zeroCells zv.cells (gc - (l.length + m.length))) = cs at hrun
        have hcsz : cs.size = gc * inf.size := by
          rw [← hcs]
          simp only [Array.size_append, List.size_toArray, List.length_append, Builtin.zeroCells, Array.size_map, Array.size_range, ho2, hnl, hzs]
          rw [← Nat.add_mul, ← Nat.add_mul]
          congr 1; omega
        have hnr : NewRow w (w.drew.alloc (.cells cs el)) cs el (0, 0) := by
          have := newRow_alloc w.drew cs el (0, 0)
          exact ⟨this.os, this.tape, this.output, this.size, this.heap⟩
        have hlen : (l ++ m).length = l.length + m.length := List.length_append
        refine ⟨gc, _, hrun, grow_row hr.good hnr _, ?_, ?_⟩
        · have key := vr_row (w := w) (g := g) hr.good (z := inf.size) (l := l ++ m) hnr (c := gc) (by rw [hlen]; exact hgc2) hallz hall1 (by rw [hcsz, hlen]; exact Nat.mul_le_mul_right _ hgc2) ?_
          · rw [hlen] at key ⊢; exact key
          · intro k p v hp hv'
            rw [flat_append] at hp
            have hget : ∀ u, (olds ++ news)[k]? = some u → cs[k]? = some u := by
              intro u hu
              rw [← hcs, Array.getElem?_append_left (by simpa using (List.getElem?_eq_some_iff.1 hu).1)]
              simpa using hu
            by_cases hkl : k < l.length * inf.size
            · rw [List.getElem?_append_left (by rw [hfl]; exact hkl)] at hp
              obtain ⟨u, hu, hur⟩ := ho3 k p hp
              rw [hget u (by rw [List.getElem?_append_left (by omega)]; exact hu)] at hv'
              cases hv'
              exact hur
            · rw [List.getElem?_append_right (by rw [hfl]; omega), hfl] at hp
              obtain ⟨u, hu, hur⟩ := hnew _ p hp
              rw [hget u (by rw [List.getElem?_append_right (by omega), ho2]; exact hu)] at hv'
              cases hv'
              exact hur
        · refine .inr ⟨hr.hb, ?_, rfl, by simp [Gh.up], cs, el, (0, 0), ?_, by rw [hcsz]; simp, by intro o _ _; simp⟩
          · intro hm3
            have := io_lt hr.good hm3
            simp at this
          · rw [hnr.heap]; exact if_pos rfl

theorem Good.row {w w' : World} {g : Gh} {H : List HObj} (hg : Good w g H) {b : Nat} {cs cs' : Array Value} {el : TypeId} {fz : Nat × Nat} (hR : RowSet w w' b cs cs' el fz) (hb : b ∉ g.io) {n : Nat} (hk : Keep w g w' (g.up b n)) : Good w' (g.up b n) H := by
  have hbl : b < w.heap.size := (Array.getElem?_eq_some_iff.1 hR.old).1
  refine ⟨?_, hg.len, hg.nodup, ?_⟩
  · intro k hk'
    rw [hR.size] at hk'
    simp only [Gh.up]
    rw [if_neg (by omega)]
    exact hg.fresh k hk'
  · intro i k ob hi ho
    obtain ⟨h1, h2⟩ := hg.obj i k ob hi ho
    have hne : k ≠ b := by intro h; subst h; exact hb (List.mem_of_getElem? hi)
    refine ⟨fun h0 => by simp only [Gh.up]; rw [if_neg hne]; exact h1 h0, h2.keep hk (hR.other k hne)⟩

/-- The source of an append in place is a temporary that may append. -/
theorem src_in_F (hr : REL C base e a w g) {x : Operand} {ty : TypeId} {z : Nat} {l : List PV} (hpx : ev C.P e ty x = some (.slice z l)) (hvx : VR w g (.slice z l) (a.eval x)) {b : Nat} (hob : ownb (a.eval x) = some b)
    {o : Oper} (hs : (match (some x : Option Operand) with | some (.tmp s) => e.F.contains (s, 0, 0) && o.dst != some s | some x => isNil x | none => false) = true) :
    ∃ s, x = .tmp s ∧ (s, 0, 0) ∈ e.F ∧ pval e (s, 0, 0) = some (.slice z l) ∧ cval C a w (s, 0, 0) = some (a.eval x) := by
  cases x with
  | tmp s =>
    simp only [Bool.and_eq_true, List.contains_iff_mem] at hs
    simp only [ev] at hpx
    split at hpx
    · rename_i q hq
      cases hpx
      obtain ⟨e1, e2⟩ := tmp_get hr hq (0, 0)
      refine ⟨s, rfl, hs.1, by rw [e1]; rfl, ?_⟩
      rw [e2]
      generalize hu : a.eval (.tmp s) = u at hvx
      have hu' : a.tmps.getD s undef = u := hu
      rw [hu']
      cases hvx
      rfl
    · cases hpx
  | const v =>
    simp only at hs
    unfold isNil at hs
    split at hs
    · rename_i hvq; cases hvq; simp [ownb, Act.eval] at hob
    · cases hs
  | global _ => simp [isNil] at hs
  | func _ => simp [isNil] at hs

/-- A value of a new slice, or a nil one; of who may append fewer. -/
theorem fresh_sub (hr : REL C base e a w g) {o : Oper} {w' : World} {g' : Gh} (hG : Grow w g w' g') (hd : DstOK C o a) {z0 : Nat} {l0 : List PV} {v : Value} (hrun : (execOp a.eval o).run C.P w = .ok (.value v) w') (hc : VR w' g' (.slice z0 l0) v)
    {d : Nat} (ho : o.dst = some d) (hfr : Appv w' g' base z0 v ∧ ∀ b, ownb v = some b → w.heap.size ≤ b) {F2 : List (Nat × Nat × Nat)} (hF : ∀ l ∈ F2, l ∈ e.F ∧ l.1 ≠ d) :
    StepOK C base o { put o (.v (.slice z0 l0)) e with F := (d, 0, 0) :: F2 } a w g := by
  obtain ⟨w1, g1, h1, h2⟩ := ok_fresh hr hG hd hrun hc ho hfr rfl
  refine ⟨w1, g1, h1, ?_⟩
  have hsub : ∀ l ∈ (d, 0, 0) :: F2, l ∈ (d, 0, 0) :: rmF d e.F := by
    intro l hl
    rcases List.mem_cons.1 hl with rfl | hl
    · simp
    · exact List.mem_cons_of_mem _ (mem_rmF.2 ⟨(hF l hl).1, (hF l hl).2⟩)
  have key : ∀ a', REL C base { put o (.v (.slice z0 l0)) e with F := (d, 0, 0) :: rmF d e.F } a' w1 g1 → REL C base { put o (.v (.slice z0 l0)) e with F := (d, 0, 0) :: F2 } a' w1 g1 := by
    intro a' h
    exact ⟨h.hb, h.defers, h.good, h.t, h.bx, h.dist, ⟨fun l hl => h.own.app l (hsub l hl), fun l hl l' hl' => h.own.uniq l (hsub l hl) l' (hsub l' hl'), fun l hl => h.own.box l (hsub l hl)⟩⟩
  rcases h2 with ⟨v, h3, h4⟩ | ⟨h3, h4⟩
  · exact .inl ⟨v, h3, key _ h4⟩
  · exact .inr ⟨h3, key _ h4⟩

theorem ok_append (hr : REL C base e a w g) {o : Oper} {args : Array Operand} {tys : Array TypeId} {tr : Bool} {e' : En} (ho : o.op = .call { callee := .builtin .append, args, argTypes := tys }) (hd : DstOK C o a)
    (happ : appOk C o e = true) (h : stepO C o e = some e') : StepOK C base o { e' with F := fnext C tr o e } a w g := by
  simp only [stepO, ho] at h
  split at h
  case h_2 => cases h
  rename_i x y tx ty hargs htys
  have hA : args = #[x, y] := by rw [← hargs]
  have hT : tys = #[tx, ty] := by rw [← htys]
  subst hA
  subst hT
  split at h
  case h_2 => cases h
  rename_i el z ag bs _ _ _ _ z' l hTx hpx
  split at h
  case isFalse => cases h
  rename_i hzero
  simp only [appOk, ho, Bool.and_eq_true] at happ
  obtain ⟨⟨hown, hdst⟩, hsrcF⟩ := happ
  obtain ⟨d, hdd⟩ := Option.isSome_iff_exists.1 hdst
  obtain ⟨hut, inf, hinf, hsz, hby, _⟩ := td_slice hTx rfl
  subst hsz
  subst hby
  have hzv : ∃ zv, inf.zero = some zv ∧ zv.cells.size = inf.size := by
    cases hTe : tyOf C.P el with
    | none => rw [hTe] at hzero; simp at hzero
    | some T =>
      rw [hTe] at hzero
      simp only [Option.bind_some] at hzero
      obtain ⟨zp, hzp⟩ := Option.isSome_iff_exists.1 hzero
      obtain ⟨i2, zv, h1, h2, _, _, h5⟩ := zero_cells (w := w) (g := g) hTe hzp
      rw [hinf] at h1; cases h1
      exact ⟨zv, h2, h5⟩
  obtain ⟨zv, hzv, hzs⟩ := hzv
  have hvx := ev_sound hr hpx
  have hrun0 : ∀ v w', (Builtin.append_ #[tx, ty] o.type #[a.eval x, a.eval y]).run C.P w = .ok v w' → (execOp a.eval o).run C.P w = .ok (.value v) w' := by
    intro v w' hh
    obtain ⟨cc, hcc⟩ := run_call_builtin (a := a) (w := w) (P := C.P) ho
    rw [hcc]
    simp only [builtin, List.map_toArray, List.map_cons, List.map_nil, Sem.run_bind, hh, Result.andThen_ok, Sem.run_pure]
  have hfn : ∃ F2, fnext C tr o e = (d, 0, 0) :: F2 ∧ ∀ l ∈ F2, l ∈ e.F ∧ l.1 ≠ d ∧ ∀ s, x = .tmp s → l.1 ≠ s := by
    unfold fnext
    rw [if_neg (by simp [hown])]
    simp only [ho, hdd]
    refine ⟨_, rfl, ?_⟩
    intro l hl
    simp only [List.getElem?_toArray, List.getElem?_cons_zero] at hl
    obtain ⟨h1, h2⟩ := mem_rmF.1 hl
    cases x with
    | tmp s => exact ⟨(mem_rmF.1 h1).1, h2, fun s' hs' => by cases hs'; exact (mem_rmF.1 h1).2⟩
    | _ => exact ⟨h1, h2, fun s' hs' => by cases hs'⟩
  obtain ⟨F2, hfn, hF2⟩ := hfn
  -- who may append: the source
  have hxa : Appv w g base z' (a.eval x) := by
    cases x with
    | tmp s =>
      simp only [List.getElem?_toArray, List.getElem?_cons_zero, Bool.and_eq_true, List.contains_iff_mem] at hsrcF
      simp only [ev] at hpx
      split at hpx
      · rename_i q hq
        cases hpx
        obtain ⟨e1, e2⟩ := tmp_get hr hq (0, 0)
        refine hr.own.app (s, 0, 0) hsrcF.1 z' l (a.eval (.tmp s)) (by rw [e1]; rfl) ?_
        rw [e2]
        generalize hu : a.eval (.tmp s) = u at hvx
        have hu' : a.tmps.getD s undef = u := hu
        rw [hu']
        cases hvx
        rfl
      · cases hpx
    | const v =>
      simp only [List.getElem?_toArray, List.getElem?_cons_zero] at hsrcF
      unfold isNil at hsrcF
      split at hsrcF
      · rename_i hvq; cases hvq; trivial
      · cases hsrcF
    | global _ => simp [isNil] at hsrcF
    | func _ => simp [isNil] at hsrcF
  have main : ∀ (m : List PV) (news : List Value), z' = inf.size → 0 < inf.size → Src C.P inf.size ty (a.eval y) m.length news w → (∀ p ∈ m, p.cells.length = inf.size) → (∀ p ∈ flat m, p.one = true) →
      (∀ (k : Nat) p, (flat m)[k]? = some p → ∃ u, news[k]? = some u ∧ VR w g p u) → (l.length + m.length) * (inf.bytes + inf.size) ≤ roomy → e' = put o (.v (.slice inf.size (l ++ m))) e → StepOK C base o { e' with F := fnext C tr o e } a w g := by
    intro m news hzz hz0 hsrc hmz hm1 hnew hroom he'
    subst hzz
    subst he'
    rw [hfn]
    rcases append_run hr (ty0 := o.type) hut hinf hzv hzs hvx hxa hz0 hsrc hmz hm1 hnew hroom with ⟨rfl, hrun⟩ | ⟨b, off, c, cs, cs', e2, fz, w', hx, hmne, hb1, hb2, hb3, hob, hR, hold, hrun, hv', ha'⟩ | ⟨c, w', hrun, hG, hv', ha'⟩
    · -- nothing more: the right to append moves on
      rw [List.append_nil]
      cases x with
      | tmp s =>
        simp only [List.getElem?_toArray, List.getElem?_cons_zero, Bool.and_eq_true, List.contains_iff_mem] at hsrcF
        have hsd : s ≠ d := by
          intro h
          have := hsrcF.2
          rw [hdd, h] at this
          simp at this
        simp only [ev] at hpx
        split at hpx
        · rename_i q hq
          cases hpx
          refine ok_trans hr hd (c := .v (.slice inf.size l)) (hrun0 _ _ hrun) hvx hdd (fun _ => (s, 0, 0)) ?_ ?_
          · intro l' hl'
            rcases List.mem_cons.1 hl' with rfl | hl'
            · refine .inr ⟨rfl, hsrcF.1, ?_, ?_⟩
              · intro hm
                rcases List.mem_cons.1 hm with hm | hm
                · exact hsd (congrArg Prod.fst hm)
                · exact (hF2 _ hm).2.2 s rfl rfl
              · intro z t u hp hc
                obtain ⟨e1, e2⟩ := tmp_get hr hq (0, 0)
                rw [e1, e2]
                exact ⟨hp, hc⟩
            · exact .inl ⟨(hF2 _ hl').2.1, (hF2 _ hl').1⟩
          · intro l1 h1 l2 h2 h3 h4 _
            rcases List.mem_cons.1 h1 with rfl | h1
            · rcases List.mem_cons.1 h2 with rfl | h2
              · rfl
              · exact absurd h4 (hF2 _ h2).2.1
            · exact absurd h3 (hF2 _ h1).2.1
        · cases hpx
      | const v =>
        simp only [List.getElem?_toArray, List.getElem?_cons_zero] at hsrcF
        unfold isNil at hsrcF
        split at hsrcF
        · rename_i hvq
          cases hvq
          exact fresh_sub hr (Grow.refl hr.good) hd (hrun0 _ _ hrun) hvx hdd ⟨trivial, by simp [ownb, Act.eval]⟩ (fun l hl => ⟨(hF2 l hl).1, (hF2 l hl).2.1⟩)
        · cases hsrcF
      | global _ => simp [isNil] at hsrcF
      | func _ => simp [isNil] at hsrcF
    · -- in place
      have hkeep : Keep w g w' (g.up b (off + (l.length + m.length) * inf.size)) := by
        refine hR.keep ?_ (fun _ _ h => h) (fun o' ho' => hold o' (by omega))
        intro k
        simp only [Gh.up]
        split
        · rename_i hkb; subst hkb; rw [Nat.add_mul]; omega
        · exact Nat.le_refl _
      have hbl : b < w.heap.size := (Array.getElem?_eq_some_iff.1 hR.old).1
      have hgood : Good w' (g.up b (off + (l.length + m.length) * inf.size)) e.H := hr.good.row hR hb2 hkeep
      -- no variable lies in that block
      obtain ⟨s, hxs, hsF, hpv, hcv⟩ := src_in_F hr hpx hvx hob hsrcF
      have hnb : ∀ s' p, lkp e.bx s' = some p → a.tmps.getD s' undef ≠ .pointer (some ⟨b, 0, none⟩) := fun s' p hs' => hr.own.box (s, 0, 0) hsF _ _ _ b hpv hcv hob s' p hs'
      have hmild : Mild e a w g w' (g.up b (off + (l.length + m.length) * inf.size)) e.H := by
        refine ⟨by rw [hR.size]; exact Nat.le_refl _, hkeep, hgood, fun _ _ h => h, ?_⟩
        intro s' p b' hs' hb'
        have hne : b' ≠ b := by intro h; subst h; exact hnb s' p hs' hb'
        exact ⟨hR.other b' hne, by simp only [Gh.up]; rw [if_neg hne]⟩
      have hne2 : ∀ l' ∈ F2, ∀ z t u, pval e l' = some (.slice z t) → cval C a w l' = some u → ownb u ≠ some b := by
        intro l' hl' z t u hp hc
        refine hr.own.uniq (s, 0, 0) hsF l' (hF2 l' hl').1 ?_ _ _ _ z t u b hpv hcv hp hc hob
        intro h
        exact (hF2 l' hl').2.2 s hxs (by rw [← h])
      have e1 : ∀ F, ({ put o (.v (.slice inf.size (l ++ m))) e with F := F } : En) = { e with t := (d, .v (.slice inf.size (l ++ m))) :: e.t, F } := by intro F; simp [put, hdd]
      obtain ⟨hds, hdb⟩ := hd d hdd
      refine ⟨w', g.up b (off + (l.length + m.length) * inf.size), ⟨hR.os, hR.tape, hR.output, by rw [hR.size]; exact Nat.le_refl _, fun k hk hki => hR.other k (by intro h; subst h; omega), fun k hk _ => by simp only [Gh.up]; rw [if_neg (by omega)], fun k hk => by simp only [Gh.up]; rw [if_neg (by omega)]; exact Nat.le_refl _, [], by simp [Gh.up], by simp⟩,
        .inl ⟨_, hrun0 _ _ hrun, ?_⟩⟩
      have e2 : ({ put o (.v (.slice inf.size (l ++ m))) e with F := (d, 0, 0) :: F2 } : En) = { put o (.v (.slice inf.size (l ++ m))) e with F := (d, 0, 0) :: F2, H := e.H } := by simp [put, hdd]
      rw [e2]
      refine rel_put' hr hmild hd (c := .v (.slice inf.size (l ++ m))) hv' ?_
      rw [← e2, e1, hdd]
      -- the value of the temporary that is written
      have hdv : ∀ z t u, pval { e with t := (d, .v (.slice inf.size (l ++ m))) :: e.t, F := (d, 0, 0) :: F2 } (d, 0, 0) = some (.slice z t) →
          cval C (a.put (some d) (.slice (some ⟨b, off, none⟩) (l.length + m.length) c)) w' (d, 0, 0) = some u → z = inf.size ∧ u = .slice (some ⟨b, off, none⟩) (l.length + m.length) c := by
        intro z t u hp hc
        simp only [pval, bx_box hr hdb, lkp_cons, if_true, compP, PV.cells] at hp
        simp only [cval] at hc
        rw [if_neg hdb, put_getD a d d _ hds, if_pos rfl] at hc
        simp only [compV, Value.cells] at hc
        simp at hp hc
        exact ⟨hp.1.symm, hc.symm⟩
      have hold2 : ∀ l' ∈ F2, ∀ z t u, pval { e with t := (d, .v (.slice inf.size (l ++ m))) :: e.t, F := (d, 0, 0) :: F2 } l' = some (.slice z t) →
          cval C (a.put (some d) (.slice (some ⟨b, off, none⟩) (l.length + m.length) c)) w' l' = some u → pval e l' = some (.slice z t) ∧ cval C a w l' = some u := by
        intro l' hl' z t u hp hc
        obtain ⟨q1, q2⟩ := vals_old hr hmild hds (c := .v (.slice inf.size (l ++ m))) (v := .slice (some ⟨b, off, none⟩) (l.length + m.length) c) (hF2 l' hl').2.1 ((d, 0, 0) :: F2)
        rw [q1] at hp
        exact ⟨hp, q2 z t u hp hc⟩
      refine OwnF.map hr.own (fun l' => if l'.1 = d then none else some l') ?_ ?_ ?_ ?_ ?_
      · intro l' hl' k hk
        split at hk
        · cases hk
        · rename_i hnd
          cases hk
          rcases List.mem_cons.1 hl' with rfl | hl'
          · exact absurd rfl hnd
          · exact ⟨(hF2 l' hl').1, fun z t u hp hc => hold2 l' hl' z t u hp hc⟩
      · intro l' hl' k hk z t u hp hc hau b1 hb1'
        split at hk
        · cases hk
        · rename_i hnd
          cases hk
          rcases List.mem_cons.1 hl' with rfl | hl'
          · exact absurd rfl hnd
          · have hnb1 : b1 ≠ b := by intro h; subst h; exact hne2 l' hl' z t u hp hc hb1'
            unfold Appv at hau ⊢
            split at hau
            · rename_i ad n c2
              rcases hau with hau | ⟨k1, k2, k3, k4, cs2, e3, fz2, k5, k6, k7⟩
              · exact .inl hau
              · have hadb : ad.block = b1 := by
                  simp only [ownb] at hb1'
                  split at hb1'
                  · cases hb1'
                  · cases hb1'; rfl
                refine .inr ⟨k1, k2, k3, ?_, cs2, e3, fz2, ?_, k6, k7⟩
                · simp only [Gh.up]; rw [if_neg (by rw [hadb]; exact hnb1)]; exact k4
                · rw [hR.other ad.block (by rw [hadb]; exact hnb1)]; exact k5
            · trivial
      · intro l1 h1 l2 h2 k h3 h4
        split at h3
        · cases h3
        · split at h4
          · cases h4
          · cases h3; cases h4; rfl
      · intro l' hl' hk z t u hp hc
        split at hk
        · rename_i hld
          rcases List.mem_cons.1 hl' with rfl | hl'
          · obtain ⟨rfl, rfl⟩ := hdv z t u hp hc
            refine ⟨ha', fun b1 hb1' l2 hl2 hne z2 t2 u2 hp2 hc2 => ?_⟩
            have hbb : b1 = b := by
              simp only [ownb] at hb1'
              split at hb1'
              · cases hb1'
              · cases hb1'; rfl
            subst hbb
            rcases List.mem_cons.1 hl2 with rfl | hl2
            · exact absurd rfl hne
            · obtain ⟨q1, q2⟩ := hold2 l2 hl2 z2 t2 u2 hp2 hc2
              exact hne2 l2 hl2 z2 t2 u2 q1 q2
          · exact absurd hld (hF2 l' hl').2.1
        · cases hk
      · intro l' hl' z t u b1 hp hc hb1' s' p hs' heq
        have hs'd : s' ≠ d := by intro h; subst h; exact hdb (hr.bx s' p hs').1
        rw [put_getD a d s' _ hds, if_neg (fun h => hs'd h.symm)] at heq
        rcases List.mem_cons.1 hl' with rfl | hl'
        · obtain ⟨rfl, rfl⟩ := hdv z t u hp hc
          have hbb : b1 = b := by
            simp only [ownb] at hb1'
            split at hb1'
            · cases hb1'
            · cases hb1'; rfl
          subst hbb
          exact hnb s' p hs' heq
        · obtain ⟨q1, q2⟩ := hold2 l' hl' z t u hp hc
          exact hr.own.box l' (hF2 l' hl').1 z t u b1 q1 q2 hb1' s' p hs' heq
    · -- a new row
      refine fresh_sub hr hG hd (hrun0 _ _ hrun) hv' hdd ⟨ha', ?_⟩ (fun l hl => ⟨(hF2 l hl).1, (hF2 l hl).2.1⟩)
      intro k hk
      simp only [ownb] at hk
      split at hk
      · cases hk
      · cases hk; exact Nat.le_refl _
  split at h
  · rename_i el2 z2 ag2 bs2 _ _ _ _ w2 m hTy hpy
    split at h
    · rename_i hcond
      obtain ⟨h1, h2, h3, h4⟩ := hcond
      subst h2
      cases h
      have hvy := ev_sound hr hpy
      obtain ⟨news, hs1, hs2⟩ := src_slice hr (td_slice hTy rfl).1 hvy
      have hmz : (∀ p ∈ m, p.cells.length = inf.size) ∧ ∀ p ∈ flat m, p.one = true := by
        generalize a.eval y = u at hvy
        cases hvy with
        | slice _ _ _ _ _ _ hz h1 _ _ _ => exact ⟨hz, h1⟩
      exact main m news h1 h3 hs1 hmz.1 hmz.2 hs2 h4 rfl
    · cases h
  · rename_i s hTy hpy
    split at h
    · rename_i hcond
      obtain ⟨h1, h2, h4⟩ := hcond
      cases h
      have hvy := vr_str (ev_sound hr hpy)
      obtain ⟨news, hs1, hs2⟩ := src_str (w := w) (g := g) (C := C) (s := s) (td_str hTy rfl)
      rw [← hvy] at hs1
      refine main (s.map byteP) news h1 (by omega) (by rw [h2]; simpa using hs1) ?_ ?_ hs2 (by rw [h2]; simpa using h4) (by rw [← h1])
      · intro p hp; obtain ⟨b, _, rfl⟩ := List.mem_map.1 hp; rw [h2]; rfl
      · intro p hp
        rw [flat_ones _ (fun p hp => by obtain ⟨b, _, rfl⟩ := List.mem_map.1 hp; rfl)] at hp
        obtain ⟨b, _, rfl⟩ := List.mem_map.1 hp; rfl
    · cases h
  · cases h

end
end Go.Proofs.Ytielbjjdgdblcaa.Vm

/- Aggregates put together, conversions of what is known. -/
import Derived.Test.YtielbjjdgdblcaaVm7
namespace Go.Proofs.Ytielbjjdgdblcaa.Vm
open Go

section
variable {C : Ctx} {base : Nat} {e : En} {a : Act} {w : World} {g : Gh}

theorem splice_length {cs ns : List PV} {off : Nat} (h : off + ns.length ≤ cs.length) : (splice cs off ns).length = cs.length := by
  simp [splice]; omega

theorem splice_get {cs ns : List PV} {off k : Nat} (h : off + ns.length ≤ cs.length) : (splice cs off ns)[k]? = if off ≤ k ∧ k < off + ns.length then ns[k - off]? else cs[k]? := by
  unfold splice
  by_cases h1 : k < off
  · rw [List.append_assoc, List.getElem?_append_left (by simp; omega), List.getElem?_take, if_pos h1, if_neg (by omega)]
  · by_cases h2 : k < off + ns.length
    · rw [List.append_assoc, List.getElem?_append_right (by simp; omega), List.getElem?_append_left (by simp; omega), if_pos ⟨by omega, h2⟩]
      congr 1; simp; omega
    · rw [List.getElem?_append_right (by simp; omega), List.getElem?_drop, if_neg (by omega)]
      congr 1; simp; omega

theorem foldl_set (off : Nat) : ∀ (vs : List Value) (j : Nat) (us : Array Value), off + j + vs.length ≤ us.size →
    ((vs.zipIdx j).foldl (fun (cs : Array Value) (x : Value × Nat) => cs.setIfInBounds (off + x.2) x.1) us).size = us.size ∧
    ∀ k, ((vs.zipIdx j).foldl (fun (cs : Array Value) (x : Value × Nat) => cs.setIfInBounds (off + x.2) x.1) us)[k]? = if off + j ≤ k ∧ k < off + j + vs.length then vs[k - (off + j)]? else us[k]?
  | [], j, us, _ => by
    refine ⟨rfl, fun k => ?_⟩
    simp only [List.zipIdx_nil, List.foldl_nil, List.length_nil]
    rw [if_neg (by omega)]
  | v :: vs, j, us, h => by
    simp only [List.zipIdx_cons, List.foldl_cons, List.length_cons] at *
    obtain ⟨h1, h2⟩ := foldl_set off vs (j + 1) (us.setIfInBounds (off + j) v) (by simp; omega)
    refine ⟨by rw [h1]; simp, fun k => ?_⟩
    rw [h2 k]
    by_cases hk : k = off + j
    · subst hk
      rw [if_neg (by omega), if_pos (by omega), Array.getElem?_setIfInBounds_self_of_lt (by omega)]
      simp
    · by_cases hk2 : off + (j + 1) ≤ k ∧ k < off + (j + 1) + vs.length
      · rw [if_pos hk2, if_pos (by omega)]
        have : k - (off + j) = (k - (off + (j + 1))) + 1 := by omega
        rw [this]; simp
      · rw [if_neg hk2, if_neg (by omega)]
        rw [Array.getElem?_setIfInBounds_ne (by omega)]

theorem fill_sound {place : Nat → Option (Nat × Nat)} : ∀ (ps : List (Nat × PV)) (vs : List (Nat × Value)) (cs : List PV) (us : Array Value) (r : List PV),
    ps.length = vs.length → (∀ (i : Nat) p v, ps[i]? = some p → vs[i]? = some v → p.1 = v.1 ∧ VR w g p.2 v.2) → VRL w g cs us.toList → fillP place cs ps = some r →
    ∃ rs, Instr.fill place us vs = some rs ∧ VRL w g r rs.toList ∧ r.length = cs.length
  | [], [], cs, us, r, _, _, hc, h => by cases h; exact ⟨us, rfl, hc, rfl⟩
  | [], _ :: _, _, _, _, hl, _, _, _ => by simp at hl
  | _ :: _, [], _, _, _, hl, _, _, _ => by simp at hl
  | (i, p) :: ps, (j, v) :: vs, cs, us, r, hl, hv, hc, h => by
    obtain ⟨hij, hr⟩ := hv 0 _ _ rfl rfl
    simp only at hij hr
    subst hij
    simp only [fillP] at h
    cases hpl : place i with
    | none => rw [hpl] at h; cases h
    | some os =>
      obtain ⟨off, size⟩ := os
      rw [hpl] at h
      simp only at h
      split at h
      · rename_i hcond
        obtain ⟨hn, hle⟩ := hcond
        have hcells := hr.cells
        have hcl : p.cells.length = v.cells.size := by simpa using hcells.1
        have hcs : cs.length = us.size := by simpa using hc.1
        have hfs := foldl_set off v.cells.toList 0 us (by simp; omega)
        have hz : v.cells.zipIdx.foldl (fun (cs : Array Value) (x : Value × Nat) => cs.setIfInBounds (off + x.2) x.1) us = (v.cells.toList.zipIdx 0).foldl (fun (cs : Array Value) (x : Value × Nat) => cs.setIfInBounds (off + x.2) x.1) us := by
          rw [← Array.foldl_toList]; simp
        have hspl : off + p.cells.length ≤ cs.length := by omega
        have hc' : VRL w g (splice cs off p.cells) (v.cells.zipIdx.foldl (fun (cs : Array Value) (x : Value × Nat) => cs.setIfInBounds (off + x.2) x.1) us).toList := by
          rw [hz]
          refine ⟨by rw [splice_length hspl]; simp [hfs.1, hcs], ?_⟩
          intro k q u hq hu
          rw [splice_get hspl] at hq
          rw [Array.getElem?_toList, hfs.2 k] at hu
          simp only [Nat.add_zero, Array.length_toList] at hu
          by_cases hk : off ≤ k ∧ k < off + p.cells.length
          · rw [if_pos hk] at hq
            rw [if_pos (by omega)] at hu
            exact hcells.2 _ q u hq hu
          · rw [if_neg hk] at hq
            rw [if_neg (by omega)] at hu
            exact hc.2 k q u hq (by simpa using hu)
        obtain ⟨rs, h1, h2, h3⟩ := fill_sound ps vs _ _ r (by simpa using hl) (fun i p v hp hv' => hv (i + 1) p v (by simpa using hp) (by simpa using hv')) hc' h
        refine ⟨rs, ?_, h2, by rw [h3, splice_length hspl]⟩
        simp only [Instr.fill, hpl]
        rw [if_neg (by simp; omega)]
        exact h1
      · cases h

theorem evParts_sound (hr : REL C base e a w g) {ty : Nat → Option TypeId} : ∀ (l : List (Nat × Operand)) (ps : List (Nat × PV)), evParts C.P e ty l = some ps →
    ps.length = (l.map fun x => (x.1, a.eval x.2)).length ∧ ∀ (i : Nat) p v, ps[i]? = some p → (l.map fun x => (x.1, a.eval x.2))[i]? = some v → p.1 = v.1 ∧ VR w g p.2 v.2
  | [], ps, h => by cases h; simp
  | (i, x) :: r, ps, h => by
    simp only [evParts] at h
    split at h
    · rename_i t qs ht hq
      split at h
      · rename_i p hp
        cases h
        have h1 := ev_sound hr hp
        have h2 := evParts_sound hr r qs hq
        refine ⟨by simp [h2.1], ?_⟩
        intro k p' u hp' hu
        cases k with
        | zero => simp at hp' hu; subst hp'; subst hu; exact ⟨rfl, h1⟩
        | succ k => simp at hp' hu; exact h2.2 k p' u hp' (by simpa using hu)
      · cases h
    · cases h

theorem g_build (hr : REL C base e a w g) {o : Oper} {ty : TypeId} {ps : Array (Nat × Operand)} {e' : En} (ho : o.op = .build ty ps) (h : stepO C o e = some e') : Gives C o e e' a w g := by
  simp only [stepO, ho] at h
  have key : ∀ (place : Nat → Option (Nat × Nat)) (tyf : Nat → Option TypeId) (z : PV) (qs : List (Nat × PV)) (zc : Value), evParts C.P e tyf ps.toList = some qs → VRL w g z.cells zc.cells.toList →
      (∀ cells, Instr.fill place zc.cells (ps.toList.map fun x => (x.1, a.eval x.2)) = some cells → C.P.built ty (ps.map fun x => (x.1, a.eval x.2)).toList = some cells) →
      putv o e ((fillP place z.cells qs).map .agg) = some e' → Gives C o e e' a w g := by
    intro place tyf z qs zc hq hz hb h
    obtain ⟨h1, h2⟩ := evParts_sound hr _ _ hq
    cases hf : fillP place z.cells qs with
    | none => rw [hf] at h; cases h
    | some r =>
      obtain ⟨rs, h3, h4, _⟩ := fill_sound qs _ _ _ _ h1 h2 hz hf
      have hbb := hb rs h3
      refine gives_putv h (v := .agg rs) ?_ (fun p hp => ?_)
      · have := run_build (P := C.P) w ty (ps.map fun x => (x.1, a.eval x.2)) rs hbb
        simp only [execOp, ho, Sem.run_bind, this, Result.andThen_ok, Sem.run_pure]
      · rw [hf] at hp; cases hp
        have := VR.agg (w := w) (g := g) r rs.toList h4.1 h4.2
        simpa using this
  split at h
  · rename_i fs _ _ z _ hT
    split at h
    · rename_i qs hq
      obtain ⟨d, i, hi⟩ := tyOf_is hT
      obtain ⟨zv, hz1, hz2, hz3, _, hz5⟩ := hi.zero z rfl
      obtain ⟨Fs, hF, hfs⟩ := td_struct hT rfl
      have hvz := (vrc_sound (w := w) (g := g) z zv hz2).cells
      refine key _ _ z qs zv hq hvz ?_ h
      intro cells hc
      unfold Program.built
      rw [hi.info, hF]
      simp only [hz1]
      have hpl : Fs.toList.mapM (fun f => (C.P.info? f.type).map fun i => (f.offset, i.size)) = some (Fs.toList.map fun f => (f.offset, cellsK C.P f.type)) := by
        have hall : ∀ f ∈ Fs.toList, (C.P.underlying f.type).isSome = true := by
          unfold partsK at hz5
          rw [hF] at hz5
          exact List.all_eq_true.1 hz5
        generalize Fs.toList = l at hall
        induction l with
        | nil => rfl
        | cons f l ih =>
          have hf := hall f (by simp)
          rw [List.mapM_cons, ih (fun f hf => hall f (by simp [hf]))]
          cases hinf : C.P.info? f.type with
          | none => simp [Program.underlying, hinf] at hf
          | some inf =>
            have : cellsK C.P f.type = inf.size := by simp [cellsK, hf, Program.cellsOf, hinf]
            simp [this]
      rw [hpl]
      simp only
      have hpe : (fun x : Nat => ((Fs.toList.map fun f => (f.offset, cellsK C.P f.type)).toArray)[x]?) = fun i => (fs[i]?).map fun f => (f.2.1, f.2.2.1) := by
        funext k
        rw [hfs]
        simp
        rfl
      rw [hpe]
      simpa using hc
    · cases h
  · rename_i n el z' ag _ _ z _ hT
    split at h
    · rename_i qs hq
      obtain ⟨d, i, hi⟩ := tyOf_is hT
      obtain ⟨zv, hz1, hz2, hz3, _, hz5⟩ := hi.zero z rfl
      obtain ⟨hF, hfs, _⟩ := td_arr hT rfl
      have hvz := (vrc_sound (w := w) (g := g) z zv hz2).cells
      refine key _ _ z qs zv hq hvz ?_ h
      intro cells hc
      unfold Program.built
      rw [hi.info, hF]
      unfold partsK at hz5
      rw [hF] at hz5
      simp only at hz5
      cases hinf : C.P.info? el with
      | none => simp [Program.underlying, hinf] at hz5
      | some inf =>
        have : cellsK C.P el = inf.size := by simp [cellsK, hz5, Program.cellsOf, hinf]
        simp only [hz1]
        rw [hfs] at this
        rw [this] at hc
        simp only [hinf]
        simpa using hc
    · cases h
  · cases h

theorem flat_ones : ∀ (l : List PV), (∀ p ∈ l, p.cells = [p]) → flat l = l
  | [], _ => rfl
  | p :: l, h => by
    have := flat_ones l (fun q hq => h q (by simp [hq]))
    simp only [flat, List.flatMap_cons] at *
    rw [this, h p (by simp)]
    rfl

theorem unbytes_map : ∀ (l : List PV) (s : List UInt8), unbytes l = some s → ∃ ns : List Int, l = ns.map (PV.int .u8) ∧ s = ns.map fun n => UInt8.ofNat n.toNat
  | [], s, h => by cases h; exact ⟨[], rfl, rfl⟩
  | p :: l, s, h => by
    simp only [unbytes] at h
    split at h
    · rename_i b t hb ht
      cases h
      obtain ⟨ns, rfl, rfl⟩ := unbytes_map l t ht
      unfold unbyte at hb
      split at hb
      · rename_i n
        cases hb
        exact ⟨n :: ns, rfl, rfl⟩
      · cases hb
    · cases h

theorem foldl_push (ns : List Int) : ∀ (s : ByteArray), (ns.foldl (fun r n => r.push (UInt8.ofNat n.toNat)) s).data.toList = s.data.toList ++ ns.map fun n => UInt8.ofNat n.toNat := by
  induction ns with
  | nil => intro s; simp
  | cons n ns ih => intro s; rw [List.foldl_cons, ih]; simp [ByteArray.push]

/-- A conversion that makes no memory. -/
theorem g_convert (hr : REL C base e a w g) {o : Oper} {s d : TypeId} {x : Operand} {e' : En} (ho : o.op = .convert s d x) (h : stepO C o e = some e')
    (hn : ∀ z, ∀ el bs ag, (∃ T, tyOf C.P d = some T ∧ T.desc = .slice el z ag bs) → False) : Gives C o e e' a w g := by
  simp only [stepO, ho] at h
  split at h
  · rename_i p hp
    have hv := ev_sound hr hp
    have hex : ∀ v, (convert s d (a.eval x)).run C.P w = .ok v w → (execOp a.eval o).run C.P w = .ok (.value v) w := by
      intro v hv
      simp only [execOp, ho, Sem.run_bind, hv, Result.andThen_ok, Sem.run_pure]
    unfold convP at h
    split at h
    · rename_i hs hd
      have := vr_int hv
      refine gives_putv h (hex (.int _ _) ?_) (fun p' hp' => by cases hp'; exact .int _ _)
      rw [this]
      simp only [convert, Sem.run_bind, run_under (td_int hs rfl), run_under (td_int hd rfl), Result.andThen_ok, Conv.intToInt, Sem.run_pure]
    · rename_i hs hd
      have := vr_str hv
      refine gives_putv h (hex (.string _) ?_) (fun p' hp' => by cases hp'; exact .str _)
      rw [this]
      simp only [convert, Sem.run_bind, run_under (td_str hs rfl), run_under (td_str hd rfl), Result.andThen_ok, Sem.run_pure]
    · rename_i hs hd
      exact (hn _ _ _ _ ⟨_, hd, rfl⟩).elim
    · rename_i el _ _ _ _ _ _ _ _ _ _ _ z l hs hd
      split at h
      · rename_i he
        cases hu : unbytes l with
        | none => rw [hu] at h; cases h
        | some bs =>
          obtain ⟨ns, rfl, rfl⟩ := unbytes_map l bs hu
          have hv' := hv
          generalize hq : a.eval x = q at hv
          cases hv with
          | slice _ _ ad c hc hnn hz h1 f hm hrr =>
            obtain ⟨hut, _⟩ := td_slice hs rfl
            refine gives_putv h (hex (.string ⟨(ns.map fun n => UInt8.ofNat n.toNat).toArray⟩) ?_) (fun p' hp' => by rw [hu] at hp'; cases hp'; exact .str _)
            rw [hq, run_convert_bytes_string w s d el ad _ c hut (td_int he rfl) (td_str hd rfl)]
            cases ad with
            | none =>
              have h0 := hnn rfl
              have : ns = [] := by
                have : (ns.map (PV.int .u8)).length = 0 := by omega
                simpa using this
              subst this
              rfl
            | some ad =>
              obtain ⟨hsp, hmm⟩ := hm ad rfl
              obtain ⟨b, off, sp⟩ := ad
              simp only at hsp hmm
              subst hsp
              have hz1 : ns ≠ [] → z = 1 := by
                intro hne
                cases ns with
                | nil => exact absurd rfl hne
                | cons n ns => have := hz (.int .u8 n) (by simp); simpa [PV.cells] using this.symm
              have hl : (loadCells ⟨b, off, none⟩ (ns.map (PV.int .u8)).length).run C.P w = .ok (ns.map (Value.int .u8)).toArray w := by
                have := run_loadCells_list (P := C.P) w ⟨b, off, none⟩ (ns.map (Value.int .u8)) (fun j v hv => by
                  rw [add_none]
                  have hj : j < ns.length := by have := (List.getElem?_eq_some_iff.1 hv).1; simpa using this
                  have hne : ns ≠ [] := by intro h0; subst h0; simp at hj
                  have hzz := hz1 hne
                  subst hzz
                  have hm' := (hmm j (by simpa using hj)).1
                  rw [hm']
                  have hf : (flat (ns.map (PV.int .u8)))[j]? = some (.int .u8 ns[j]) := by
                    have : flat (ns.map (PV.int .u8)) = ns.map (PV.int .u8) := flat_ones _ (fun p hp => by obtain ⟨n, _, rfl⟩ := List.mem_map.1 hp; rfl)
                    rw [this]; simp [hj]
                  have := vr_int (hrr j _ hf)
                  rw [this]
                  simp [hj] at hv
                  rw [hv])
                simpa using this
              rw [run_bytesToString w ⟨b, off, none⟩ _ c ns hl]
              congr 2
              apply ByteArray.ext
              apply Array.toList_inj.1
              rw [foldl_push]
              simp
      · cases h
    · rename_i hs hd
      have := vr_int hv
      refine gives_putv h (hex (.string (Utf8.encode _)) ?_) (fun p' hp' => by cases hp'; exact .str _)
      rw [this]
      simp only [convert, Sem.run_bind, run_under (td_int hs rfl), run_under (td_str hd rfl), Result.andThen_ok, Sem.run_pure, Conv.intToString]
    · cases h
  · cases h

end
end Go.Proofs.Ytielbjjdgdblcaa.Vm

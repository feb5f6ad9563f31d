/- From a `Run` to a row: an argument as a pure value, and what stands behind the call. -/
import Derived.Test.YtielbjjdgdblcaaVm26
import Derived.ProofKit
import Derived.SizedLaws
import Derived.OpenShut
import Derived.Deep.Strs
namespace Go.Proofs.Ytielbjjdgdblcaa.Vm
open Go Go.WideShapes Go.ChangeShapes Go.RowKit

/-- What is known of memory when a row's call begins: no cell that is there is written. -/
def gh (w : World) : Gh := ⟨fun b => match w.heap[b]? with | some (.cells cs _ _) => cs.size | _ => 0, []⟩

theorem gh_good (w : World) : Good w (gh w) [] := by
  refine ⟨fun b hb => ?_, rfl, fun i j b h => by simp [gh] at h, fun i b ob h => by simp [gh] at h⟩
  simp only [gh]
  rw [Array.getElem?_eq_none hb]

theorem gh_cell {w : World} {b o : Nat} {v : Value} (h : w.cell? ⟨b, o, none⟩ = some v) : o < (gh w).D b := by
  simp only [World.cell?] at h
  simp only [gh]
  split at h
  · rename_i cs e fz hb
    rw [hb]
    simp only [Option.isSome_none, Bool.false_eq_true, if_false] at h
    exact (Array.getElem?_eq_some_iff.1 h).1
  · cases h

theorem law_calls {P : Program} {fr : FuncId → List (Nat × Nat)} {f : FuncId} {ps : List PV} {H' : List HObj} (hr : Run P fr f ps [] (.bool true) H') (W : World) (vs : List Value) (hv : VRL W (gh W) ps vs) :
    Calls P f vs.toArray W fun e W' => e = .returned (.bool true) ∧ Below W.heap.size W W' := by
  refine (hr.2 W (gh W) vs (gh_good W) hv).mono ?_
  rintro e W' ⟨v, g', rfl, h1, h2, h3, h4⟩
  cases h1
  exact ⟨rfl, h3.os, h3.tape, h3.output, h3.size, fun b hb => h3.block b hb (by simp [gh])⟩

section
variable {H : Type} {enc : TypeId × Value → H} {P : Program} {W W' : World}

theorem trodAll_below (hl : laidOutB P = true) (hb : Below W.heap.size W W') : ∀ {ts : List TypeId} {vs : List Value} {ds : List (DataW H)} {p : List MemPlace}, (∀ t ∈ ts, P.readableRec t = true ∧ t < P.types.size) → (∀ x ∈ p, x.block < W.heap.size) →
    DataW.TrodAll enc P W 0 (fun _ => true) true ts vs ds p → DataW.TrodAll enc P W' 0 (fun b => decide (b < W.heap.size)) true ts vs ds p
  | [], _, _, _, _, _, h => by
    obtain ⟨rfl, rfl, rfl⟩ := trodAll_nil h
    exact rfl
  | t :: _, _, _, _, ht, hp, h => by
    obtain ⟨v, vs1, d, ds1, a, b, rfl, rfl, rfl, h1, h2⟩ := trodAll_cons h
    exact ⟨a, b, Below.trod hl (ht t (by simp)).1 (ht t (by simp)).2 h1 hb (fun x hx => hp x (by simp [hx])), trodAll_below hl hb (fun t' h' => ht t' (by simp [h'])) (fun x hx => hp x (by simp [hx])) h2, rfl⟩

theorem law_post {f : Func} {s : ChangeSpec} {apart fresh handsOn : Bool} {args : Array Value} {ds gs : List (DataW H)} {before : List MemPlace} {bt : TypeId} (hl : laidOutB P = true)
    (hW : DataW.Whole enc P f.params.toList s.vars apart W args.toList ds gs before) (hvars : s.vars = []) (hres : f.resultTypes = #[bt]) (hbt : P.underlying bt = some .bool) (hs : s.fn H ds = { results := [.lit (.bool true)], args := ds })
    (hts : ∀ t ∈ f.params.toList, P.readableRec t = true ∧ t < P.types.size) (hb : Below W.heap.size W W') : s.post enc P f apart fresh handsOn false W args (.bool true) W' := by
  have hlt : ∀ x ∈ before, x.block < W.heap.size := fun x hx => hW.lt x hx
  have hW' := hW
  obtain ⟨p, q, hA, hV, rfl, hfz, hnd⟩ := hW
  rw [hvars] at hV
  obtain ⟨rfl, rfl⟩ := trodVars_none hV
  refine ⟨ds, [], p ++ [], [], p, [], hW', ?_, ?_, ?_, hb.frame _, fun h => by cases h⟩
  · rw [List.append_nil, hs, hres]
    exact trodAll_mk1 ⟨1, by simp [DataW.trod, Value.cells, hbt]⟩
  · rw [List.append_nil, hs]
    exact trodAll_below hl hb hts (fun x hx => hlt x (by simp [hx])) hA
  · rw [List.append_nil, hs, hvars]
    exact rfl

theorem vr_text {g : Gh} (s : ByteArray) : VR W g (.str s.data.toList) (.string s) := by
  have := VR.str (w := W) (g := g) s.data.toList
  simpa using this

theorem flat_ints {k : IntKind} (zs : List Int) : flat (zs.map (PV.int k)) = zs.map (PV.int k) := by
  induction zs with
  | nil => rfl
  | cons z r ih => simp only [flat, List.map_cons, List.flatMap_cons, PV.cells] at *; rw [ih]; rfl

/-- A slice of numbers that came in. -/
theorem vr_ints {t e : TypeId} {k : IntKind} {v : Value} {d : DataW H} {p : List MemPlace} {r : Reach} {b0 : Nat} (ht : P.underlying t = some (.slice e)) (he : P.underlying e = some (.int k)) (hc : P.cellsOf e = 1)
    (hval : Value.okWide P W r b0 t v) (h : DataW.Trod enc P W 0 (fun _ => true) true t v d p) :
    ∃ zs : List Int, VR W (gh W) (.slice 1 (zs.map (PV.int k))) v ∧ (∀ n ∈ zs, (Lit.int k n).wf = true) ∧ zs.length ≤ maxLen := by
  have hval' := hval
  obtain ⟨a, len, cap, rfl⟩ := okWide_slice ht hval
  obtain ⟨fuel, hf⟩ := h
  rcases open_ints ht he hc hf with ⟨hcs, _⟩ | ⟨x, l, c, zs, hcs, _, hl, hm, hz, _, hcell, hwz⟩
  · simp [Value.cells] at hcs
    obtain ⟨rfl, rfl, rfl⟩ := hcs
    refine ⟨[], ?_, by simp, by simp⟩
    exact VR.slice 1 [] none 0 (by simp) (fun _ => rfl) (by simp) (by simp [flat]) (fun _ => .int .i64 0) (by simp) (by simp [flat])
  · simp [Value.cells] at hcs
    obtain ⟨rfl, rfl, rfl⟩ := hcs
    simp only [if_true] at hz
    have hsp : x.spot = none := by
      simp only [Value.okWide, ht, Cell.okWide, Cell.ok, World.has] at hval'
      exact hval'.2.2.2.1
    refine ⟨zs.take len, ?_, fun n hn => hwz n (List.mem_of_mem_take hn), by simp; omega⟩
    obtain ⟨xb, xo, xs⟩ := x
    cases hsp
    have hlen : ((zs.take len).map (PV.int k)).length = len := by simp; omega
    have hcell' : ∀ i, i < zs.length → W.cell? ⟨xb, xo + i, none⟩ = some (.int k (zs.getD i 0)) := fun i hi => by rw [← add_plain]; exact hcell i hi
    have key := VR.slice (w := W) (g := gh W) 1 ((zs.take len).map (PV.int k)) (some ⟨xb, xo, none⟩) cap (by rw [hlen]; exact hl) (by simp) (by intro e he; simp only [List.mem_map] at he; obtain ⟨_, _, rfl⟩ := he; rfl)
      (by rw [flat_ints]; intro p hp; simp only [List.mem_map] at hp; obtain ⟨_, _, rfl⟩ := hp; rfl) (fun i => .int k (zs.getD i 0))
      (by
        intro ad had
        cases had
        refine ⟨rfl, fun i hi => ?_⟩
        rw [hlen, Nat.mul_one] at hi
        have hi' : i < zs.length := by omega
        exact ⟨hcell' i hi', gh_cell (hcell' i hi')⟩)
      (by
        intro i p hp
        rw [flat_ints, List.getElem?_map, List.getElem?_take] at hp
        split at hp
        · cases hz' : zs[i]? with
          | none => rw [hz'] at hp; simp at hp
          | some z =>
            rw [hz'] at hp
            simp at hp
            subst hp
            rw [List.getD, hz']
            exact .int k z
        · simp at hp)
    rw [hlen] at key
    exact key

end
end Go.Proofs.Ytielbjjdgdblcaa.Vm

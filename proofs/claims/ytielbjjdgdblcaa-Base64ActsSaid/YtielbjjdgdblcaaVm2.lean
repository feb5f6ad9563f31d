/- When does memory hold what a pure state says: the relation, and what keeps it. -/
import Derived.Test.YtielbjjdgdblcaaVm1
namespace Go.Proofs.Ytielbjjdgdblcaa.Vm
open Go

/-- Ghosts: up to which cell each block is never written again; the block of each object. -/
structure Gh where
  D : Nat → Nat
  io : List Nat

inductive VR (w : World) (g : Gh) : PV → Value → Prop where
  | int (k : IntKind) (n : Int) : VR w g (.int k n) (.int k n)
  | bool (b : Bool) : VR w g (.bool b) (.bool b)
  | str (s : List UInt8) : VR w g (.str s) (.string ⟨s.toArray⟩)
  | agg (cs : List PV) (vs : List Value) (hl : cs.length = vs.length) (h : ∀ (i : Nat) p v, cs[i]? = some p → vs[i]? = some v → VR w g p v) : VR w g (.agg cs) (.agg vs.toArray)
  | tup (cs : List PV) (vs : List Value) (hl : cs.length = vs.length) (h : ∀ (i : Nat) p v, cs[i]? = some p → vs[i]? = some v → VR w g p v) : VR w g (.tup cs) (.tuple vs.toArray)
  | slice (z : Nat) (l : List PV) (a : Option Addr) (c : Nat) (hc : l.length ≤ c) (hn : a = none → c = 0) (hz : ∀ e ∈ l, e.cells.length = z)
      (h1 : ∀ p ∈ flat l, p.one = true)
      (f : Nat → Value) (hm : ∀ ad, a = some ad → ad.spot = none ∧ ∀ k, k < l.length * z → w.cell? ⟨ad.block, ad.off + k, none⟩ = some (f k) ∧ ad.off + k < g.D ad.block)
      (hr : ∀ (k : Nat) p, (flat l)[k]? = some p → VR w g p (f k)) : VR w g (.slice z l) (.slice a l.length c)
  | nilptr : VR w g (.ptr none) (.pointer none)
  | ptr (id off b : Nat) (h : g.io[id]? = some b) : VR w g (.ptr (some (id, off))) (.pointer (some ⟨b, off, none⟩))
  | os (id off n b c : Nat) (h : g.io[id]? = some b) (hc : n ≤ c) : VR w g (.os id off n) (.slice (some ⟨b, off, none⟩) n c)
  | func (f : FuncId) (fs cs : List PV) (vf vc : List Value) (hlf : fs.length = vf.length) (hlc : cs.length = vc.length)
      (hf : ∀ (i : Nat) p v, fs[i]? = some p → vf[i]? = some v → VR w g p v) (hc : ∀ (i : Nat) p v, cs[i]? = some p → vc[i]? = some v → VR w g p v) : VR w g (.func f fs cs) (.func (.func f) vf.toArray vc.toArray)
  | nilfunc : VR w g .nilfunc .nilFunc
  | opq (v : Value) (h : v.oneCell' = true) : VR w g .opq v

def VRL (w : World) (g : Gh) (cs : List PV) (vs : List Value) : Prop := cs.length = vs.length ∧ ∀ (i : Nat) p v, cs[i]? = some p → vs[i]? = some v → VR w g p v

theorem VR.one {w : World} {g : Gh} {p : PV} {v : Value} (h : VR w g p v) (hp : p.one = true) : v.oneCell' = true := by
  cases h <;> simp_all [PV.one, Value.oneCell']

theorem VR.cells {w : World} {g : Gh} {p : PV} {v : Value} (h : VR w g p v) : VRL w g p.cells v.cells.toList := by
  have one : ∀ p v, VR w g p v → p.cells = [p] → v.cells = #[v] → VRL w g p.cells v.cells.toList := by
    intro p v h e1 e2
    rw [e1, e2]
    refine ⟨rfl, ?_⟩
    intro i q u hq hu
    cases i with
    | zero => simp at hq hu; subst hq; subst hu; exact h
    | succ i => simp at hq
  cases h with
  | agg cs vs hl h => exact ⟨by simpa [PV.cells, Value.cells] using hl, by simpa [PV.cells, Value.cells] using h⟩
  | opq v hv => refine one _ _ (.opq v hv) rfl ?_; cases v <;> simp_all [Value.cells, Value.oneCell']
  | int k n => exact one _ _ (.int k n) rfl rfl
  | bool b => exact one _ _ (.bool b) rfl rfl
  | str s => exact one _ _ (.str s) rfl rfl
  | tup cs vs hl h => exact one _ _ (.tup cs vs hl h) rfl rfl
  | slice z l a c hc hn hz h1 f hm hr => exact one _ _ (.slice z l a c hc hn hz h1 f hm hr) rfl rfl
  | nilptr => exact one _ _ .nilptr rfl rfl
  | ptr id off b h => exact one _ _ (.ptr id off b h) rfl rfl
  | os id off n b c h hc => exact one _ _ (.os id off n b c h hc) rfl rfl
  | func f fs cs vf vc a b c d => exact one _ _ (.func f fs cs vf vc a b c d) rfl rfl
  | nilfunc => exact one _ _ .nilfunc rfl rfl

/-- What a step keeps of what was known. -/
structure Keep (w : World) (g : Gh) (w' : World) (g' : Gh) : Prop where
  cell : ∀ b o, o < g.D b → w'.cell? ⟨b, o, none⟩ = w.cell? ⟨b, o, none⟩
  D : ∀ b, g.D b ≤ g'.D b
  io : ∀ (i b : Nat), g.io[i]? = some b → g'.io[i]? = some b

theorem Keep.refl (w : World) (g : Gh) : Keep w g w g := ⟨fun _ _ _ => rfl, fun _ => Nat.le_refl _, fun _ _ h => h⟩
theorem Keep.trans {w w' w'' : World} {g g' g'' : Gh} (h : Keep w g w' g') (k : Keep w' g' w'' g'') : Keep w g w'' g'' :=
  ⟨fun b o ho => (k.cell b o (Nat.lt_of_lt_of_le ho (h.D b))).trans (h.cell b o ho), fun b => Nat.le_trans (h.D b) (k.D b), fun i b hi => k.io i b (h.io i b hi)⟩

theorem VR.keep {w w' : World} {g g' : Gh} (k : Keep w g w' g') {p : PV} {v : Value} (h : VR w g p v) : VR w' g' p v := by
  induction h with
  | int k n => exact .int k n
  | bool b => exact .bool b
  | str s => exact .str s
  | agg cs vs hl h ih => exact .agg cs vs hl ih
  | tup cs vs hl h ih => exact .tup cs vs hl ih
  | slice z l a c hc hn hz h1 f hm hr ih =>
    refine .slice z l a c hc hn hz h1 f ?_ ih
    intro ad ha
    obtain ⟨hs, hm⟩ := hm ad ha
    exact ⟨hs, fun i hi => ⟨by rw [k.cell _ _ (hm i hi).2]; exact (hm i hi).1, Nat.lt_of_lt_of_le (hm i hi).2 (k.D _)⟩⟩
  | nilptr => exact .nilptr
  | ptr id off b h => exact .ptr id off b (k.io _ _ h)
  | os id off n b c h hc => exact .os id off n b c (k.io _ _ h) hc
  | func f fs cs vf vc hlf hlc hf hc ihf ihc => exact .func f fs cs vf vc hlf hlc ihf ihc
  | nilfunc => exact .nilfunc
  | opq v h => exact .opq v h

/-- Cells at the head of a row. -/
def VRP (w : World) (g : Gh) (cs : List PV) (vs : List Value) : Prop := cs.length ≤ vs.length ∧ ∀ (i : Nat) p v, cs[i]? = some p → vs[i]? = some v → VR w g p v
theorem VRL.pre {w : World} {g : Gh} {cs : List PV} {vs : List Value} (h : VRL w g cs vs) : VRP w g cs vs := ⟨Nat.le_of_eq h.1, h.2⟩

/-- A block's row begins with these cells, none of them shared with a string. -/
def RowIs (w : World) (g : Gh) (b : Nat) (cells : List PV) : Prop :=
  (∀ p ∈ cells, p.one = true) ∧ ∃ cs e fz, w.heap[b]? = some (.cells cs e fz) ∧ (cs.size ≤ fz.1 ∨ fz.2 ≤ fz.1) ∧ VRP w g cells cs.toList

theorem RowIs.keep {w w' : World} {g g' : Gh} {b : Nat} {cells : List PV} (k : Keep w g w' g') (hb : w'.heap[b]? = w.heap[b]?) (h : RowIs w g b cells) : RowIs w' g' b cells := by
  obtain ⟨h1, cs, e, fz, hh, hf, hl, hr⟩ := h
  exact ⟨h1, cs, e, fz, hb.trans hh, hf, hl, fun i p v hp hv => (hr i p v hp hv).keep k⟩

/-- Memory and objects. -/
structure Good (w : World) (g : Gh) (H : List HObj) : Prop where
  fresh : ∀ b, w.heap.size ≤ b → g.D b = 0
  len : g.io.length = H.length
  nodup : ∀ (i j b : Nat), g.io[i]? = some b → g.io[j]? = some b → i = j
  obj : ∀ (i b : Nat) ob, g.io[i]? = some b → H[i]? = some ob → (ob.cells ≠ [] → g.D b = 0) ∧ RowIs w g b ob.cells

/-- A slice that may be appended to: full, or in a block of the call's own with nothing known behind its end. -/
def Appv (w : World) (g : Gh) (base : Nat) (z : Nat) : Value → Prop
  | .slice (some ad) n c => n = c ∨ (base ≤ ad.block ∧ ad.block ∉ g.io ∧ ad.spot = none ∧ g.D ad.block ≤ ad.off + n * z ∧
      ∃ cs e fz, w.heap[ad.block]? = some (.cells cs e fz) ∧ ad.off + c * z ≤ cs.size ∧ ∀ o, ad.off + n * z ≤ o → o < ad.off + c * z → ¬(fz.1 ≤ o ∧ o < fz.2))
  | _ => True

def ownb : Value → Option Nat
  | .slice (some ad) n c => if n = c then none else some ad.block
  | _ => none

/-- What a call has done to the memory that it found. -/
structure Ext (w : World) (g : Gh) (w' : World) (g' : Gh) : Prop where
  os : w'.os = w.os
  tape : w'.tape = w.tape
  output : w'.output = w.output
  size : w.heap.size ≤ w'.heap.size
  block : ∀ b, b < w.heap.size → b ∉ g.io ∨ 0 < g.D b → w'.heap[b]? = w.heap[b]?
  D : ∀ b, b < w.heap.size → b ∉ g.io → g'.D b = g.D b
  Dle : ∀ b, b < w.heap.size → g.D b ≤ g'.D b
  io : ∃ n, g'.io = g.io ++ n ∧ ∀ b ∈ n, w.heap.size ≤ b

theorem Ext.refl (w : World) (g : Gh) : Ext w g w g := ⟨rfl, rfl, rfl, Nat.le_refl _, fun _ _ _ => rfl, fun _ _ _ => rfl, fun _ _ => Nat.le_refl _, [], by simp, by simp⟩

theorem cell?_congr {w w' : World} {b o : Nat} (h : w'.heap[b]? = w.heap[b]?) : w'.cell? ⟨b, o, none⟩ = w.cell? ⟨b, o, none⟩ := by
  simp [World.cell?, h]

theorem D_lt {w : World} {g : Gh} {H : List HObj} (hg : Good w g H) {b o : Nat} (h : o < g.D b) : b < w.heap.size := by
  rcases Nat.lt_or_ge b w.heap.size with h' | h'
  · exact h'
  · have := hg.fresh b h'; omega

theorem Ext.keep {w w' : World} {g g' : Gh} {H : List HObj} (hg : Good w g H) (h : Ext w g w' g') : Keep w g w' g' := by
  refine ⟨fun b o ho => cell?_congr (h.block b (D_lt hg ho) (.inr (by omega))), fun b => ?_, fun i b hi => ?_⟩
  · rcases Nat.lt_or_ge b w.heap.size with h' | h'
    · exact h.Dle b h'
    · rw [hg.fresh b h']; exact Nat.zero_le _
  · obtain ⟨n, hn, _⟩ := h.io
    rw [hn, List.getElem?_append_left]
    · exact hi
    · exact (List.getElem?_eq_some_iff.1 hi).1

theorem Ext.trans {w w' w'' : World} {g g' g'' : Gh} (h : Ext w g w' g') (k : Ext w' g' w'' g'') : Ext w g w'' g'' := by
  obtain ⟨n, hn, hn'⟩ := h.io
  obtain ⟨m, hm, hm'⟩ := k.io
  have hio : ∀ b, b < w.heap.size → b ∉ g.io → b ∉ g'.io := by
    intro b hb hi
    rw [hn]; intro hx
    rcases List.mem_append.1 hx with hx | hx
    · exact hi hx
    · have := hn' b hx; omega
  refine ⟨k.os.trans h.os, k.tape.trans h.tape, k.output.trans h.output, Nat.le_trans h.size k.size, ?_, fun b hb hi => (k.D b (Nat.lt_of_lt_of_le hb h.size) (hio b hb hi)).trans (h.D b hb hi), fun b hb => Nat.le_trans (h.Dle b hb) (k.Dle b (Nat.lt_of_lt_of_le hb h.size)), n ++ m, by rw [hm, hn, List.append_assoc], ?_⟩
  · intro b hb hi
    rw [k.block b (Nat.lt_of_lt_of_le hb h.size) ?_, h.block b hb hi]
    rcases hi with hi | hi
    · exact .inl (hio b hb hi)
    · exact .inr (Nat.lt_of_lt_of_le hi (h.Dle b hb))
  · intro b hb
    rcases List.mem_append.1 hb with hb | hb
    · exact hn' b hb
    · exact Nat.le_trans h.size (hm' b hb)

end Go.Proofs.Ytielbjjdgdblcaa.Vm

/- Types: what the compact descriptions say of the program's own tables. -/
import Derived.Test.YtielbjjdgdblcaaVm2
namespace Go.Proofs.Ytielbjjdgdblcaa.Vm
open Go

variable {P : Program} {t : TypeId} {w : World}

theorem run_under {d : TypeDesc} (h : P.underlying t = some d) : (underlying t).run P w = .ok d w := run_underlying h w

theorem run_tinfo {i : TypeInfo} (h : P.info? t = some i) : (typeInfo t).run P w = .ok i w := by
  simp [typeInfo, h]

theorem run_size {i : TypeInfo} (h : P.info? t = some i) : (sizeOf t).run P w = .ok i.size w := by
  simp [sizeOf, run_tinfo h]

theorem run_zero {i : TypeInfo} {z : Value} (h : P.info? t = some i) (hz : i.zero = some z) : (zeroValue t).run P w = .ok z w := by
  simp [zeroValue, run_tinfo h, hz]

theorem run_isAgg {d : TypeDesc} (h : P.underlying t = some d) : (isAgg t).run P w = .ok (aggOf P t) w := by
  unfold isAgg aggOf
  rw [Sem.run_bind, run_under h, h]
  cases d <;> rfl

/-- What a description says. -/
structure TyIs (P : Program) (t : TypeId) (T : Ty) (d : TypeDesc) (i : TypeInfo) : Prop where
  u : P.underlying t = some d
  info : P.info? t = some i
  size : T.size = i.size
  agg : T.agg = aggOf P t
  zero : ∀ p, T.zero = some p → ∃ z, i.zero = some z ∧ vrc p z = true ∧ z.cells.size = i.size ∧ p.cells.length = i.size ∧ partsK P t = true

theorem tyOf_is {T : Ty} (h : tyOf P t = some T) : ∃ d i, TyIs P t T d i := by
  unfold tyOf at h
  split at h
  · rename_i d i hu hi
    simp only [Option.some.injEq] at h
    subst h
    refine ⟨d, i, hu, hi, rfl, rfl, ?_⟩
    intro p hp
    dsimp only at hp
    unfold zeroOf at hp
    split at hp
    · rename_i z q hz hq
      split at hp
      · rename_i hc
        simp only [Option.some.injEq] at hp
        subst hp
        simp only [Bool.and_eq_true, beq_iff_eq] at hc
        exact ⟨z, hz, hc.1.1.1, hc.1.1.2, hc.1.2, hc.2⟩
      · cases hp
    · cases hp
  · cases h

theorem tyOf_desc {T : Ty} (h : tyOf P t = some T) {d : TypeDesc} (hd : P.underlying t = some d) : T.desc = descOf P d := by
  unfold tyOf at h
  rw [hd] at h
  split at h
  · rename_i d' i hu hi
    cases hu
    simp only [Option.some.injEq] at h
    subst h
    rfl
  · cases h

theorem descOf_slice' {d : TypeDesc} {T : TD} (h : T = descOf P d) : (∃ e, d = .slice e ∧ ((∃ i, P.info? e = some i ∧ T = .slice e i.size (aggOf P e) i.bytes) ∨ T = .other)) ∨
    ((∀ e, d ≠ .slice e) ∧ T = descOf P d) := by
  cases d with
  | slice e =>
    refine .inl ⟨e, rfl, ?_⟩
    simp only [descOf] at h
    split at h
    · rename_i i hi; exact .inl ⟨i, hi, h⟩
    · exact .inr h
  | _ => exact .inr ⟨by simp, h⟩

theorem td_int {T : Ty} {k : IntKind} (h : tyOf P t = some T) (hd : T.desc = .int k) : P.underlying t = some (.int k) := by
  obtain ⟨d, i, hi⟩ := tyOf_is h
  have := tyOf_desc h hi.u
  rw [hd] at this
  rw [hi.u]
  rcases descOf_slice' this with ⟨e, rfl, ⟨_, _, h'⟩ | h'⟩ | ⟨hn, h'⟩
  · cases h'
  · cases h'
  · cases d <;> simp [descOf] at h'
    · rw [h']
    · exact absurd rfl (hn _)

theorem td_bool {T : Ty} (h : tyOf P t = some T) (hd : T.desc = .bool) : P.underlying t = some .bool := by
  obtain ⟨d, i, hi⟩ := tyOf_is h
  have := tyOf_desc h hi.u
  rw [hd] at this
  rw [hi.u]
  rcases descOf_slice' this with ⟨e, rfl, ⟨_, _, h'⟩ | h'⟩ | ⟨hn, h'⟩
  · cases h'
  · cases h'
  · cases d <;> simp [descOf] at h'
    · rfl
    · exact absurd rfl (hn _)

theorem td_str {T : Ty} (h : tyOf P t = some T) (hd : T.desc = .str) : P.underlying t = some .string := by
  obtain ⟨d, i, hi⟩ := tyOf_is h
  have := tyOf_desc h hi.u
  rw [hd] at this
  rw [hi.u]
  rcases descOf_slice' this with ⟨e, rfl, ⟨_, _, h'⟩ | h'⟩ | ⟨hn, h'⟩
  · cases h'
  · cases h'
  · cases d <;> simp [descOf] at h'
    · rfl
    · exact absurd rfl (hn _)

theorem td_func {T : Ty} (h : tyOf P t = some T) (hd : T.desc = .func) : ∃ a b c, P.underlying t = some (.func a b c) := by
  obtain ⟨d, i, hi⟩ := tyOf_is h
  have := tyOf_desc h hi.u
  rw [hd] at this
  rw [hi.u]
  rcases descOf_slice' this with ⟨e, rfl, ⟨_, _, h'⟩ | h'⟩ | ⟨hn, h'⟩
  · cases h'
  · cases h'
  · cases d <;> simp [descOf] at h'
    · exact absurd rfl (hn _)
    · exact ⟨_, _, _, rfl⟩

theorem td_ptr {T : Ty} {e : Nat} (h : tyOf P t = some T) (hd : T.desc = .ptr e) : P.underlying t = some (.pointer e) := by
  obtain ⟨d, i, hi⟩ := tyOf_is h
  have := tyOf_desc h hi.u
  rw [hd] at this
  rw [hi.u]
  rcases descOf_slice' this with ⟨e, rfl, ⟨_, _, h'⟩ | h'⟩ | ⟨hn, h'⟩
  · cases h'
  · cases h'
  · cases d <;> simp [descOf] at h'
    · rw [h']
    · exact absurd rfl (hn _)

theorem td_slice {T : Ty} {e z bs : Nat} {g : Bool} (h : tyOf P t = some T) (hd : T.desc = .slice e z g bs) :
    P.underlying t = some (.slice e) ∧ ∃ i, P.info? e = some i ∧ i.size = z ∧ i.bytes = bs ∧ aggOf P e = g := by
  obtain ⟨d, i, hi⟩ := tyOf_is h
  have := tyOf_desc h hi.u
  rw [hd] at this
  rw [hi.u]
  rcases descOf_slice' this with ⟨e', rfl, ⟨ei, he, h'⟩ | h'⟩ | ⟨hn, h'⟩
  · simp only [TD.slice.injEq] at h'
    obtain ⟨rfl, rfl, rfl, rfl⟩ := h'
    exact ⟨rfl, ei, he, rfl, rfl, rfl⟩
  · cases h'
  · cases d <;> simp [descOf] at h'
    exact absurd rfl (hn _)

theorem td_arr {T : Ty} {n e z : Nat} {g : Bool} (h : tyOf P t = some T) (hd : T.desc = .arr n e z g) :
    P.underlying t = some (.array n e) ∧ cellsK P e = z ∧ aggOf P e = g := by
  obtain ⟨d, i, hi⟩ := tyOf_is h
  have := tyOf_desc h hi.u
  rw [hd] at this
  rw [hi.u]
  rcases descOf_slice' this with ⟨e', rfl, ⟨ei, he, h'⟩ | h'⟩ | ⟨hn, h'⟩
  · cases h'
  · cases h'
  · cases d <;> simp [descOf] at h'
    · exact absurd rfl (hn _)
    · obtain ⟨rfl, rfl, rfl, rfl⟩ := h'
      exact ⟨rfl, rfl, rfl⟩

theorem td_struct {T : Ty} {l : List (Nat × Nat × Nat × Bool)} (h : tyOf P t = some T) (hd : T.desc = .struct l) :
    ∃ fs : Array Field, P.underlying t = some (.struct fs) ∧ l = fs.toList.map fun f => (f.type, f.offset, cellsK P f.type, aggOf P f.type) := by
  obtain ⟨d, i, hi⟩ := tyOf_is h
  have := tyOf_desc h hi.u
  rw [hd] at this
  rw [hi.u]
  rcases descOf_slice' this with ⟨e', rfl, ⟨ei, he, h'⟩ | h'⟩ | ⟨hn, h'⟩
  · cases h'
  · cases h'
  · cases d <;> simp [descOf] at h'
    · exact absurd rfl (hn _)
    · exact ⟨_, rfl, by simpa using h'⟩

theorem cellsK_pos (h : cellsK P t ≠ 0) : ∃ d i, P.underlying t = some d ∧ P.info? t = some i ∧ cellsK P t = i.size := by
  unfold cellsK at *
  split at h
  · rename_i hs
    cases hi : P.info? t with
    | none => simp [Program.cellsOf, hi] at h
    | some i =>
      obtain ⟨d, hd⟩ := Option.isSome_iff_exists.1 hs
      exact ⟨d, i, hd, rfl, by rw [if_pos hs]; simp [Program.cellsOf, hi]⟩
  · exact absurd rfl h

theorem mkv_known {cs : List PV} {r : PV} {off : Nat} (hm : mkv (aggOf P t) (cellsK P t) ((cs.drop off).take (cellsK P t)) = some r) : ∃ d i, P.underlying t = some d ∧ P.info? t = some i ∧ cellsK P t = i.size := by
  by_cases h : cellsK P t = 0
  · cases hu : P.underlying t with
    | none => simp [mkv, h, aggOf, hu] at hm
    | some d =>
      cases hi : P.info? t with
      | none => simp [Program.underlying, hi] at hu
      | some i => exact ⟨d, i, rfl, rfl, by simp [cellsK, hu, Program.cellsOf, hi]⟩
  · exact cellsK_pos h

theorem run_sizeOf_cells (h : P.cellsOf t ≠ 0) : (sizeOf t).run P w = .ok (P.cellsOf t) w := by
  cases hi : P.info? t with
  | none => simp [Program.cellsOf, hi] at h
  | some i => simp [run_size hi, Program.cellsOf, hi]

/-! ### Zero values -/
mutual
theorem vrc_sound {g : Gh} : ∀ (p : PV) (v : Value), vrc p v = true → VR w g p v
  | .int k n, v, h => by
    cases v <;> simp [vrc] at h
    obtain ⟨rfl, rfl⟩ := h; exact .int _ _
  | .bool b, v, h => by cases v <;> simp [vrc] at h; subst h; exact .bool _
  | .str s, v, h => by
    cases v with
    | string s' => simp only [vrc, beq_iff_eq] at h; subst h; exact .str _
    | _ => simp [vrc] at h
  | .agg cs, v, h => by
    cases v with
    | agg vs =>
      simp only [vrc] at h
      have := vrcs_sound (g := g) cs vs.toList h
      have e := VR.agg (w := w) (g := g) cs vs.toList this.1 this.2
      simpa using e
    | _ => simp [vrc] at h
  | .tup cs, v, h => by cases v <;> simp [vrc] at h
  | .slice z l, v, h => by
    cases l with
    | cons _ _ => cases v <;> simp [vrc] at h
    | nil =>
      cases v with
      | slice a n c =>
        cases a with
        | some _ => simp [vrc] at h
        | none =>
          cases n with
          | succ _ => simp [vrc] at h
          | zero =>
            cases c with
            | succ _ => simp [vrc] at h
            | zero => exact .slice z [] none 0 (by simp) (by simp) (by simp) (by simp [flat]) (fun _ => .nilIface) (by simp) (by simp [flat])
      | _ => simp [vrc] at h
  | .ptr p, v, h => by
    cases p with
    | some _ => cases v <;> simp [vrc] at h
    | none =>
      cases v with
      | pointer a => cases a with
        | none => exact .nilptr
        | some _ => simp [vrc] at h
      | _ => simp [vrc] at h
  | .func _ _ _, v, h => by cases v <;> simp [vrc] at h
  | .nilfunc, v, h => by
    cases v <;> simp [vrc] at h
    exact .nilfunc
  | .opq, v, h => .opq v (by simpa [vrc] using h)
theorem vrcs_sound {g : Gh} : ∀ (ps : List PV) (vs : List Value), vrcs ps vs = true → VRL w g ps vs
  | [], [], _ => ⟨rfl, by simp⟩
  | [], _ :: _, h => by simp [vrcs] at h
  | _ :: _, [], h => by simp [vrcs] at h
  | p :: ps, v :: vs, h => by
    simp only [vrcs, Bool.and_eq_true] at h
    have h1 := vrc_sound (g := g) p v h.1
    have h2 := vrcs_sound (g := g) ps vs h.2
    refine ⟨by simp [h2.1], ?_⟩
    intro i q u hq hu
    cases i with
    | zero => simp at hq hu; subst hq; subst hu; exact h1
    | succ i => simp at hq hu; exact h2.2 i q u hq hu
end

end Go.Proofs.Ytielbjjdgdblcaa.Vm

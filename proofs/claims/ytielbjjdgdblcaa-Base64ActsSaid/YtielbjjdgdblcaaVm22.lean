/- What an operation reads: its operands alone. -/
import Derived.Test.YtielbjjdgdblcaaVm17
namespace Go.Proofs.Ytielbjjdgdblcaa.Vm
open Go

/-- An operation that yields a value and writes no variable. -/
def isVal : Op → Bool
  | .alloc _ | .box _ _ | .store _ _ _ => false
  | _ => true

section
variable {C : Ctx} {t t2 : List (Nat × Cl)} {bx : List (Nat × PV)} {H : List HObj} {F F2 : List (Nat × Nat × Nat)}

def Agr (t t2 : List (Nat × Cl)) (xs : List Operand) : Prop := ∀ s, Operand.tmp s ∈ xs → lkp t2 s = lkp t s

theorem Agr.sub {xs ys : List Operand} (h : Agr t t2 xs) (hs : ∀ x ∈ ys, x ∈ xs) : Agr t t2 ys := fun s hm => h s (hs _ hm)

theorem ev_agr {P : Program} {ty : TypeId} {x : Operand} {xs : List Operand} (h : Agr t t2 xs) (hx : x ∈ xs) : ev P ⟨t2, bx, H, F2⟩ ty x = ev P ⟨t, bx, H, F⟩ ty x := by
  cases x with
  | tmp s => simp only [ev]; rw [h s hx]
  | const v =>
    unfold ev
    split <;> first | rfl | simp_all
  | _ => rfl

theorem evs_agr {P : Program} {xs : List Operand} (h : Agr t t2 xs) : ∀ (l : List (TypeId × Operand)), (∀ x ∈ l, x.2 ∈ xs) → evs P ⟨t2, bx, H, F2⟩ l = evs P ⟨t, bx, H, F⟩ l
  | [], _ => rfl
  | (ty, x) :: r, hl => by
    simp only [evs]
    rw [ev_agr h (hl (ty, x) (by simp)), evs_agr h r (fun y hy => hl y (by simp [hy]))]

theorem evParts_agr {P : Program} {xs : List Operand} (h : Agr t t2 xs) {ty : Nat → Option TypeId} : ∀ (l : List (Nat × Operand)), (∀ x ∈ l, x.2 ∈ xs) → evParts P ⟨t2, bx, H, F2⟩ ty l = evParts P ⟨t, bx, H, F⟩ ty l
  | [], _ => rfl
  | (i, x) :: r, hl => by
    simp only [evParts]
    rw [evParts_agr h r (fun y hy => hl y (by simp [hy]))]
    have e1 : ∀ q, ev P ⟨t2, bx, H, F2⟩ q x = ev P ⟨t, bx, H, F⟩ q x := fun q => ev_agr h (hl (i, x) (by simp))
    simp only [e1]

theorem evO_agr {P : Program} {xs : List Operand} (h : Agr t t2 xs) {x : Option Operand} (hx : ∀ y ∈ x, y ∈ xs) : evO P ⟨t2, bx, H, F2⟩ x = evO P ⟨t, bx, H, F⟩ x := by
  cases x with
  | none => rfl
  | some y => simp only [evO]; rw [ev_agr h (hx y rfl)]

theorem adr_agr {x : Operand} {xs : List Operand} (h : Agr t t2 xs) (hx : x ∈ xs) : adr ⟨t2, bx, H, F2⟩ x = adr ⟨t, bx, H, F⟩ x := by
  cases x with
  | tmp s => simp only [adr]; rw [h s hx]
  | _ => rfl

theorem loadA_agr {T : Ty} {A : Adr} : loadA ⟨t2, bx, H, F2⟩ T A = loadA ⟨t, bx, H, F⟩ T A := by cases A <;> rfl

theorem callOf_agr {o : Oper} (h : Agr t t2 o.op.operands.toList) : callOf C o ⟨t2, bx, H, F2⟩ = callOf C o ⟨t, bx, H, F⟩ := by
  unfold callOf
  split
  · rename_i f args tys hop
    have hf : f ∈ o.op.operands.toList := by rw [hop]; simp [Op.operands, Call.operands]
    have ha : ∀ x ∈ List.zip tys.toList args.toList, x.2 ∈ o.op.operands.toList := by
      intro x hx
      have := (List.of_mem_zip hx).2
      rw [hop]
      simp [Op.operands, Call.operands]
      exact .inr (by simpa using this)
    rw [ev_agr h hf, evs_agr h _ ha]
  · rfl

theorem stepO_agr {o : Oper} {d : Nat} (hv : isVal o.op = true) (hd : o.dst = some d) (h : Agr t t2 o.op.operands.toList) {e' : En} (hs : stepO C o ⟨t, bx, H, F⟩ = some e') :
    ∃ c, e' = ⟨(d, c) :: t, bx, H, F⟩ ∧ stepO C o ⟨t2, bx, H, F2⟩ = some ⟨(d, c) :: t2, bx, H, F2⟩ := by
  have putc : ∀ (r : Option PV), putv o ⟨t, bx, H, F⟩ r = some e' → ∃ c, e' = ⟨(d, c) :: t, bx, H, F⟩ ∧ putv o ⟨t2, bx, H, F2⟩ r = some ⟨(d, c) :: t2, bx, H, F2⟩ := by
    intro r hr
    cases r with
    | none => cases hr
    | some p => simp only [putv, put, hd, Option.map_some, Option.some.injEq] at hr ⊢; exact ⟨.v p, hr.symm, rfl⟩
  have putd : ∀ (c : Cl), some (put o c ⟨t, bx, H, F⟩) = some e' → ∃ c', e' = ⟨(d, c') :: t, bx, H, F⟩ ∧ some (put o c ⟨t2, bx, H, F2⟩) = some (⟨(d, c') :: t2, bx, H, F2⟩ : En) := by
    intro c hr
    simp only [put, hd, Option.some.injEq] at hr ⊢
    exact ⟨c, hr.symm, rfl⟩
  cases hop : o.op with
  | move x =>
    simp only [stepO, hop] at hs ⊢
    rw [ev_agr (F := F) h (by simp [hop, Op.operands])]
    exact putc _ hs
  | assign x =>
    simp only [stepO, hop] at hs ⊢
    rw [ev_agr (F := F) h (by simp [hop, Op.operands])]
    exact putc _ hs
  | pick c a b =>
    simp only [stepO, hop] at hs ⊢
    rw [ev_agr (F := F) h (x := c) (by simp [hop, Op.operands]), ev_agr (F := F) h (x := a) (by simp [hop, Op.operands]), ev_agr (F := F) h (x := b) (by simp [hop, Op.operands])]
    revert hs
    split
    · rename_i c' _
      cases c' with
      | true => simp only [if_true]; exact putc _
      | false => simp only [Bool.false_eq_true, if_false]; exact putc _
    · intro hs; cases hs
  | alloc _ => rw [hop] at hv; cases hv
  | box _ _ => rw [hop] at hv; cases hv
  | store _ _ _ => rw [hop] at hv; cases hv
  | build ty ps =>
    simp only [stepO, hop] at hs ⊢
    have hm : ∀ q ∈ ps.toList, q.2 ∈ o.op.operands.toList := by
      intro q hq
      simp [hop, Op.operands]
      exact ⟨q.1, by simpa using hq⟩
    revert hs
    split
    · rw [evParts_agr (F := F) h _ hm]
      split
      · exact putc _
      · intro hs; cases hs
    · rw [evParts_agr (F := F) h _ hm]
      split
      · exact putc _
      · intro hs; cases hs
    · intro hs; cases hs
  | buildSlice ty n ps =>
    simp only [stepO, hop] at hs ⊢
    have hm : ∀ q ∈ ps.toList, q.2 ∈ o.op.operands.toList := by
      intro q hq
      simp [hop, Op.operands]
      exact ⟨q.1, by simpa using hq⟩
    revert hs
    split
    · rw [evParts_agr (F := F) h _ hm]
      split
      · split
        · exact putc _
        · intro hs; cases hs
      · intro hs; cases hs
    · intro hs; cases hs
  | load ty x =>
    simp only [stepO, hop] at hs ⊢
    rw [adr_agr (F := F) h (by simp [hop, Op.operands])]
    revert hs
    split
    · rw [loadA_agr (t := t) (F := F)]
      exact putc _
    · intro hs; cases hs
  | nilCheck x =>
    simp only [stepO, hop] at hs ⊢
    rw [ev_agr (F := F) h (by simp [hop, Op.operands])]
    revert hs
    split
    · exact putc _
    · intro hs; cases hs
  | binOp op ty x y yt =>
    simp only [stepO, hop] at hs ⊢
    rw [ev_agr (F := F) h (x := x) (by simp [hop, Op.operands]), ev_agr (F := F) h (x := y) (by simp [hop, Op.operands])]
    revert hs
    split
    · exact putc _
    · intro hs; cases hs
  | unOp op ty x =>
    simp only [stepO, hop] at hs ⊢
    rw [ev_agr (F := F) h (by simp [hop, Op.operands])]
    revert hs
    split
    · exact putc _
    · intro hs; cases hs
  | convert s1 d1 x =>
    simp only [stepO, hop] at hs ⊢
    rw [ev_agr (F := F) h (by simp [hop, Op.operands])]
    revert hs
    split
    · exact putc _
    · intro hs; cases hs
  | makeFunc f first caps =>
    cases f with
    | func f =>
      simp only [stepO, hop] at hs ⊢
      rw [evs_agr (F := F) h (first.toList.map fun x => (0, x)) (by intro q hq; obtain ⟨x, hx, rfl⟩ := List.mem_map.1 hq; simp [hop, Op.operands]; exact .inl (by simpa using hx)),
        evs_agr (F := F) h (caps.toList.map fun x => (0, x)) (by intro q hq; obtain ⟨x, hx, rfl⟩ := List.mem_map.1 hq; simp [hop, Op.operands]; exact .inr (by simpa using hx))]
      revert hs
      split
      · exact putc _
      · intro hs; cases hs
    | _ => simp [stepO, hop] at hs
  | makeSlice ty l c =>
    simp only [stepO, hop] at hs ⊢
    rw [ev_agr (F := F) h (x := l) (by simp [hop, Op.operands]), ev_agr (F := F) h (x := c) (by simp [hop, Op.operands])]
    revert hs
    split
    · split
      · split
        · exact putc _
        · intro hs; cases hs
      · intro hs; cases hs
    · intro hs; cases hs
  | slice ty x lo hi mx =>
    simp only [stepO, hop] at hs ⊢
    have m1 : ∀ y ∈ lo, y ∈ o.op.operands.toList := by intro y hy; simp [hop, Op.operands]; cases hy; simp
    have m2 : ∀ y ∈ hi, y ∈ o.op.operands.toList := by intro y hy; simp [hop, Op.operands]; cases hy; simp
    have m3 : ∀ y ∈ mx, y ∈ o.op.operands.toList := by intro y hy; simp [hop, Op.operands]; cases hy; simp
    rw [ev_agr (F := F) h (x := x) (by simp [hop, Op.operands]), evO_agr (F := F) h m1, evO_agr (F := F) h m2, evO_agr (F := F) h m3]
    revert hs
    split
    · split
      · exact putc _
      · intro hs; cases hs
    · split
      · split
        · exact putc _
        · intro hs; cases hs
      · intro hs; cases hs
    · split
      · split
        · exact putc _
        · intro hs; cases hs
      · intro hs; cases hs
    · intro hs; cases hs
  | fieldAddr ty x i =>
    simp only [stepO, hop] at hs ⊢
    rw [adr_agr (F := F) h (by simp [hop, Op.operands])]
    revert hs
    split
    · split
      · split
        · intro hs; cases hs
        · split <;> exact putd _
      · intro hs; cases hs
    · intro hs; cases hs
  | field ty x i =>
    simp only [stepO, hop] at hs ⊢
    rw [ev_agr (F := F) h (by simp [hop, Op.operands])]
    revert hs
    split
    · split
      · split
        · exact putc _
        · intro hs; cases hs
      · intro hs; cases hs
    · intro hs; cases hs
  | indexAddr ty x ix =>
    simp only [stepO, hop] at hs ⊢
    rw [ev_agr (F := F) h (x := ix) (by simp [hop, Op.operands]), ev_agr (F := F) h (x := x) (by simp [hop, Op.operands]), adr_agr (F := F) h (x := x) (by simp [hop, Op.operands])]
    revert hs
    split
    · split
      · split
        · split <;> exact putd _
        · intro hs; cases hs
      · intro hs; cases hs
    · split
      · split
        · split
          · exact putd _
          · intro hs; cases hs
        · intro hs; cases hs
      · intro hs; cases hs
    · intro hs; cases hs
  | index ty x ix =>
    simp only [stepO, hop] at hs ⊢
    rw [ev_agr (F := F) h (x := ix) (by simp [hop, Op.operands]), ev_agr (F := F) h (x := x) (by simp [hop, Op.operands])]
    revert hs
    split
    · split
      · exact putc _
      · intro hs; cases hs
    · split
      · split
        · exact putc _
        · intro hs; cases hs
      · intro hs; cases hs
    · intro hs; cases hs
  | extract x i =>
    simp only [stepO, hop] at hs ⊢
    rw [ev_agr (F := F) h (by simp [hop, Op.operands])]
    revert hs
    split
    · split
      · intro hs; cases hs
      · exact putc _
    · intro hs; cases hs
  | call cl =>
    obtain ⟨callee, args, tys⟩ := cl
    cases callee with
    | value f => simp [stepO, hop] at hs
    | invoke r m => simp [stepO, hop] at hs
    | builtin b =>
      have ha : ∀ x ∈ args.toList, x ∈ o.op.operands.toList := by intro x hx; simp [hop, Op.operands, Call.operands]; simpa using hx
      have hz : ∀ q ∈ args.toList.map (fun x => ((0 : TypeId), x)), q.2 ∈ o.op.operands.toList := by
        intro q hq; obtain ⟨x, hx, rfl⟩ := List.mem_map.1 hq; exact ha x hx
      cases b with
      | len =>
        simp only [stepO, hop] at hs ⊢
        cases h0 : args[0]? with
        | none => rw [h0] at hs; simp at hs
        | some x =>
          have hx : x ∈ args.toList := by
            obtain ⟨i1, i2⟩ := Array.getElem?_eq_some_iff.1 h0
            rw [← i2]; simp
          rw [h0] at hs
          cases h1 : tys[0]? with
          | none => rw [h1] at hs; simp at hs
          | some ty =>
            rw [h1] at hs
            simp only at hs ⊢
            rw [ev_agr (F := F) h (ha x hx)]
            revert hs
            split
            · exact putc _
            · exact putc _
            · intro hs; cases hs
      | min =>
        simp only [stepO, hop] at hs ⊢
        rw [evs_agr (F := F) h _ hz]
        revert hs
        split
        · exact putc _
        · intro hs; cases hs
      | max =>
        simp only [stepO, hop] at hs ⊢
        rw [evs_agr (F := F) h _ hz]
        revert hs
        split
        · exact putc _
        · intro hs; cases hs
      | append =>
        simp only [stepO, hop] at hs ⊢
        cases h0 : args.toList with
        | nil => rw [h0] at hs; simp at hs
        | cons x r =>
          cases r with
          | nil => rw [h0] at hs; simp at hs
          | cons y r =>
            cases r with
            | cons _ _ => rw [h0] at hs; simp at hs
            | nil =>
              rw [h0] at hs
              cases h1 : tys.toList with
              | nil => rw [h1] at hs; simp at hs
              | cons tx r =>
                cases r with
                | nil => rw [h1] at hs; simp at hs
                | cons ty r =>
                  cases r with
                  | cons _ _ => rw [h1] at hs; simp at hs
                  | nil =>
                    rw [h1] at hs
                    simp only at hs ⊢
                    rw [ev_agr (F := F) h (x := x) (ha x (by rw [h0]; simp)), ev_agr (F := F) h (x := y) (ha y (by rw [h0]; simp))]
                    revert hs
                    split
                    · split
                      · split
                        · split
                          · exact putc _
                          · intro hs; cases hs
                        · split
                          · exact putc _
                          · intro hs; cases hs
                        · intro hs; cases hs
                      · intro hs; cases hs
                    · intro hs; cases hs
      | _ => simp [stepO, hop] at hs
  | _ => simp [stepO, hop] at hs
end
end Go.Proofs.Ytielbjjdgdblcaa.Vm

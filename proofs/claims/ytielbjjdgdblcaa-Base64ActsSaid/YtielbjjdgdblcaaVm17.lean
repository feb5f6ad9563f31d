/- Operations one behind the other. -/
import Derived.Test.YtielbjjdgdblcaaVm29
namespace Go.Proofs.Ytielbjjdgdblcaa.Vm
open Go

/-- Is an operation wanted? -/
def wantedP (ops : Array Oper) (o : Oper) (e : En) : Option Bool :=
  match o.guard with
  | none => some true
  | some (j, want) => match (ops[j]?).bind (·.dst) with
    | some d => (match lkp e.t d with | some (.v (.bool b)) => some (b == want) | _ => none)
    | none => none

def skipE (C : Ctx) (o : Oper) (e : En) : En :=
  match o.dst with
  | some d => { e with t := (d, .und) :: e.t, F := if C.own = false then [] else rmF d e.F }
  | none => e

/-- Operations, in this order. -/
def opsP (C : Ctx) (ops : Array Oper) : List (Oper × Bool) → (En → Prop) → En → Prop
  | [], Q, e => ∃ e0, Gst C e e0 ∧ Q e0
  | (o, tr) :: r, Q, e1 => ∃ e, Gst C e1 e ∧ ∃ b, wantedP ops o e = some b ∧ if b = true then
      (match callOf C o e with
      | some (f, args) => ∃ x H', Run C.P C.fr f args e.H x H' ∧ opsP C ops r Q { put o (.v x) { e with H := H' } with F := fnext C tr o e }
      | none => ∃ e', (stepF C tr o e = some e' ∨ StepX C o e e') ∧ opsP C ops r Q e')
    else opsP C ops r Q (skipE C o e)

section
variable {C : Ctx} {base : Nat} {e : En} {a : Act} {w : World} {g : Gh}

theorem getD_some {t : Array Value} {d : Nat} {b : Bool} (h : t.getD d undef = .bool b) : t[d]? = some (.bool b) := by
  rw [Array.getD_eq_getD_getElem?] at h
  cases hq : t[d]? with
  | none => rw [hq] at h; cases h
  | some v => rw [hq] at h; simp at h; rw [h]

theorem wanted_sound (hr : REL C base e a w g) {ops : Array Oper} {o : Oper} {b : Bool} (h : wantedP ops o e = some b) : Region.wanted o (yielded ops a.tmps) = b := by
  unfold wantedP at h
  unfold Region.wanted
  split at h
  · rename_i hg
    rw [hg]
    cases h; rfl
  · rename_i j want hg
    rw [hg]
    split at h
    · rename_i d hd
      split at h
      · rename_i b' hb
        cases h
        have := vr_bool (hr.t d _ hb).2
        have h2 := getD_some this
        simp only [yielded, hd, Option.bind_some, h2]
        cases b' <;> cases want <;> rfl
      · cases h
    · cases h

/-- An operation that is not wanted. -/
theorem skip_ok (hr : REL C base e a w g) {o : Oper} (hok : OpOK C a.tmps.size o = true) (hn : isNew o.op = false ∨ ∀ d, o.dst = some d → d ∉ C.box) : REL C base (skipE C o e) (a.put o.dst undef) w g := by
  cases ho : o.dst with
  | none => simp only [skipE, ho]; exact hr
  | some d =>
    have hd : d < a.tmps.size ∧ d ∉ C.box := by
      simp only [OpOK, ho, Bool.and_eq_true, decide_eq_true_eq] at hok
      refine ⟨hok.1.1, ?_⟩
      rcases hn with hn | hn
      · have := hok.1.2; simp only [hn, Bool.false_or, decide_eq_true_eq] at this; exact this
      · exact hn d ho
    have e1 : skipE C o e = { put o .und e with F := if C.own = false then [] else rmF d e.F } := by simp [skipE, put, ho]
    rw [e1, ← ho]
    have hF : ∀ l ∈ (if C.own = false then [] else rmF d e.F), l ∈ e.F ∧ ∀ d, o.dst = some d → l.1 ≠ d := by
      intro l hl
      split at hl
      · cases hl
      · exact ⟨(mem_rmF.1 hl).1, fun d' hd' => by rw [ho] at hd'; cases hd'; exact (mem_rmF.1 hl).2⟩
    refine rel_put hr (Grow.refl hr.good) (fun d' hd' => by rw [ho] at hd'; cases hd'; exact hd) (c := .und) trivial ?_
    rw [ho]
    have e2 : ∀ F, ({ put o .und e with F := F } : En) = { e with t := (d, .und) :: e.t, F } := by intro F; simp [put, ho]
    rw [e2]
    exact own_put hr (Grow.refl hr.good) hd.1 hd.2 some (fun l hl => .inl ⟨(hF l hl).2 d ho, (hF l hl).1, rfl⟩) (fun l _ l' _ k h1 h2 => by cases h1; cases h2; rfl) (fun l _ l' _ h1 => by cases h1)

/-- What is checked of an operation once for all. -/
def opChk (C : Ctx) (o : Oper) : Bool := OpOK C C.n o && (o.guard.isNone || !isNew o.op)

/-- Along a list of operations' numbers. -/
theorem ops_sound {ops : Array Oper} {Q : Exit → Act → World → Prop} : ∀ (is : List Nat) (l : List (Oper × Bool)) (e : En) (a : Act) (w : World) (g : Gh), is.map (fun i => ops[i]?) = l.map (fun x => some x.1) →
    (∀ x ∈ l, opChk C x.1 = true) → REL C base e a w g → a.tmps.size = C.n →
    ∀ (R : En → Prop), opsP C ops l R e → (∀ e' a' w' g', R e' → REL C base e' a' w' g' → a'.tmps.size = C.n → ExtB base w g w' g' → Q .normal a' w') → wpOps C.P ops Q is a w
  | [], [], e, a, w, g, _, _, hr, hn, R, h, hQ => by
    obtain ⟨e0, hg, h⟩ := h
    obtain ⟨g', hr', hx⟩ := gst_ok hg hr
    exact hQ e0 a w g' h hr' hn hx
  | [], _ :: _, _, _, _, _, hm, _, _, _, _, _, _ => by simp at hm
  | _ :: _, [], _, _, _, _, hm, _, _, _, _, _, _ => by simp at hm
  | i :: is, (o, tr) :: l, e1, a, w, g1, hm, hc, hr1, hn, R, h, hQ1 => by
    simp only [opsP] at h
    obtain ⟨e, hgst, h⟩ := h
    obtain ⟨g, hr, hx1⟩ := gst_ok hgst hr1
    have hQ : ∀ e' a' w' g', R e' → REL C base e' a' w' g' → a'.tmps.size = C.n → ExtB base w g w' g' → Q .normal a' w' := fun e' a' w' g' q1 q2 q3 q4 => hQ1 e' a' w' g' q1 q2 q3 (hx1.trans q4)
    simp only [List.map_cons, List.cons.injEq] at hm
    obtain ⟨ho, hm⟩ := hm
    have hco := hc (o, tr) (by simp)
    simp only [opChk, Bool.and_eq_true] at hco
    obtain ⟨hok, hgn⟩ := hco
    rw [← hn] at hok
    obtain ⟨b, hb, h⟩ := h
    have hw := wanted_sound hr hb
    simp only [wpOps, ho, hw]
    cases b with
    | false =>
      rw [if_neg (by simp)]
      rw [if_neg (by simp)] at h
      have hnn : isNew o.op = false := by
        cases hgd : o.guard with
        | none => simp [wantedP, hgd] at hb
        | some _ => simpa [hgd] using hgn
      have hr' := skip_ok hr hok (.inl hnn)
      exact ops_sound is l _ _ w g hm (fun x hx => hc x (by simp [hx])) hr' (by rw [put_size]; exact hn) R h hQ
    | true =>
      rw [if_pos rfl]
      rw [if_pos rfl] at h
      left
      split at h
      · rename_i f args hcall
        obtain ⟨x, H', hrun, h⟩ := h
        refine call_ok hr (tr := tr) hok hcall hrun ?_
        intro a' w' g' hext hr' hsz
        exact ops_sound is l _ a' w' g' hm (fun x hx => hc x (by simp [hx])) hr' (by rw [hsz]; exact hn) R h
          (fun e2 a2 w2 g2 h1 h2 h3 h4 => hQ e2 a2 w2 g2 h1 h2 h3 (hext.trans h4))
      · obtain ⟨e', hs, h⟩ := h
        obtain ⟨w', g', hext, hh⟩ : StepOK C base o e' a w g := by
          rcases hs with hs | hs
          · exact step_ok hr hok hs
          · exact stepX_ok hr hok hs
        unfold Oper.wp
        rcases hh with ⟨v, hrun, hr'⟩ | ⟨hrun, hr'⟩
        · rw [hrun, Oper.upon_value]
          exact ops_sound is l e' _ w' g' hm (fun x hx => hc x (by simp [hx])) hr' (by rw [put_size]; exact hn) R h (fun e2 a2 w2 g2 h1 h2 h3 h4 => hQ e2 a2 w2 g2 h1 h2 h3 (hext.trans h4))
        · rw [hrun, Oper.upon_skip]
          exact ops_sound is l e' _ w' g' hm (fun x hx => hc x (by simp [hx])) hr' (by rw [put_size]; exact hn) R h (fun e2 a2 w2 g2 h1 h2 h3 h4 => hQ e2 a2 w2 g2 h1 h2 h3 (hext.trans h4))

end
end Go.Proofs.Ytielbjjdgdblcaa.Vm

/- Along the code of a function. -/
import Derived.Test.YtielbjjdgdblcaaVm24
namespace Go.Proofs.Ytielbjjdgdblcaa.Vm
open Go

inductive Ex where
  | norm | exit (id : Nat) | ret

/-- What is still used. -/
def cleanL (ls : List Nat) (e : En) : En :=
  { t := ls.filterMap fun s => (lkp e.t s).map fun c => (s, c)
    bx := e.bx.filter fun x => ls.contains x.1
    H := e.H
    F := ls.flatMap fun s => e.F.filter fun l => l.1 == s }

/-- What a walk is told: which temporaries live behind a region and at the head of a loop; which moves carry the right to append. -/
structure Wk where
  live : List (Nat × List Nat)
  head : List (Nat × List Nat)
  tr : List (Nat × List Bool)

def cleanAt (m : List (Nat × List Nat)) (id : Nat) (e : En) : En := match lkp m id with | some ls => cleanL ls e | none => e

def annot : List Bool → List Oper → List (Oper × Bool)
  | _, [] => []
  | [], o :: r => (o, true) :: annot [] r
  | b :: bs, o :: r => (o, b) :: annot bs r

def evB (e : En) : Operand → Option Bool
  | .tmp t => match lkp e.t t with | some (.v (.bool b)) => some b | _ => none
  | .const (.bool b) => some b
  | _ => none

def thenQ (K : En → Prop) (Q : Ex → En → Prop) : Ex → En → Prop
  | .norm, e => K e
  | ex, e => Q ex e

def inQ (id : Nat) (Q : Ex → En → Prop) : Ex → En → Prop
  | .exit id', e => if id' = id then Q .norm e else Q (.exit id') e
  | ex, e => Q ex e

def atEnd (W : Wk) (id : Nat) (Q : Ex → En → Prop) (e : En) : Prop := Q .norm (cleanAt W.live id e)

def loopQ (W : Wk) (n : Nat) (I : En → Prop) (m : En → Prop) (Q : Ex → En → Prop) : Ex → En → Prop
  | .norm, e => I (cleanAt W.head n e) ∧ m (cleanAt W.head n e)
  | ex, e => Q ex e

def itemsOf (ac : List Nat) : List Bool → Nat → List Oper → List (Nat × It)
  | _, _, [] => []
  | [], k, o :: r => (k, ⟨o, true, ac.contains k⟩) :: itemsOf ac [] (k + 1) r
  | b :: bs, k, o :: r => (k, ⟨o, b, ac.contains k⟩) :: itemsOf ac bs (k + 1) r

/-- Are operations that may go in any order apart? -/
def ordB (ops : Array Oper) : List (Nat × It) → Bool
  | [] => true
  | p :: r => (r.all fun q => (q.2.o.after.any fun e => Region.binds .any e && e.on == p.1) || indep ops p.2 q.2) && (p.2.o.after.all fun e => !Region.binds .any e || decide (e.on < p.1)) && ordB ops r

def drawP (C : Ctx) (W : Wk) (id : Nat) (ops : Array Oper) (Q : Ex → En → Prop) (e : En) : Prop :=
  ∃ Kf ac, C.P.follows .mixedOrders = true ∧ ordB ops (itemsOf ac ((lkp W.tr id).getD []) 0 ops.toList) = true ∧ (lkp W.live id).isSome = true ∧
    opsD C ops Kf ((itemsOf ac ((lkp W.tr id).getD []) 0 ops.toList).map (·.2)) (atEnd W id Q) e

/-- Along code. -/
def CP (C : Ctx) (W : Wk) : Nat → Code → (Ex → En → Prop) → En → Prop
  | _, .skip, Q, e => Q .norm e
  | _, .label _, Q, e => Q .norm e
  | _, .exit id, Q, e => Q (.exit id) e
  | _, .ret, Q, e => Q .ret e
  | _, .region id ops draw, Q, e => if draw = true then drawP C W id ops Q e else opsP C ops (annot ((lkp W.tr id).getD []) ops.toList) (atEnd W id Q) e
  | n, .seq x y, Q, e => CP C W n x (thenQ (CP C W n y Q) Q) e
  | n, .cond c x y, Q, e => ∃ b, evB e c = some b ∧ if b = true then CP C W n x Q e else CP C W n y Q e
  | _, .block id x, Q, e => CP C W id x (inQ id Q) e
  | n, .loop x, Q, e => ∃ (I : En → Prop) (μ : En → Nat), I (cleanAt W.head n e) ∧ ∀ e, I e → CP C W n x (loopQ W n I (fun e' => μ e' < μ e) Q) e
  | _, _, _, _ => False

def chkCode (C : Ctx) : Code → Bool
  | .region _ ops _ => ops.toList.all (opChk C)
  | .seq x y | .cond _ x y => chkCode C x && chkCode C y
  | .block _ x | .loop x => chkCode C x
  | _ => true

section
variable {C : Ctx} {W : Wk} {base : Nat} {e : En} {a : Act} {w : World} {g : Gh}

theorem lkp_fm (t : List (Nat × Cl)) (d : Nat) (c : Cl) : ∀ ls : List Nat, lkp (ls.filterMap fun s => (lkp t s).map fun c => (s, c)) d = some c → lkp t d = some c
  | [], h => by cases h
  | s :: ls, h => by
    simp only [List.filterMap_cons] at h
    cases hs : lkp t s with
    | none => rw [hs] at h; exact lkp_fm t d c ls h
    | some c' =>
      rw [hs] at h
      simp only [Option.map_some, lkp_cons] at h
      split at h
      · rename_i heq; cases h; rw [← heq]; exact hs
      · exact lkp_fm t d c ls h

theorem lkp_filter {α : Type} (ls : List Nat) (d : Nat) : ∀ (b : List (Nat × α)) (p : α), lkp (b.filter fun x => ls.contains x.1) d = some p → lkp b d = some p ∧ ls.contains d = true
  | [], _, h => by cases h
  | (k, v) :: r, p, h => by
    rw [List.filter_cons] at h
    split at h
    · rename_i hk
      rw [lkp] at h ⊢
      split at h
      · rename_i heq; rw [if_pos heq]; exact ⟨h, heq ▸ hk⟩
      · rename_i hne; rw [if_neg hne]; exact lkp_filter ls d r p h
    · rename_i hk
      obtain ⟨h1, h2⟩ := lkp_filter ls d r p h
      refine ⟨?_, h2⟩
      rw [lkp]
      split
      · rename_i heq; rw [heq] at hk; exact absurd h2 hk
      · exact h1

theorem pval_clean (hr : REL C base e a w g) (ls : List Nat) {l : Nat × Nat × Nat} {q : PV} (h : pval (cleanL ls e) l = some q) : pval e l = some q := by
  unfold pval at *
  cases hb : lkp (cleanL ls e).bx l.1 with
  | some p =>
    rw [hb] at h
    rw [(lkp_filter ls l.1 e.bx p hb).1]
    exact h
  | none =>
    rw [hb] at h
    simp only at h
    split at h
    · rename_i p hp
      have hp' := lkp_fm e.t l.1 _ ls hp
      have hx : lkp e.bx l.1 = none := by
        cases hx : lkp e.bx l.1 with
        | none => rfl
        | some p' => exact absurd (hr.bx _ _ hx).1 (hr.t _ _ hp').1
      rw [hx, hp']
      exact h
    · cases h

theorem clean_rel (hr : REL C base e a w g) (ls : List Nat) : REL C base (cleanL ls e) a w g := by
  have hF : ∀ l ∈ (cleanL ls e).F, l ∈ e.F := by
    intro l hl
    simp only [cleanL, List.mem_flatMap, List.mem_filter] at hl
    obtain ⟨_, _, h, _⟩ := hl
    exact h
  refine ⟨hr.hb, hr.defers, hr.good, ?_, ?_, ?_, ?_, ?_, ?_⟩
  · intro d c h; exact hr.t d c (lkp_fm e.t d c ls h)
  · intro s p h; exact hr.bx s p (lkp_filter ls s e.bx p h).1
  · intro s s' b p p' h h'; exact hr.dist s s' b p p' (lkp_filter ls s e.bx p h).1 (lkp_filter ls s' e.bx p' h').1
  · intro l hl z s v hp hc; exact hr.own.app l (hF l hl) z s v (pval_clean hr ls hp) hc
  · intro l hl l' hl' hne z s v z' s' v' b hp hc hp' hc'
    exact hr.own.uniq l (hF l hl) l' (hF l' hl') hne z s v z' s' v' b (pval_clean hr ls hp) hc (pval_clean hr ls hp') hc'
  · intro l hl z s v b hp hc ho s' p hs
    exact hr.own.box l (hF l hl) z s v b (pval_clean hr ls hp) hc ho s' p (lkp_filter ls s' e.bx p hs).1

theorem cleanAt_rel (hr : REL C base e a w g) (m : List (Nat × List Nat)) (id : Nat) : REL C base (cleanAt m id e) a w g := by
  unfold cleanAt
  split
  · exact clean_rel hr _
  · exact hr

theorem evB_sound (hr : REL C base e a w g) {x : Operand} {b : Bool} (h : evB e x = some b) : a.eval x = .bool b := by
  unfold evB at h
  split at h
  · split at h
    · rename_i hq
      cases h
      exact vr_bool (hr.t _ _ hq).2
    · cases h
  · cases h; rfl
  · cases h

theorem annot_fst : ∀ (bs : List Bool) (l : List Oper), (annot bs l).map (fun x => some x.1) = l.map some
  | _, [] => by simp [annot]
  | [], o :: r => by simp [annot, annot_fst [] r]
  | b :: bs, o :: r => by simp [annot, annot_fst bs r]

theorem annot_mem : ∀ (bs : List Bool) (l : List Oper) (x : Oper × Bool), x ∈ annot bs l → x.1 ∈ l
  | _, [], _, h => by simp [annot] at h
  | [], o :: r, x, h => by
    simp only [annot, List.mem_cons] at h
    rcases h with h | h
    · subst h; simp
    · exact List.mem_cons_of_mem _ (annot_mem [] r x h)
  | b :: bs, o :: r, x, h => by
    simp only [annot, List.mem_cons] at h
    rcases h with h | h
    · subst h; simp
    · exact List.mem_cons_of_mem _ (annot_mem bs r x h)

/-- How code ends. -/
def EndsQ (C : Ctx) (base : Nat) (w : World) (g : Gh) (Q : Ex → En → Prop) : Exit → Act → World → Prop
  | .normal, a', w' => ∃ e' g', Q .norm e' ∧ REL C base e' a' w' g' ∧ a'.tmps.size = C.n ∧ ExtB base w g w' g'
  | .exit id, a', w' => ∃ e' g', Q (.exit id) e' ∧ REL C base e' a' w' g' ∧ a'.tmps.size = C.n ∧ ExtB base w g w' g'
  | .ret, a', w' => ∃ e' g', Q .ret e' ∧ REL C base e' a' w' g' ∧ a'.tmps.size = C.n ∧ ExtB base w g w' g'
  | _, _, _ => False

theorem EndsQ.mono {w' : World} {g' : Gh} {Q Q' : Ex → En → Prop} (hq : ∀ ex e, Q ex e → Q' ex e) (hx : ExtB base w g w' g') {ex : Exit} {a' : Act} {w2 : World}
    (h : EndsQ C base w' g' Q ex a' w2) : EndsQ C base w g Q' ex a' w2 := by
  cases ex with
  | normal => obtain ⟨e', g', h1, h2, h3, h4⟩ := h; exact ⟨e', g', hq _ _ h1, h2, h3, hx.trans h4⟩
  | exit id => obtain ⟨e', g', h1, h2, h3, h4⟩ := h; exact ⟨e', g', hq _ _ h1, h2, h3, hx.trans h4⟩
  | ret => obtain ⟨e', g', h1, h2, h3, h4⟩ := h; exact ⟨e', g', hq _ _ h1, h2, h3, hx.trans h4⟩
  | _ => exact h

theorem Same.clean {e2 : En} (h : Same e e2) (ls : List Nat) : cleanL ls e2 = cleanL ls e := by
  have : (fun s => (lkp e2.t s).map fun c => (s, c)) = fun s => (lkp e.t s).map fun c => (s, c) := by funext s; rw [h.t s]
  simp only [cleanL, h.bx, h.H, h.F, this]

theorem items_spec (ac : List Nat) (ops : Array Oper) : ∀ (l : List Oper) (bs : List Bool) (k : Nat), (∀ j, l[j]? = ops[k + j]?) → (∀ p ∈ itemsOf ac bs k l, k ≤ p.1 ∧ ops[p.1]? = some p.2.o ∧ p.2.o ∈ l) ∧ (∀ j, k ≤ j → j < k + l.length → ∃ x, (j, x) ∈ itemsOf ac bs k l) ∧ (∀ p ∈ itemsOf ac bs k l, p.1 < k + l.length)
  | [], _, _, _ => by
    refine ⟨by simp [itemsOf], ?_, by simp [itemsOf]⟩
    intro j h1 h2; simp at h2; omega
  | o :: r, bs, k, hl => by
    have h0 : ops[k]? = some o := by simpa using (hl 0).symm
    have key : ∀ b bs', itemsOf ac bs k (o :: r) = (k, ⟨o, b, ac.contains k⟩) :: itemsOf ac bs' (k + 1) r → _ := fun b bs' he => by
      obtain ⟨k1, k2, k3⟩ := items_spec ac ops r bs' (k + 1) (fun j => by have := hl (j + 1); simpa [Nat.add_assoc, Nat.add_comm 1 j] using this)
      exact (show (∀ p ∈ itemsOf ac bs k (o :: r), k ≤ p.1 ∧ ops[p.1]? = some p.2.o ∧ p.2.o ∈ o :: r) ∧ (∀ j, k ≤ j → j < k + (o :: r).length → ∃ x, (j, x) ∈ itemsOf ac bs k (o :: r)) ∧ (∀ p ∈ itemsOf ac bs k (o :: r), p.1 < k + (o :: r).length) by
        rw [he]
        refine ⟨?_, ?_, ?_⟩
        · intro p hp
          rcases List.mem_cons.1 hp with rfl | hp
          · exact ⟨Nat.le_refl _, h0, by simp⟩
          · obtain ⟨q1, q2, q3⟩ := k1 p hp
            exact ⟨by omega, q2, by simp [q3]⟩
        · intro j h1 h2
          by_cases hj : j = k
          · subst hj; exact ⟨_, List.mem_cons_self⟩
          · obtain ⟨x, hx⟩ := k2 j (by omega) (by simp at h2; omega)
            exact ⟨x, List.mem_cons_of_mem _ hx⟩
        · intro p hp
          rcases List.mem_cons.1 hp with rfl | hp
          · simp
          · have := k3 p hp; simp; omega)
    cases bs with
    | nil => exact key true [] rfl
    | cons b bs => exact key b bs rfl

theorem items_lt (ac : List Nat) : ∀ (l : List Oper) (bs : List Bool) (k : Nat), (itemsOf ac bs k l).Pairwise (fun p q => p.1 < q.1) ∧ ∀ p ∈ itemsOf ac bs k l, k ≤ p.1
  | [], _, _ => by simp [itemsOf]
  | o :: r, bs, k => by
    have key : ∀ b bs', itemsOf ac bs k (o :: r) = (k, ⟨o, b, ac.contains k⟩) :: itemsOf ac bs' (k + 1) r → (itemsOf ac bs k (o :: r)).Pairwise (fun p q => p.1 < q.1) ∧ ∀ p ∈ itemsOf ac bs k (o :: r), k ≤ p.1 := by
      intro b bs' he
      obtain ⟨h1, h2⟩ := items_lt ac r bs' (k + 1)
      rw [he]
      refine ⟨List.pairwise_cons.2 ⟨fun q hq => by have := h2 q hq; simp; omega, h1⟩, ?_⟩
      intro p hp
      rcases List.mem_cons.1 hp with rfl | hp
      · exact Nat.le_refl _
      · have := h2 p hp; omega
    cases bs with
    | nil => exact key true [] rfl
    | cons b bs => exact key b bs rfl

theorem ordB_spec {ops : Array Oper} : ∀ (l : List (Nat × It)), ordB ops l = true → l.Pairwise (fun p q => p.1 < q.1) → l.Pairwise (ordered ops) ∧ ∀ p ∈ l, ∀ e ∈ p.2.o.after, Region.binds .any e = true → e.on < p.1
  | [], _, _ => by simp
  | p :: r, h, hl => by
    simp only [ordB, Bool.and_eq_true, List.all_eq_true, Bool.or_eq_true] at h
    obtain ⟨⟨h1, h2⟩, h3⟩ := h
    obtain ⟨l1, l2⟩ := List.pairwise_cons.1 hl
    obtain ⟨k1, k2⟩ := ordB_spec r h3 l2
    refine ⟨List.pairwise_cons.2 ⟨fun q hq => ⟨l1 q hq, ?_⟩, k1⟩, ?_⟩
    · rcases h1 q hq with h | h
      · left
        obtain ⟨i, hi, h⟩ := Array.any_eq_true.1 h
        simp only [Bool.and_eq_true, beq_iff_eq] at h
        exact ⟨_, Array.getElem_mem hi, h.1, h.2⟩
      · exact .inr h
    · intro q hq ed hed hb
      rcases List.mem_cons.1 hq with rfl | hq
      · have h4 := Array.all_eq_true_iff_forall_mem.1 h2 ed hed
        simp only [Bool.or_eq_true, Bool.not_eq_true', decide_eq_true_eq] at h4
        rcases h4 with h4 | h4
        · rw [hb] at h4; cases h4
        · exact h4
      · exact k2 q hq ed hed hb

theorem ExtB.drawn {w' : World} {g' : Gh} (h : ExtB base { w with drawn := w.drawn + 1 } g w' g') : ExtB base w g w' g' := ⟨h.os, h.tape, h.output, h.size, h.block, h.D, h.Dle, h.io⟩

theorem draw_sound {id : Nat} {ops : Array Oper} {Q : Ex → En → Prop} {QQ : Exit → Act → World → Prop} (hc : ∀ o ∈ ops.toList, opChk C o = true) (hr : REL C base e a w g) (hn : a.tmps.size = C.n) (h : drawP C W id ops Q e)
    (hK : ∀ e' a' w' g', atEnd W id Q e' → REL C base e' a' w' g' → a'.tmps.size = C.n → ExtB base w g w' g' → QQ .normal a' w') : (Code.region id ops true).wp C.P QQ a w := by
  obtain ⟨Kf, ac, hm, ho, hlv, h⟩ := h
  obtain ⟨i1, i2, i3⟩ := items_spec ac ops ops.toList ((lkp W.tr id).getD []) 0 (by intro j; simp)
  obtain ⟨o1, o2⟩ := ordB_spec _ ho (items_lt ac ops.toList ((lkp W.tr id).getD []) 0).1
  have hr' : REL C base e a { w with drawn := w.drawn + 1 } g := by
    have hk : Keep w g { w with drawn := w.drawn + 1 } g := ⟨fun _ _ _ => rfl, fun _ => Nat.le_refl _, fun _ _ h => h⟩
    refine ⟨hr.hb, hr.defers, ⟨hr.good.fresh, hr.good.len, hr.good.nodup, fun i b ob h1 h2 => ⟨(hr.good.obj i b ob h1 h2).1, RowIs.keep hk rfl (hr.good.obj i b ob h1 h2).2⟩⟩, ?_, ?_, hr.dist, ?_⟩
    · intro d c hd; exact ⟨(hr.t d c hd).1, ClR.keep hk (fun _ _ => rfl) (hr.t d c hd).2⟩
    · intro s p hs
      obtain ⟨h1, h2, b, h3, h4, h5, h6, h7⟩ := hr.bx s p hs
      exact ⟨h1, h2, b, h3, h4, h5, h6, RowIs.keep hk rfl h7⟩
    · exact ⟨hr.own.app, hr.own.uniq, hr.own.box⟩
  refine wp_region_any hm ?_
  refine any_sound (Kf := Kf) (Q := atEnd W id Q) ?_ ops.size _ (Array.replicate ops.size false) e a _ g ?_ ?_ (by simp) ?_ o1 h hr' hn ?_
  · intro e1 e2 hs hq
    cases hl : lkp W.live id with
    | none => rw [hl] at hlv; cases hlv
    | some ls =>
      simp only [atEnd, cleanAt, hl] at hq ⊢
      rw [hs.clean]
      exact hq
  · have : ∀ (l : List Oper) (bs : List Bool) (k : Nat), (itemsOf ac bs k l).length = l.length := by
      intro l
      induction l with
      | nil => intro bs k; simp [itemsOf]
      | cons o r ih => intro bs k; cases bs <;> simp [itemsOf, ih]
    rw [this]; simp
  · intro k
    constructor
    · rintro ⟨x, hx⟩
      have := i3 _ hx
      simp at this
      simp [this]
    · intro hk
      refine i2 k (Nat.zero_le _) ?_
      rcases Nat.lt_or_ge k ops.size with h' | h'
      · simpa using h'
      · simp [Nat.not_lt.2 h'] at hk
  · intro p hp
    obtain ⟨_, k2, k3⟩ := i1 p hp
    exact ⟨k2, hc _ k3, o2 p hp⟩
  · intro e' a' w' g' q1 q2 q3 q4
    exact hK e' a' w' g' q1 q2 q3 q4.drawn

theorem CP_sound : ∀ (c : Code) (n : Nat) (Q : Ex → En → Prop) (e : En) (a : Act) (w : World) (g : Gh), chkCode C c = true → REL C base e a w g → a.tmps.size = C.n →
    CP C W n c Q e → c.wp C.P (EndsQ C base w g Q) a w
  | .skip, n, Q, e, a, w, g, _, hr, hn, h => by
    simp only [CP] at h
    exact wp_skip ⟨e, g, h, hr, hn, ExtB.refl _ _ _⟩
  | .label _, n, Q, e, a, w, g, _, hr, hn, h => by
    simp only [CP] at h
    exact wp_label ⟨e, g, h, hr, hn, ExtB.refl _ _ _⟩
  | .exit id, n, Q, e, a, w, g, _, hr, hn, h => by
    simp only [CP] at h
    exact wp_exit ⟨e, g, h, hr, hn, ExtB.refl _ _ _⟩
  | .ret, n, Q, e, a, w, g, _, hr, hn, h => by
    simp only [CP] at h
    exact wp_ret ⟨e, g, h, hr, hn, ExtB.refl _ _ _⟩
  | .region id ops draw, n, Q, e, a, w, g, hc, hr, hn, h => by
    simp only [CP] at h
    simp only [chkCode, List.all_eq_true] at hc
    cases draw with
    | true =>
      rw [if_pos rfl] at h
      refine draw_sound hc hr hn h ?_
      intro e' a' w' g' h1 h2 h3 h4
      exact ⟨_, g', h1, cleanAt_rel h2 _ _, h3, h4⟩
    | false =>
    rw [if_neg (by simp)] at h
    refine wp_region (ops_sound (List.range ops.size) (annot ((lkp W.tr id).getD []) ops.toList) e a w g ?_ ?_ hr hn _ h ?_)
    · rw [annot_fst]
      apply List.ext_getElem?
      intro i
      simp only [List.getElem?_map]
      by_cases hi : i < ops.size
      · simp [hi]
      · simp [hi]
    · intro x hx; exact hc _ (annot_mem _ _ x hx)
    · intro e' a' w' g' h1 h2 h3 h4
      exact ⟨_, g', h1, cleanAt_rel h2 _ _, h3, h4⟩
  | .seq x y, n, Q, e, a, w, g, hc, hr, hn, h => by
    simp only [CP] at h
    simp only [chkCode, Bool.and_eq_true] at hc
    refine wp_seq (wp_mono (CP_sound x n _ e a w g hc.1 hr hn h) ?_)
    intro ex a' w' he
    cases ex with
    | normal =>
      obtain ⟨e', g', h1, h2, h3, h4⟩ := he
      exact wp_mono (CP_sound y n Q e' a' w' g' hc.2 h2 h3 h1) fun _ _ _ k => EndsQ.mono (fun _ _ k => k) h4 k
    | exit id => exact he
    | ret => exact he
    | _ => exact he
  | .cond c x y, n, Q, e, a, w, g, hc, hr, hn, h => by
    simp only [CP] at h
    simp only [chkCode, Bool.and_eq_true] at hc
    obtain ⟨b, hb, h⟩ := h
    refine wp_cond (evB_sound hr hb) ?_
    cases b with
    | true => rw [if_pos rfl] at h ⊢; exact CP_sound x n Q e a w g hc.1 hr hn h
    | false => rw [if_neg (by simp)] at h ⊢; exact CP_sound y n Q e a w g hc.2 hr hn h
  | .block id x, n, Q, e, a, w, g, hc, hr, hn, h => by
    simp only [CP] at h
    simp only [chkCode] at hc
    refine wp_block (wp_mono (CP_sound x id _ e a w g hc hr hn h) ?_)
    intro ex a' w' he
    cases ex with
    | exit id' =>
      obtain ⟨e', g', h1, h2, h3, h4⟩ := he
      simp only [inQ] at h1
      simp only [Exit.inBlock]
      split
      · rename_i hid; rw [if_pos hid] at h1; exact ⟨e', g', h1, h2, h3, h4⟩
      · rename_i hid; rw [if_neg hid] at h1; exact ⟨e', g', h1, h2, h3, h4⟩
    | normal => exact he
    | ret => exact he
    | _ => exact he
  | .loop x, n, Q, e, a, w, g, hc, hr, hn, h => by
    simp only [CP] at h
    simp only [chkCode] at hc
    obtain ⟨I, μ, h0, hI⟩ := h
    intro b k cs
    have key : ∀ m e' a' w' g', μ e' = m → I e' → REL C base e' a' w' g' → a'.tmps.size = C.n → ExtB base w g w' g' →
        ∃ ex a2 w2, EndsQ C base w g Q ex a2 w2 ∧ Arrives C.P (lone (b.at a' (.code x :: .inLoop x :: k)) cs w') b k cs ex a2 w2 := by
      intro m
      induction m using Nat.strongRecOn with
      | _ m ih =>
        intro e' a' w' g' hm hi hr' hn' hx
        obtain ⟨ex, a1, w1, hq, harr⟩ := CP_sound x n _ e' a' w' g' hc hr' hn' (hI e' hi) b (.inLoop x :: k) cs
        cases ex with
        | normal =>
          obtain ⟨e2, g2, ⟨h1, hlt⟩, h2, h3, h4⟩ := hq
          obtain ⟨e3, a3, w3, hq3, harr3⟩ := ih (μ (cleanAt W.head n e2)) (hm ▸ hlt) _ a1 w1 g2 rfl h1 (cleanAt_rel h2 _ _) h3 (hx.trans h4)
          exact ⟨e3, a3, w3, hq3, .of_steps (Steps.trans harr (.one step_inLoop)) harr3⟩
        | exit id =>
          obtain ⟨e2, g2, h1, h2, h3, h4⟩ := hq
          have hE : EndsQ C base w g Q (.exit id) a1 w1 := ⟨e2, g2, h1, h2, h3, hx.trans h4⟩
          exact ⟨_, a1, w1, hE, .pass (x := .inLoop x) rfl (fun _ _ => .inl (by simp)) harr⟩
        | ret =>
          obtain ⟨e2, g2, h1, h2, h3, h4⟩ := hq
          have hE : EndsQ C base w g Q .ret a1 w1 := ⟨e2, g2, h1, h2, h3, hx.trans h4⟩
          exact ⟨_, a1, w1, hE, .pass (x := .inLoop x) rfl (fun _ _ => .inl (by simp)) harr⟩
        | _ => exact hq.elim
    obtain ⟨ex, a2, w2, hq, harr⟩ := key _ _ a w g rfl h0 (cleanAt_rel hr _ _) hn (ExtB.refl _ _ _)
    exact ⟨ex, a2, w2, hq, .of_steps (.one step_loop) harr⟩
  | .rangeFunc .., _, _, _, _, _, _, _, _, _, h => by simp [CP] at h
  | .scope _, _, _, _, _, _, _, _, _, _, h => by simp [CP] at h
  | .goto _, _, _, _, _, _, _, _, _, _, h => by simp [CP] at h
  | .refuse _, _, _, _, _, _, _, _, _, _, h => by simp [CP] at h

end
end Go.Proofs.Ytielbjjdgdblcaa.Vm

/- Operands and the operations that only compute. -/
import Derived.Test.YtielbjjdgdblcaaVm4
namespace Go.Proofs.Ytielbjjdgdblcaa.Vm
open Go

section
variable {C : Ctx} {base : Nat} {e : En} {a : Act} {w : World} {g : Gh}

theorem cpv_sound {v : Value} {p : PV} (h : cpv v = some p) : VR w g p v := by
  cases v with
  | int k n => cases h; exact .int k n
  | bool b => cases h; exact .bool b
  | string s => cases h; exact .str s.data.toList
  | pointer x => cases x with
    | none => cases h; exact .nilptr
    | some _ => cases h
  | nilFunc => cases h; exact .nilfunc
  | _ => cases h

theorem nil_sound (z : Nat) : VR w g (.slice z []) (.slice none 0 0) :=
  .slice z [] none 0 (by simp) (by simp) (by simp) (by simp [flat]) (fun _ => .nilIface) (by simp) (by simp [flat])

theorem ev_sound (hr : REL C base e a w g) {ty : TypeId} {x : Operand} {p : PV} (h : ev C.P e ty x = some p) : VR w g p (a.eval x) := by
  unfold ev at h
  split at h
  · rename_i t
    split at h
    · rename_i q hq
      cases h
      exact (hr.t t _ hq).2
    · cases h
  · split at h
    · rename_i z _ _ _ _ _ _ _
      cases h
      exact nil_sound _
    · cases h
  · exact cpv_sound h
  · cases h
    exact .func _ [] [] [] [] rfl rfl (by simp) (by simp)
  · cases h

theorem evs_sound (hr : REL C base e a w g) : ∀ (l : List (TypeId × Operand)) (ps : List PV), evs C.P e l = some ps → VRL w g ps (l.map fun x => a.eval x.2)
  | [], ps, h => by cases h; exact ⟨rfl, by simp⟩
  | (t, x) :: r, ps, h => by
    simp only [evs] at h
    split at h
    · rename_i p q hp hq
      cases h
      have h1 := ev_sound hr hp
      have h2 := evs_sound hr r q hq
      refine ⟨by simp [h2.1], ?_⟩
      intro i p' u hp' hu
      cases i with
      | zero => simp at hp' hu; subst hp'; subst hu; exact h1
      | succ i => simp at hp' hu; exact h2.2 i p' u hp' (by simpa using hu)
    · cases h

/-- An operation that gives a value and leaves the memory alone. -/
def Gives (C : Ctx) (o : Oper) (e e' : En) (a : Act) (w : World) (g : Gh) : Prop :=
  ∃ v c, (execOp a.eval o).run C.P w = .ok (.value v) w ∧ e' = put o c e ∧ ClR C a w g c v

theorem gives_putv {o : Oper} {e' : En} {r : Option PV} (h : putv o e r = some e') {v : Value} (hv : (execOp a.eval o).run C.P w = .ok (.value v) w)
    (hr : ∀ p, r = some p → VR w g p v) : Gives C o e e' a w g := by
  cases r with
  | none => cases h
  | some p => cases h; exact ⟨v, .v p, hv, rfl, hr p rfl⟩

theorem vr_int {k : IntKind} {n : Int} {v : Value} (h : VR w g (.int k n) v) : v = .int k n := by cases h; rfl
theorem vr_bool {b : Bool} {v : Value} (h : VR w g (.bool b) v) : v = .bool b := by cases h; rfl
theorem vr_str {s : List UInt8} {v : Value} (h : VR w g (.str s) v) : v = .string ⟨s.toArray⟩ := by cases h; rfl

theorem g_move (hr : REL C base e a w g) {o : Oper} {x : Operand} {e' : En} (ho : o.op = .move x ∨ o.op = .assign x) (h : putv o e (ev C.P e o.type x) = some e') : Gives C o e e' a w g := by
  refine gives_putv h (v := a.eval x) ?_ (fun p hp => ev_sound hr hp)
  rcases ho with ho | ho <;> simp [execOp, ho]

theorem g_pick (hr : REL C base e a w g) {o : Oper} {c x y : Operand} {e' : En} (ho : o.op = .pick c x y) (h : stepO C o e = some e') : Gives C o e e' a w g := by
  simp only [stepO, ho] at h
  split at h
  · rename_i c' hc
    have hv := vr_bool (ev_sound hr hc)
    split at h
    · rename_i hc'
      subst hc'
      exact gives_putv h (v := a.eval x) (by simp [execOp, ho, hv, asBool]) (fun p hp => ev_sound hr hp)
    · rename_i hc'
      have : c' = false := by simpa using hc'
      subst this
      exact gives_putv h (v := a.eval y) (by simp [execOp, ho, hv, asBool]) (fun p hp => ev_sound hr hp)
  · cases h

theorem vr_ptr {p : Nat × Nat} {v : Value} (h : VR w g (.ptr (some p)) v) : ∃ ad, v = .pointer (some ad) ∧ ad.spot = none ∧ ad.off = p.2 ∧ g.io[p.1]? = some ad.block := by
  cases h with
  | ptr id off b hb => exact ⟨_, rfl, rfl, rfl, hb⟩

theorem vr_nilptr {v : Value} (h : VR w g (.ptr none) v) : v = .pointer none := by cases h; rfl
theorem vr_nilfunc {v : Value} (h : VR w g .nilfunc v) : v = .nilFunc := by cases h; rfl
theorem vr_func {f : FuncId} {fs cs : List PV} {v : Value} (h : VR w g (.func f fs cs) v) : ∃ vf vc, v = .func (.func f) vf vc ∧ VRL w g fs vf.toList ∧ VRL w g cs vc.toList := by
  cases h with
  | func f fs cs vf vc hlf hlc hf hc => exact ⟨_, _, rfl, ⟨by simpa using hlf, by simpa using hf⟩, ⟨by simpa using hlc, by simpa using hc⟩⟩
theorem vr_agg {cs : List PV} {v : Value} (h : VR w g (.agg cs) v) : ∃ vs, v = .agg vs ∧ VRL w g cs vs.toList := by
  cases h with
  | agg cs vs hl h => exact ⟨_, rfl, by simpa using hl, by simpa using h⟩
theorem vr_tup {cs : List PV} {v : Value} (h : VR w g (.tup cs) v) : ∃ vs, v = .tuple vs ∧ VRL w g cs vs.toList := by
  cases h with
  | tup cs vs hl h => exact ⟨_, rfl, by simpa using hl, by simpa using h⟩

theorem g_nilCheck (hr : REL C base e a w g) {o : Oper} {x : Operand} {e' : En} (ho : o.op = .nilCheck x) (h : stepO C o e = some e') : Gives C o e e' a w g := by
  simp only [stepO, ho] at h
  split at h
  · rename_i p hp
    have hv := ev_sound hr hp
    obtain ⟨ad, hv', _⟩ := vr_ptr hv
    exact gives_putv h (v := a.eval x) (by simp [execOp, ho, hv']) (fun q hq => by cases hq; exact hv)
  · cases h

theorem run_eq_bool (n : Nat) {P : Program} {t : TypeId} (h : P.underlying t = some .bool) (x y : Bool) : (Op.equalIn (n + 1) t (.bool x) (.bool y)).run P w = .ok (x == y) w := by
  simp [Op.equalIn, run_under h]

theorem run_eq_fn0 (n : Nat) {P : Program} {t : TypeId} {i o : Array TypeId} {v : Bool} (h : P.underlying t = some (.func i o v)) : (Op.equalIn (n + 1) t .nilFunc .nilFunc).run P w = .ok true w := by
  simp [Op.equalIn, run_under h]

theorem run_eq_fn1 (n : Nat) {P : Program} {t : TypeId} {i o : Array TypeId} {v : Bool} (h : P.underlying t = some (.func i o v)) (f : Fn) (x y : Array Value) : (Op.equalIn (n + 1) t .nilFunc (.func f x y)).run P w = .ok false w := by
  simp [Op.equalIn, run_under h]

theorem run_eq_fn2 (n : Nat) {P : Program} {t : TypeId} {i o : Array TypeId} {v : Bool} (h : P.underlying t = some (.func i o v)) (f : Fn) (x y : Array Value) : (Op.equalIn (n + 1) t (.func f x y) .nilFunc).run P w = .ok false w := by
  simp [Op.equalIn, run_under h]

theorem run_eq_ptr0 (n : Nat) {P : Program} {t e : TypeId} (h : P.underlying t = some (.pointer e)) (b : Option Addr) : (Op.equalIn (n + 1) t (.pointer none) (.pointer b)).run P w = .ok b.isNone w := by
  simp [Op.equalIn, run_under h]

theorem run_eq_ptr1 (n : Nat) {P : Program} {t e : TypeId} (h : P.underlying t = some (.pointer e)) (b : Addr) : (Op.equalIn (n + 1) t (.pointer (some b)) (.pointer none)).run P w = .ok false w := by
  simp [Op.equalIn, run_under h]

theorem part_one {P : Program} {t : TypeId} {d : TypeDesc} (h : P.underlying t = some d) (hd : d = .bool ∨ (∃ k, d = .int k) ∨ d = .string) {cs : Array Value} {off : Nat} {v : Value} (hv : cs[off]? = some v) :
    (part t cs off).run P w = .ok v w := by
  unfold part
  have hg : aggOf P t = false := by unfold aggOf; rw [h]; rcases hd with rfl | ⟨k, rfl⟩ | rfl <;> rfl
  rw [Sem.run_bind, run_isAgg h, hg]
  simp [hv]

theorem kdT_is {d : Option TypeDesc} {k : Nat} (h : kdT d = some k) : (d = some .bool ∧ k = 0) ∨ (∃ i, d = some (.int i) ∧ k = 1) ∨ (d = some .string ∧ k = 2) := by
  unfold kdT at h
  split at h <;> simp_all

theorem run_eqc {P : Program} {t : TypeId} {k : Nat} (hk : kdT (P.underlying t) = some k) {x y : PV} {r : Bool} (hq : eqc x y = some r)
    {u v : Value} (hu : VR w g x u) (hv : VR w g y v) (n : Nat) (hx : x.kd = k) :
    (Op.equalIn (n + 1) t u v).run P w = .ok r w := by
  rcases kdT_is hk with ⟨h, rfl⟩ | ⟨i, h, rfl⟩ | ⟨h, rfl⟩
  all_goals (unfold eqc at hq; split at hq <;> first | (simp [PV.kd] at hx; done) | (cases hq; done) | skip)
  · cases hu; cases hv; cases hq
    simp [Op.equalIn, run_under h]
  · split at hq
    · rename_i hk'
      subst hk'
      cases hu; cases hv; cases hq
      simp [Op.equalIn, run_under h]
    · cases hq
  · cases hu; cases hv; cases hq
    have : ∀ s1 s2 : List UInt8, ((⟨s1.toArray⟩ : ByteArray) == ⟨s2.toArray⟩) = (s1 == s2) := by
      intro s1 s2; show (s1.toArray == s2.toArray) = _; simp
    simp [Op.equalIn, run_under h, this]

def eqBody (n : Nat) (us vs : Array Value) (f : Field) (_ : Option Bool × Unit) : Sem (ForInStep (Option Bool × Unit)) :=
  if f.name ≠ "_" then do
    let x ← part f.type us f.offset
    let y ← part f.type vs f.offset
    let z ← Op.equalIn (n + 1) f.type x y
    if (!z) = true then pure (ForInStep.done (some false, ())) else pure (ForInStep.yield (none, ()))
  else pure (ForInStep.yield (none, ()))

theorem run_eq_fields {P : Program} {us vs : Array Value} (n : Nat) : ∀ (fs : List Field) (k : Nat) (ks : List Nat) (xs ys : List PV) (r : Bool), flatEq P k fs = some ks →
    xs.map PV.kd = ks → ys.map PV.kd = ks → eqcs xs ys = some r → (∀ (i : Nat) p v, xs[i]? = some p → us[k + i]? = some v → VR w g p v) → (∀ (i : Nat) p v, ys[i]? = some p → vs[k + i]? = some v → VR w g p v) →
    k + xs.length ≤ us.size → k + ys.length ≤ vs.size →
    (forIn fs ((none : Option Bool), ()) (eqBody n us vs)).run P w = .ok (if r then (none, ()) else (some false, ())) w
  | [], k, ks, xs, ys, r, hf, hx, hy, hq, _, _, _, _ => by
    cases hf
    have hx : xs = [] := by simpa using hx
    have hy : ys = [] := by simpa using hy
    subst hx; subst hy
    cases hq
    simp
  | f :: fs, k, ks, xs, ys, r, hf, hx, hy, hq, hu, hv, hlu, hlv => by
    simp only [flatEq] at hf
    split at hf
    · rename_i d l hd hl
      split at hf
      · rename_i hc
        cases hf
        cases xs with
        | nil => simp at hx
        | cons x xs =>
          cases ys with
          | nil => simp at hy
          | cons y ys =>
            simp only [List.map_cons, List.cons.injEq] at hx hy
            simp only [eqcs] at hq
            split at hq
            · rename_i r1 r2 h1 h2
              cases hq
              simp only [List.length_cons] at hlu hlv
              have hu0 := hu 0 x us[k] (by simp) (by simp)
              have hv0 := hv 0 y vs[k] (by simp) (by simp)
              have hdd : ∃ d', P.underlying f.type = some d' ∧ (d' = .bool ∨ (∃ k, d' = .int k) ∨ d' = .string) := by
                rcases kdT_is hd with ⟨h, _⟩ | ⟨i, h, _⟩ | ⟨h, _⟩
                · exact ⟨_, h, .inl rfl⟩
                · exact ⟨_, h, .inr (.inl ⟨i, rfl⟩)⟩
                · exact ⟨_, h, .inr (.inr rfl)⟩
              obtain ⟨d', hd', hd''⟩ := hdd
              have p1 := part_one (w := w) hd' hd'' (cs := us) (off := k) (v := us[k]) (by simp)
              have p2 := part_one (w := w) hd' hd'' (cs := vs) (off := k) (v := vs[k]) (by simp)
              have p3 := run_eqc hd h1 hu0 hv0 n hx.1
              have ih := run_eq_fields n fs (k + 1) l xs ys r2 hl hx.2 hy.2 h2 (fun i p v hp hv' => hu (i + 1) p v (by simpa using hp) (by rw [← hv']; congr 1; omega))
                (fun i p v hp hv' => hv (i + 1) p v (by simpa using hp) (by rw [← hv']; congr 1; omega)) (by omega) (by omega)
              rw [List.forIn_cons, Sem.run_bind]
              simp only [eqBody, hc.1, hc.2, ne_eq, not_false_eq_true, if_true, Sem.run_bind, p1, p2, p3, Result.andThen_ok]
              cases r1 with
              | false => simp
              | true =>
                simp only [Bool.not_true, Bool.false_eq_true, if_false, Sem.run_pure, Result.andThen_ok, Bool.true_and]
                exact ih
            · cases hq
      · cases hf
    · cases hf

theorem run_eq_struct {P : Program} {t : TypeId} {fs : Array Field} (h : P.underlying t = some (.struct fs)) {ks : List Nat} (hfl : flatEq P 0 fs.toList = some ks) (hs : P.stoodInHeld t = false)
    {xs ys : List PV} {us vs : Array Value} (hx : VRL w g xs us.toList) (hy : VRL w g ys vs.toList) (hkx : xs.map PV.kd = ks) (hky : ys.map PV.kd = ks) {r : Bool} (hq : eqcs xs ys = some r) (n : Nat) :
    (Op.equalIn (n + 2) t (.agg us) (.agg vs)).run P w = .ok r w := by
  unfold Op.equalIn
  rw [Sem.run_bind, run_under h]
  simp only [Result.andThen_ok, Sem.run_bind, run_program, hs, Bool.false_eq_true, if_false]
  simp only [← Array.forIn_toList]
  have := run_eq_fields (w := w) (g := g) (us := us) (vs := vs) n fs.toList 0 ks xs ys r hfl hkx hky hq (fun i p v hp hv => hx.2 i p v hp (by simpa using hv)) (fun i p v hp hv => hy.2 i p v hp (by simpa using hv))
    (by have := hx.1; simp at this; omega) (by have := hy.1; simp at this; omega)
  show ((forIn fs.toList ((none : Option Bool), ()) (eqBody n us vs)).run P w).andThen _ = _
  rw [this]
  cases r <;> simp

end
end Go.Proofs.Ytielbjjdgdblcaa.Vm

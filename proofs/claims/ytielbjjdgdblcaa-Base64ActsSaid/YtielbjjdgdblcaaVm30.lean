/- Rules for slices whose places are stored into; a function whose objects are its own. -/
import Derived.Test.YtielbjjdgdblcaaVm28
namespace Go.Proofs.Ytielbjjdgdblcaa.Vm
open Go

/-! ### Objects that nobody sees behind a call -/
mutual
/-- Do all pointers within lead to the first 'n' objects? -/
def low (n : Nat) : PV → Bool
  | .agg cs => lows n cs
  | .tup cs => lows n cs
  | .slice _ l => lows n l
  | .ptr (some (id, _)) => decide (id < n)
  | .os id _ _ => decide (id < n)
  | .func _ a b => lows n a && lows n b
  | _ => true
def lows (n : Nat) : List PV → Bool
  | [] => true
  | p :: r => low n p && lows n r
end

theorem lows_iff {n : Nat} : ∀ {l : List PV}, lows n l = true ↔ ∀ p ∈ l, low n p = true
  | [] => by simp [lows]
  | p :: r => by simp [lows, lows_iff (l := r)]
theorem low_cells {n : Nat} {p : PV} : low n p = lows n p.cells := by
  cases p with
  | agg cs => rfl
  | ptr x =>
    show low n (.ptr x) = (low n (.ptr x) && true)
    rw [Bool.and_true]
  | int k m => rfl
  | bool b => rfl
  | str s => rfl
  | tup cs =>
    show low n (.tup cs) = (low n (.tup cs) && true)
    rw [Bool.and_true]
  | slice z l =>
    show low n (.slice z l) = (low n (.slice z l) && true)
    rw [Bool.and_true]
  | os id off m =>
    show low n (.os id off m) = (low n (.os id off m) && true)
    rw [Bool.and_true]
  | func f a b =>
    show low n (.func f a b) = (low n (.func f a b) && true)
    rw [Bool.and_true]
  | nilfunc => rfl
  | opq => rfl
theorem low_bytes {n : Nat} (s : List UInt8) : low n (.slice 1 (s.map byteP)) = true := by
  simp only [low]
  rw [lows_iff]
  intro p hp
  obtain ⟨b, _, rfl⟩ := List.mem_map.1 hp
  rfl

theorem vr_low {w : World} {g : Gh} {p : PV} {v : Value} (h : VR w g p v) : low g.io.length p = true := by
  induction h with
  | agg cs vs hl h ih =>
    simp only [low]; rw [lows_iff]
    intro p hp
    obtain ⟨i, hi, rfl⟩ := List.getElem_of_mem hp
    exact ih i _ (vs[i]'(by omega)) (by simp [hi]) (by simp)
  | tup cs vs hl h ih =>
    simp only [low]; rw [lows_iff]
    intro p hp
    obtain ⟨i, hi, rfl⟩ := List.getElem_of_mem hp
    exact ih i _ (vs[i]'(by omega)) (by simp [hi]) (by simp)
  | slice z l a c hc hn hz h1 f hm hr ih =>
    simp only [low]; rw [lows_iff]
    intro e he
    rw [low_cells, lows_iff]
    intro p hp
    have : p ∈ flat l := List.mem_flatMap.2 ⟨e, he, hp⟩
    obtain ⟨i, hi, rfl⟩ := List.getElem_of_mem this
    exact ih i _ (by simp [hi])
  | ptr id off b h => simp only [low, decide_eq_true_eq]; exact (List.getElem?_eq_some_iff.1 h).1
  | os id off n b c h hc => simp only [low, decide_eq_true_eq]; exact (List.getElem?_eq_some_iff.1 h).1
  | func f fs cs vf vc hlf hlc hf hc ihf ihc =>
    simp only [low, Bool.and_eq_true]
    refine ⟨?_, ?_⟩
    · rw [lows_iff]
      intro p hp
      obtain ⟨i, hi, rfl⟩ := List.getElem_of_mem hp
      exact ihf i _ (vf[i]'(by omega)) (by simp [hi]) (by simp)
    · rw [lows_iff]
      intro p hp
      obtain ⟨i, hi, rfl⟩ := List.getElem_of_mem hp
      exact ihc i _ (vc[i]'(by omega)) (by simp [hi]) (by simp)
  | _ => rfl

theorem vr_trunc {w : World} {g : Gh} {n : Nat} {p : PV} {v : Value} (h : VR w g p v) : low n p = true → VR w ⟨g.D, g.io.take n⟩ p v := by
  induction h with
  | int k n => intro _; exact .int k n
  | bool b => intro _; exact .bool b
  | str s => intro _; exact .str s
  | agg cs vs hl h ih =>
    intro hlow
    simp only [low] at hlow; rw [lows_iff] at hlow
    exact .agg cs vs hl (fun i p v hp hv => ih i p v hp hv (hlow p (List.mem_of_getElem? hp)))
  | tup cs vs hl h ih =>
    intro hlow
    simp only [low] at hlow; rw [lows_iff] at hlow
    exact .tup cs vs hl (fun i p v hp hv => ih i p v hp hv (hlow p (List.mem_of_getElem? hp)))
  | slice z l a c hc hn hz h1 f hm hr ih =>
    intro hlow
    simp only [low] at hlow; rw [lows_iff] at hlow
    refine .slice z l a c hc hn hz h1 f hm (fun k p hp => ih k p hp ?_)
    obtain ⟨e, he, hpe⟩ := List.mem_flatMap.1 (List.mem_of_getElem? hp)
    have := hlow e he
    rw [low_cells, lows_iff] at this
    exact this p hpe
  | nilptr => intro _; exact .nilptr
  | ptr id off b h =>
    intro hlow
    simp only [low, decide_eq_true_eq] at hlow
    exact .ptr id off b (by show (g.io.take n)[id]? = some b; rw [List.getElem?_take, if_pos hlow]; exact h)
  | os id off m b c h hc =>
    intro hlow
    simp only [low, decide_eq_true_eq] at hlow
    exact .os id off m b c (by show (g.io.take n)[id]? = some b; rw [List.getElem?_take, if_pos hlow]; exact h) hc
  | func f fs cs vf vc hlf hlc hf hc ihf ihc =>
    intro hlow
    simp only [low, Bool.and_eq_true] at hlow
    obtain ⟨h1, h2⟩ := hlow
    rw [lows_iff] at h1 h2
    exact .func f fs cs vf vc hlf hlc (fun i p v hp hv => ihf i p v hp hv (h1 p (List.mem_of_getElem? hp))) (fun i p v hp hv => ihc i p v hp hv (h2 p (List.mem_of_getElem? hp)))
  | nilfunc => intro _; exact .nilfunc
  | opq v h => intro _; exact .opq v h

/-- How a walk ends where objects were made that nobody sees behind the call. -/
def endT (C : Ctx) (rs : List ResultVar) (fr : List (Nat × Nat)) (r : PV) (H : List HObj) : Ex → En → Prop
  | .exit _, _ => False
  | _, e => resP C e rs = some r ∧ (∃ X, e.H = H ++ X) ∧ frOK C rs e fr = true ∧ low H.length r = true

section
variable {C : Ctx} {W : Wk}

theorem Appv.trunc {w : World} {g : Gh} {base z n : Nat} {v : Value} (ha : Appv w g base z v) : Appv w ⟨g.D, g.io.take n⟩ base z v := by
  unfold Appv at *
  split at ha
  · rcases ha with ha | ⟨k1, k2, k3⟩
    · exact .inl ha
    · exact .inr ⟨k1, fun h => k2 (List.mem_of_mem_take h), k3⟩
  · trivial

/-- From the code to the call. -/
theorem run_of_bodyT {f : FuncId} {fn : Func} {c : Code} (hf : C.P.funcs[f]? = some fn) (hb : fn.body = some c) {args : List PV} {H : List HObj} {r : PV} (hc : chkFn C fn args.length = true)
    (h : CP C W 0 c (endT C fn.results.toList (C.fr f) r H) (initE args H)) : Run C.P C.fr f args H r H := by
  simp only [chkFn, hb, Bool.and_eq_true, beq_iff_eq, decide_eq_true_eq, List.all_eq_true, Bool.not_eq_true'] at hc
  obtain ⟨⟨⟨⟨⟨h1, h2⟩, h3⟩, h4⟩, h5⟩, h6⟩ := hc
  refine ⟨⟨fn, hf, by rw [hb]; rfl, h3⟩, ?_⟩
  intro w g vs hg hv
  refine calls_of_wp hf hb ?_
  have hsz : (vs.toArray ++ Array.replicate (fn.ntmps - vs.toArray.size) undef).size = C.n := by
    have := hv.1
    simp; omega
  refine wp_mono (CP_sound (base := w.heap.size) c 0 _ _ _ w g h1 (init_rel hg hv h5 _) hsz h) ?_
  have key : ∀ e' a' w' g', endT C fn.results.toList (C.fr f) r H .norm e' → REL C w.heap.size e' a' w' g' → ExtB w.heap.size w g w' g' →
      a'.defers = [] ∧ ∃ v, (results fn a'.tmps).run C.P w' = .ok v w' ∧ ∃ v2 g', Ending.returned v = .returned v2 ∧ VR w' g' r v2 ∧ Good w' g' H ∧ Ext w g w' g' ∧ FreshRes w' g' w.heap.size (C.fr f) r v2 := by
    rintro e' a' w' g' ⟨q1, ⟨X, q2⟩, q3, q4⟩ hr hx
    obtain ⟨v, k1, k2, k3⟩ := resP_sound hr q1 h6 q3
    obtain ⟨n, hn, hn'⟩ := hx.io
    have hlen : g.io.length = H.length := hg.len
    have htk : g'.io.take H.length = g.io := by rw [hn, ← hlen]; simp
    have hgood := hr.good
    rw [q2] at hgood
    refine ⟨hr.defers, v, k1, v, ⟨g'.D, g'.io.take H.length⟩, rfl, vr_trunc k2 q4, ?_, ⟨hx.os, hx.tape, hx.output, hx.size, hx.block, hx.D, hx.Dle, [], by rw [htk]; simp, by simp⟩, ?_⟩
    · refine ⟨hgood.fresh, by rw [htk]; exact hlen, ?_, ?_⟩
      · intro i j b hi hj
        rw [htk] at hi hj
        exact hg.nodup i j b hi hj
      · intro i b ob hi ho
        simp only at hi
        rw [htk] at hi
        have hilt : i < H.length := (List.getElem?_eq_some_iff.1 ho).1
        have hi' : g'.io[i]? = some b := by rw [hn, List.getElem?_append_left (by omega)]; exact hi
        have ho' : (H ++ X)[i]? = some ob := by rw [List.getElem?_append_left hilt]; exact ho
        obtain ⟨m1, m2⟩ := hgood.obj i b ob hi' ho'
        refine ⟨m1, m2.1, ?_⟩
        obtain ⟨_, cs, el, fz, p1, p2, p3, p4⟩ := m2
        refine ⟨cs, el, fz, p1, p2, p3, fun j q u hq hu => vr_trunc (p4 j q u hq hu) ?_⟩
        obtain ⟨_, cs0, _, _, _, _, r3, r4⟩ := (hg.obj i b ob hi ho).2
        have hj : j < ob.cells.length := (List.getElem?_eq_some_iff.1 hq).1
        have hj2 : j < cs0.toList.length := by omega
        have := vr_low (r4 j q cs0.toList[j] hq (by simp))
        rw [hlen] at this
        exact this
    · exact ⟨fun l hl z s u p1 p2 => (k3.app l hl z s u p1 p2).trunc, k3.uniq⟩
  intro ex a' w' he
  cases ex with
  | normal => obtain ⟨e', g', q, hr, _, hx⟩ := he; exact key e' a' w' g' q hr hx
  | ret => obtain ⟨e', g', q, hr, _, hx⟩ := he; exact key e' a' w' g' q hr hx
  | exit id => obtain ⟨e', g', q, _⟩ := he; exact q.elim
  | _ => exact he.elim

/-! ### Rules -/
variable {ops : Array Oper} {Q : En → Prop} {o : Oper} {tr : Bool} {r : List (Oper × Bool)} {t : List (Nat × Cl)} {bx : List (Nat × PV)} {H : List HObj} {F F' : List (Nat × Nat × Nat)} {d : Nat}

theorem f0' {e : En} (h : C.own = false) : defF C o e = [] := by simp only [defF, h, if_true]
theorem p_x {e e' : En} (hg : wantedP ops o e = some true) (hc : callOf C o e = none) (hs : StepX C o e e') (h : opsP C ops r Q e') : opsP C ops ((o, tr) :: r) Q e := by
  refine ⟨e, .refl e, true, hg, ?_⟩
  rw [if_pos rfl, hc]
  exact ⟨e', .inr hs, h⟩
/-- A new slice, to be stored into. -/
theorem p_mk {w n : Nat} {l : List PV} (hd : o.dst = some d) (hm : isMk o.op = true) (hg : wantedP ops o ⟨t, bx, H, F⟩ = some true) (hc : callOf C o ⟨t, bx, H, F⟩ = none) (hs : stepO C o ⟨t, bx, H, F⟩ = some ⟨(d, .v (.slice w l)) :: t, bx, H, F⟩)
    (hn : l.length = n) (hF : defF C o ⟨t, bx, H, F⟩ = F') (h : opsP C ops r Q ⟨(d, .v (.os H.length 0 n)) :: t, bx, H ++ [⟨0, flat l⟩], F'⟩) : opsP C ops ((o, tr) :: r) Q ⟨t, bx, H, F⟩ := by
  subst hF; subst hn
  exact p_x hg hc (.mk (w := w) hm hd (by rw [hs]; simp [put, hd])) h
theorem p_xlen {args : Array Operand} {tys : Array TypeId} {x : Operand} {ty : TypeId} {id off n a1 a2 a4 z1 : Nat} {a3 z2 : Bool} {z3 : Option PV} {z4 : Option (List Nat)} (hd : o.dst = some d) (hg : wantedP ops o ⟨t, bx, H, F⟩ = some true) (hc : callOf C o ⟨t, bx, H, F⟩ = none)
    (ho : o.op = .call { callee := .builtin .len, args, argTypes := tys }) (h1 : args[0]? = some x) (h2 : tys[0]? = some ty) (hT : tyOf C.P ty = some ⟨.slice a1 a2 a3 a4, z1, z2, z3, z4⟩) (hx : ev C.P ⟨t, bx, H, F⟩ ty x = some (.os id off n))
    (hF : defF C o ⟨t, bx, H, F⟩ = F') (h : opsP C ops r Q ⟨(d, .v (.int .i64 n)) :: t, bx, H, F'⟩) : opsP C ops ((o, tr) :: r) Q ⟨t, bx, H, F⟩ := by
  subst hF
  refine p_x hg hc (.len ho h1 h2 hT rfl hx) ?_
  simp only [put, hd]
  exact h
theorem p_xaddr {x ix : Operand} {ty : TypeId} {id off n el w a4 z1 : Nat} {a3 z2 : Bool} {z3 : Option PV} {z4 : Option (List Nat)} {k : IntKind} {i : Int} (hd : o.dst = some d) (hg : wantedP ops o ⟨t, bx, H, F⟩ = some true) (hc : callOf C o ⟨t, bx, H, F⟩ = none)
    (ho : o.op = .indexAddr ty x ix) (hT : tyOf C.P ty = some ⟨.slice el w a3 a4, z1, z2, z3, z4⟩) (hi : ev C.P ⟨t, bx, H, F⟩ 0 ix = some (.int k i)) (hx : ev C.P ⟨t, bx, H, F⟩ ty x = some (.os id off n)) (h0 : 0 ≤ i ∧ i < n)
    (hF : defF C o ⟨t, bx, H, F⟩ = F') (h : opsP C ops r Q ⟨(d, .v (.ptr (some (id, off + i.toNat * w)))) :: t, bx, H, F'⟩) : opsP C ops ((o, tr) :: r) Q ⟨t, bx, H, F⟩ := by
  subst hF
  refine p_x hg hc (.addr ho hT rfl hi hx h0) ?_
  simp only [put, hd]
  exact h
theorem p_xsub {x : Operand} {lo hi : Option Operand} {lo' hi' : Option PV} {ty : TypeId} {id off n el w a4 l h z1 : Nat} {a3 z2 : Bool} {z3 : Option PV} {z4 : Option (List Nat)} (hd : o.dst = some d) (hg : wantedP ops o ⟨t, bx, H, F⟩ = some true) (hc : callOf C o ⟨t, bx, H, F⟩ = none)
    (ho : o.op = .slice ty x lo hi none) (hT : tyOf C.P ty = some ⟨.slice el w a3 a4, z1, z2, z3, z4⟩) (hx : ev C.P ⟨t, bx, H, F⟩ ty x = some (.os id off n)) (hl : evO C.P ⟨t, bx, H, F⟩ lo = some lo') (hh : evO C.P ⟨t, bx, H, F⟩ hi = some hi')
    (hb : bounds n n lo' hi' = some (l, h)) (h0 : l = 0 ∨ l < n)
    (hF : defF C o ⟨t, bx, H, F⟩ = F') (h : opsP C ops r Q ⟨(d, .v (.os id (off + l * w) (h - l))) :: t, bx, H, F'⟩) : opsP C ops ((o, tr) :: r) Q ⟨t, bx, H, F⟩ := by
  subst hF
  refine p_x hg hc (.sub ho hT rfl hx hl hh hb h0) ?_
  simp only [put, hd]
  exact h
theorem p_xstr {s ds el : TypeId} {x : Operand} {id off n a2 a4 z1 y1 x1 : Nat} {a3 z2 y2 x2 : Bool} {z3 y3 x3 : Option PV} {z4 y4 x4 : Option (List Nat)} {ob : HObj} {bs : List UInt8} (hd : o.dst = some d) (hg : wantedP ops o ⟨t, bx, H, F⟩ = some true) (hc : callOf C o ⟨t, bx, H, F⟩ = none)
    (ho : o.op = .convert s ds x) (h1 : tyOf C.P s = some ⟨.slice el a2 a3 a4, z1, z2, z3, z4⟩) (h2 : tyOf C.P ds = some ⟨.str, y1, y2, y3, y4⟩) (h3 : tyOf C.P el = some ⟨.int .u8, x1, x2, x3, x4⟩) (hx : ev C.P ⟨t, bx, H, F⟩ s x = some (.os id off n))
    (hob : H[id]? = some ob) (hle : off + n ≤ ob.cells.length) (hu : unbytes ((ob.cells.drop off).take n) = some bs)
    (hF : defF C o ⟨t, bx, H, F⟩ = F') (h : opsP C ops r Q ⟨(d, .v (.str bs)) :: t, bx, H, F'⟩) : opsP C ops ((o, tr) :: r) Q ⟨t, bx, H, F⟩ := by
  subst hF
  refine p_x hg hc (.str ho h1 rfl h2 rfl h3 rfl hx hob hle hu) ?_
  simp only [put, hd]
  exact h
/-- It becomes a value. -/
theorem p_frz {l : List PV} {L : List (Oper × Bool)} (d z : Nat) (g : Bool) {id off n : Nat} {ob : HObj} (h1 : lkp t d = some (.v (.os id off n))) (h2 : H[id]? = some ob) (h3 : off + n * z ≤ ob.cells.length) (h4 : chunks g z n (ob.cells.drop off) = some l)
    (hF : (if C.own = false then [] else rmF d F) = F') (h : opsP C ops L Q ⟨(d, .v (.slice z l)) :: t, bx, H.set id ⟨ob.ty, []⟩, F'⟩) : opsP C ops L Q ⟨t, bx, H, F⟩ := by
  subst hF
  exact p_gst (.frz d z g h1 h2 h3 h4 (.refl _)) h
theorem chunks_map {α : Type} (f : α → PV) : ∀ (l : List α) (r : List PV), chunks false 1 l.length (l.map f ++ r) = some (l.map f)
  | [], r => rfl
  | a :: l, r => by
    have ih := chunks_map f l r
    show (match mkv false 1 [f a], chunks false 1 l.length (l.map f ++ r) with | some p, some ps => some (p :: ps) | _, _ => none) = some (f a :: l.map f)
    rw [ih]
    rfl
end
end Go.Proofs.Ytielbjjdgdblcaa.Vm

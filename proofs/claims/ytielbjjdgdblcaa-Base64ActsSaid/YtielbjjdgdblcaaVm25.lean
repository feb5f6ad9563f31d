/- Rules for regions in any order, for variables in memory. -/
import Derived.Test.YtielbjjdgdblcaaVm21
namespace Go.Proofs.Ytielbjjdgdblcaa.Vm
open Go
section
variable {C : Ctx} {W : Wk} {ops : Array Oper} {Q : En → Prop} {e e' : En} {K : Ex → En → Prop} {n : Nat}
variable {o : Oper} {tr : Bool} {r : List It} {t : List (Nat × Cl)} {bx : List (Nat × PV)} {H : List HObj} {F F' : List (Nat × Nat × Nat)} {d : Nat} {b : Bool} {Kf : List Nat} {c : Cl}

theorem c_draw {id : Nat} {l : List It} (Kf ac : List Nat) (hm : C.P.follows .mixedOrders = true) (ho : ordB ops (itemsOf ac ((lkp W.tr id).getD []) 0 ops.toList) = true) (hl : (lkp W.live id).isSome = true)
    (ha : (itemsOf ac ((lkp W.tr id).getD []) 0 ops.toList).map (·.2) = l) (h : opsD C ops Kf l (atEnd W id K) e) : CP C W n (.region id ops true) K e := by
  subst ha
  simp only [CP, if_true]
  exact ⟨Kf, ac, hm, ho, hl, h⟩

theorem d_nil (h : Q e) : opsD C ops Kf [] Q e := h

def keysIn (Kf : List Nat) (F : List (Nat × Nat × Nat)) : Bool := F.all fun l => Kf.contains l.1
theorem keysIn_spec (h : keysIn Kf F = true) : ∀ l ∈ F, l.1 ∈ Kf := by
  intro l hl
  simp only [keysIn, List.all_eq_true] at h
  simpa using h l hl

/-- A value that leaves alone who may append. -/
theorem d_in (hd : o.dst = some d) (hv : isVal o.op = true) (hg : wantedP ops o ⟨t, bx, H, F⟩ = some true) (hc : callOf C o ⟨t, bx, H, F⟩ = none) (hs : stepO C o ⟨t, bx, H, F⟩ = some ⟨(d, c) :: t, bx, H, F⟩)
    (hf : ∀ t F, (∀ l ∈ (if C.own = false then [] else rmF d F), l ∈ fnext C tr o ⟨t, bx, H, F⟩) ∧ appOk C o ⟨t, bx, H, F⟩ = true) (hk : keysIn Kf F = true) (hn : Kf.contains d = false) (ho : C.own = true ∨ F = [])
    (h : opsD C ops Kf r Q ⟨(d, c) :: t, bx, H, F⟩) : opsD C ops Kf (⟨o, tr, false⟩ :: r) Q ⟨t, bx, H, F⟩ := by
  refine ⟨d, c, F, ⟨hd, hv, ⟨true, hg, by simp, fun _ => .inl ⟨hc, (hf t F).2, hs⟩, by simp⟩, ?_, fun _ => ⟨rfl, by simpa using hn, hf⟩, by simp, keysIn_spec hk, keysIn_spec hk⟩, h⟩
  intro q
  rcases ho with ho | ho
  · rw [ho] at q; cases q
  · exact ho

/-- The same, if wanted. -/
theorem d_gin (hd : o.dst = some d) (hv : isVal o.op = true) (hg : wantedP ops o ⟨t, bx, H, F⟩ = some b) (hs : b = true → callOf C o ⟨t, bx, H, F⟩ = none ∧ stepO C o ⟨t, bx, H, F⟩ = some ⟨(d, c) :: t, bx, H, F⟩)
    (hf : ∀ t F, (∀ l ∈ (if C.own = false then [] else rmF d F), l ∈ fnext C tr o ⟨t, bx, H, F⟩) ∧ appOk C o ⟨t, bx, H, F⟩ = true) (hk : keysIn Kf F = true) (hn : Kf.contains d = false) (ho : C.own = true ∨ F = [])
    (h : opsD C ops Kf r Q ⟨(d, gv b c) :: t, bx, H, F⟩) : opsD C ops Kf (⟨o, tr, false⟩ :: r) Q ⟨t, bx, H, F⟩ := by
  refine ⟨d, gv b c, F, ⟨hd, hv, ⟨b, hg, fun hb => by rw [hb]; rfl, fun hb => .inl ⟨(hs hb).1, (hf t F).2, by rw [gv_true hb]; exact (hs hb).2⟩, by simp⟩, ?_, fun _ => ⟨rfl, by simpa using hn, hf⟩, by simp, keysIn_spec hk, keysIn_spec hk⟩, h⟩
  intro q
  rcases ho with ho | ho
  · rw [ho] at q; cases q
  · exact ho

/-- A call. -/
theorem d_go {f : FuncId} {args : List PV} {x : PV} (hd : o.dst = some d) (hv : isVal o.op = true) (hg : wantedP ops o ⟨t, bx, H, F⟩ = some true) (hc : callOf C o ⟨t, bx, H, F⟩ = some (f, args)) (hs : Run C.P C.fr f args H x H)
    (hf : ∀ t F, (∀ l ∈ (if C.own = false then [] else rmF d F), l ∈ fnext C tr o ⟨t, bx, H, F⟩) ∧ appOk C o ⟨t, bx, H, F⟩ = true) (hk : keysIn Kf F = true) (hn : Kf.contains d = false) (ho : C.own = true ∨ F = [])
    (h : opsD C ops Kf r Q ⟨(d, .v x) :: t, bx, H, F⟩) : opsD C ops Kf (⟨o, tr, false⟩ :: r) Q ⟨t, bx, H, F⟩ := by
  refine ⟨d, .v x, F, ⟨hd, hv, ⟨true, hg, by simp, fun _ => .inr ⟨f, args, x, hc, hs, rfl⟩, by simp⟩, ?_, fun _ => ⟨rfl, by simpa using hn, hf⟩, by simp, keysIn_spec hk, keysIn_spec hk⟩, h⟩
  intro q
  rcases ho with ho | ho
  · rw [ho] at q; cases q
  · exact ho

/-- A value with the right to append. -/
theorem d_on (hd : o.dst = some d) (hv : isVal o.op = true) (hg : wantedP ops o ⟨t, bx, H, F⟩ = some true) (hc : callOf C o ⟨t, bx, H, F⟩ = none) (ha : appOk C o ⟨t, bx, H, F⟩ = true) (hs : stepO C o ⟨t, bx, H, F⟩ = some ⟨(d, c) :: t, bx, H, F⟩)
    (hF : fnext C tr o ⟨t, bx, H, F⟩ = F') (hk : keysIn Kf F = true) (hk' : keysIn Kf F' = true) (ho : C.own = true)
    (h : opsD C ops Kf r Q ⟨(d, c) :: t, bx, H, F'⟩) : opsD C ops Kf (⟨o, tr, true⟩ :: r) Q ⟨t, bx, H, F⟩ :=
  ⟨d, c, F', ⟨hd, hv, ⟨true, hg, (fun h => by cases h), (fun _ => .inl ⟨hc, ha, hs⟩), (fun _ => rfl)⟩, (fun q => by rw [ho] at q; cases q), (fun q => by cases q), (fun _ => hF.symm), keysIn_spec hk, keysIn_spec hk'⟩, h⟩

theorem c_loopH {x : Code} {ls : List Nat} {t' : List (Nat × Cl)} {bx' : List (Nat × PV)} (I : En → Prop) (μ : En → Nat) (hl : lkp W.head n = some ls)
    (ht : (ls.filterMap fun s => (lkp t s).map fun c => (s, c)) = t') (hb : (bx.filter fun x => ls.contains x.1) = bx') (hF : (ls.flatMap fun s => F.filter fun l => l.1 == s) = F') (h0 : I ⟨t', bx', H, F'⟩)
    (h : ∀ e, I e → CP C W n x (loopQ W n I (fun e' => μ e' < μ e) K) e) : CP C W n (.loop x) K ⟨t, bx, H, F⟩ := c_loop I μ (l_head hl ht hb hF h0) h
theorem l_normH {ls : List Nat} {t' : List (Nat × Cl)} {bx' : List (Nat × PV)} {I m : En → Prop} (hl : lkp W.head n = some ls)
    (ht : (ls.filterMap fun s => (lkp t s).map fun c => (s, c)) = t') (hb : (bx.filter fun x => ls.contains x.1) = bx') (hF : (ls.flatMap fun s => F.filter fun l => l.1 == s) = F') (h0 : I ⟨t', bx', H, F'⟩) (h1 : m ⟨t', bx', H, F'⟩) :
    loopQ W n I m K .norm ⟨t, bx, H, F⟩ := l_norm (l_head hl ht hb hF h0) (l_head hl ht hb hF h1)

/-! ### Variables in memory -/
section steps
variable {x y : Operand} {ty : TypeId} {T : Ty} {p : PV}
theorem s_alloc {D : TD} {z1 : Nat} {z2 : Bool} {z4 : Option (List Nat)} (ho : o.op = .alloc ty) (hd : o.dst = some d) (hT : tyOf C.P ty = some ⟨D, z1, z2, some p, z4⟩) (hb : C.box.contains d = true) (hn : noLoc d t = true) (h1 : (p.cells.all PV.one) = true) :
    stepO C o ⟨t, bx, H, F⟩ = some ⟨t, setb bx d p, H, F⟩ := by
  have hb' : d ∈ C.box := by simpa using hb
  have h1' : ∀ c ∈ p.cells, c.one = true := by simpa using h1
  simp only [stepO, ho, hT, newVar, hd, if_pos hb']
  rw [if_pos ⟨hn, h1'⟩]
theorem s_boxed (ho : o.op = .box ty x) (hd : o.dst = some d) (hT : tyOf C.P ty = some T) (hx : ev C.P ⟨t, bx, H, F⟩ ty x = some p) (hs : p.cells.length = T.size ∧ p.isAgg = T.agg) (hb : C.box.contains d = true) (hn : noLoc d t = true) (h1 : ∀ c ∈ p.cells, c.one = true) :
    stepO C o ⟨t, bx, H, F⟩ = some ⟨t, setb bx d p, H, F⟩ := by
  have hb' : d ∈ C.box := by simpa using hb
  simp only [stepO, ho, hT, hx, newVar, hd, if_pos hb', if_pos hs]
  rw [if_pos ⟨hn, h1⟩]
theorem s_store {s off : Nat} {old : PV} (ho : o.op = .store ty y x) (hT : tyOf C.P ty = some T) (hA : adr ⟨t, bx, H, F⟩ y = some (.loc s off)) (hx : ev C.P ⟨t, bx, H, F⟩ ty x = some p) (hold : lkp bx s = some old)
    (hs : p.cells.length = T.size ∧ (∀ c ∈ p.cells, c.one = true) ∧ off + T.size ≤ old.cells.length) :
    stepO C o ⟨t, bx, H, F⟩ = some ⟨t, setb bx s (remk old (splice old.cells off p.cells)), H, F⟩ := by
  simp only [stepO, ho, hT, hA, hx, storeA, hold]
  rw [if_pos hs]
theorem s_storeH {id off : Nat} {ob : HObj} (ho : o.op = .store ty y x) (hT : tyOf C.P ty = some T) (hA : adr ⟨t, bx, H, F⟩ y = some (.heap id off)) (hx : ev C.P ⟨t, bx, H, F⟩ ty x = some p) (hold : H[id]? = some ob)
    (hs : p.cells.length = T.size ∧ (∀ c ∈ p.cells, c.one = true) ∧ off + T.size ≤ ob.cells.length ∧ 0 < T.size) :
    stepO C o ⟨t, bx, H, F⟩ = some ⟨t, bx, H.set id { ob with cells := splice ob.cells off p.cells }, F⟩ := by
  simp only [stepO, ho, hT, hA, hx, storeA, hold]
  rw [if_pos hs]
/-- The address of an element of an array variable. -/
theorem s_loadH {id off : Nat} {ob : HObj} (ho : o.op = .load ty x) (hd : o.dst = some d) (hT : tyOf C.P ty = some T) (hA : adr ⟨t, bx, H, F⟩ x = some (.heap id off)) (hold : H[id]? = some ob) (hp : mkv T.agg T.size ((ob.cells.drop off).take T.size) = some p) :
    stepO C o ⟨t, bx, H, F⟩ = some ⟨(d, .v p) :: t, bx, H, F⟩ := by
  simp only [stepO, ho, hT, hA, loadA, hold, hp, putv, put, hd, Option.map_some]
theorem s_place {ix : Operand} {k : IntKind} {i : Int} {m el w s b' z1 : Nat} {g z2 : Bool} {z3 : Option PV} {z4 : Option (List Nat)} (ho : o.op = .indexAddr ty x ix) (hd : o.dst = some d)
    (hT : tyOf C.P ty = some ⟨.arr m el w g, z1, z2, z3, z4⟩) (hi : ev C.P ⟨t, bx, H, F⟩ 0 ix = some (.int k i)) (hA : adr ⟨t, bx, H, F⟩ x = some (.loc s b')) (h0 : (0 ≤ i ∧ i < m) ∧ 0 < w) :
    stepO C o ⟨t, bx, H, F⟩ = some ⟨(d, .loc s (b' + i.toNat * w)) :: t, bx, H, F⟩ := by
  simp only [stepO, ho, hT, hi, hA, put, hd]
  rw [if_pos h0]
theorem s_fieldL {i off m s b' z1 : Nat} {fs : List (Nat × Nat × Nat × Bool)} {fty : Nat} {g z2 : Bool} {z3 : Option PV} {z4 : Option (List Nat)} (ho : o.op = .fieldAddr ty x i) (hd : o.dst = some d)
    (hT : tyOf C.P ty = some ⟨.struct fs, z1, z2, z3, z4⟩) (hA : adr ⟨t, bx, H, F⟩ x = some (.loc s b')) (hf : fs[i]? = some (fty, off, m, g)) (hm : (m == 0) = false) :
    stepO C o ⟨t, bx, H, F⟩ = some ⟨(d, .loc s (b' + off)) :: t, bx, H, F⟩ := by
  have : m ≠ 0 := by simpa using hm
  simp only [stepO, ho, hT, hA, hf, put, hd, if_neg this]
theorem s_fieldE {i off m z1 : Nat} {cs : List PV} {fs : List (Nat × Nat × Nat × Bool)} {fty : Nat} {g z2 : Bool} {z3 : Option PV} {z4 : Option (List Nat)} (ho : o.op = .fieldAddr ty x i) (hd : o.dst = some d)
    (hT : tyOf C.P ty = some ⟨.struct fs, z1, z2, z3, z4⟩) (hA : adr ⟨t, bx, H, F⟩ x = some (.elem cs)) (hf : fs[i]? = some (fty, off, m, g)) (hm : (m == 0) = false) :
    stepO C o ⟨t, bx, H, F⟩ = some ⟨(d, .elem (cs.drop off)) :: t, bx, H, F⟩ := by
  have : m ≠ 0 := by simpa using hm
  simp only [stepO, ho, hT, hA, hf, put, hd, if_neg this]
theorem s_fieldH {i off m id b' z1 : Nat} {fs : List (Nat × Nat × Nat × Bool)} {fty : Nat} {g z2 : Bool} {z3 : Option PV} {z4 : Option (List Nat)} (ho : o.op = .fieldAddr ty x i) (hd : o.dst = some d)
    (hT : tyOf C.P ty = some ⟨.struct fs, z1, z2, z3, z4⟩) (hA : adr ⟨t, bx, H, F⟩ x = some (.heap id b')) (hf : fs[i]? = some (fty, off, m, g)) (hm : (m == 0) = false) :
    stepO C o ⟨t, bx, H, F⟩ = some ⟨(d, .v (.ptr (some (id, b' + off)))) :: t, bx, H, F⟩ := by
  have : m ≠ 0 := by simpa using hm
  simp only [stepO, ho, hT, hA, hf, put, hd, if_neg this]
theorem s_field {i off m z1 : Nat} {cs : List PV} {fs : List (Nat × Nat × Nat × Bool)} {fty : Nat} {g z2 : Bool} {z3 : Option PV} {z4 : Option (List Nat)} (ho : o.op = .field ty x i) (hd : o.dst = some d)
    (hT : tyOf C.P ty = some ⟨.struct fs, z1, z2, z3, z4⟩) (hx : ev C.P ⟨t, bx, H, F⟩ ty x = some (.agg cs)) (hf : fs[i]? = some (fty, off, m, g)) (hm : off + m ≤ cs.length) (hp : mkv g m ((cs.drop off).take m) = some p) :
    stepO C o ⟨t, bx, H, F⟩ = some ⟨(d, .v p) :: t, bx, H, F⟩ := by
  simp only [stepO, ho, hT, hx, hf, hp, putv, put, hd, if_pos hm, Option.map_some]
theorem s_buildS {ps : Array (Nat × Operand)} {fs : List (Nat × Nat × Nat × Bool)} {z1 : Nat} {z2 : Bool} {z : PV} {z4 : Option (List Nat)} {qs : List (Nat × PV)} {cs : List PV} (ho : o.op = .build ty ps) (hd : o.dst = some d)
    (hT : tyOf C.P ty = some ⟨.struct fs, z1, z2, some z, z4⟩) (hq : evParts C.P ⟨t, bx, H, F⟩ (fun i => (fs[i]?).map (·.1)) ps.toList = some qs) (hf : fillP (fun i => (fs[i]?).map fun f => (f.2.1, f.2.2.1)) z.cells qs = some cs) :
    stepO C o ⟨t, bx, H, F⟩ = some ⟨(d, .v (.agg cs)) :: t, bx, H, F⟩ := by
  simp only [stepO, ho, hT, hq, hf, putv, put, hd, Option.map_some]
theorem s_buildA {ps : Array (Nat × Operand)} {m el w z1 : Nat} {g z2 : Bool} {z : PV} {z4 : Option (List Nat)} {qs : List (Nat × PV)} {cs : List PV} (ho : o.op = .build ty ps) (hd : o.dst = some d)
    (hT : tyOf C.P ty = some ⟨.arr m el w g, z1, z2, some z, z4⟩) (hq : evParts C.P ⟨t, bx, H, F⟩ (fun _ => some el) ps.toList = some qs) (hf : fillP (fun i => some (i * w, w)) z.cells qs = some cs) :
    stepO C o ⟨t, bx, H, F⟩ = some ⟨(d, .v (.agg cs)) :: t, bx, H, F⟩ := by
  simp only [stepO, ho, hT, hq, hf, putv, put, hd, Option.map_some]
end steps
end
end Go.Proofs.Ytielbjjdgdblcaa.Vm

/- Rules for walking along code, one at a time. -/
import Derived.Test.YtielbjjdgdblcaaVm19
namespace Go.Proofs.Ytielbjjdgdblcaa.Vm
open Go
section
variable {C : Ctx} {W : Wk} {ops : Array Oper} {Q : En → Prop} {e e' : En} {K : Ex → En → Prop} {n : Nat}

theorem p_nil (h : Q e) : opsP C ops [] Q e := ⟨e, .refl e, h⟩
/-- For the proof alone. -/
theorem p_gst {l : List (Oper × Bool)} (hg : Gst C e e') (h : opsP C ops l Q e') : opsP C ops l Q e := by
  cases l with
  | nil => obtain ⟨e0, k, h⟩ := h; exact ⟨e0, hg.trans k, h⟩
  | cons x r => obtain ⟨e0, k, h⟩ := h; exact ⟨e0, hg.trans k, h⟩
theorem p_op {o : Oper} {tr : Bool} {r : List (Oper × Bool)} (hg : o.guard = none) (hc : callOf C o e = none) (hs : stepF C tr o e = some e') (h : opsP C ops r Q e') : opsP C ops ((o, tr) :: r) Q e := by
  refine ⟨e, .refl e, true, by simp [wantedP, hg], ?_⟩
  rw [if_pos rfl, hc]
  exact ⟨e', .inl hs, h⟩
theorem p_opg {o : Oper} {tr : Bool} {r : List (Oper × Bool)} (hg : wantedP ops o e = some true) (hc : callOf C o e = none) (hs : stepF C tr o e = some e') (h : opsP C ops r Q e') : opsP C ops ((o, tr) :: r) Q e := by
  refine ⟨e, .refl e, true, hg, ?_⟩
  rw [if_pos rfl, hc]
  exact ⟨e', .inl hs, h⟩
theorem p_skip {o : Oper} {tr : Bool} {r : List (Oper × Bool)} (hg : wantedP ops o e = some false) (h : opsP C ops r Q (skipE C o e)) : opsP C ops ((o, tr) :: r) Q e := by
  refine ⟨e, .refl e, false, hg, ?_⟩
  rw [if_neg (by simp)]
  exact h
theorem p_call {o : Oper} {tr : Bool} {r : List (Oper × Bool)} {f : FuncId} {args : List PV} {x : PV} {H' : List HObj} (hg : wantedP ops o e = some true) (hc : callOf C o e = some (f, args)) (hs : Run C.P C.fr f args e.H x H')
    (h : opsP C ops r Q { put o (.v x) { e with H := H' } with F := fnext C tr o e }) : opsP C ops ((o, tr) :: r) Q e := by
  refine ⟨e, .refl e, true, hg, ?_⟩
  rw [if_pos rfl, hc]
  exact ⟨x, H', hs, h⟩

/-- A value. -/
theorem p_val {o : Oper} {tr : Bool} {r : List (Oper × Bool)} {t : List (Nat × Cl)} {bx : List (Nat × PV)} {H : List HObj} {F F' : List (Nat × Nat × Nat)} {d : Nat} {c : Cl}
    (hg : wantedP ops o ⟨t, bx, H, F⟩ = some true) (hc : callOf C o ⟨t, bx, H, F⟩ = none) (ha : appOk C o ⟨t, bx, H, F⟩ = true) (hs : stepO C o ⟨t, bx, H, F⟩ = some ⟨(d, c) :: t, bx, H, F⟩)
    (hF : fnext C tr o ⟨t, bx, H, F⟩ = F') (h : opsP C ops r Q ⟨(d, c) :: t, bx, H, F'⟩) : opsP C ops ((o, tr) :: r) Q ⟨t, bx, H, F⟩ := by
  refine p_opg (e' := ⟨(d, c) :: t, bx, H, F'⟩) hg hc ?_ h
  simp only [stepF, ha, if_true, hs, Option.map_some, hF]
/-- No value. -/
theorem p_eff {o : Oper} {tr : Bool} {r : List (Oper × Bool)} {t t' : List (Nat × Cl)} {bx bx' : List (Nat × PV)} {H H' : List HObj} {F F' : List (Nat × Nat × Nat)}
    (hg : wantedP ops o ⟨t, bx, H, F⟩ = some true) (hc : callOf C o ⟨t, bx, H, F⟩ = none) (ha : appOk C o ⟨t, bx, H, F⟩ = true) (hs : stepO C o ⟨t, bx, H, F⟩ = some ⟨t', bx', H', F⟩)
    (hF : fnext C tr o ⟨t, bx, H, F⟩ = F') (h : opsP C ops r Q ⟨t', bx', H', F'⟩) : opsP C ops ((o, tr) :: r) Q ⟨t, bx, H, F⟩ := by
  refine p_opg (e' := ⟨t', bx', H', F'⟩) hg hc ?_ h
  simp only [stepF, ha, if_true, hs, Option.map_some, hF]
/-- A call. -/
theorem p_go {o : Oper} {tr : Bool} {r : List (Oper × Bool)} {t : List (Nat × Cl)} {bx : List (Nat × PV)} {H H' : List HObj} {F F' : List (Nat × Nat × Nat)} {d : Nat} {f : FuncId} {args : List PV} {x : PV}
    (hg : wantedP ops o ⟨t, bx, H, F⟩ = some true) (hd : o.dst = some d) (hc : callOf C o ⟨t, bx, H, F⟩ = some (f, args)) (hs : Run C.P C.fr f args H x H')
    (hF : fnext C tr o ⟨t, bx, H, F⟩ = F') (h : opsP C ops r Q ⟨(d, .v x) :: t, bx, H', F'⟩) : opsP C ops ((o, tr) :: r) Q ⟨t, bx, H, F⟩ := by
  refine p_call (x := x) (H' := H') hg hc hs ?_
  rw [hF]
  simp only [put, hd]
  exact h
theorem p_no {o : Oper} {tr : Bool} {r : List (Oper × Bool)} {t : List (Nat × Cl)} {bx : List (Nat × PV)} {H : List HObj} {F : List (Nat × Nat × Nat)} {d : Nat}
    (hg : wantedP ops o ⟨t, bx, H, F⟩ = some false) (hd : o.dst = some d) (h : opsP C ops r Q ⟨(d, .und) :: t, bx, H, if C.own = false then [] else rmF d F⟩) : opsP C ops ((o, tr) :: r) Q ⟨t, bx, H, F⟩ := by
  refine p_skip hg ?_
  simp only [skipE, hd]
  exact h
theorem f0 {o : Oper} {tr : Bool} (h : C.own = false) : fnext C tr o e = [] := by simp only [fnext, h, if_true]

section steps
variable {o : Oper} {t : List (Nat × Cl)} {bx : List (Nat × PV)} {H : List HObj} {F : List (Nat × Nat × Nat)} {d : Nat} {x y : Operand} {ty : TypeId} {T : Ty}

theorem s_lenS {tys : Array TypeId} {args : Array Operand} {s : List UInt8} {z1 : Nat} {z2 : Bool} {z3 : Option PV} {z4 : Option (List Nat)} (ho : o.op = .call { callee := .builtin .len, args, argTypes := tys }) (hd : o.dst = some d) (h1 : args[0]? = some x) (h2 : tys[0]? = some ty)
    (hT : tyOf C.P ty = some ⟨.str, z1, z2, z3, z4⟩) (hx : ev C.P ⟨t, bx, H, F⟩ ty x = some (.str s)) : stepO C o ⟨t, bx, H, F⟩ = some ⟨(d, .v (.int .i64 s.length)) :: t, bx, H, F⟩ := by
  simp only [stepO, ho, h1, h2, hT, hx, putv, put, hd, Option.map_some]
theorem s_lenL {tys : Array TypeId} {args : Array Operand} {s : List PV} {a1 a2 a4 z1 z : Nat} {a3 z2 : Bool} {z3 : Option PV} {z4 : Option (List Nat)} (ho : o.op = .call { callee := .builtin .len, args, argTypes := tys }) (hd : o.dst = some d) (h1 : args[0]? = some x) (h2 : tys[0]? = some ty)
    (hT : tyOf C.P ty = some ⟨.slice a1 a2 a3 a4, z1, z2, z3, z4⟩) (hx : ev C.P ⟨t, bx, H, F⟩ ty x = some (.slice z s)) : stepO C o ⟨t, bx, H, F⟩ = some ⟨(d, .v (.int .i64 s.length)) :: t, bx, H, F⟩ := by
  simp only [stepO, ho, h1, h2, hT, hx, putv, put, hd, Option.map_some]
theorem s_indexS {ix : Operand} {s : List UInt8} {k : IntKind} {i : Int} {b : UInt8} {z1 : Nat} {z2 : Bool} {z3 : Option PV} {z4 : Option (List Nat)} (ho : o.op = .index ty x ix) (hd : o.dst = some d)
    (hT : tyOf C.P ty = some ⟨.str, z1, z2, z3, z4⟩) (hx : ev C.P ⟨t, bx, H, F⟩ ty x = some (.str s)) (hi : ev C.P ⟨t, bx, H, F⟩ 0 ix = some (.int k i)) (h0 : 0 ≤ i) (hb : s[i.toNat]? = some b) :
    stepO C o ⟨t, bx, H, F⟩ = some ⟨(d, .v (byteP b)) :: t, bx, H, F⟩ := by
  simp only [stepO, ho, hT, hx, hi, h0, if_true, hb, putv, put, hd, Option.map_some]
theorem s_indexA {ix : Operand} {cs : List PV} {k : IntKind} {i : Int} {p : PV} {n el w z1 : Nat} {g z2 : Bool} {z3 : Option PV} {z4 : Option (List Nat)} (ho : o.op = .index ty x ix) (hd : o.dst = some d)
    (hT : tyOf C.P ty = some ⟨.arr n el w g, z1, z2, z3, z4⟩) (hx : ev C.P ⟨t, bx, H, F⟩ ty x = some (.agg cs)) (hi : ev C.P ⟨t, bx, H, F⟩ 0 ix = some (.int k i)) (h0 : 0 ≤ i ∧ i < n ∧ i.toNat * w + w ≤ cs.length) (hb : mkv g w ((cs.drop (i.toNat * w)).take w) = some p) :
    stepO C o ⟨t, bx, H, F⟩ = some ⟨(d, .v p) :: t, bx, H, F⟩ := by
  simp only [stepO, ho, hT, hx, hi, hb, putv, put, hd, Option.map_some]
  rw [if_pos h0]
theorem s_sliceS {lo hi : Option Operand} {s : List UInt8} {lo' hi' : Option PV} {l h : Nat} {z1 : Nat} {z2 : Bool} {z3 : Option PV} {z4 : Option (List Nat)} (ho : o.op = .slice ty x lo hi none) (hd : o.dst = some d)
    (hT : tyOf C.P ty = some ⟨.str, z1, z2, z3, z4⟩) (hx : ev C.P ⟨t, bx, H, F⟩ ty x = some (.str s)) (hl : evO C.P ⟨t, bx, H, F⟩ lo = some lo') (hh : evO C.P ⟨t, bx, H, F⟩ hi = some hi') (hb : bounds s.length s.length lo' hi' = some (l, h)) :
    stepO C o ⟨t, bx, H, F⟩ = some ⟨(d, .v (.str ((s.take h).drop l))) :: t, bx, H, F⟩ := by
  have hn : evO C.P ⟨t, bx, H, F⟩ none = some none := rfl
  simp only [stepO, ho, hT, hx, hl, hh, hb, hn, putv, put, hd, Option.map_some]
theorem s_sliceL {lo hi : Option Operand} {s : List PV} {lo' hi' : Option PV} {l h w : Nat} {a1 a4 z1 : Nat} {a3 z2 : Bool} {z3 : Option PV} {z4 : Option (List Nat)} (ho : o.op = .slice ty x lo hi none) (hd : o.dst = some d)
    (hT : tyOf C.P ty = some ⟨.slice a1 w a3 a4, z1, z2, z3, z4⟩) (hx : ev C.P ⟨t, bx, H, F⟩ ty x = some (.slice w s)) (hl : evO C.P ⟨t, bx, H, F⟩ lo = some lo') (hh : evO C.P ⟨t, bx, H, F⟩ hi = some hi') (hb : bounds s.length s.length lo' hi' = some (l, h)) :
    stepO C o ⟨t, bx, H, F⟩ = some ⟨(d, .v (.slice w ((s.take h).drop l))) :: t, bx, H, F⟩ := by
  have hn : evO C.P ⟨t, bx, H, F⟩ none = some none := rfl
  simp only [stepO, ho, hT, hx, hl, hh, hb, hn, putv, put, hd, Option.map_some, if_true]
theorem s_convert {s ds : TypeId} {p q : PV} (ho : o.op = .convert s ds x) (hd : o.dst = some d) (hx : ev C.P ⟨t, bx, H, F⟩ s x = some p) (hq : convP C.P s ds p = some q) :
    stepO C o ⟨t, bx, H, F⟩ = some ⟨(d, .v q) :: t, bx, H, F⟩ := by
  simp only [stepO, ho, hx, hq, putv, put, hd, Option.map_some]
theorem v_int {P : Program} {s ds : TypeId} {k k' k0 : IntKind} {n : Int} {z1 y1 : Nat} {z2 y2 : Bool} {z3 y3 : Option PV} {z4 y4 : Option (List Nat)} (h1 : tyOf P s = some ⟨.int k0, z1, z2, z3, z4⟩) (h2 : tyOf P ds = some ⟨.int k, y1, y2, y3, y4⟩) : convP P s ds (.int k' n) = some (.int k (k.wrap n)) := by
  simp only [convP, h1, h2]
theorem v_bytes {P : Program} {s ds el : TypeId} {l : List UInt8} {w b z1 y1 : Nat} {g z2 y2 x2 : Bool} {z3 y3 x3 : Option PV} {z4 y4 x4 : Option (List Nat)} (h1 : tyOf P s = some ⟨.str, z1, z2, z3, z4⟩) (h2 : tyOf P ds = some ⟨.slice el w g b, y1, y2, y3, y4⟩) (h3 : tyOf P el = some ⟨.int .u8, 1, x2, x3, x4⟩) :
    convP P s ds (.str l) = some (.slice 1 (l.map byteP)) := by
  simp only [convP, h1, h2, h3]
theorem v_str {P : Program} {s ds el : TypeId} {ps : List PV} {l : List UInt8} {w b v z1 y1 x1 : Nat} {g z2 y2 x2 : Bool} {z3 y3 x3 : Option PV} {z4 y4 x4 : Option (List Nat)} (h1 : tyOf P s = some ⟨.slice el w g b, z1, z2, z3, z4⟩) (h2 : tyOf P ds = some ⟨.str, y1, y2, y3, y4⟩) (h3 : tyOf P el = some ⟨.int .u8, x1, x2, x3, x4⟩)
    (hl : unbytes ps = some l) : convP P s ds (.slice v ps) = some (.str l) := by
  simp only [convP, h1, h2, h3, hl, Option.map_some]
theorem s_make {D : TD} {l c : Operand} {el w b z1 x1 : Nat} {g z2 x2 : Bool} {z3 : Option PV} {z4 x4 : Option (List Nat)} {m n : Int} {z : PV} (ho : o.op = .makeSlice ty l c) (hd : o.dst = some d)
    (hT : tyOf C.P ty = some ⟨.slice el w g b, z1, z2, z3, z4⟩) (hl : ev C.P ⟨t, bx, H, F⟩ 0 l = some (.int .i64 m)) (hc : ev C.P ⟨t, bx, H, F⟩ 0 c = some (.int .i64 n)) (hE : tyOf C.P el = some ⟨D, x1, x2, some z, x4⟩)
    (hb : 0 ≤ m ∧ m ≤ n ∧ n * b ≤ roomy ∧ n ≤ roomy ∧ 0 < w ∧ (∀ c ∈ z.cells, c.one = true)) : stepO C o ⟨t, bx, H, F⟩ = some ⟨(d, .v (.slice w (List.replicate m.toNat z))) :: t, bx, H, F⟩ := by
  simp only [stepO, ho, hT, hl, hc, hE, putv, put, hd, Option.map_some]
  rw [if_pos hb]
theorem s_lit {n : Nat} {ps : Array (Nat × Operand)} {el w b z1 x1 : Nat} {g z2 x2 : Bool} {z3 : Option PV} {z4 x4 : Option (List Nat)} {z : PV} {D : TD} {qs : List (Nat × PV)} (ho : o.op = .buildSlice ty n ps) (hd : o.dst = some d)
    (hT : tyOf C.P ty = some ⟨.slice el w g b, z1, z2, z3, z4⟩) (hE : tyOf C.P el = some ⟨D, x1, x2, some z, x4⟩) (hq : evParts C.P ⟨t, bx, H, F⟩ (fun _ => some el) ps.toList = some qs)
    (hb : qs.map (·.1) = List.range n ∧ n * w ≤ 16777216 ∧ 0 < w ∧ (∀ q ∈ qs, q.2.cells.length = w ∧ ∀ c ∈ q.2.cells, c.one = true)) : stepO C o ⟨t, bx, H, F⟩ = some ⟨(d, .v (.slice w (qs.map (·.2)))) :: t, bx, H, F⟩ := by
  simp only [stepO, ho, hT, hE, hq]
  rw [if_pos hb]
  simp only [putv, put, hd, Option.map_some]
theorem s_app {args : Array Operand} {tys : Array TypeId} {tx : TypeId} {l m : List PV} {el w b z1 : Nat} {g z2 : Bool} {z3 : Option PV} {z4 : Option (List Nat)} {a1 a2 a4 y1 : Nat} {a3 y2 : Bool} {y3 : Option PV} {y4 : Option (List Nat)}
    (ho : o.op = .call { callee := .builtin .append, args, argTypes := tys }) (hd : o.dst = some d) (h1 : args.toList = [x, y]) (h2 : tys.toList = [tx, ty])
    (hT : tyOf C.P tx = some ⟨.slice el w g b, z1, z2, z3, z4⟩) (hx : ev C.P ⟨t, bx, H, F⟩ tx x = some (.slice w l)) (hE : ((tyOf C.P el).bind Ty.zero).isSome = true) (hT2 : tyOf C.P ty = some ⟨.slice a1 a2 a3 a4, y1, y2, y3, y4⟩) (hy : ev C.P ⟨t, bx, H, F⟩ ty y = some (.slice w m))
    (hw : 0 < w) (hb : (l.length + m.length) * (b + w) ≤ roomy) : stepO C o ⟨t, bx, H, F⟩ = some ⟨(d, .v (.slice w (l ++ m))) :: t, bx, H, F⟩ := by
  simp only [stepO, ho, h1, h2, hT, hx, hE, if_true, hT2, hy, putv, put, hd, Option.map_some]
  rw [if_pos ⟨trivial, trivial, hw, hb⟩]
theorem s_elem {ix : Operand} {l : List PV} {k : IntKind} {i : Int} {p : PV} {el w b z1 : Nat} {g z2 : Bool} {z3 : Option PV} {z4 : Option (List Nat)} (ho : o.op = .indexAddr ty x ix) (hd : o.dst = some d)
    (hT : tyOf C.P ty = some ⟨.slice el w g b, z1, z2, z3, z4⟩) (hi : ev C.P ⟨t, bx, H, F⟩ 0 ix = some (.int k i)) (hx : ev C.P ⟨t, bx, H, F⟩ ty x = some (.slice w l)) (h0 : 0 ≤ i) (hp : l[i.toNat]? = some p) :
    stepO C o ⟨t, bx, H, F⟩ = some ⟨(d, .elem p.cells) :: t, bx, H, F⟩ := by
  simp only [stepO, ho, hT, hi, hx, hp, put, hd]
  rw [if_pos ⟨trivial, h0⟩]
theorem s_load {A : Adr} {p : PV} (ho : o.op = .load ty x) (hd : o.dst = some d) (hT : tyOf C.P ty = some T) (hA : adr ⟨t, bx, H, F⟩ x = some A) (hp : loadA ⟨t, bx, H, F⟩ T A = some p) :
    stepO C o ⟨t, bx, H, F⟩ = some ⟨(d, .v p) :: t, bx, H, F⟩ := by
  simp only [stepO, ho, hT, hA, hp, putv, put, hd, Option.map_some]
end steps

theorem c_region {id : Nat} {l : List (Oper × Bool)} (ha : annot ((lkp W.tr id).getD []) ops.toList = l) (h : opsP C ops l (atEnd W id K) e) : CP C W n (.region id ops false) K e := by
  subst ha
  simp only [CP, Bool.false_eq_true, if_false]
  exact h
theorem c_seq {x y : Code} (h : CP C W n x (thenQ (CP C W n y K) K) e) : CP C W n (.seq x y) K e := h
theorem c_skip (h : K .norm e) : CP C W n .skip K e := h
theorem c_exit {id : Nat} (h : K (.exit id) e) : CP C W n (.exit id) K e := h
theorem c_ret (h : K .ret e) : CP C W n .ret K e := h
theorem c_block {id : Nat} {x : Code} (h : CP C W id x (inQ id K) e) : CP C W n (.block id x) K e := h
theorem c_true {c : Operand} {x y : Code} (hb : evB e c = some true) (h : CP C W n x K e) : CP C W n (.cond c x y) K e := ⟨true, hb, by rw [if_pos rfl]; exact h⟩
theorem c_false {c : Operand} {x y : Code} (hb : evB e c = some false) (h : CP C W n y K e) : CP C W n (.cond c x y) K e := ⟨false, hb, by rw [if_neg (by simp)]; exact h⟩
theorem c_if {c : Operand} {x y : Code} {b : Bool} (hb : evB e c = some b) (h1 : b = true → CP C W n x K e) (h2 : b = false → CP C W n y K e) : CP C W n (.cond c x y) K e := by
  cases b with
  | true => exact c_true hb (h1 rfl)
  | false => exact c_false hb (h2 rfl)
theorem c_loop {x : Code} (I : En → Prop) (μ : En → Nat) (h0 : I (cleanAt W.head n e)) (h : ∀ e, I e → CP C W n x (loopQ W n I (fun e' => μ e' < μ e) K) e) : CP C W n (.loop x) K e := ⟨I, μ, h0, h⟩
theorem q_end {id : Nat} (h : K .norm (cleanAt W.live id e)) : atEnd W id K e := h
theorem q_endL {id : Nat} {ls : List Nat} {t t' : List (Nat × Cl)} {bx bx' : List (Nat × PV)} {H : List HObj} {F F' : List (Nat × Nat × Nat)} (hl : lkp W.live id = some ls)
    (ht : (ls.filterMap fun s => (lkp t s).map fun c => (s, c)) = t') (hb : (bx.filter fun x => ls.contains x.1) = bx') (hF : (ls.flatMap fun s => F.filter fun l => l.1 == s) = F') (h : K .norm ⟨t', bx', H, F'⟩) : atEnd W id K ⟨t, bx, H, F⟩ := by
  subst ht; subst hb; subst hF
  simp only [atEnd, cleanAt, hl]
  exact h
theorem l_head {ls : List Nat} {t t' : List (Nat × Cl)} {bx bx' : List (Nat × PV)} {H : List HObj} {F F' : List (Nat × Nat × Nat)} (hl : lkp W.head n = some ls)
    (ht : (ls.filterMap fun s => (lkp t s).map fun c => (s, c)) = t') (hb : (bx.filter fun x => ls.contains x.1) = bx') (hF : (ls.flatMap fun s => F.filter fun l => l.1 == s) = F') {I : En → Prop} (h : I ⟨t', bx', H, F'⟩) : I (cleanAt W.head n ⟨t, bx, H, F⟩) := by
  subst ht; subst hb; subst hF
  simp only [cleanAt, hl]
  exact h
theorem q_then {J : En → Prop} (h : J e) : thenQ J K .norm e := h
theorem q_ret {J : En → Prop} (h : K .ret e) : thenQ J K .ret e := h
theorem q_exit {J : En → Prop} {id : Nat} (h : K (.exit id) e) : thenQ J K (.exit id) e := h
theorem i_norm {id : Nat} (h : K .norm e) : inQ id K .norm e := h
theorem i_ret {id : Nat} (h : K .ret e) : inQ id K .ret e := h
theorem i_here {id : Nat} (h : K .norm e) : inQ id K (.exit id) e := by simp only [inQ, if_true]; exact h
theorem i_past {id id' : Nat} (hn : id' ≠ id) (h : K (.exit id') e) : inQ id K (.exit id') e := by simp only [inQ, if_neg hn]; exact h
theorem l_norm {I : En → Prop} {m : En → Prop} (h : I (cleanAt W.head n e)) (k : m (cleanAt W.head n e)) : loopQ W n I m K .norm e := ⟨h, k⟩
theorem l_ret {I : En → Prop} {m : En → Prop} (h : K .ret e) : loopQ W n I m K .ret e := h
theorem l_exit {I : En → Prop} {m : En → Prop} {id : Nat} (h : K (.exit id) e) : loopQ W n I m K (.exit id) e := h
end
end Go.Proofs.Ytielbjjdgdblcaa.Vm

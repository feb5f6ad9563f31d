/- The operations that only compute, each as the model runs it. -/
import Derived.Test.YtielbjjdgdblcaaVm5
namespace Go.Proofs.Ytielbjjdgdblcaa.Vm
open Go

section
variable {C : Ctx} {base : Nat} {e : En} {a : Act} {w : World} {g : Gh}

theorem run_eqP {P : Program} {t : TypeId} {p q : PV} {r : Bool} (h : eqP P t p q = some r) {u v : Value} (hu : VR w g p u) (hv : VR w g q v) (x y : Operand) :
    (do eqGuard .eql t x y u v; binOp .eql t u v : Sem Value).run P w = .ok (.bool r) w ∧ (do eqGuard .neq t x y u v; binOp .neq t u v : Sem Value).run P w = .ok (.bool !r) w := by
  unfold eqP at h
  split at h
  · rename_i T hT
    cases h
    cases hu; cases hv
    simp [eqGuard, binOp, Op.equal, Op.maxDepth, run_eq_bool 9999 (td_bool hT rfl)]
  · rename_i hT
    cases h
    have := vr_nilptr hu
    subst this
    have hp := td_ptr hT rfl
    cases hv <;> simp [eqGuard, binOp, Op.equal, Op.maxDepth, run_eq_ptr0 9999 hp]
  · rename_i T hT
    cases h
    have := vr_nilptr hv
    subst this
    obtain ⟨ad, rfl, _⟩ := vr_ptr hu
    simp [eqGuard, binOp, Op.equal, Op.maxDepth, run_eq_ptr1 9999 (td_ptr hT rfl)]
  · rename_i T hT
    cases h
    have := vr_nilfunc hu; subst this
    have := vr_nilfunc hv; subst this
    obtain ⟨_, _, _, hf⟩ := td_func hT rfl
    simp [eqGuard, binOp, Op.equal, Op.maxDepth, run_eq_fn0 9999 hf]
  · rename_i T hT
    cases h
    have := vr_nilfunc hu; subst this
    obtain ⟨_, _, rfl, _⟩ := vr_func hv
    obtain ⟨_, _, _, hf⟩ := td_func hT rfl
    simp [eqGuard, binOp, Op.equal, Op.maxDepth, run_eq_fn1 9999 hf]
  · rename_i T hT
    cases h
    have := vr_nilfunc hv; subst this
    obtain ⟨_, _, rfl, _⟩ := vr_func hu
    obtain ⟨_, _, _, hf⟩ := td_func hT rfl
    simp [eqGuard, binOp, Op.equal, Op.maxDepth, run_eq_fn2 9999 hf]
  · rename_i fl n ag z ks xs ys hT
    split at h
    · rename_i hk
      obtain ⟨us, rfl, hus⟩ := vr_agg hu
      obtain ⟨vs, rfl, hvs⟩ := vr_agg hv
      obtain ⟨fs, hfs, _⟩ := td_struct hT rfl
      have heq : eqOf P t (.struct fs) = some ks := by
        unfold tyOf at hT
        rw [hfs] at hT
        split at hT
        · rename_i d' i hu' hi
          cases hu'
          simp only [Option.some.injEq, Ty.mk.injEq] at hT
          exact hT.2.2.2.2
        · cases hT
      simp only [eqOf] at heq
      split at heq
      · rename_i hs
        have hh := run_eq_struct (w := w) (g := g) hfs heq hs.1 hus hvs hk.1 hk.2 h 9998
        simp [eqGuard, hs.2, binOp, Op.equal, Op.maxDepth, hh]
      · cases heq
    · cases h
  · cases h

theorem run_cat {P : Program} {t : TypeId} {s1 s2 : List UInt8} (hc : s1.length + s2.length ≤ 4611686018427387904) (x y : Operand) :
    ∃ rv, (do eqGuard .add t x y (.string ⟨s1.toArray⟩) (.string ⟨s2.toArray⟩); binOp .add t (.string ⟨s1.toArray⟩) (.string ⟨s2.toArray⟩) : Sem Value).run P w = .ok rv w ∧ VR w g (.str (s1 ++ s2)) rv := by
  refine ⟨.string ⟨(s1 ++ s2).toArray⟩, ?_, .str _⟩
  have h2 : (⟨s1.toArray⟩ : ByteArray) ++ ⟨s2.toArray⟩ = ⟨(s1 ++ s2).toArray⟩ := by
    apply ByteArray.ext
    simp
  have h3 : ∀ s : List UInt8, (⟨s.toArray⟩ : ByteArray).size = s.length := fun s => by simp [ByteArray.size]
  simp only [eqGuard, binOp, Op.stringOp, h2, h3]
  simp
  omega

theorem run_binP {P : Program} {op : BinOp} {t : TypeId} {p q r : PV} (h : binP P op t p q = some r) {u v : Value} (hu : VR w g p u) (hv : VR w g q v) (x y : Operand) :
    ∃ rv, (do eqGuard op t x y u v; binOp op t u v : Sem Value).run P w = .ok rv w ∧ VR w g r rv := by
  have e : ∀ s : List UInt8, (⟨s.toArray⟩ : ByteArray).toList = s := by intro s; rw [ByteArray.toList_eq]
  unfold binP at h
  split at h
  case h_25 =>
    cases hx : eqP P t p q with
    | none => rw [hx] at h; cases h
    | some b => rw [hx] at h; cases h; exact ⟨.bool b, (run_eqP hx hu hv x y).1, .bool b⟩
  case h_26 =>
    cases hx : eqP P t p q with
    | none => rw [hx] at h; cases h
    | some b => rw [hx] at h; cases h; exact ⟨.bool !b, (run_eqP hx hu hv x y).2, .bool _⟩
  case h_27 => cases h
  all_goals first
    | (cases hu; cases hv; split at h
       · rename_i hc
         cases h
         first
           | (obtain ⟨rfl, hb⟩ := hc; refine ⟨_, ?_, .int _ _⟩; simp [eqGuard, binOp, Op.intDiv, hb]; done)
           | (subst hc; refine ⟨_, ?_, .int _ _⟩; simp [eqGuard, binOp, Op.intArith, Op.intBits]; done)
           | (subst hc; refine ⟨_, ?_, .bool _⟩; simp [eqGuard, binOp, Op.intCmp]; done)
           | (refine ⟨_, ?_, .int _ _⟩; simp [eqGuard, binOp, Op.shift, Int.not_lt.2 hc]; done)
           | (exact run_cat hc x y)
       · cases h)
    | (cases hu; cases hv; cases h; refine ⟨_, ?_, .bool _⟩; simp [eqGuard, binOp, Op.stringOp, bytesLt, e]; done)
    | skip

theorem g_bin (hr : REL C base e a w g) {o : Oper} {op : BinOp} {ty yt : TypeId} {x y : Operand} {e' : En} (ho : o.op = .binOp op ty x y yt) (h : stepO C o e = some e') : Gives C o e e' a w g := by
  simp only [stepO, ho] at h
  split at h
  · rename_i p q hp hq
    cases hb : binP C.P op ty p q with
    | none => rw [hb] at h; cases h
    | some r =>
      obtain ⟨rv, h1, h2⟩ := run_binP (w := w) (g := g) hb (ev_sound hr hp) (ev_sound hr hq) x y
      refine gives_putv h (v := rv) ?_ (fun p' hp' => by rw [hb] at hp'; cases hp'; exact h2)
      simp only [execOp, ho]
      rw [Sem.run_bind, h1]
      rfl
  · cases h

theorem g_un (hr : REL C base e a w g) {o : Oper} {op : UnOp} {ty : TypeId} {x : Operand} {e' : En} (ho : o.op = .unOp op ty x) (h : stepO C o e = some e') : Gives C o e e' a w g := by
  simp only [stepO, ho] at h
  split at h
  · rename_i p hp
    have hv := ev_sound hr hp
    unfold unP at h
    split at h
    · have := vr_int hv
      refine gives_putv h ?_ (fun p' hp' => by cases hp'; exact .int _ _)
      simp only [execOp, ho, this, Op.unary, Op.intArith, Sem.run_bind, Sem.run_pure, Result.andThen_ok]
    · have := vr_int hv
      refine gives_putv h ?_ (fun p' hp' => by cases hp'; exact .int _ _)
      simp only [execOp, ho, this, Op.unary, Op.intBits, Sem.run_bind, Sem.run_pure, Result.andThen_ok]
    · have := vr_bool hv
      refine gives_putv h ?_ (fun p' hp' => by cases hp'; exact .bool _)
      simp only [execOp, ho, this, Op.unary, Sem.run_bind, Sem.run_pure, Result.andThen_ok]
    · cases h
  · cases h

theorem vrl_map {l : List Operand} {ps : List PV} (h : VRL w g ps (l.map a.eval)) : VRL w g ps (l.toArray.map a.eval).toList := by simpa using h

theorem g_func (hr : REL C base e a w g) {o : Oper} {f : FuncId} {xs ys : Array Operand} {e' : En} (ho : o.op = .makeFunc (.func f) xs ys) (h : stepO C o e = some e') : Gives C o e e' a w g := by
  simp only [stepO, ho] at h
  split at h
  · rename_i ps qs hp hq
    have h1 := evs_sound hr _ _ hp
    have h2 := evs_sound hr _ _ hq
    rw [List.map_map] at h1 h2
    refine gives_putv h (v := .func (.func f) (xs.map a.eval) (ys.map a.eval)) (by simp [execOp, ho, Instr.makeFunc]) (fun p' hp' => ?_)
    cases hp'
    have := VR.func (w := w) (g := g) f ps qs (xs.toList.map a.eval) (ys.toList.map a.eval) h1.1 h2.1 h1.2 h2.2
    rw [← Array.toList_map, ← Array.toList_map, Array.toArray_toList, Array.toArray_toList] at this
    exact this
  · cases h

theorem g_extract (hr : REL C base e a w g) {o : Oper} {x : Operand} {i : Nat} {e' : En} (ho : o.op = .extract x i) (h : stepO C o e = some e') : Gives C o e e' a w g := by
  simp only [stepO, ho] at h
  split at h
  · rename_i vs hp
    obtain ⟨us, hu, hl⟩ := vr_tup (ev_sound hr hp)
    replace h : putv o e vs[i]? = some e' := by
      split at h
      · cases h
      · exact h
    cases hi : vs[i]? with
    | none => rw [hi] at h; cases h
    | some p =>
      have hlt : i < us.size := by
        have := (List.getElem?_eq_some_iff.1 hi).1
        have := hl.1
        simp at this; omega
      refine gives_putv h (v := us[i]) (by simp [execOp, ho, hu, Instr.extract, hlt]) (fun p' hp' => ?_)
      rw [hi] at hp'; cases hp'
      exact hl.2 i p us[i] hi (by simp [hlt])
  · cases h

theorem run_call_builtin {P : Program} {o : Oper} {b : Builtin} {args : Array Operand} {tys : Array TypeId} (ho : o.op = .call { callee := .builtin b, args, argTypes := tys }) :
    ∃ cs, (execOp a.eval o).run P w = (builtin b tys o.type cs (args.map a.eval)).run P w := by
  obtain ⟨cs, h⟩ : ∃ cs, resolve a.eval { callee := .builtin b, args, argTypes := tys } o.type = pure { target := .builtin b tys o.type cs, args := args.map a.eval } := ⟨_, rfl⟩
  refine ⟨cs, ?_⟩
  simp only [execOp, ho, h, Sem.run_bind, Sem.run_pure, Result.andThen_ok, invoke]

theorem g_len (hr : REL C base e a w g) {o : Oper} {args : Array Operand} {tys : Array TypeId} {e' : En} (ho : o.op = .call { callee := .builtin .len, args, argTypes := tys }) (h : stepO C o e = some e') : Gives C o e e' a w g := by
  simp only [stepO, ho] at h
  split at h
  · rename_i x ty hx hty
    have hx' : (args.map a.eval)[0]? = some (a.eval x) := by simp [hx]
    split at h
    · rename_i s hT hp
      have hv := vr_str (ev_sound hr hp)
      refine gives_putv h ?_ (fun p' hp' => by cases hp'; exact .int _ _)
      obtain ⟨cc, hcc⟩ := run_call_builtin (a := a) (w := w) (P := C.P) ho
      rw [hcc]
      simp only [builtin, Builtin.len_, hty, hx', hv, Sem.run_bind, run_under (td_str hT rfl), Result.andThen_ok, Sem.run_pure, goInt]
      simp [ByteArray.size]
    · rename_i hT hp
      have hv := ev_sound hr hp
      generalize hu : a.eval x = u at hv
      cases hv
      refine gives_putv h ?_ (fun p' hp' => by cases hp'; exact .int _ _)
      obtain ⟨cc, hcc⟩ := run_call_builtin (a := a) (w := w) (P := C.P) ho
      rw [hcc]
      simp only [builtin, Builtin.len_, hty, hx', hu, Sem.run_bind, run_under (td_slice hT rfl).1, Result.andThen_ok, Sem.run_pure, goInt]
    · cases h
  · cases h

theorem evs_two (hr : REL C base e a w g) {args : Array Operand} {k k' : IntKind} {m n : Int} (h : evs C.P e (args.toList.map fun x => (0, x)) = some [.int k m, .int k' n]) :
    args.map a.eval = #[.int k m, .int k' n] := by
  have h1 := evs_sound hr _ _ h
  rw [List.map_map] at h1
  have hl : args.toList.length = 2 := by have := h1.1; simp at this; simpa using this.symm
  match hm : args.toList, hl with
  | [x, y], _ =>
    rw [hm] at h1
    have h2 := vr_int (h1.2 0 _ _ rfl rfl)
    have h3 := vr_int (h1.2 1 _ _ rfl rfl)
    have : args = #[x, y] := by rw [← hm]
    subst this
    simp only [Function.comp_def] at h2 h3
    simp [h2, h3]

theorem g_min (hr : REL C base e a w g) {o : Oper} {args : Array Operand} {tys : Array TypeId} {e' : En} (ho : o.op = .call { callee := .builtin .min, args, argTypes := tys }) (h : stepO C o e = some e') : Gives C o e e' a w g := by
  simp only [stepO, ho] at h
  split at h
  · rename_i hp
    have hv := evs_two hr hp
    refine gives_putv h ?_ (fun p' hp' => by cases hp'; exact .int _ _)
    obtain ⟨cc, hcc⟩ := run_call_builtin (a := a) (w := w) (P := C.P) ho
    rw [hcc, hv]
    simp only [builtin, Builtin.min_, Sem.run_bind, List.foldlM, Builtin.min2, Sem.run_pure, Result.andThen_ok]
  · cases h

theorem g_max (hr : REL C base e a w g) {o : Oper} {args : Array Operand} {tys : Array TypeId} {e' : En} (ho : o.op = .call { callee := .builtin .max, args, argTypes := tys }) (h : stepO C o e = some e') : Gives C o e e' a w g := by
  simp only [stepO, ho] at h
  split at h
  · rename_i hp
    have hv := evs_two hr hp
    refine gives_putv h ?_ (fun p' hp' => by cases hp'; exact .int _ _)
    obtain ⟨cc, hcc⟩ := run_call_builtin (a := a) (w := w) (P := C.P) ho
    rw [hcc, hv]
    simp only [builtin, Builtin.max_, Sem.run_bind, List.foldlM, Builtin.max2, Sem.run_pure, Result.andThen_ok]
  · cases h

theorem take_drop_get {l : List PV} {off n k : Nat} {p : PV} (h : ((l.drop off).take n)[k]? = some p) : l[off + k]? = some p ∧ k < n := by
  rw [List.getElem?_take] at h
  split at h
  · rename_i hk
    rw [List.getElem?_drop] at h
    exact ⟨h, hk⟩
  · cases h

/-- A part of an aggregate. -/
theorem run_part {P : Program} {t : TypeId} {d : TypeDesc} {i : TypeInfo} (hu : P.underlying t = some d) (hi : P.info? t = some i) {cs : List PV} {us : Array Value} (hl : VRL w g cs us.toList) {off : Nat}
    {r : PV} (hm : mkv (aggOf P t) i.size ((cs.drop off).take i.size) = some r) : ∃ v, (part t us off).run P w = .ok v w ∧ VR w g r v := by
  unfold mkv at hm
  split at hm
  · rename_i hlen
    have hsz : cs.length = us.size := by simpa using hl.1
    unfold part
    rw [Sem.run_bind, run_isAgg hu]
    simp only [Result.andThen_ok]
    split at hm
    · rename_i hag
      cases hm
      rw [if_pos hag]
      refine ⟨.agg (us.extract off (off + i.size)), ?_, ?_⟩
      · rw [Sem.run_bind, run_size hi]; rfl
      · have h1 : (us.extract off (off + i.size)).toList = (us.toList.drop off).take i.size := by
          simp [Array.toList_extract, List.extract_eq_take_drop, Nat.add_sub_cancel_left]
        have e := VR.agg (w := w) (g := g) ((cs.drop off).take i.size) ((us.toList.drop off).take i.size) ?_ ?_
        · have h4 : us.extract off (off + i.size) = ((us.toList.drop off).take i.size).toArray := by rw [← h1]
          rw [h4]; exact e
        · simp [hsz]
        · intro k p v hp hv
          obtain ⟨h2, h3⟩ := take_drop_get hp
          refine hl.2 (off + k) p v h2 ?_
          rw [List.getElem?_take, if_pos h3, List.getElem?_drop] at hv
          exact hv
    · rename_i hag
      rw [if_neg hag]
      split at hm
      · rename_i p hp
        cases hm
        have h2 : cs[off]? = some r := by
          have : ((cs.drop off).take i.size)[0]? = some r := by rw [hp]; rfl
          simpa using (take_drop_get this).1
        have hlt : off < us.size := by have := (List.getElem?_eq_some_iff.1 h2).1; omega
        exact ⟨us[off], by simp [hlt], hl.2 off r us[off] h2 (by simp [hlt])⟩
      · cases hm
  · cases hm

end
end Go.Proofs.Ytielbjjdgdblcaa.Vm

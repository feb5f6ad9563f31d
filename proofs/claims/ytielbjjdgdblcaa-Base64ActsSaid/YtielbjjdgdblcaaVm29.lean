/- Slices whose places are stored into: the operations on them, and how they come to be values. -/
import Derived.Test.YtielbjjdgdblcaaVm16
namespace Go.Proofs.Ytielbjjdgdblcaa.Vm
open Go

def isMk : Op → Bool
  | .makeSlice .. | .buildSlice .. | .convert .. => true
  | _ => false

/-- Elements of a row, one behind the other. -/
def chunks (g : Bool) (z : Nat) : Nat → List PV → Option (List PV)
  | 0, _ => some []
  | n + 1, cs => match mkv g z (cs.take z), chunks g z n (cs.drop z) with
    | some p, some ps => some (p :: ps)
    | _, _ => none

def defF (C : Ctx) (o : Oper) (e : En) : List (Nat × Nat × Nat) := if C.own = false then [] else match o.dst with | some d => rmF d e.F | none => e.F

/-- An operation on a slice that is stored into. -/
inductive StepX (C : Ctx) (o : Oper) (e : En) : En → Prop where
  | mk {d w : Nat} {l : List PV} (hm : isMk o.op = true) (hd : o.dst = some d) (h : stepO C o e = some (put o (.v (.slice w l)) e)) :
      StepX C o e { e with t := (d, .v (.os e.H.length 0 l.length)) :: e.t, H := e.H ++ [⟨0, flat l⟩], F := defF C o e }
  | len {args : Array Operand} {tys : Array TypeId} {x : Operand} {ty : TypeId} {T : Ty} {id off n a1 a2 a4 : Nat} {a3 : Bool} (ho : o.op = .call { callee := .builtin .len, args, argTypes := tys }) (h1 : args[0]? = some x) (h2 : tys[0]? = some ty)
      (hT : tyOf C.P ty = some T) (hTd : T.desc = .slice a1 a2 a3 a4) (hx : ev C.P e ty x = some (.os id off n)) : StepX C o e { put o (.v (.int .i64 n)) e with F := defF C o e }
  | addr {x ix : Operand} {ty : TypeId} {T : Ty} {id off n el w a4 : Nat} {a3 : Bool} {k : IntKind} {i : Int} (ho : o.op = .indexAddr ty x ix) (hT : tyOf C.P ty = some T) (hTd : T.desc = .slice el w a3 a4)
      (hi : ev C.P e 0 ix = some (.int k i)) (hx : ev C.P e ty x = some (.os id off n)) (h0 : 0 ≤ i ∧ i < n) : StepX C o e { put o (.v (.ptr (some (id, off + i.toNat * w)))) e with F := defF C o e }
  | sub {x : Operand} {lo hi : Option Operand} {lo' hi' : Option PV} {ty : TypeId} {T : Ty} {id off n el w a4 l h : Nat} {a3 : Bool} (ho : o.op = .slice ty x lo hi none) (hT : tyOf C.P ty = some T) (hTd : T.desc = .slice el w a3 a4)
      (hx : ev C.P e ty x = some (.os id off n)) (hl : evO C.P e lo = some lo') (hh : evO C.P e hi = some hi') (hb : bounds n n lo' hi' = some (l, h)) (h0 : l = 0 ∨ l < n) : StepX C o e { put o (.v (.os id (off + l * w) (h - l))) e with F := defF C o e }
  | str {s ds el : TypeId} {x : Operand} {T1 T2 T3 : Ty} {id off n a2 a4 : Nat} {a3 : Bool} {ob : HObj} {bs : List UInt8} (ho : o.op = .convert s ds x) (h1 : tyOf C.P s = some T1) (h1d : T1.desc = .slice el a2 a3 a4) (h2 : tyOf C.P ds = some T2) (h2d : T2.desc = .str)
      (h3 : tyOf C.P el = some T3) (h3d : T3.desc = .int .u8) (hx : ev C.P e s x = some (.os id off n)) (hob : e.H[id]? = some ob) (hle : off + n ≤ ob.cells.length) (hu : unbytes ((ob.cells.drop off).take n) = some bs) :
      StepX C o e { put o (.v (.str bs)) e with F := defF C o e }

/-- What is done for the proof alone: a slice that is stored into becomes a value. -/
inductive Gst (C : Ctx) : En → En → Prop where
  | refl (e : En) : Gst C e e
  | frz {e e2 : En} (d z : Nat) (g : Bool) {id off n : Nat} {ob : HObj} {l : List PV} (h1 : lkp e.t d = some (.v (.os id off n))) (h2 : e.H[id]? = some ob) (h3 : off + n * z ≤ ob.cells.length) (h4 : chunks g z n (ob.cells.drop off) = some l)
      (k : Gst C { e with t := (d, .v (.slice z l)) :: e.t, H := e.H.set id ⟨ob.ty, []⟩, F := if C.own = false then [] else rmF d e.F } e2) : Gst C e e2

theorem Gst.trans {C : Ctx} {e e1 e2 : En} (h : Gst C e e1) (k : Gst C e1 e2) : Gst C e e2 := by
  induction h with
  | refl e => exact k
  | frz d z g h1 h2 h3 h4 _ ih => exact .frz d z g h1 h2 h3 h4 (ih k)

section
variable {C : Ctx} {base : Nat} {e : En} {a : Act} {w : World} {g : Gh}

theorem defF_sub {o : Oper} : ∀ l ∈ defF C o e, l ∈ e.F ∧ ∀ d, o.dst = some d → l.1 ≠ d := by
  intro l hl
  unfold defF at hl
  split at hl
  · cases hl
  · exact sub_rmF l hl

theorem mk_ok (hr : REL C base e a w g) {o : Oper} {d z : Nat} {l : List PV} (hd : DstOK C o a) (hdd : o.dst = some d) (h : Makes C o e (put o (.v (.slice z l)) e) a w g) :
    StepOK C base o { e with t := (d, .v (.os e.H.length 0 l.length)) :: e.t, H := e.H ++ [⟨0, flat l⟩], F := defF C o e } a w g := by
  obtain ⟨v, p, w', g', hrun, heq, hG, hv, hfr⟩ := h
  have hp : p = .slice z l := by
    simp only [put, hdd] at heq
    have := congrArg (fun e => lkp e.t d) heq
    simp [lkp] at this
    exact this.symm
  subst hp
  obtain ⟨ad, n, c, rfl, h1, h2, h3, rfl, h4, cs, el, fz, h5, h6, h7, h8⟩ := hfr z l rfl
  obtain ⟨ab, ao, as⟩ := ad
  simp only at h1 h2 h3 h5
  subst h1; subst h2; subst h3
  have hG1 : Grow w g w' ⟨fun x => if x = w.heap.size then 0 else g'.D x, g'.io⟩ := by
    refine ⟨hG.os, hG.tape, hG.output, hG.size, hG.block, ?_, ?_, hG.io⟩
    · intro b hb
      show (if b = w.heap.size then 0 else g'.D b) = g.D b
      rw [if_neg (by omega)]; exact hG.D b hb
    · intro b hb
      show (if b = w.heap.size then 0 else g'.D b) = 0
      split
      · rfl
      · exact hG.fresh b hb
  cases hv with
  | slice _ _ _ _ hc hn hz hone f hm hrr =>
    have hk := hG1.keep hr.good
    obtain ⟨r1, r2⟩ := rel_newobj (ty := 0) (cells := flat l) (q := .os e.H.length 0 l.length) (v := .slice (some ⟨w.heap.size, 0, none⟩) l.length c) hr (hd d hdd).2 (hd d hdd).1 hG1 (by simp)
      ⟨hone, cs, el, fz, h5, h7, by
        rw [flat_length hz]
        have := Nat.mul_le_mul_right z hc
        simp; omega, fun i q u hq hu => (h8 i q u hq (by simpa using hu)).keep hk⟩
      (fun g2 h2 => .os _ _ _ _ _ (by rw [h2, ← hr.good.len]; simp) hc) (F' := defF C o e) (fun l hl => ⟨(defF_sub l hl).1, (defF_sub l hl).2 d hdd⟩)
    refine ⟨_, _, r2, .inl ⟨_, hrun, ?_⟩⟩
    rw [hdd]
    exact r1

theorem vr_os {id off n : Nat} {v : Value} (h : VR w g (.os id off n) v) : ∃ b c, v = .slice (some ⟨b, off, none⟩) n c ∧ n ≤ c ∧ g.io[id]? = some b := by
  cases h with
  | os id off n b c h hc => exact ⟨b, c, rfl, hc, h⟩

theorem stepX_ok (hr : REL C base e a w g) {o : Oper} {e' : En} (hok : OpOK C a.tmps.size o = true) (h : StepX C o e e') : StepOK C base o e' a w g := by
  have hd : isNew o.op = false → DstOK C o a := by
    intro hn d hd
    simp only [OpOK, hd, Bool.and_eq_true, decide_eq_true_eq, hn, Bool.false_or] at hok
    exact ⟨hok.1.1, hok.1.2⟩
  cases h with
  | mk hm hdd h =>
    cases hop : o.op with
    | makeSlice ty l c => exact mk_ok hr (hd (by rw [hop]; rfl)) hdd (m_makeSlice hr hop h)
    | buildSlice ty n ps => exact mk_ok hr (hd (by rw [hop]; rfl)) hdd (m_buildSlice hr hop h)
    | convert s ds x =>
      refine mk_ok hr (hd (by rw [hop]; rfl)) hdd (m_bytes hr hop h ?_)
      simp only [stepO, hop] at h
      split at h
      · rename_i p hp
        cases hcc : convP C.P s ds p with
        | none => rw [hcc] at h; cases h
        | some r =>
          rw [hcc] at h
          simp only [putv, Option.map_some, Option.some.injEq, put, hdd] at h
          simp only [En.mk.injEq, List.cons.injEq, Prod.mk.injEq, Cl.v.injEq, true_and, and_true] at h
          subst h
          unfold convP at hcc
          split at hcc
          · cases hcc
          · cases hcc
          · rename_i h2; exact ⟨_, _, _, _, _, h2, rfl⟩
          · split at hcc
            · rename_i hu
              cases hu2 : unbytes _ with
              | none => rw [hu2] at hcc; cases hcc
              | some s => rw [hu2] at hcc; cases hcc
            · cases hcc
          · cases hcc
          · cases hcc
      · cases h
    | _ => rw [hop] at hm; cases hm
  | len ho h1 h2 hT hTd hx =>
    rename_i args tys x ty T id off n a1 a2 a4 a3
    have hv := ev_sound hr hx
    generalize hu : a.eval x = u at hv
    obtain ⟨b, c, rfl, hc, hb⟩ := vr_os hv
    refine ok_gives hr (hd (by rw [ho]; rfl)) (e' := put o (.v (.int .i64 n)) e) ?_ defF_sub
    refine ⟨.int .i64 n, _, ?_, rfl, .int _ _⟩
    have hx' : (args.map a.eval)[0]? = some (a.eval x) := by simp [h1]
    rw [hu] at hx'
    obtain ⟨hut, _⟩ := td_slice hT hTd
    obtain ⟨cc, hcc⟩ := run_call_builtin (a := a) (w := w) (P := C.P) ho
    rw [hcc]
    simp only [builtin, Builtin.len_, h2, hx', Sem.run_bind, run_under hut, Result.andThen_ok, Sem.run_pure, goInt]
  | addr ho hT hTd hi hx h0 =>
    rename_i x ix ty T id off n el z a4 a3 k i
    have hv := ev_sound hr hx
    generalize hu : a.eval x = u at hv
    obtain ⟨b, c, rfl, hc, hb⟩ := vr_os hv
    have hi := vr_int (ev_sound hr hi)
    obtain ⟨hut, inf, hinf, hsz, _, _⟩ := td_slice hT hTd
    refine ok_gives hr (hd (by rw [ho]; rfl)) (e' := put o (.v (.ptr (some (id, off + i.toNat * z)))) e) ?_ defF_sub
    refine ⟨.pointer (some ⟨b, off + i.toNat * z, none⟩), _, ?_, rfl, .ptr _ _ _ hb⟩
    simp only [execOp, ho, hu, hi, Instr.indexAt, asIntOf, Sem.run_bind, Sem.run_pure, run_under hut, Result.andThen_ok, if_pos h0, run_size hinf, add_none, hsz]
  | sub ho hT hTd hx hl hh hb h0 =>
    rename_i x lo hi lo' hi' ty T id off n el z a4 l h a3
    have hv := ev_sound hr hx
    generalize hu : a.eval x = u at hv
    obtain ⟨b, c, rfl, hc, hbk⟩ := vr_os hv
    obtain ⟨l1, l2⟩ := evO_sound hr hl
    obtain ⟨h1, h2⟩ := evO_sound hr hh
    obtain ⟨hut, inf, hinf, hsz, _, _⟩ := td_slice hT hTd
    obtain ⟨b1, b2, b3, b4⟩ := bounds_sound (w := w) (g := g) (P := C.P) (bounds_mono hb hc) true l1 l2 h1 h2
    have hle := bounds_le hb
    refine ok_gives hr (hd (by rw [ho]; rfl)) (e' := put o (.v (.os id (off + l * z) (h - l))) e) ?_ defF_sub
    refine ⟨.slice (some ⟨b, off + l * z, none⟩) (h - l) (c - l), _, ?_, rfl, .os _ _ _ _ _ hbk (by omega)⟩
    have hadr : (if c = l then (some ⟨b, off, none⟩ : Option Addr) else (some ⟨b, off, none⟩ : Option Addr).map (·.add (l * inf.size))) = some ⟨b, off + l * z, none⟩ := by
      split
      · have : l = 0 := by omega
        subst this
        simp
      · simp only [Option.map_some, add_none, hsz]
    simp only [execOp, ho, hu, Option.map_none, Instr.sliceAt, Instr.slice, Sem.run_bind, run_under hut, Result.andThen_ok, b1, run_size hinf, Sem.run_pure, hadr]
  | str ho h1 h1d h2 h2d h3 h3d hx hob hle hu =>
    rename_i s ds el x T1 T2 T3 id off n a2 a4 a3 ob bs
    have hv := ev_sound hr hx
    generalize hq : a.eval x = u at hv
    obtain ⟨b, c, rfl, hc, hbk⟩ := vr_os hv
    have hrow := rowis_cells (hr.good.obj id b ob hbk hob).2
    obtain ⟨hut, _⟩ := td_slice h1 h1d
    refine ok_gives hr (hd (by rw [ho]; rfl)) (e' := put o (.v (.str bs)) e) ?_ defF_sub
    obtain ⟨ns, hns, rfl⟩ := unbytes_map _ _ hu
    refine ⟨.string ⟨(ns.map fun n : Int => UInt8.ofNat n.toNat).toArray⟩, .v (.str (ns.map fun n : Int => UInt8.ofNat n.toNat)), ?_, rfl, VR.str (ns.map fun n : Int => UInt8.ofNat n.toNat)⟩
    have hlen : ns.length = n := by
      have := congrArg List.length hns
      simp at this; omega
    have hcell : ∀ j, j < n → w.cell? ⟨b, off + j, none⟩ = some (.int .u8 (ns.getD j 0)) := by
      intro j hj
      have hp : ((ob.cells.drop off).take n)[j]? = some (.int .u8 (ns.getD j 0)) := by
        rw [hns]
        have : j < ns.length := by omega
        simp [this]
      obtain ⟨u, hu1, hu2⟩ := hrow (off + j) _ (take_drop_get hp).1
      rw [vr_int hu2] at hu1
      simpa using hu1
    have hex : ∀ v, (convert s ds (a.eval x)).run C.P w = .ok v w → (execOp a.eval o).run C.P w = .ok (.value v) w := by
      intro v hv
      simp only [execOp, ho, Sem.run_bind, hv, Result.andThen_ok, Sem.run_pure]
    refine hex _ ?_
    rw [hq, run_convert_bytes_string w s ds el _ _ c hut (td_int h3 h3d) (td_str h2 h2d)]
    have hl : (loadCells ⟨b, off, none⟩ n).run C.P w = .ok (ns.map (Value.int .u8)).toArray w := by
      have := run_loadCells_list (P := C.P) w ⟨b, off, none⟩ (ns.map (Value.int .u8)) (fun j v hv => by
        rw [add_none]
        have hj : j < ns.length := by have := (List.getElem?_eq_some_iff.1 hv).1; simpa using this
        rw [hcell j (by omega)]
        simp [hj] at hv
        rw [← hv]
        simp [hj])
      rw [List.length_map, hlen] at this
      exact this
    rw [run_bytesToString w ⟨b, off, none⟩ _ c ns hl]
    congr 2
    apply ByteArray.ext
    apply Array.toList_inj.1
    rw [foldl_push]
    simp

theorem mkv_cells {ag : Bool} {z : Nat} {cs : List PV} {p : PV} (h : mkv ag z cs = some p) (h1 : ∀ c ∈ cs, c.one = true) : p.cells = cs ∧ cs.length = z := by
  unfold mkv at h
  split at h
  · rename_i hl
    split at h
    · cases h; exact ⟨rfl, hl⟩
    · split at h
      · cases h
        have := h1 _ (List.mem_singleton.2 rfl)
        exact ⟨by cases p <;> simp_all [PV.cells, PV.one], hl⟩
      · cases h
  · cases h

theorem chunks_spec {ag : Bool} {z : Nat} : ∀ (n : Nat) (cs l : List PV), chunks ag z n cs = some l → (∀ c ∈ cs, c.one = true) → l.length = n ∧ (∀ e ∈ l, e.cells.length = z) ∧ flat l = cs.take (n * z)
  | 0, cs, l, h, _ => by cases h; simp [flat]
  | n + 1, cs, l, h, h1 => by
    simp only [chunks] at h
    split at h
    · rename_i p ps hp hps
      cases h
      obtain ⟨q1, q2⟩ := mkv_cells hp (fun c hc => h1 c (List.mem_of_mem_take hc))
      obtain ⟨i1, i2, i3⟩ := chunks_spec n _ ps hps (fun c hc => h1 c (List.mem_of_mem_drop hc))
      refine ⟨by simp [i1], ?_, ?_⟩
      · intro e he
        rcases List.mem_cons.1 he with rfl | he
        · rw [q1]; exact q2
        · exact i2 e he
      · have : flat (p :: ps) = p.cells ++ flat ps := by simp [flat]
        rw [this, q1, i3, Nat.succ_mul, Nat.add_comm, List.take_add]
    · cases h

theorem gst_ok : ∀ {e e2 : En} {g : Gh}, Gst C e e2 → REL C base e a w g → ∃ g', REL C base e2 a w g' ∧ ExtB base w g w g' := by
  intro e e2 g h
  induction h generalizing g with
  | refl e => intro hr; exact ⟨g, hr, ExtB.refl _ _ _⟩
  | frz d z ag h1 h2 h3 h4 k ih =>
    rename_i e e2 id off n ob l
    intro hr
    obtain ⟨hdb, hcv⟩ := hr.t d _ h1
    generalize hu : a.tmps.getD d undef = u at hcv
    obtain ⟨b, c, rfl, hc, hbk⟩ := vr_os hcv
    obtain ⟨hD, hrow⟩ := hr.good.obj id b ob hbk h2
    have hbm : b ∈ g.io := List.mem_of_getElem? hbk
    let g1 : Gh := ⟨fun x => if x = b then max (g.D b) ob.cells.length else g.D x, g.io⟩
    have hDle : ∀ x, g.D x ≤ g1.D x := by
      intro x
      show g.D x ≤ if x = b then max (g.D b) ob.cells.length else g.D x
      split
      · rename_i h; subst h; exact Nat.le_max_left _ _
      · exact Nat.le_refl _
    have hDne : ∀ x, x ∉ g.io → g1.D x = g.D x := by
      intro x hx
      show (if x = b then max (g.D b) ob.cells.length else g.D x) = g.D x
      rw [if_neg]
      rintro rfl; exact hx hbm
    have hk : Keep w g w g1 := ⟨fun _ _ _ => rfl, hDle, fun _ _ h => h⟩
    have hcells := rowis_cells hrow
    obtain ⟨s1, s2, s3⟩ := chunks_spec n _ l h4 (fun c hc => hrow.1 c (List.mem_of_mem_drop hc))
    have hext : ExtB base w g w g1 := ⟨rfl, rfl, rfl, Nat.le_refl _, fun _ _ _ => rfl, fun x _ hx => hDne x hx, fun x _ => hDle x, [], by simp [g1], by simp⟩
    have hvr : VR w g1 (.slice z l) (.slice (some ⟨b, off, none⟩) n c) := by
      have key := VR.slice (w := w) (g := g1) z l (some ⟨b, off, none⟩) c (by omega) (by simp) s2
        (by rw [s3]; intro p hp; exact hrow.1 p (List.mem_of_mem_drop (List.mem_of_mem_take hp)))
        (fun k => (w.cell? ⟨b, off + k, none⟩).getD .nilIface)
        (by
          intro ad had
          cases had
          refine ⟨rfl, fun k hk => ?_⟩
          rw [s1] at hk
          have hlt : off + k < ob.cells.length := by omega
          obtain ⟨u, hu1, hu2⟩ := hcells (off + k) ob.cells[off + k] (by simp [hlt])
          simp only [Nat.zero_add] at hu1
          refine ⟨by simp [hu1], ?_⟩
          show off + k < if b = b then max (g.D b) ob.cells.length else g.D b
          rw [if_pos rfl]
          omega)
        (by
          intro k p hp
          rw [s3] at hp
          obtain ⟨hp1, hp2⟩ := take_drop_get hp
          obtain ⟨u, hu1, hu2⟩ := hcells (off + k) p hp1
          simp only [Nat.zero_add] at hu1
          simp only [hu1, Option.getD_some]
          exact hu2.keep hk)
      rw [s1] at key
      exact key
    have hpv : ∀ (k : Nat × Nat × Nat), k.1 ≠ d → ∀ (F : List (Nat × Nat × Nat)) (H : List HObj), pval { e with t := (d, .v (.slice z l)) :: e.t, H := H, F := F } k = pval e k := by
      intro k hk F H
      have hk' : ¬ d = k.1 := fun h => hk h.symm
      simp only [pval, lkp_cons, if_neg hk']
    have hr1 : REL C base { e with t := (d, .v (.slice z l)) :: e.t, H := e.H.set id ⟨ob.ty, []⟩, F := if C.own = false then [] else rmF d e.F } a w g1 := by
      have hFF : ∀ l ∈ (if C.own = false then [] else rmF d e.F), l ∈ e.F ∧ l.1 ≠ d := by
        intro l hl
        split at hl
        · cases hl
        · exact mem_rmF.1 hl
      refine ⟨hr.hb, hr.defers, ?_, ?_, ?_, hr.dist, ?_⟩
      · refine ⟨?_, by simp [hr.good.len, g1], hr.good.nodup, ?_⟩
        · intro x hx
          have hbl := io_lt hr.good hbm
          show (if x = b then max (g.D b) ob.cells.length else g.D x) = 0
          rw [if_neg (by omega)]
          exact hr.good.fresh x hx
        · intro i x ob' hi ho
          have hi' : g.io[i]? = some x := hi
          by_cases hid : i = id
          · subst hid
            have hlt : i < e.H.length := (List.getElem?_eq_some_iff.1 h2).1
            rw [List.getElem?_set_self hlt] at ho
            cases ho
            rw [hbk] at hi'; cases hi'
            refine ⟨fun h => absurd rfl h, by simp, ?_⟩
            obtain ⟨_, cs, el, fz, q1, q2, _⟩ := hrow
            exact ⟨cs, el, fz, q1, q2, by simp, by simp⟩
          · rw [List.getElem?_set_ne (fun h => hid h.symm)] at ho
            obtain ⟨q1, q2⟩ := hr.good.obj i x ob' hi' ho
            refine ⟨fun hne => ?_, q2.keep hk rfl⟩
            show (if x = b then max (g.D b) ob.cells.length else g.D x) = 0
            rw [if_neg]
            · exact q1 hne
            · rintro rfl; exact hid (hr.good.nodup i id x hi' hbk)
      · intro x cl hcl
        simp only [lkp_cons] at hcl
        split at hcl
        · rename_i hx
          subst hx
          cases hcl
          exact ⟨hdb, by rw [hu]; exact hvr⟩
        · exact ⟨(hr.t x cl hcl).1, (hr.t x cl hcl).2.keep hk (fun _ _ => rfl)⟩
      · intro s p hs
        obtain ⟨k1, k2, b2, k3, k4, k5, k6, k7⟩ := hr.bx s p hs
        exact ⟨k1, k2, b2, k3, k4, by rw [hDne b2 k6]; exact k5, k6, k7.keep hk rfl⟩
      · refine ⟨?_, ?_, ?_⟩
        · intro l' hl z' s' v hp hcv'
          rw [hpv l' (hFF l' hl).2] at hp
          have ha := hr.own.app l' (hFF l' hl).1 z' s' v hp hcv'
          unfold Appv at ha ⊢
          split at ha
          · rcases ha with ha | ⟨k1, k2, k3, k4, k5⟩
            · exact .inl ha
            · exact .inr ⟨k1, k2, k3, by rw [hDne _ k2]; exact k4, k5⟩
          · trivial
        · intro l1 hl1 l2 hl2 hne z1 s1 v1 z2 s2 v2 b2 p1 c1 p2 c2
          rw [hpv l1 (hFF l1 hl1).2] at p1
          rw [hpv l2 (hFF l2 hl2).2] at p2
          exact hr.own.uniq l1 (hFF l1 hl1).1 l2 (hFF l2 hl2).1 hne z1 s1 v1 z2 s2 v2 b2 p1 c1 p2 c2
        · intro l1 hl1 z1 s1 v1 b2 p1 c1
          rw [hpv l1 (hFF l1 hl1).2] at p1
          exact hr.own.box l1 (hFF l1 hl1).1 z1 s1 v1 b2 p1 c1
    obtain ⟨g', hr2, hx2⟩ := ih hr1
    exact ⟨g', hr2, hext.trans hx2⟩
end
end Go.Proofs.Ytielbjjdgdblcaa.Vm

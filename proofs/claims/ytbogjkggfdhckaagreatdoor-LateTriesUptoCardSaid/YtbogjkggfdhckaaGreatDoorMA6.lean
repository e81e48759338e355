/-
  Lemmas on the way to Rr1: Hi1.
-/
import Derived.Test.YtbogjkggfdhckaaGreatDoorMA5
import Derived.Test.YtbogjkggfdhckaaGreatDoorMA2
/-
  hist: at, Valid.
-/
namespace Go.Proofs.YtbogjkggfdhckaaGreatDoor
open Go.RowKit Go.Um

inductive ER where
  | s (g : Nat)
  | at_ (p : Int) (g : Nat)
/-- The value of an error, or of none. -/
def IsErr (E : Nat → Addr) (w : World) (v : Value) : Option ER → Prop
  | none => v = .nilIface
  | some (.s g) => v = errV E g
  | some (.at_ p g) => ∃ b, v = .iface 110 (.pointer (some ⟨b, 0, none⟩)) ∧ w.cell? ⟨b, 0, none⟩ = some (.int .i64 p) ∧ w.cell? ⟨b, 1, none⟩ = some (errV E g)
theorem IsErr.kp {E : Nat → Addr} {w w' : World} {v : Value} {r : Option ER} (h : IsErr E w v r) (hk : Kp [] w w') : IsErr E w' v r := by
  match r, h with
  | none, h => exact h
  | some (.s g), h => exact h
  | some (.at_ p g), ⟨b, h1, h2, h3⟩ => exact ⟨b, h1, (hk.cellAt h2 (by simp)).1, (hk.cellAt h3 (by simp)).1⟩

theorem at_any (E : Nat → Addr) (p : Int) (g : Nat) (w : World) : Calls Tryz.prog 98 #[.int .i64 p, errV E g] w fun e w' => (∃ v, e = .returned v ∧ IsErr E w' v (some (.at_ p g))) ∧ Kp [] w w' := by
  unfold errV
  go_enter Tryz.func98, Tryz.ntmps98
  go_wp2
  go_ret
  exact ⟨⟨_, rfl, _, rfl, by simp, by simp [errV]⟩, (Kp.refl _ _).alloc _⟩
theorem of_q (op : Int) (w : World) : Calls Tryz.prog 100 #[.int .i64 op] w fun e w' => e = .returned (.int .i64 (opKind op)) ∧ w' = w :=
  (of_any op w).mono fun _ _ ⟨h, k⟩ => ⟨h, k.symm⟩
theorem at_errV (E : Nat → Addr) (p : Int) (g : Nat) (w : World) : Calls Tryz.prog 98 #[.int .i64 p, .iface 238 (.pointer (some (E g)))] w fun e w' => (∃ v, e = .returned v ∧ IsErr E w' v (some (.at_ p g))) ∧ Kp [] w w' := at_any E p g w

def objFault (o : Ob) : Option Nat := if objOk o.kind o.init then none else some 1
def evFault (objs : List Ob) (e : Ev) : Option Nat :=
  if kindOk e.f then
    if evOk e.f then
      if e.kind = 2 then
        match objs[e.obj.toNat]? with
        | none => some 1
        | some o => if opKind e.op = o.kind then none else some 2
      else none
    else some 8
  else some 7
def firstFault {α : Type} (f : α → Option Nat) : List α → Nat → Option ER
  | [], _ => none
  | x :: l, i => match f x with
    | some g => some (.at_ i g)
    | none => firstFault f l (i + 1)
def histRes (objs : List Ob) (evs : List Ev) : Option ER :=
  if 8 < objs.length ∨ 400 < evs.length then some (.s 0)
  else match firstFault objFault objs 0 with
    | some r => some r
    | none => firstFault (evFault objs) evs 0
theorem firstFault_none {α : Type} (f : α → Option Nat) : ∀ (l : List α) (i : Nat), (∀ (j : Nat) x, l[j]? = some x → f x = none) → firstFault f l i = none
  | [], _, _ => rfl
  | x :: l, i, h => by
    have h0 := h 0 x (by simp)
    simp only [firstFault, h0]
    exact firstFault_none f l (i + 1) (fun j y hy => h (j + 1) y (by simpa using hy))
theorem firstFault_some {α : Type} (f : α → Option Nat) : ∀ (l : List α) (i k : Nat) (x : α) (g : Nat), l[k]? = some x → f x = some g → (∀ (j : Nat) y, j < k → l[j]? = some y → f y = none) → firstFault f l i = some (.at_ ((i + k : Nat) : Int) g)
  | [], _, _, _, _, h, _, _ => by simp at h
  | y :: l, i, 0, x, g, h, hg, _ => by
    simp at h; subst h
    simp [firstFault, hg]
  | y :: l, i, k + 1, x, g, h, hg, hn => by
    have h0 := hn 0 y (by omega) (by simp)
    simp only [firstFault, h0]
    rw [firstFault_some f l (i + 1) k x g (by simpa using h) hg (fun j z hj hz => hn (j + 1) z (by omega) (by simpa using hz))]
    congr 2
    omega
/-- What is behind an event's own check. -/
theorem evCases (E : Nat → Addr) (objs : List Ob) (e : Ev) (fo : Option Nat) (hfo : fo = evFault objs e) :
    (∃ g, evRes E e.f = errV E g ∧ fo = some g) ∨
    (evRes E e.f = .nilIface ∧ e.kind ≠ 2 ∧ fo = none) ∨
    (evRes E e.f = .nilIface ∧ e.kind = 2 ∧ 0 ≤ e.obj ∧ (objs.length : Int) ≤ e.obj ∧ fo = some 1) ∨
    (evRes E e.f = .nilIface ∧ e.kind = 2 ∧ ∃ (k : Nat) (o : Ob), e.obj = k ∧ k < objs.length ∧ objs[k]? = some o ∧ opKind e.op ≠ o.kind ∧ fo = some 2) ∨
    (evRes E e.f = .nilIface ∧ e.kind = 2 ∧ ∃ (k : Nat) (o : Ob), e.obj = k ∧ k < objs.length ∧ objs[k]? = some o ∧ opKind e.op = o.kind ∧ fo = none) := by
  subst hfo
  by_cases hk : kindOk e.f = true
  · by_cases ho : evOk e.f = true
    · have hr : evRes E e.f = .nilIface := by simp [evRes, hk, ho]
      by_cases h2 : e.kind = 2
      · have h0 : 0 ≤ e.obj := by
          have ho2 := ho
          simp only [evOk, hk, Bool.true_and, Bool.and_eq_true, List.all_eq_true] at ho2
          have hE : evFs e.f = callFs e.f := by simp [evFs, Ev.f, h2]
          have := ho2.1 fObj (by rw [hE]; simp [callFs])
          simp [inB, fObj, Ev.f] at this
          exact this.1
        right; right
        by_cases hl : e.obj < objs.length
        · have hlt : e.obj.toNat < objs.length := by omega
          have ho' : objs[e.obj.toNat]? = some objs[e.obj.toNat] := by simp [hlt]
          right
          by_cases hop : opKind e.op = objs[e.obj.toNat].kind
          · right
            exact ⟨hr, h2, e.obj.toNat, objs[e.obj.toNat], by omega, hlt, ho', hop, by simp [evFault, hk, ho, h2, hop, hlt]⟩
          · left
            exact ⟨hr, h2, e.obj.toNat, objs[e.obj.toNat], by omega, hlt, ho', hop, by simp [evFault, hk, ho, h2, hop, hlt]⟩
        · left
          have ho' : objs[e.obj.toNat]? = none := by simp; omega
          exact ⟨hr, h2, h0, by omega, by simp only [evFault, hk, ho, h2, if_true, ho']⟩
      · right; left
        exact ⟨hr, h2, by simp [evFault, hk, ho, h2]⟩
    · left
      exact ⟨8, by simp [evRes, hk, ho], by simp [evFault, hk, ho]⟩
  · left
    exact ⟨7, by simp [evRes, hk], by simp [evFault, hk]⟩
def Obs64 (objs : List Ob) : Prop := ∀ o ∈ objs, in64 o.kind ∧ in64 o.init
def Ev64 (e : Ev) : Prop := ∀ j, in64 (e.f j)
def Evs64 (evs : List Ev) : Prop := ∀ e ∈ evs, Ev64 e

set_option maxRecDepth 100000 in
set_option maxHeartbeats 4000000 in
theorem histValid_many (E : Nat → Addr) (objs : List Ob) (evs : List Ev) (vo ve : Value) (B : Nat) (w : World) (hG : Gl E w) (ho : Rd w B vo objs.length (flatO objs)) (he : Rd w B ve evs.length (flatE evs)) (hm : 8 < objs.length ∨ 400 < evs.length) :
    Calls Tryz.prog 65 #[.agg #[vo, ve]] w fun r w' => r = .returned (errV E 0) ∧ Kp [] w w' := by
  obtain ⟨ao, co, rfl, ho⟩ := ho
  obtain ⟨ae, ce, rfl, he⟩ := he
  clear ho he
  have hmn := hG.many
  have hbl := hG.sz
  have hol : 0 < w.heap.size := by omega
  unfold errV at hmn ⊢
  by_cases h8 : 8 < objs.length
  · go_enter Tryz.func65, Tryz.ntmps65
    go_wp2
    go_ret
    exact ⟨rfl, (Kp.refl _ _).alloc _⟩
  · have h4 : 400 < evs.length := by omega
    go_enter Tryz.func65, Tryz.ntmps65
    go_wp2
    go_ret
    exact ⟨rfl, (Kp.refl _ _).alloc _⟩

set_option maxRecDepth 100000 in
set_option maxHeartbeats 1000000 in
theorem histValid_few (E : Nat → Addr) (objs : List Ob) (evs : List Ev) (vo ve : Value) (B : Nat) (w : World) (hG : Gl E w) (ho : Rd w B vo objs.length (flatO objs)) (he : Rd w B ve evs.length (flatE evs)) (h8 : objs.length ≤ 8) (h4 : evs.length ≤ 400) (h64o : Obs64 objs) (h64e : Evs64 evs) (_hB : B ≤ w.heap.size) :
    Calls Tryz.prog 65 #[.agg #[vo, ve]] w fun r w' => (∃ v, r = .returned v ∧ IsErr E w' v (histRes objs evs)) ∧ Kp [] w w' := by
  obtain ⟨ao, co, rfl, ho⟩ := ho
  obtain ⟨ae, ce, rfl, he⟩ := he
  have hbl := hG.sz
  have HG := Lib.hid hG
  have HO := Lib.hid ho
  have HE := Lib.hid he
  have H6 := Lib.hid h64o
  have H7 := Lib.hid h64e
  obtain ⟨res, hres⟩ : ∃ r, r = histRes objs evs := ⟨_, rfl⟩
  rw [← hres]
  have HR := Lib.hid (show res = match firstFault objFault objs 0 with | some r => some r | none => firstFault (evFault objs) evs 0 by rw [hres, histRes, if_neg (by omega)])
  clear hG ho he h64o h64e hres
  go_enter Tryz.func65, Tryz.ntmps65
  go_wp2
  refine wp_gen fun W0 hW0 => ?_
  have hK0 : Kp [] w W0 := by rw [hW0]; exact (Kp.refl _ _).alloc _
  obtain ⟨bh, hbh⟩ : ∃ b, b = w.heap.size := ⟨_, rfl⟩
  have hc0 : W0.cell? ⟨bh, 0, none⟩ = some (.slice ao objs.length co) := by rw [hW0, hbh]; simp
  have hc1 : W0.cell? ⟨bh, 1, none⟩ = some (.slice ae evs.length ce) := by rw [hW0, hbh]; simp
  have hl0 : bh < W0.heap.size := by rw [hW0, hbh]; simp
  rw [← hbh]
  clear hW0
  have hG0 := Lib.hid (HG.out.kp0 hK0)
  have hO0 := Lib.hid (show 0 < objs.length → ∃ b o, ao = some ⟨b, o, none⟩ ∧ b < B ∧ b < W0.heap.size ∧ ∀ j u, (flatO objs)[j]? = some u → W0.cell? ⟨b, o + j, none⟩ = some u from fun hn => by
    obtain ⟨b, o, h1, h2, h3, h4⟩ := HO.out hn
    exact ⟨b, o, h1, h2, Nat.lt_of_lt_of_le h3 hK0.size, fun j u hj => (hK0.cellAt (h4 j u hj) (by simp)).1⟩)
  have hE0 := Lib.hid (show 0 < evs.length → ∃ b o, ae = some ⟨b, o, none⟩ ∧ b < B ∧ b < W0.heap.size ∧ ∀ j u, (flatE evs)[j]? = some u → W0.cell? ⟨b, o + j, none⟩ = some u from fun hn => by
    obtain ⟨b, o, h1, h2, h3, h4⟩ := HE.out hn
    exact ⟨b, o, h1, h2, Nat.lt_of_lt_of_le h3 hK0.size, fun j u hj => (hK0.cellAt (h4 j u hj) (by simp)).1⟩)
  have hK0' := Lib.hid hK0
  clear hK0 HG HO HE hbl hbh _hB
  go_loopw [23] (fun i wr => ∃ k : Nat, k ≤ objs.length ∧ i = .int .i64 k ∧ Kp [] W0 wr ∧ (∀ j o, j < k → objs[j]? = some o → objFault o = none)) (fun i _ => objs.length + 1 - (intOf i).toNat)
  case atStart => exact ⟨0, by omega, rfl, Kp.refl _ _, by simp⟩
  case round =>
    obtain ⟨k, hk, rfl, hkr, hno⟩ := hrel
    obtain ⟨lb, cb, fb⟩ := hkr.blk bh hl0 (by simp)
    have hGr := Lib.hid (hG0.out.kp0 hkr)
    have HN := Lib.hid hno
    clear hno
    have c0 := (cb 0).trans hc0
    have c1 := (cb 1).trans hc1
    by_cases hlt : k < objs.length
    · obtain ⟨o, hob⟩ : ∃ o, objs[k]? = some o := ⟨objs[k], by simp [hlt]⟩
      obtain ⟨ba, oa, rfl, hba, hbl, hca⟩ := hO0.out (by omega)
      obtain ⟨lba, cba, fba⟩ := hkr.blk ba hbl (by simp)
      have hat := Rd.at (c := Ob.cells) (sz := 2) (fun _ => rfl) hca hob
      have d0 := (cba _).trans (hat 0 (by decide))
      have d1 := (cba _).trans (hat 1 (by decide))
      simp [Ob.cells] at d0 d1
      have h64 := H6.out o (List.mem_of_getElem? hob)
      have HX := Lib.hid hob
      have HKR := Lib.hid hkr
      clear hat hca hob hkr cba cb fb fba
      have hc : Calls Tryz.prog 97 #[.agg #[.int .i64 o.kind, .int .i64 o.init]] (wr.alloc (.cells #[.int .i64 o.kind, .int .i64 o.init] 136)) fun e w' => e = .returned (match objFault o with | none => .nilIface | some g => errV E g) ∧ Kp [] (wr.alloc (.cells #[.int .i64 o.kind, .int .i64 o.init] 136)) w' := by
        have h := validObject_any E o.kind o.init _ (hGr.out.kp0 ((Kp.refl _ _).alloc (.cells #[.int .i64 o.kind, .int .i64 o.init] 136))) h64.1.1 h64.1.2
        unfold objV at h
        refine h.mono ?_
        rintro e w' ⟨rfl, hk⟩
        refine ⟨?_, hk⟩
        cases hob : objOk o.kind o.init <;> simp [objFault, hob]
      have HC := Lib.hid hc
      clear hc
      obtain ⟨fo, hfo⟩ : ∃ f, f = objFault o := ⟨_, rfl⟩
      rw [← hfo] at HC
      replace hfo := Lib.hid hfo
      cases fo with
      | none =>
        go_wp2_with (go_at_call 97; refine HC.out.mono ?_; rintro e w1 ⟨rfl, hK⟩; have hK2 := (HKR.out.alloc _).trans hK (by simp))
        go_roundw
        case rel => exact ⟨k + 1, by omega, by go_num, hK2, fun j z hj hz => by
          rcases Nat.lt_succ_iff_lt_or_eq.1 hj with hj | rfl
          · exact HN.out j z hj hz
          · rw [HX.out] at hz; cases hz; exact hfo.out.symm⟩
        case measure => simp [intOf]; omega
      | some g =>
        have HR' := Lib.hid (show res = some (.at_ k g) by rw [HR.out, firstFault_some objFault objs 0 k o g HX.out hfo.out.symm HN.out]; simp)
        go_wp2_with (first
          | (go_at_call 97; refine HC.out.mono ?_; rintro e w1 ⟨rfl, hK⟩; have hK2 := (HKR.out.alloc _).trans hK (by simp); unfold errV)
          | (go_at_call 98; refine (at_errV E k g _).mono ?_; rintro e w2 ⟨⟨v, rfl, hv⟩, hk2⟩))
        go_ret
        exact ⟨⟨_, rfl, by rw [HR'.out]; exact hv⟩, (hK0'.out.trans hK2 (by simp)).trans hk2 (by simp)⟩
    · have hkl : k = objs.length := by omega
      have hno1 := Lib.hid (firstFault_none objFault objs 0 (fun j y hy => HN.out j y (by rw [hkl]; exact (List.getElem?_eq_some_iff.1 hy).1) hy))
      clear HN hkl
      have hkq := Lib.hid hkr
      have hl0r : bh < wr.heap.size := lb
      clear cb fb
      go_wp2
      clear hlt
      go_loopw [39] (fun i wr => ∃ k : Nat, k ≤ evs.length ∧ i = .int .i64 k ∧ Kp [] W0 wr ∧ (∀ (j : Nat) e, j < k → evs[j]? = some e → evFault objs e = none)) (fun i _ => evs.length + 1 - (intOf i).toNat)
      case atStart => exact ⟨0, by omega, rfl, hkq.out, by simp⟩
      case round =>
        clear hkq c0 c1 hGr lb hkr hk hl0r
        obtain ⟨k, hk, rfl, hkr, hno⟩ := hrel
        obtain ⟨lb, cb, fb⟩ := hkr.blk bh hl0 (by simp)
        have hGr := Lib.hid (hG0.out.kp0 hkr)
        have HN := Lib.hid hno
        clear hno
        have c0 := (cb 0).trans hc0
        have c1 := (cb 1).trans hc1
        by_cases hlt : k < evs.length
        · obtain ⟨e, heb⟩ : ∃ e, evs[k]? = some e := ⟨evs[k], by simp [hlt]⟩
          obtain ⟨ba, oa, rfl, hba, hbl, hca⟩ := hE0.out (by omega)
          obtain ⟨lba, cba, fba⟩ := hkr.blk ba hbl (by simp)
          have hat := Rd.at (c := Ev.cells) (sz := 8) (fun _ => rfl) hca heb
          have d0 := (cba _).trans (hat 0 (by decide))
          have d1 := (cba _).trans (hat 1 (by decide))
          have d2 := (cba _).trans (hat 2 (by decide))
          have d3 := (cba _).trans (hat 3 (by decide))
          have d4 := (cba _).trans (hat 4 (by decide))
          have d5 := (cba _).trans (hat 5 (by decide))
          have d6 := (cba _).trans (hat 6 (by decide))
          have d7 := (cba _).trans (hat 7 (by decide))
          simp [Ev.cells] at d0 d1 d2 d3 d4 d5 d6 d7
          have h64 := H7.out e (List.mem_of_getElem? heb)
          have HX := Lib.hid heb
          have HKR := Lib.hid hkr
          clear hat hca heb hkr cba fb fba
          obtain ⟨W1, hW1⟩ : ∃ W, W = wr.alloc (.cells #[.int .i64 e.kind, .int .i64 e.tx, .int .i64 e.thread, .int .i64 e.obj, .int .i64 e.op, .int .i64 e.key, .int .i64 e.val, .int .i64 e.ret] 46) := ⟨_, rfl⟩
          have hc : Calls Tryz.prog 99 #[.agg #[.int .i64 e.kind, .int .i64 e.tx, .int .i64 e.thread, .int .i64 e.obj, .int .i64 e.op, .int .i64 e.key, .int .i64 e.val, .int .i64 e.ret]] W1 fun r w' => r = .returned (evRes E e.f) ∧ Kp [] W1 w' := by
            have h := valid_any E e.f W1 (hGr.out.kp0 (by rw [hW1]; exact ((Kp.refl _ _).alloc _))) (h64 7).1 (h64 7).2
            unfold evV at h
            exact h
          have HC := Lib.hid hc
          have HW := Lib.hid hW1
          clear hc
          obtain ⟨fo, hfo⟩ : ∃ f, f = evFault objs e := ⟨_, rfl⟩
          have hcs := evCases E objs e fo hfo
          rw [hW1] at HC
          clear hW1 HW
          replace hfo := Lib.hid hfo
          obtain ⟨ra, hra⟩ : ∃ r, r = evRes E e.f := ⟨_, rfl⟩
          rw [← hra] at HC hcs
          clear hra
          have hbx : bh < (wr.alloc (.cells #[.int .i64 e.kind, .int .i64 e.tx, .int .i64 e.thread, .int .i64 e.obj, .int .i64 e.op, .int .i64 e.key, .int .i64 e.val, .int .i64 e.ret] 46)).heap.size := by simp; omega
          rcases hcs with ⟨g, rfl, rfl⟩ | ⟨rfl, h2, rfl⟩ | ⟨rfl, h2, h0, hl, rfl⟩ | ⟨rfl, h2, kk, o, h0, hl, hob, hop, rfl⟩ | ⟨rfl, h2, kk, o, h0, hl, hob, hop, rfl⟩
          · have HR' := Lib.hid (show res = some (.at_ k g) by rw [HR.out, hno1.out, firstFault_some (evFault objs) evs 0 k e g HX.out hfo.out.symm HN.out]; simp)
            unfold errV at HC
            go_wp2_with (first
              | (go_at_call 99; refine HC.out.mono ?_; rintro e1 w1 ⟨rfl, hK⟩; have hK2 := (HKR.out.alloc _).trans hK (by simp))
              | (go_at_call 98; refine (at_errV E k g _).mono ?_; rintro e2 w2 ⟨⟨v, rfl, hv⟩, hk2⟩))
            go_ret
            exact ⟨⟨_, rfl, by rw [HR'.out]; exact hv⟩, (hK0'.out.trans hK2 (by simp)).trans hk2 (by simp)⟩
          · go_wp2_with (go_at_call 99; refine HC.out.mono ?_; rintro e1 w1 ⟨rfl, hK⟩; have hK2 := (HKR.out.alloc _).trans hK (by simp); obtain ⟨l1, cl1, fl1⟩ := hK.blk wr.heap.size (by simp) (by simp))
            go_roundw
            case rel => exact ⟨k + 1, by omega, by go_num, hK2, fun j z hj hz => by
              rcases Nat.lt_succ_iff_lt_or_eq.1 hj with hj | rfl
              · exact HN.out j z hj hz
              · rw [HX.out] at hz; cases hz; exact hfo.out.symm⟩
            case measure => simp [intOf]; omega
          · rw [h2] at HC d0 hbx
            have HR' := Lib.hid (show res = some (.at_ k 1) by rw [HR.out, hno1.out, firstFault_some (evFault objs) evs 0 k e _ HX.out hfo.out.symm HN.out]; simp)
            go_wp2_with (first
              | (go_at_call 99; refine HC.out.mono ?_; rintro e1 w1 ⟨rfl, hK⟩; have hK2 := (HKR.out.alloc _).trans hK (by simp); obtain ⟨l1, cl1, fl1⟩ := hK.blk wr.heap.size (by simp) (by simp); obtain ⟨l2, cl2, fl2⟩ := hK.blk bh hbx (by simp); have hGo := (hG0.out.kp0 hK2).object; unfold errV at hGo)
              | (go_at_call 98; refine (at_errV E k _ _).mono ?_; rintro e2 w2 ⟨⟨v, rfl, hv⟩, hk2⟩))
            go_ret
            exact ⟨⟨_, rfl, by rw [HR'.out]; exact hv⟩, (hK0'.out.trans hK2 (by simp)).trans hk2 (by simp)⟩
          · rw [h2] at HC d0 hbx
            rw [h0] at HC d3 hbx
            have HR' := Lib.hid (show res = some (.at_ k 2) by rw [HR.out, hno1.out, firstFault_some (evFault objs) evs 0 k e _ HX.out hfo.out.symm HN.out]; simp)
            obtain ⟨bo, oo, rfl, hbo, hbol, hco⟩ := hO0.out (by omega)
            have hat := Rd.at (c := Ob.cells) (sz := 2) (fun _ => rfl) hco hob
            have q0 := hat 0 (by decide)
            simp [Ob.cells] at q0
            clear hat hco
            have hne : (opKind e.op == o.kind) = false := by simpa using hop
            go_wp2_with (first
              | (go_at_call 99; refine HC.out.mono ?_; rintro e1 w1 ⟨rfl, hK⟩; have hK2 := (HKR.out.alloc _).trans hK (by simp); obtain ⟨l1, cl1, fl1⟩ := hK.blk wr.heap.size (by simp) (by simp); obtain ⟨l2, cl2, fl2⟩ := hK.blk bh hbx (by simp); have hGp := (hG0.out.kp0 hK2).op; unfold errV at hGp; have q1 := (hK2.cellAt q0 (by simp)).1)
              | (go_at_call 100; refine (of_any _ _).mono ?_; rintro e3 w3 ⟨rfl, rfl⟩))
            have z3 : w1.cell? ⟨wr.heap.size, 3, none⟩ = some (.int .i64 (kk : Int)) := by rw [cl1]; simp
            have z4 : w1.cell? ⟨wr.heap.size, 4, none⟩ = some (.int .i64 e.op) := by rw [cl1]; simp
            have z0 : w1.cell? ⟨bh, 0, none⟩ = some (.slice (some ⟨bo, oo, none⟩) objs.length co) := by rw [cl2, World.cell?_alloc_past _ _ _ lb]; exact c0
            have hlI : (kk : Int) < (objs.length : Int) := by omega
            have hl0I : (0 : Int) ≤ (kk : Int) := by omega
            go_big_quiet (first | (go_at_call 100; refine Calls.quiet_of_same (of_q _ _)))
            go_wp2_with (go_at_call 98; refine (at_errV E k _ _).mono ?_; rintro e2 w2 ⟨⟨v, rfl, hv⟩, hk2⟩)
            go_ret
            exact ⟨⟨_, rfl, by rw [HR'.out]; exact hv⟩, (hK0'.out.trans (hK2.drewN _) (by simp)).trans hk2 (by simp)⟩
          · rw [h2] at HC d0 hbx
            rw [h0] at HC d3 hbx
            obtain ⟨bo, oo, rfl, hbo, hbol, hco⟩ := hO0.out (by omega)
            have hat := Rd.at (c := Ob.cells) (sz := 2) (fun _ => rfl) hco hob
            have q0 := hat 0 (by decide)
            simp [Ob.cells] at q0
            clear hat hco
            rw [← hop] at q0
            go_wp2_with (go_at_call 99; refine HC.out.mono ?_; rintro e1 w1 ⟨rfl, hK⟩; have hK2 := (HKR.out.alloc _).trans hK (by simp); obtain ⟨l1, cl1, fl1⟩ := hK.blk wr.heap.size (by simp) (by simp); obtain ⟨l2, cl2, fl2⟩ := hK.blk bh hbx (by simp); have q1 := (hK2.cellAt q0 (by simp)).1)
            have z3 : w1.cell? ⟨wr.heap.size, 3, none⟩ = some (.int .i64 (kk : Int)) := by rw [cl1]; simp
            have z4 : w1.cell? ⟨wr.heap.size, 4, none⟩ = some (.int .i64 e.op) := by rw [cl1]; simp
            have z0 : w1.cell? ⟨bh, 0, none⟩ = some (.slice (some ⟨bo, oo, none⟩) objs.length co) := by rw [cl2, World.cell?_alloc_past _ _ _ lb]; exact c0
            have hlI : (kk : Int) < (objs.length : Int) := by omega
            have hl0I : (0 : Int) ≤ (kk : Int) := by omega
            go_big_quiet (first | (go_at_call 100; refine Calls.quiet_of_same (of_q _ _)))
            go_wp2
            go_roundw
            case rel => exact ⟨k + 1, by omega, by go_num, hK2.drewN _, fun j z hj hz => by
              rcases Nat.lt_succ_iff_lt_or_eq.1 hj with hj | rfl
              · exact HN.out j z hj hz
              · rw [HX.out] at hz; cases hz; exact hfo.out.symm⟩
            case measure => simp [intOf]; omega
        · have hkl : k = evs.length := by omega
          have hno2 := Lib.hid (firstFault_none (evFault objs) evs 0 (fun j y hy => HN.out j y (by rw [hkl]; exact (List.getElem?_eq_some_iff.1 hy).1) hy))
          have HR' := Lib.hid (show res = none by rw [HR.out, hno1.out, hno2.out])
          go_wp2
          go_ret
          exact ⟨⟨_, rfl, by rw [HR'.out]; rfl⟩, hK0'.out.trans hkr (by simp)⟩
end Go.Proofs.YtbogjkggfdhckaaGreatDoor

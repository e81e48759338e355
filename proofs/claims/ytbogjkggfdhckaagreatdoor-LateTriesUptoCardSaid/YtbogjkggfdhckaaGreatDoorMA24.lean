/-
  Lemmas on the way to Rr1: LaB.
-/
import Derived.Test.YtbogjkggfdhckaaGreatDoorMA19
import Derived.Test.YtbogjkggfdhckaaGreatDoorMA18
import Derived.Deep.RegionHeldLaw
import Derived.Deep.Onto
/-
  drive: Start.
-/
namespace Go.Proofs.YtbogjkggfdhckaaGreatDoor
open Go.RowKit Go.Um

theorem info_step : (Tryz.prog.info? tStep).map (fun i => (i.zero, i.size, i.bytes)) = some (some .nilFunc, 1, 8) := by kernel_rfl
theorem made_nx1 : (madeCells #[Value.nilFunc] 1).toList = List.replicate 1 .nilFunc := by kernel_rfl
theorem made_nx2 : (madeCells #[Value.nilFunc] 2).toList = List.replicate 2 .nilFunc := by kernel_rfl
theorem made_nx3 : (madeCells #[Value.nilFunc] 3).toList = List.replicate 3 .nilFunc := by kernel_rfl
theorem made_nx4 : (madeCells #[Value.nilFunc] 4).toList = List.replicate 4 .nilFunc := by kernel_rfl
theorem made_nx (n : Nat) (h1 : 1 ≤ n) (h4 : n ≤ 4) : (madeCells #[Value.nilFunc] n).toList = List.replicate n .nilFunc := by
  match n, h1, h4 with
  | 1, _, _ => exact made_nx1
  | 2, _, _ => exact made_nx2
  | 3, _, _ => exact made_nx3
  | 4, _, _ => exact made_nx4
theorem WalkAt.base {w : World} {bw B B' : Nat} {P : Nat → Prop} {p : Pg} {vc vt : Value} {ths : List Th} {gt ct : Nat} {evs : List Ev} {ve : Value} (h : WalkAt w bw B P p vc vt ths gt ct evs ve) (hb : B' ≤ B) : WalkAt w bw B' P p vc vt ths gt ct evs ve :=
  { h with ow := h.ow.mono hb, oe := h.oe.mono hb }
/-- Threads that have done nothing. -/
structure ThrNew (w w' : World) (p : Pg) (bm rn bt bw gt ct gn : Nat) (P Q : Nat → Prop) (vc vt vcd vtd : Value) : Prop where
  wk : WalkAt w' bw w.heap.size P p vc vt (ths0 p) gt ct [] (.slice none 0 0)
  t0 : w'.cell? ⟨bt, 0, none⟩ = some vcd
  t1 : w'.cell? ⟨bt, 1, none⟩ = some vtd
  t2 : w'.cell? ⟨bt, 2, none⟩ = some (.pointer (some ⟨bw, 0, none⟩))
  t3 : w'.cell? ⟨bt, 3, none⟩ = some (.slice (some ⟨gn, 0, none⟩) p.ths.length p.ths.length)
  t4 : w'.cell? ⟨bt, 4, none⟩ = some (.func (.func rn) #[.pointer (some ⟨bm, 0, none⟩)] #[])
  pg : PgAt w' Q vcd vtd p
  q0 : ∀ x, Q x → x < w'.heap.size ∧ w.heap.size ≤ x ∧ x ≠ bw ∧ x ≠ gt ∧ x ≠ gn
  p0 : ∀ x, P x → w.heap.size ≤ x ∧ x ≠ gn
  nx : w'.ownsRow w.heap.size tStep 1 (.slice (some ⟨gn, 0, none⟩) p.ths.length p.ths.length) p.ths.length (List.replicate p.ths.length .nilFunc)
  lb : w.heap.size ≤ bt ∧ w.heap.size ≤ bw ∧ w.heap.size ≤ gt ∧ w.heap.size ≤ gn
  ne : gn ≠ bw ∧ gn ≠ gt ∧ bt ≠ bw ∧ bt ≠ gt ∧ bt ≠ gn

set_option maxRecDepth 100000 in
theorem dstart_bad (E : Nat → Addr) (P : Nat → Prop) (p : Pg) (vc vt : Value) (fv : Value) (w : World) (hG : Gl E w) (h : PgAt w P vc vt p) (hp : p.ok = false) :
    Calls Tryz.prog 47 #[.agg #[vc, vt], fv] w fun r w' => r = .returned (.tuple #[.pointer none, errV E 10]) ∧ Kp [] w w' := by
  have hV : ∀ W, Kp [] w W → _ := fun W hW => start_bad E P p vc vt W (hG.kp0 hW) (h.kp hW (by simp)) hp
  obtain ⟨⟨ac, cc, rfl, _⟩, us, _, ⟨at_, ct, rfl, _⟩, _⟩ := h
  have HV := Lib.hid hV
  clear hG hV hp
  unfold errV at HV ⊢
  go_enter Tryz.func47, Tryz.ntmps47
  go_wp2_with (go_at_call 68; go_loud (refine (HV.out _ ((Kp.refl _ _).alloc _)).mono ?_; rintro e w1 ⟨rfl, hk1⟩; have HK1 := Lib.hid (((Kp.refl [] w).alloc _).trans hk1 (by simp)); clear hk1))
  refine bodyPost_ret (v := .tuple #[.pointer none, .iface 238 (.pointer (some (E 10)))]) ?_ rfl ⟨rfl, HK1.out⟩
  simp [results, Tryz.results47, go_sem]

set_option maxRecDepth 100000 in
set_option maxHeartbeats 2000000 in
theorem dstart_ok (E : Nat → Addr) (P0 : Nat → Prop) (p : Pg) (vc vt : Value) (bm rn : Nat) (w : World) (hG : Gl E w) (h : PgAt w P0 vc vt p) (hp : p.ok = true) :
    Calls Tryz.prog 47 #[.agg #[vc, vt], .func (.func rn) #[.pointer (some ⟨bm, 0, none⟩)] #[]] w fun r w' => (∃ bt bw gt ct gn P Q vc' vt' vcd vtd, r = .returned (.tuple #[.pointer (some ⟨bt, 0, none⟩), .nilIface]) ∧ ThrNew w w' p bm rn bt bw gt ct gn P Q vc' vt' vcd vtd) ∧ Kp [] w w' := by
  have hpo := Pg.ok.all hp
  have hV : ∀ W, Kp [] w W → _ := fun W hW => start_ok E P0 p vc vt W (hG.kp0 hW) (h.kp hW (by simp)) hp
  have hC : ∀ W, Kp [] w W → _ := fun W hW => clone_any P0 p vc vt W (h.kp hW (by simp)) hpo
  have ht1 := hpo.t1
  have ht4 := hpo.t4
  obtain ⟨⟨ac, cc, rfl, _⟩, us, _, ⟨at_, ct, rfl, _⟩, _⟩ := h
  obtain ⟨i0, hi', hz0, hz1, hz2⟩ := info_parts info_step
  have hmk : ∀ W : World, (Instr.makeSlice 124 (.int .i64 p.ths.length) (.int .i64 p.ths.length)).run Tryz.prog W = .ok (.slice (some ⟨W.heap.size, 0, none⟩) p.ths.length p.ths.length) (W.alloc (.cells (madeCells (Value.nilFunc).cells (p.ths.length * 1)) tStep)) := fun W => by
    have := run_makeSlice (P := Tryz.prog) (w := W) 124 tStep i0 _ Tryz.underlying124 hi' hz0 .i64 .i64 p.ths.length p.ths.length (by omega) (by omega) (by rw [hz1]; simp; omega) (by rw [hz2]; omega) (by omega)
    rw [this, hz1]
    simp only [Int.toNat_natCast]
  have HV := Lib.hid hV
  have HC := Lib.hid hC
  clear hG hV hp hC hpo
  go_enter Tryz.func47, Tryz.ntmps47
  go_upto_region 4 with (go_at_call 68; go_loud (refine (HV.out _ ((Kp.refl _ _).alloc _)).mono ?_; rintro e w1 ⟨⟨bw, P', vc', vt', gt, ct', rfl, hP', hbw, hgt, hwk⟩, hk1⟩; obtain ⟨lb, cb, fb⟩ := hk1.blk w.heap.size (by simp) (by simp); have HK1 := Lib.hid (((Kp.refl [] w).alloc _).trans hk1 (by simp)); have HWK := Lib.hid (hwk.base (B' := w.heap.size) (by simp)); have HP' := Lib.hid hP'; have HBW := Lib.hid (show w.heap.size < bw ∧ w.heap.size < gt by simp at hbw hgt; omega); clear hk1 hwk hP' hbw hgt))
  have e0 : w1.cell? ⟨w.heap.size, 0, none⟩ = some (.slice ac p.cells.length cc) := by rw [cb]; simp
  have e1 : w1.cell? ⟨w.heap.size, 1, none⟩ = some (.slice at_ p.ths.length ct) := by rw [cb]; simp
  clear cb fb
  obtain ⟨be, hbe⟩ : ∃ x, x = w.heap.size := ⟨_, rfl⟩
  rw [← hbe] at e0 e1 lb ⊢
  have HBE := Lib.hid hbe
  clear hbe
  have d0 : w1.drew.cell? ⟨be, 0, none⟩ = some (.slice ac p.cells.length cc) := e0
  have d1 : w1.drew.cell? ⟨be, 1, none⟩ = some (.slice at_ p.ths.length ct) := e1
  go_region_held_law (fun w' => w'.cell? ⟨be, 0, none⟩ = some (.slice ac p.cells.length cc) ∧ w'.cell? ⟨be, 1, none⟩ = some (.slice at_ p.ths.length ct)) (first | (with_reducible exact ⟨d0, d1⟩) | (with_reducible exact ⟨s0, s1⟩) | exact ⟨((((Kp.refl [] w1).alloc _).drew).cellAt e0 (by simp)).1, ((((Kp.refl [] w1).alloc _).drew).cellAt e1 (by simp)).1⟩ | exact ⟨(((Kp.refl [] w2).alloc _).cellAt s0 (by simp)).1, (((Kp.refl [] w2).alloc _).cellAt s1 (by simp)).1⟩ | exact ⟨((((Kp.refl [] w2).alloc _).alloc _).cellAt s0 (by simp)).1, ((((Kp.refl [] w2).alloc _).alloc _).cellAt s1 (by simp)).1⟩ | (trace_state; fail)) (first | (go_at_call 69; refine (HC.out _ (by first | exact HK1.out.drew | exact (HK1.out.alloc _).drew)).mono ?_; rintro r w2 ⟨⟨vcd, vtd, rfl, hpg⟩, hk2⟩; have hkA := (hk2.cellAt (k := be) (o := 0) (v := .slice ac p.cells.length cc) (by first | exact d0 | exact ((((Kp.refl [] w1).alloc _).drew).cellAt e0 (by simp)).1) (by simp)); have s0 := hkA.1; have s1 := (hk2.cellAt (k := be) (o := 1) (v := .slice at_ p.ths.length ct) (by first | exact d1 | exact ((((Kp.refl [] w1).alloc _).drew).cellAt e1 (by simp)).1) (by simp)).1; have HPG := Lib.hid hpg; have HK2 := Lib.hid hk2; clear hpg hk2 hkA))
  all_goals go_wp2
  · have hs1 : w1.heap.size ≤ w2.heap.size := HK2.out.size
    have hw1 : w.heap.size ≤ w1.heap.size := HK1.out.size
    have hwk := HWK.out
    have hbw := hwk.lt
    have hgt : gt < w1.heap.size := (hwk.ow.lt gt rfl).2
    have hb0 := HBW.out
    have hkA : Kp [] w2 ((w2.alloc (.cells (madeCells #[Value.nilFunc] p.ths.length) tStep)).alloc (.cells #[vcd, vtd, .pointer (some ⟨bw, 0, none⟩), .slice (some ⟨w2.heap.size, 0, none⟩) p.ths.length p.ths.length, .func (.func rn) #[.pointer (some ⟨bm, 0, none⟩)] #[]] 126)) := ((Kp.refl _ _).alloc _).alloc _
    have hkB : Kp [] w1 w2 := ((Kp.refl [] w1).drew).trans HK2.out (by simp)
    have ho := own_of_block (w := (w2.alloc (.cells (madeCells #[Value.nilFunc] p.ths.length) tStep)).alloc (.cells #[vcd, vtd, .pointer (some ⟨bw, 0, none⟩), .slice (some ⟨w2.heap.size, 0, none⟩) p.ths.length p.ths.length, .func (.func rn) #[.pointer (some ⟨bm, 0, none⟩)] #[]] 126)) (g := w2.heap.size) (n := p.ths.length) (sz := 1) (B := w.heap.size) (by rw [Below.heap_alloc _ _ _ (by simp)]; exact heap_alloc_new w2 _) (by rw [size_madeCells, Nat.mul_one]) (by simp only [maxLen]; omega) (by omega)
    rw [made_nx _ ht1 ht4] at ho
    obtain ⟨QQ, hpgQ, hQQ⟩ : ∃ Q, PgAt w2 Q vcd vtd p ∧ ∀ x, Q x → w1.heap.size ≤ x ∧ x < w2.heap.size := ⟨_, HPG.out, fun x hx => ⟨hx.1, hx.2⟩⟩
    refine bodyPost_ret (v := .tuple #[.pointer (some ⟨w2.heap.size + 1, 0, none⟩), .nilIface]) (by simp [results, Tryz.results47, go_sem]) rfl ⟨⟨w2.heap.size + 1, bw, gt, ct', w2.heap.size, P', QQ, vc', vt', vcd, vtd, rfl, ?_⟩, (HK1.out.trans hkB (by simp)).trans hkA (by simp)⟩
    exact {
      wk := (hwk.kp0 hkB).kp0 hkA
      t0 := by simp [go_sem]
      t1 := by simp [go_sem]
      t2 := by simp [go_sem]
      t3 := by simp [go_sem]
      t4 := by simp [go_sem]
      pg := hpgQ.kp hkA (by simp)
      q0 := fun x hx => by
        obtain ⟨h1, h2⟩ := hQQ x hx
        refine ⟨by simp; omega, by omega, by omega, by omega, by omega⟩
      p0 := fun x hx => by
        have h1 := HP'.out x hx
        have h2 := hwk.p0 x hx
        simp at h1
        exact ⟨by omega, by omega⟩
      nx := ho
      lb := ⟨by omega, by omega, by omega, by omega⟩
      ne := ⟨by omega, by omega, by omega, by omega, by omega⟩ }
  · have hs1 : w1.heap.size + 1 ≤ w2.heap.size := by have := HK2.out.size; simpa using this
    have hw1 : w.heap.size ≤ w1.heap.size := HK1.out.size
    have hwk := HWK.out
    have hbw := hwk.lt
    have hgt : gt < w1.heap.size := (hwk.ow.lt gt rfl).2
    have hb0 := HBW.out
    have hkA : Kp [] w2 (w2.alloc (.cells #[vcd, vtd, .pointer (some ⟨bw, 0, none⟩), .slice (some ⟨w1.heap.size, 0, none⟩) p.ths.length p.ths.length, .func (.func rn) #[.pointer (some ⟨bm, 0, none⟩)] #[]] 126)) := (Kp.refl _ _).alloc _
    have hkB : Kp [] w1 w2 := (((Kp.refl [] w1).alloc _).drew).trans HK2.out (by simp)
    have ho := own_of_block (w := w2.alloc (.cells #[vcd, vtd, .pointer (some ⟨bw, 0, none⟩), .slice (some ⟨w1.heap.size, 0, none⟩) p.ths.length p.ths.length, .func (.func rn) #[.pointer (some ⟨bm, 0, none⟩)] #[]] 126)) (g := w1.heap.size) (n := p.ths.length) (sz := 1) (B := w.heap.size) (by rw [Below.heap_alloc _ _ _ (by omega), HK2.out.block w1.heap.size (by simp) (by simp)]; exact heap_alloc_new w1 _) (by rw [size_madeCells, Nat.mul_one]) (by simp only [maxLen]; omega) (by omega)
    rw [made_nx _ ht1 ht4] at ho
    obtain ⟨QQ, hpgQ, hQQ⟩ : ∃ Q, PgAt w2 Q vcd vtd p ∧ ∀ x, Q x → w1.heap.size + 1 ≤ x ∧ x < w2.heap.size := ⟨_, HPG.out, fun x hx => ⟨by simpa using hx.1, hx.2⟩⟩
    refine bodyPost_ret (v := .tuple #[.pointer (some ⟨w2.heap.size, 0, none⟩), .nilIface]) (by simp [results, Tryz.results47, go_sem]) rfl ⟨⟨w2.heap.size, bw, gt, ct', w1.heap.size, P', QQ, vc', vt', vcd, vtd, rfl, ?_⟩, (HK1.out.trans hkB (by simp)).trans hkA (by simp)⟩
    exact {
      wk := (hwk.kp0 hkB).kp0 hkA
      t0 := by simp [go_sem]
      t1 := by simp [go_sem]
      t2 := by simp [go_sem]
      t3 := by simp [go_sem]
      t4 := by simp [go_sem]
      pg := hpgQ.kp hkA (by simp)
      q0 := fun x hx => by
        obtain ⟨h1, h2⟩ := hQQ x hx
        refine ⟨by simp; omega, by omega, by omega, by omega, by omega⟩
      p0 := fun x hx => by
        have h1 := HP'.out x hx
        have h2 := hwk.p0 x hx
        simp at h1
        exact ⟨by omega, by omega⟩
      nx := ho
      lb := ⟨by omega, by omega, by omega, by omega⟩
      ne := ⟨by omega, by omega, by omega, by omega, by omega⟩ }
end Go.Proofs.YtbogjkggfdhckaaGreatDoor

/-
  Lemmas on the way to Rr1: LaE, Lq, Lw3, Lw4.
-/
import Derived.Test.YtbogjkggfdhckaaGreatDoorMA25
import Derived.Test.YtbogjkggfdhckaaGreatDoorMA23
import Derived.Test.YtbogjkggfdhckaaGreatDoorMA19
import Derived.Test.YtbogjkggfdhckaaGreatDoorMA18
import Derived.Deep.QuietTactic
import Derived.BigQuiet
/-
  late: run, Run, Full.
-/
namespace Go.Proofs.YtbogjkggfdhckaaGreatDoor
open Go.RowKit Go.Um

def LAt (p : Pg) (bm B0 : Nat) (r : Nat) (m : Mc) (w : World) : Prop := ∃ L nv wv l, MachAt w p L m nv wv ∧ Inv p m l ∧ VerOk m ∧ L.bm = bm ∧ B0 ≤ L.B ∧ r < w.heap.size ∧ L.ρ r = 8
theorem mu_step {p : Pg} {m : Mc} {l : List St} (hp : PgOk p) (h : Inv p m l) (i : Nat) : (more p m i → mu m < mu (m.stepI p i)) ∧ (¬ more p m i → m.stepI p i = m) := by
  have := h.step hp i
  have e : m.stepI p (i : Int) = m.step p i := by simp [Mc.stepI]
  rw [e]
  exact ⟨fun hm => by have := this.2.1 hm; omega, this.2.2⟩
theorem mu_round {p : Pg} {m : Mc} {l : List St} (hp : PgOk p) (h : Inv p m l) : ∀ k : Nat, Reach p m ((List.range k).foldl (fun s (i : Nat) => s.stepI p i) m) ∧ ((List.range k).foldl (fun s (i : Nat) => s.stepI p i) m = m ∧ (∀ i, i < k → ¬ more p m i) ∨ mu m < mu ((List.range k).foldl (fun s (i : Nat) => s.stepI p i) m)) := by
  intro k
  induction k with
  | zero => exact ⟨.refl, .inl ⟨rfl, fun i hi => by omega⟩⟩
  | succ k ih =>
    obtain ⟨hr, h2⟩ := ih
    rw [List.range_succ, List.foldl_append]
    simp only [List.foldl_cons, List.foldl_nil]
    obtain ⟨l', hl'⟩ := hr.inv hp ⟨l, h⟩
    refine ⟨.step _ hr, ?_⟩
    obtain ⟨h3, h4⟩ := mu_step hp hl' k
    rcases h2 with ⟨h2, h5⟩ | h2
    · rw [h2] at h3 h4 ⊢
      by_cases hm : more p m k
      · exact .inr (h3 hm)
      · refine .inl ⟨h4 hm, fun i hi => ?_⟩
        rcases Nat.lt_succ_iff_lt_or_eq.1 hi with hi | rfl
        · exact h5 i hi
        · exact hm
    · right
      by_cases hm : more p ((List.range k).foldl (fun s (i : Nat) => s.stepI p i) m) k
      · have := h3 hm; omega
      · rw [h4 hm]; exact h2
theorem mu_prog {p : Pg} {m : Mc} {l : List St} (hp : PgOk p) (h : Inv p m l) (hd : doneB p m.ths = false) : mu m < mu ((List.range p.ths.length).foldl (fun s (i : Nat) => s.stepI p i) m) := by
  rcases (mu_round hp h p.ths.length).2 with ⟨_, h2⟩ | h2
  · exfalso
    unfold doneB at hd
    rw [List.all_eq_false] at hd
    obtain ⟨i, hi, hm⟩ := hd
    exact h2 i (List.mem_range.1 hi) (more_iff.2 (by simpa using hm))
  · exact h2
theorem late_eng {p : Pg} (hp : PgOk p) (bm B0 : Nat) : Eng (LAt p bm B0) (Mc.stepI p) (fun m => doneB p m.ths) Mc.evs mu 652 B0 p.ths.length p.cells.length (objsOf p) 49 17 213 22 (.pointer (some ⟨bm, 0, none⟩)) := {
  ms := fun k w => by kernel_rfl
  msc := fun args w => cf_of Tryz.func17 (by kernel_rfl) rfl args w
  md := fun k w => by kernel_rfl
  mdc := fun args w => cf_of Tryz.func213 (by kernel_rfl) rfl args w
  mh := fun k w => by kernel_rfl
  mhc := fun args w => cf_of Tryz.func22 (by kernel_rfl) rfl args w
  step := fun r m w i ⟨L, nv, wv, l, hM, hI, hv, hb, hB, hr, hc⟩ => by
    subst hb
    refine (step_any hp hI hv hM i).mono ?_
    rintro e w' ⟨he, ⟨L', nv', wv', hM', e1, e2, e3, hρ⟩, S, hk, hS⟩
    obtain ⟨l', hI'⟩ := hI.stepI hp i
    refine ⟨he, ⟨L', nv', wv', l', hM', hI', hv.stepI i, e1, by rw [e3]; exact hB, Nat.lt_of_lt_of_le hr hk.size, by rw [hρ r hr]; exact hc⟩, S, hk, fun x hx => ?_⟩
    obtain ⟨h1, h2⟩ := hS x hx
    exact ⟨Nat.le_trans hB h1, fun e => h2 (by rw [e]; exact hr) (by rw [e]; exact hc)⟩
  dn := fun r m w ⟨L, nv, wv, l, hM, hI, hv, hb, hB, hr, hc⟩ => by
    subst hb
    exact mdone hp hI hM
  hist := fun r m w ⟨L, nv, wv, l, hM, hI, hv, hb, hB, hr, hc⟩ => by
    subst hb
    exact mhist hp hI hM
  ext := fun r m w w' ⟨L, nv, wv, l, hM, hI, hv, hb, hB, hr, hc⟩ hk => ⟨L, nv, wv, l, hM.kp0 hk, hI, hv, hb, hB, Nat.lt_of_lt_of_le hr hk.size, hc⟩
  mule := fun r m w ⟨L, nv, wv, l, hM, hI, hv, hb, hB, hr, hc⟩ => hI.mu_le hp
  prog := fun r m w ⟨L, nv, wv, l, hM, hI, hv, hb, hB, hr, hc⟩ hd => mu_prog hp hI hd }
def LEnd (p : Pg) (sched : List Int) (full : Bool) (m : Mc) : Prop := RunEnd full (Reach p ((startM p).runI p sched)) (fun m => doneB p m.ths) ((startM p).runI p sched) m

set_option maxRecDepth 100000 in
set_option maxHeartbeats 2000000 in
theorem lrun_bad (E : Nat → Addr) (P : Nat → Prop) (p : Pg) (vc vt vs : Value) (full : Bool) (w : World) (hG : Gl E w) (h : PgAt w P vc vt p) (hp : p.ok = false) (h4 : p.ths.length ≤ 100000) :
    Calls Tryz.prog 44 #[.agg #[vc, vt], vs, .bool full] w fun r w' => r = .returned (.tuple #[.agg #[.slice none 0 0, .slice none 0 0], errV E 10]) ∧ Kp [] w w' := by
  have hV : ∀ W, Kp [] w W → _ := fun W hW => new_bad E P p vc vt W (hG.kp0 hW) (h.kp hW (by simp)) hp h4
  obtain ⟨⟨ac, cc, rfl, _⟩, us, _, ⟨at_, ct, rfl, _⟩, _⟩ := h
  have HV := Lib.hid hV
  clear hG hV hp
  unfold errV at HV ⊢
  go_enter Tryz.func44, Tryz.ntmps44
  go_wp2_with (go_at_call 16; refine (HV.out _ (((Kp.refl _ _).alloc _).alloc _)).mono ?_; rintro e w1 ⟨rfl, hk1⟩; obtain ⟨lb, cb, fb⟩ := hk1.blk (w.heap.size + 1) (by simp) (by simp); have HK1 := Lib.hid hk1; have q0 : w1.cell? ⟨w.heap.size + 1, 0, none⟩ = some (.slice none 0 0) := (cb 0).trans (by simp [go_sem]); have q1 : w1.cell? ⟨w.heap.size + 1, 1, none⟩ = some (.slice none 0 0) := (cb 1).trans (by simp [go_sem]); have qf : ∀ j, w1.frozen? ⟨w.heap.size + 1, j, none⟩ = false := fun j => (fb j).trans (by simp [go_sem]); clear hk1 cb fb)
  refine bodyPost_ret (v := .tuple #[.agg #[.slice none 0 0, .slice none 0 0], .iface 238 (.pointer (some (E 10)))]) ?_ rfl ⟨rfl, ?_⟩
  · simp [results, Tryz.results44, go_sem, q0, q1]
  · exact ((((Kp.refl [] w).alloc _).alloc _).trans HK1.out (by simp)).setCell _ _ (fun h => absurd h (by simp)) |>.setCell _ _ (fun h => absurd h (by simp))

theorem lrun_at {p : Pg} (hp : PgOk p) {w1 : World} {L : Lay} {nv : List Value} {wv : List (Value × Value)} {B0 : Nat} (hM : MachAt w1 p L (startM p) nv wv) (hB : B0 ≤ L.B) : ∀ W, Kp [] w1 W → w1.heap.size < W.heap.size → LAt p L.bm B0 w1.heap.size (startM p) W := fun W hW hlt =>
  ⟨{ L with ρ := fun x => if x < w1.heap.size then L.ρ x else 8 }, nv, wv, [], (hM.recolor (ρ' := fun x => if x < w1.heap.size then L.ρ x else 8) (fun x hx => by simp [hx])).kp0 hW, .start hp, ver_start p, rfl, hB, hlt, by show (if _ then _ else _) = _; rw [if_neg (by omega)]⟩
theorem lrun_sched {w w1 : World} {vs : Value} {n : Nat} {xs : List Value} (h : ∀ W, Kp [] w W → RdP W (fun x => x < w.heap.size) vs n xs) (hk : Kp [] w w1) : RdP w1 (fun x => x < w.heap.size + 2) vs n xs := (h w1 hk).mono (fun x _ h => by omega)

set_option maxRecDepth 100000 in
set_option maxHeartbeats 2000000 in
theorem lrun_ok (E : Nat → Addr) (P PS : Nat → Prop) (p : Pg) (vc vt vs : Value) (sched : List Int) (full : Bool) (w : World) (hG : Gl E w) (h : PgAt w P vc vt p) (hp : p.ok = true) (hs : RdP w PS vs sched.length (flatI sched)) (hl : sched.length ≤ 300) :
    Calls Tryz.prog 44 #[.agg #[vc, vt], vs, .bool full] w fun r w' => (∃ m vo vev, r = .returned (.tuple #[.agg #[vo, vev], .nilIface]) ∧ LEnd p sched full m ∧ RdP w' (fun x => w.heap.size ≤ x) vo p.cells.length (flatO (objsOf p)) ∧ RdP w' (fun x => w.heap.size ≤ x) vev m.evs.length (flatE m.evs)) ∧ Kp [] w w' := by
  have hpo := Pg.ok.all hp
  have hV : ∀ W, Kp [] w W → _ := fun W hW => new_ok E P p vc vt W (hG.kp0 hW) (h.kp hW (by simp)) hp
  have hS0 : ∀ W, Kp [] w W → RdP W (fun x => x < w.heap.size) vs sched.length (flatI sched) := fun W hW => (hs.mono (Q := fun x => x < w.heap.size) (fun x hx _ => hx)).kp hW (by simp)
  have ht4 := hpo.t4
  have HPO := Lib.hid hpo
  obtain ⟨⟨ac, cc, rfl, _⟩, us, _, ⟨at_, ct, rfl, _⟩, _⟩ := h
  have HV := Lib.hid hV
  have HS0 := Lib.hid hS0
  have HL := Lib.hid hl
  clear hG hV hp hpo hs hS0 hl
  go_enter Tryz.func44, Tryz.ntmps44
  go_wp2_with (first | (go_at_call 16; refine (HV.out _ (((Kp.refl _ _).alloc _).alloc _)).mono ?_; rintro e w1 ⟨⟨L, nv, wv, rfl, hM, hB⟩, hk1⟩; obtain ⟨lb, cb, fb⟩ := hk1.blk (w.heap.size + 1) (by simp) (by simp); obtain ⟨lb2, cb2, fb2⟩ := hk1.blk w.heap.size (by simp; omega) (by simp); have e1 : w1.cell? ⟨w.heap.size, 1, none⟩ = some (.slice at_ p.ths.length ct) := (cb2 1).trans (by simp [go_sem]); have q0 : w1.cell? ⟨w.heap.size + 1, 0, none⟩ = some (.slice none 0 0) := (cb 0).trans (by simp [go_sem]); have q1 : w1.cell? ⟨w.heap.size + 1, 1, none⟩ = some (.slice none 0 0) := (cb 1).trans (by simp [go_sem]); have qf : ∀ j, w1.frozen? ⟨w.heap.size + 1, j, none⟩ = false := fun j => (fb j).trans (by simp [go_sem]); have Q0 := Lib.hid q0; have Q1 := Lib.hid q1; have QF := Lib.hid qf; have HK1 := Lib.hid ((((Kp.refl [] w).alloc _).alloc _).trans hk1 (by simp)); have HB := Lib.hid (show w.heap.size + 2 ≤ L.B by simpa using hB); have HM := Lib.hid hM; clear hk1 cb fb cb2 fb2 hM hB q0 q1 qf) | (go_at_call 64; refine (drun (late_eng HPO.out L.bm (w.heap.size + 2)) (R := Reach p ((startM p).runI p sched)) (s0 := startM p) sched full vs w1 (lrun_at HPO.out HM.out HB.out) (lrun_sched HS0.out HK1.out) (by have := lb; omega) HL.out (by omega) .refl (fun s i hr => .step i hr)).mono ?_; rintro r w2 ⟨m, vo, vev, rfl, hend, hv1, hv2, S, hk2, hS⟩; obtain ⟨av, cv, rfl, hx1⟩ := hv1; obtain ⟨ae, ce, rfl, hx2⟩ := hv2; obtain ⟨l2, c2, f2⟩ := hk2.blk (w.heap.size + 1) lb (fun h => by have := hS _ h; omega); have q0 : w2.cell? ⟨w.heap.size + 1, 0, none⟩ = some (.slice none 0 0) := (c2 0).trans Q0.out; have q1 : w2.cell? ⟨w.heap.size + 1, 1, none⟩ = some (.slice none 0 0) := (c2 1).trans Q1.out; have qf : ∀ j, w2.frozen? ⟨w.heap.size + 1, j, none⟩ = false := fun j => (f2 j).trans (QF.out j); have H1 := Lib.hid hx1; have H2 := Lib.hid hx2; have HEND := Lib.hid hend; have HK2 := Lib.hid hk2; have HS2 := Lib.hid hS; clear c2 f2 hx1 hx2 hend hk2 hS))
  have hkE : Kp [w.heap.size + 1] w2 ((w2.setCell ⟨w.heap.size + 1, 0, none⟩ (.slice av p.cells.length cv)).setCell ⟨w.heap.size + 1, 1, none⟩ (.slice ae m.evs.length ce)) := ((Kp.refl _ _).setCell _ _ (fun _ => by simp)).setCell _ _ (fun _ => by simp)
  refine bodyPost_ret (v := .tuple #[.agg #[.slice av p.cells.length cv, .slice ae m.evs.length ce], .nilIface]) ?_ rfl ⟨⟨m, _, _, rfl, HEND.out, (RdP.kp ⟨av, cv, rfl, H1.out⟩ hkE (fun x hx hp => by simp at hx; omega)).mono (fun x _ h => by omega), (RdP.kp ⟨ae, ce, rfl, H2.out⟩ hkE (fun x hx hp => by simp at hx; omega)).mono (fun x _ h => by omega)⟩, ?_⟩
  · simp [results, Tryz.results44, go_sem, q0, q1]
  · have h1 : Kp [] w w2 := ((HK1.out.mono (T := S) (fun x hx _ => by simp at hx)).trans HK2.out (fun x hx _ => hx)).mono (fun x hx hl => by have := HS2.out x hx; omega)
    exact h1.trans hkE (fun x hx hl => by simp at hx; omega)

set_option maxRecDepth 100000 in
set_option maxHeartbeats 2000000 in
theorem lfull_bad (E : Nat → Addr) (P : Nat → Prop) (p : Pg) (vc vt vs : Value) (w : World) (hG : Gl E w) (h : PgAt w P vc vt p) (hp : p.ok = false) (h4 : p.ths.length ≤ 100000) :
    Calls Tryz.prog 12 #[.agg #[vc, vt], vs] w fun r w' => r = .returned (.tuple #[.agg #[.slice none 0 0, .slice none 0 0], errV E 10]) ∧ Kp [] w w' := by
  have hV : ∀ W, Kp [] w W → _ := fun W hW => lrun_bad E P p vc vt vs true W (hG.kp0 hW) (h.kp hW (by simp)) hp h4
  obtain ⟨⟨ac, cc, rfl, _⟩, us, _, ⟨at_, ct, rfl, _⟩, _⟩ := h
  have HV := Lib.hid hV
  clear hG hV hp
  unfold errV at HV ⊢
  go_enter Tryz.func12, Tryz.ntmps12
  go_wp2_with (go_at_call 44; refine (HV.out _ (((Kp.refl _ _).alloc _).alloc _)).mono ?_; rintro e w1 ⟨rfl, hk1⟩; obtain ⟨lb, cb, fb⟩ := hk1.blk (w.heap.size + 1) (by simp) (by simp); have HK1 := Lib.hid hk1; have q0 : w1.cell? ⟨w.heap.size + 1, 0, none⟩ = some (.slice none 0 0) := (cb 0).trans (by simp [go_sem]); have q1 : w1.cell? ⟨w.heap.size + 1, 1, none⟩ = some (.slice none 0 0) := (cb 1).trans (by simp [go_sem]); have qf : ∀ j, w1.frozen? ⟨w.heap.size + 1, j, none⟩ = false := fun j => (fb j).trans (by simp [go_sem]); clear hk1 cb fb)
  refine bodyPost_ret (v := .tuple #[.agg #[.slice none 0 0, .slice none 0 0], .iface 238 (.pointer (some (E 10)))]) ?_ rfl ⟨rfl, ?_⟩
  · simp [results, Tryz.results12, go_sem, q0, q1]
  · exact ((((Kp.refl [] w).alloc _).alloc _).trans HK1.out (by simp)).setCell _ _ (fun h => absurd h (by simp)) |>.setCell _ _ (fun h => absurd h (by simp))
set_option maxRecDepth 100000 in
set_option maxHeartbeats 2000000 in
theorem lfull_ok (E : Nat → Addr) (P PS : Nat → Prop) (p : Pg) (vc vt vs : Value) (sched : List Int) (w : World) (hG : Gl E w) (h : PgAt w P vc vt p) (hp : p.ok = true) (hs : RdP w PS vs sched.length (flatI sched)) (hl : sched.length ≤ 300) :
    Calls Tryz.prog 12 #[.agg #[vc, vt], vs] w fun r w' => (∃ m vo vev, r = .returned (.tuple #[.agg #[vo, vev], .nilIface]) ∧ LEnd p sched true m ∧ RdP w' (fun x => w.heap.size ≤ x) vo p.cells.length (flatO (objsOf p)) ∧ RdP w' (fun x => w.heap.size ≤ x) vev m.evs.length (flatE m.evs)) ∧ Kp [] w w' := by
  have hV : ∀ W, Kp [] w W → _ := fun W hW => lrun_ok E P PS p vc vt vs sched true W (hG.kp0 hW) (h.kp hW (by simp)) hp (hs.kp hW (by simp)) hl
  obtain ⟨⟨ac, cc, rfl, _⟩, us, _, ⟨at_, ct, rfl, _⟩, _⟩ := h
  have HV := Lib.hid hV
  clear hG hV hp hs hl
  go_enter Tryz.func12, Tryz.ntmps12
  go_wp2_with (go_at_call 44; refine (HV.out _ (((Kp.refl _ _).alloc _).alloc _)).mono ?_; rintro e w1 ⟨⟨m, vo, vev, rfl, hend, hv1, hv2⟩, hk1⟩; obtain ⟨av, cv, rfl, hx1⟩ := hv1; obtain ⟨ae, ce, rfl, hx2⟩ := hv2; obtain ⟨lb, cb, fb⟩ := hk1.blk (w.heap.size + 1) (by simp) (by simp); have H1 := Lib.hid hx1; have H2 := Lib.hid hx2; have HEND := Lib.hid hend; have HK1 := Lib.hid hk1; have q0 : w1.cell? ⟨w.heap.size + 1, 0, none⟩ = some (.slice none 0 0) := (cb 0).trans (by simp [go_sem]); have q1 : w1.cell? ⟨w.heap.size + 1, 1, none⟩ = some (.slice none 0 0) := (cb 1).trans (by simp [go_sem]); have qf : ∀ j, w1.frozen? ⟨w.heap.size + 1, j, none⟩ = false := fun j => (fb j).trans (by simp [go_sem]); clear hk1 cb fb hx1 hx2 hend)
  have hkE : Kp [w.heap.size + 1] w1 ((w1.setCell ⟨w.heap.size + 1, 0, none⟩ (.slice av p.cells.length cv)).setCell ⟨w.heap.size + 1, 1, none⟩ (.slice ae m.evs.length ce)) := ((Kp.refl _ _).setCell _ _ (fun _ => by simp)).setCell _ _ (fun _ => by simp)
  refine bodyPost_ret (v := .tuple #[.agg #[.slice av p.cells.length cv, .slice ae m.evs.length ce], .nilIface]) ?_ rfl ⟨⟨m, _, _, rfl, HEND.out, (RdP.kp ⟨av, cv, rfl, H1.out⟩ hkE (fun x hx hp => by simp at hx hp; omega)).mono (fun x _ h => by simp at h; omega), (RdP.kp ⟨ae, ce, rfl, H2.out⟩ hkE (fun x hx hp => by simp at hx hp; omega)).mono (fun x _ h => by simp at h; omega)⟩, ?_⟩
  · simp [results, Tryz.results12, go_sem, q0, q1]
  · exact ((((Kp.refl [] w).alloc _).alloc _).trans HK1.out (by simp)).trans hkE (fun x hx hl => by simp at hx; omega)
set_option maxRecDepth 100000 in
set_option maxHeartbeats 2000000 in
theorem lrunr_bad (E : Nat → Addr) (P : Nat → Prop) (p : Pg) (vc vt vs : Value) (w : World) (hG : Gl E w) (h : PgAt w P vc vt p) (hp : p.ok = false) (h4 : p.ths.length ≤ 100000) :
    Calls Tryz.prog 15 #[.agg #[vc, vt], vs] w fun r w' => r = .returned (.tuple #[.agg #[.slice none 0 0, .slice none 0 0], errV E 10]) ∧ Kp [] w w' := by
  have hV : ∀ W, Kp [] w W → _ := fun W hW => lrun_bad E P p vc vt vs false W (hG.kp0 hW) (h.kp hW (by simp)) hp h4
  obtain ⟨⟨ac, cc, rfl, _⟩, us, _, ⟨at_, ct, rfl, _⟩, _⟩ := h
  have HV := Lib.hid hV
  clear hG hV hp
  unfold errV at HV ⊢
  go_enter Tryz.func15, Tryz.ntmps15
  go_wp2_with (go_at_call 44; refine (HV.out _ (((Kp.refl _ _).alloc _).alloc _)).mono ?_; rintro e w1 ⟨rfl, hk1⟩; obtain ⟨lb, cb, fb⟩ := hk1.blk (w.heap.size + 1) (by simp) (by simp); have HK1 := Lib.hid hk1; have q0 : w1.cell? ⟨w.heap.size + 1, 0, none⟩ = some (.slice none 0 0) := (cb 0).trans (by simp [go_sem]); have q1 : w1.cell? ⟨w.heap.size + 1, 1, none⟩ = some (.slice none 0 0) := (cb 1).trans (by simp [go_sem]); have qf : ∀ j, w1.frozen? ⟨w.heap.size + 1, j, none⟩ = false := fun j => (fb j).trans (by simp [go_sem]); clear hk1 cb fb)
  refine bodyPost_ret (v := .tuple #[.agg #[.slice none 0 0, .slice none 0 0], .iface 238 (.pointer (some (E 10)))]) ?_ rfl ⟨rfl, ?_⟩
  · simp [results, Tryz.results15, go_sem, q0, q1]
  · exact ((((Kp.refl [] w).alloc _).alloc _).trans HK1.out (by simp)).setCell _ _ (fun h => absurd h (by simp)) |>.setCell _ _ (fun h => absurd h (by simp))
set_option maxRecDepth 100000 in
set_option maxHeartbeats 2000000 in
theorem lrunr_ok (E : Nat → Addr) (P PS : Nat → Prop) (p : Pg) (vc vt vs : Value) (sched : List Int) (w : World) (hG : Gl E w) (h : PgAt w P vc vt p) (hp : p.ok = true) (hs : RdP w PS vs sched.length (flatI sched)) (hl : sched.length ≤ 300) :
    Calls Tryz.prog 15 #[.agg #[vc, vt], vs] w fun r w' => (∃ m vo vev, r = .returned (.tuple #[.agg #[vo, vev], .nilIface]) ∧ LEnd p sched false m ∧ RdP w' (fun x => w.heap.size ≤ x) vo p.cells.length (flatO (objsOf p)) ∧ RdP w' (fun x => w.heap.size ≤ x) vev m.evs.length (flatE m.evs)) ∧ Kp [] w w' := by
  have hV : ∀ W, Kp [] w W → _ := fun W hW => lrun_ok E P PS p vc vt vs sched false W (hG.kp0 hW) (h.kp hW (by simp)) hp (hs.kp hW (by simp)) hl
  obtain ⟨⟨ac, cc, rfl, _⟩, us, _, ⟨at_, ct, rfl, _⟩, _⟩ := h
  have HV := Lib.hid hV
  clear hG hV hp hs hl
  go_enter Tryz.func15, Tryz.ntmps15
  go_wp2_with (go_at_call 44; refine (HV.out _ (((Kp.refl _ _).alloc _).alloc _)).mono ?_; rintro e w1 ⟨⟨m, vo, vev, rfl, hend, hv1, hv2⟩, hk1⟩; obtain ⟨av, cv, rfl, hx1⟩ := hv1; obtain ⟨ae, ce, rfl, hx2⟩ := hv2; obtain ⟨lb, cb, fb⟩ := hk1.blk (w.heap.size + 1) (by simp) (by simp); have H1 := Lib.hid hx1; have H2 := Lib.hid hx2; have HEND := Lib.hid hend; have HK1 := Lib.hid hk1; have q0 : w1.cell? ⟨w.heap.size + 1, 0, none⟩ = some (.slice none 0 0) := (cb 0).trans (by simp [go_sem]); have q1 : w1.cell? ⟨w.heap.size + 1, 1, none⟩ = some (.slice none 0 0) := (cb 1).trans (by simp [go_sem]); have qf : ∀ j, w1.frozen? ⟨w.heap.size + 1, j, none⟩ = false := fun j => (fb j).trans (by simp [go_sem]); clear hk1 cb fb hx1 hx2 hend)
  have hkE : Kp [w.heap.size + 1] w1 ((w1.setCell ⟨w.heap.size + 1, 0, none⟩ (.slice av p.cells.length cv)).setCell ⟨w.heap.size + 1, 1, none⟩ (.slice ae m.evs.length ce)) := ((Kp.refl _ _).setCell _ _ (fun _ => by simp)).setCell _ _ (fun _ => by simp)
  refine bodyPost_ret (v := .tuple #[.agg #[.slice av p.cells.length cv, .slice ae m.evs.length ce], .nilIface]) ?_ rfl ⟨⟨m, _, _, rfl, HEND.out, (RdP.kp ⟨av, cv, rfl, H1.out⟩ hkE (fun x hx hp => by simp at hx hp; omega)).mono (fun x _ h => by simp at h; omega), (RdP.kp ⟨ae, ce, rfl, H2.out⟩ hkE (fun x hx hp => by simp at hx hp; omega)).mono (fun x _ h => by simp at h; omega)⟩, ?_⟩
  · simp [results, Tryz.results15, go_sem, q0, q1]
  · exact ((((Kp.refl [] w).alloc _).alloc _).trans HK1.out (by simp)).trans hkE (fun x hx hl => by simp at hx; omega)
end Go.Proofs.YtbogjkggfdhckaaGreatDoor

/-
  late: what has happened, as a history; its table.
-/
namespace Go.Proofs.YtbogjkggfdhckaaGreatDoor
open Go.RowKit Go.Um

theorem evFs_bnd (e : Nat → Int) : ∀ f ∈ evFs e, -9223372036854775808 ≤ f.mn ∧ f.mx ≤ 9223372036854775807 := by
  intro f hf
  have h : f = fTx ∨ f = fThread ∨ f = fObj ∨ f = fOp ∨ f = fKey ∨ f = fVal ∨ f = fRet := by
    unfold evFs callFs retFs at hf
    split at hf
    · simp at hf; rcases hf with h | h <;> simp [h]
    · split at hf
      · simp only [List.mem_append] at hf
        rcases hf with (hf | hf) | hf
        · simp at hf; rcases hf with h | h | h <;> simp [h]
        · split at hf
          · simp at hf; simp [hf]
          · simp at hf
        · split at hf
          · simp at hf; simp [hf]
          · simp at hf
      · split at hf
        · split at hf
          · simp at hf; rcases hf with h | h | h <;> simp [h]
          · simp at hf; rcases hf with h | h <;> simp [h]
        · simp at hf; simp [hf]
  rcases h with rfl | rfl | rfl | rfl | rfl | rfl | rfl <;> decide
theorem ev64_of {objs : List Ob} {e : Ev} (h : evFault objs e = none) : Ev64 e := by
  unfold evFault at h
  split at h
  case isFalse => cases h
  rename_i hk
  split at h
  case isFalse => cases h
  rename_i ho
  have hb : ∀ j, j < 8 → in64 (e.f j) := by
    intro j hj
    simp only [evOk, Bool.and_eq_true, List.all_eq_true] at ho
    obtain ⟨⟨_, h1⟩, h2⟩ := ho
    by_cases h0 : j = 0
    · subst h0
      simp only [kindOk, Bool.and_eq_true, decide_eq_true_eq] at hk
      have := hk.1.1
      unfold in64
      omega
    · have h3 := h2 j (by simp; omega)
      simp only [rest, beq_iff_eq] at h3
      split at h3
      · rename_i hor
        have h4 : (evFs e.f).any (fun f => f.ix == j) = true := by
          rw [Bool.or_eq_true] at hor
          rcases hor with h | h
          · exact absurd (by simpa using h) h0
          · exact h
        rw [List.any_eq_true] at h4
        obtain ⟨f, hf, hfj⟩ := h4
        have hj' : f.ix = j := by simpa using hfj
        have h5 := h1 f hf
        simp only [inB, Bool.and_eq_true, decide_eq_true_eq] at h5
        rw [hj'] at h5
        have := evFs_bnd e.f f hf
        unfold in64
        omega
      · unfold in64
        omega
  intro j
  match j with
  | 0 => exact hb 0 (by decide)
  | 1 => exact hb 1 (by decide)
  | 2 => exact hb 2 (by decide)
  | 3 => exact hb 3 (by decide)
  | 4 => exact hb 4 (by decide)
  | 5 => exact hb 5 (by decide)
  | 6 => exact hb 6 (by decide)
  | j + 7 => exact hb 7 (by decide)
theorem Fed.ok {objs : List Ob} {evs : List Ev} {l : List St} (h : Fed objs evs l) : ∀ e ∈ evs, evFault objs e = none := by
  induction h with
  | nil => simp
  | snoc _ hf ih =>
    intro x hx
    rcases List.mem_append.1 hx with hx | hx
    · exact ih x hx
    · simp at hx; subst hx
      unfold feed at hf
      split at hf
      · cases hf
      · split at hf
        · cases hf
        · assumption
theorem hist_ok {p : Pg} (hp : PgOk p) {evs : List Ev} {l : List St} (h : Fed (objsOf p) evs l) (hl : evs.length ≤ 324) : histRes (objsOf p) evs = none := by
  have h4 := hp.c4
  have hlen : (objsOf p).length = p.cells.length := by simp [objsOf]
  unfold histRes
  rw [if_neg (by omega)]
  have h1 : firstFault objFault (objsOf p) 0 = none := firstFault_none _ _ _ (fun j x hx => by
    simp only [objsOf, List.getElem?_map, Option.map_eq_some_iff] at hx
    obtain ⟨n, hn, rfl⟩ := hx
    have := hp.ce n (List.mem_of_getElem? hn)
    unfold objFault
    rw [if_pos]
    simp [objOk]; omega)
  rw [h1]
  exact firstFault_none _ _ _ (fun j x hx => h.ok x (List.mem_of_getElem? hx))
theorem RdP.rd {w : World} {P : Nat → Prop} {v : Value} {n : Nat} {xs : List Value} (h : RdP w P v n xs) : Rd w w.heap.size v n xs := by
  obtain ⟨a, c, rfl, h⟩ := h
  refine ⟨a, c, rfl, fun hn => ?_⟩
  obtain ⟨b, o, rfl, _, hb, hc⟩ := h hn
  exact ⟨b, o, rfl, hb, hb, hc⟩
/-- The table of what has happened. -/
theorem table_late {E : Nat → Addr} {p : Pg} (hp : PgOk p) {m : Mc} {l : List St} (hI : Inv p m l) {P1 P2 : Nat → Prop} {vo vev : Value} {w : World} (hG : Gl E w) (ho : RdP w P1 vo p.cells.length (flatO (objsOf p))) (he : RdP w P2 vev m.evs.length (flatE m.evs)) :
    Calls Tryz.prog 13 #[.agg #[vo, vev]] w fun r w' => (∃ v, r = .returned (.tuple #[v, .nilIface]) ∧ TabAt w' (fun x => w.heap.size ≤ x) v (l.map St.t)) ∧ Kp [] w w' := by
  have hlen : (objsOf p).length = p.cells.length := by simp [objsOf]
  have hc1 := hp.c1
  rw [← hlen] at ho
  refine table_ok E (objsOf p) m.evs l vo vev w.heap.size w hG ho.rd he.rd (by omega) (hist_ok hp hI.sim.fed (hI.sim.few hp)) (hist_ok hp .nil (by simp)) ?_ (fun e he => ev64_of (hI.sim.fed.ok e he)) (Nat.le_refl _) hI.sim.fed
  intro o ho
  simp only [objsOf, List.mem_map] at ho
  obtain ⟨n, hn, rfl⟩ := ho
  have := hp.ce n hn
  unfold in64
  simp; omega
/-- What a run of the machine ends in. -/
theorem LEnd.inv {p : Pg} (hp : PgOk p) {sched : List Int} {full : Bool} {m : Mc} (h : LEnd p sched full m) : ∃ l, Inv p m l := by
  have h0 : ∃ l, Inv p ((startM p).runI p sched) l := (reach_run p sched _).inv hp ⟨[], .start hp⟩
  unfold LEnd RunEnd at h
  split at h
  · exact h.1.inv hp h0
  · rw [h]; exact h0
theorem LEnd.done {p : Pg} {sched : List Int} {m : Mc} (h : LEnd p sched true m) : doneB p m.ths = true := by
  unfold LEnd RunEnd at h
  simp at h
  exact h.2
/-- A deed's cells. -/
theorem RdP.dd {w : World} {P : Nat → Prop} {v : Value} {ds : List Dd} (h : RdP w P v ds.length (flatD ds)) {j : Nat} {d : Dd} (hj : ds[j]? = some d) :
    ∃ b o c, v = .slice (some ⟨b, o, none⟩) ds.length c ∧ b < w.heap.size ∧ ∀ k, k < 8 → w.cell? ⟨b, o + j * 8 + k, none⟩ = (Dd.cells d)[k]? := by
  obtain ⟨al, c, rfl, h⟩ := h
  obtain ⟨b, o, rfl, _, hb, hc⟩ := h (by have := (List.getElem?_eq_some_iff.1 hj).1; omega)
  exact ⟨b, o, c, rfl, hb, fun k hk => Rd.at (c := Dd.cells) (sz := 8) (fun _ => rfl) hc hj k hk⟩
theorem answer_len (ds : List Dd) (a b c : Int) : (answer ds a b c).length ≤ ds.length + 1 := by
  unfold answer
  split
  · omega
  · simp <;> omega
theorem move_deeds {s s' : St} {e : Ev} {n : Int} (h : move s e n = some s') : s'.t.deeds.length ≤ s.t.deeds.length + 1 := by
  unfold move at h
  split at h
  · cases h; simp
  · split at h
    · split at h
      · cases h
      · split at h
        · cases h; exact answer_len _ _ _ _
        · cases h
    · split at h
      · cases h; simp
      · split at h
        · cases h; simp
        · split at h
          · cases h; simp
          · cases h; simp
theorem feed_sizes {objs : List Ob} {l l' : List St} {n : Nat} {e : Ev} (h : feed objs l n e = .ok l') {k : Nat} (hk : l.length ≤ k ∧ ∀ s ∈ l, s.t.deeds.length ≤ k) : l'.length ≤ k + 1 ∧ ∀ s ∈ l', s.t.deeds.length ≤ k + 1 := by
  unfold feed at h
  split at h
  · cases h
  · split at h
    · cases h
    · split at h
      · split at h
        · cases h
        · split at h
          · cases h
          · cases h
            refine ⟨by simp; omega, fun s hs => ?_⟩
            rcases List.mem_append.1 hs with hs | hs
            · have := hk.2 s hs; omega
            · simp at hs; subst hs; simp
      · split at h
        · cases h
        · split at h
          · cases h
          · rename_i i _ s hs
            split at h
            · split at h
              · cases h
              · rename_i s' hm
                cases h
                refine ⟨by simp; omega, fun x hx => ?_⟩
                rcases List.mem_or_eq_of_mem_set hx with hx | rfl
                · have := hk.2 x hx; omega
                · have h1 := move_deeds hm
                  have h2 := hk.2 s (List.mem_of_getElem? hs)
                  omega
            · cases h
theorem Fed.sizes {objs : List Ob} {evs : List Ev} {l : List St} (h : Fed objs evs l) : l.length ≤ evs.length ∧ ∀ s ∈ l, s.t.deeds.length ≤ evs.length := by
  induction h with
  | nil => simp
  | snoc _ hf ih =>
    have := feed_sizes hf ih
    simpa using this
end Go.Proofs.YtbogjkggfdhckaaGreatDoor

/-
  the laws of chapter 21: first.
-/
namespace Go.Proofs.YtbogjkggfdhckaaGreatDoor
open Go.RowKit Go.Um

def fs1 : List Int := [1, 1, 1, 0, 0, 0, 0, 0, 0, 0, 0, 1, 1]
def fs2 : List Int := [1, 1, 1, 0, 0, 0, 0, 0, 0, 0, 0, 1, 1, 1, 1]
theorem fs1_len : ((startM exP).runI exP fs1).evs.length = 12 := by decide +kernel
theorem fs2_len : ((startM exP).runI exP fs2).evs.length = 14 := by decide +kernel
theorem fs1_val : (flatE ((startM exP).runI exP fs1).evs)[94]? = some (.int .i64 1) := by kernel_rfl
theorem fs2_val : (flatE ((startM exP).runI exP fs2).evs)[104]? = some (.int .i64 6) := by kernel_rfl
theorem exP_ok : exP.ok = true := by decide +kernel
theorem run_ex {E : Nat → Addr} {P : Nat → Prop} {vc vt : Value} {W w2 : World} {s : List Int} {cs : Array Value} {e : TypeId} {n c : Nat} (hG : Gl E W) (hk : Kp [] W w2) (hp : PgAt w2 P vc vt exP) (hc : cs.toList = flatI s) (hn : s.length = n) (hl : s.length ≤ 300) :
    Calls Tryz.prog 15 #[.agg #[vc, vt], .slice (some ⟨w2.heap.size, 0, none⟩) n c] (w2.alloc (.cells cs e)) fun r w' => (∃ vo vev, r = .returned (.tuple #[.agg #[vo, vev], .nilIface]) ∧ RdP w' (fun x => w2.heap.size < x) vo 2 (flatO (objsOf exP)) ∧ RdP w' (fun x => w2.heap.size < x) vev ((startM exP).runI exP s).evs.length (flatE ((startM exP).runI exP s).evs)) ∧ Kp [] w2 w' := by
  subst hn
  refine (lrunr_ok E P (fun x => w2.heap.size ≤ x) exP vc vt _ s _ ((hG.kp0 hk).kp0 ((Kp.refl _ _).alloc _)) (hp.kp ((Kp.refl [] _).alloc _) (by simp)) exP_ok (rdP_new (Nat.le_refl _) hc) hl).mono ?_
  rintro r w' ⟨⟨m, vo, vev, rfl, hend, h1, h2⟩, hk2⟩
  have hm : m = (startM exP).runI exP s := hend
  subst hm
  exact ⟨⟨vo, vev, rfl, h1.mono (fun x _ h => by simp at h; omega), h2.mono (fun x _ h => by simp at h; omega)⟩, ((Kp.refl [] w2).alloc _).trans hk2 (by simp)⟩

set_option maxRecDepth 100000 in
set_option maxHeartbeats 4000000 in
theorem first_any (E : Nat → Addr) (w : World) (hG : Gl E w) : Calls Tryz.prog 10 #[] w fun r w' => r = .returned (.bool true) ∧ Kp [] w w' := by
  have HG := Lib.hid hG
  clear hG
  go_enter Tryz.func10, Tryz.ntmps10
  go_upto_region 2 with (first | (go_at_call 43; refine (example_any _).mono ?_; rintro e w2 ⟨⟨vc, vt, rfl, hpg⟩, hk2⟩; have HPG := Lib.hid hpg; have HK2 := Lib.hid hk2; clear hpg hk2) | (go_at_call 15; refine (run_ex (s := fs1) HG.out HK2.out HPG.out rfl rfl (by decide)).mono ?_; rintro e w3 ⟨⟨vo, vev, rfl, hv1, hv2⟩, hk3⟩; obtain ⟨av, cv, rfl, _⟩ := hv1; rw [fs1_len] at hv2; obtain ⟨ae, ce, rfl, hx2⟩ := hv2; have H2 := Lib.hid hx2; have HK3 := Lib.hid (HK2.out.trans hk3 (by simp)); clear hx2 hk3))
  obtain ⟨b, o, rfl, _, hbl, hc⟩ := H2.out (by decide)
  have hc1 := hc 94 _ fs1_val
  refine wp_gen fun W hW => ?_
  obtain ⟨b1, hb1⟩ : ∃ x, x = w3.heap.size := ⟨_, rfl⟩
  have hkW : Kp [] w3 W := by rw [hW]; exact (Kp.refl _ _).alloc _
  have d1 : W.cell? ⟨b1, 1, none⟩ = some (.slice (some ⟨b, o, none⟩) 12 ce) := by rw [hW, hb1]; simp [go_sem]
  have l1 := World.block_lt_of_cell? W _ d1
  dsimp only at l1
  rw [← hb1]
  replace hc1 := (hkW.cellAt hc1 (by simp)).1
  replace hbl := (hkW.blk b hbl (by simp)).1
  have HKW := Lib.hid (HK3.out.trans hkW (by simp))
  have D1 := Lib.hid d1
  have C1 := Lib.hid hc1
  clear hW hkW hc hb1 H2 HK3 HK2 HPG d1 hc1
  go_upto_region 3 with (first | (go_at_call 43; refine (example_any _).mono ?_; rintro e w4 ⟨⟨vc, vt, rfl, hpg⟩, hk2⟩; have HPG := Lib.hid hpg; have HK4 := Lib.hid hk2; clear hpg hk2) | (go_at_call 15; refine (run_ex (s := fs2) HG.out (HKW.out.trans HK4.out (by simp)) HPG.out rfl rfl (by decide)).mono ?_; rintro e w5 ⟨⟨vo, vev, rfl, hv1, hv2⟩, hk3⟩; obtain ⟨av, cv, rfl, _⟩ := hv1; rw [fs2_len] at hv2; obtain ⟨ae, ce2, rfl, hx2⟩ := hv2; have H2 := Lib.hid hx2; have HK5 := Lib.hid (HK4.out.trans hk3 (by simp)); clear hx2 hk3))
  obtain ⟨b', o', rfl, _, hbl', hc'⟩ := H2.out (by decide)
  have hc2 := hc' 104 _ fs2_val
  refine wp_gen fun W2 hW2 => ?_
  obtain ⟨b2, hb2⟩ : ∃ x, x = w5.heap.size := ⟨_, rfl⟩
  have hkW2 : Kp [] w5 W2 := by rw [hW2]; exact (Kp.refl _ _).alloc _
  have d2 : W2.cell? ⟨b2, 1, none⟩ = some (.slice (some ⟨b', o', none⟩) 14 ce2) := by rw [hW2, hb2]; simp [go_sem]
  have l2 := World.block_lt_of_cell? W2 _ d2
  dsimp only at l2
  rw [← hb2]
  have hkk := HK5.out.trans hkW2 (by simp)
  have d1 := (hkk.cellAt D1.out (by simp)).1
  have c1 := (hkk.cellAt C1.out (by simp)).1
  have c2 := (hkW2.cellAt hc2 (by simp)).1
  replace l1 := (hkk.blk b1 l1 (by simp)).1
  replace hbl := (hkk.blk b hbl (by simp)).1
  replace hbl' := (hkW2.blk b' hbl' (by simp)).1
  have HKK := Lib.hid (HKW.out.trans hkk (by simp))
  clear hW2 hkW2 hc' hb2 hkk hc2
  go_wp2
  go_ret
  exact ⟨rfl, HKK.out⟩
end Go.Proofs.YtbogjkggfdhckaaGreatDoor

/-
  the laws of chapter 21: LateReads, walked.
-/
namespace Go.Proofs.YtbogjkggfdhckaaGreatDoor
open Go.RowKit Go.Um

/-- A deed's cells, one by one. -/
structure DdAt (w : World) (b o : Nat) (d : Dd) : Prop where
  c0 : w.cell? ⟨b, o, none⟩ = some (.int .i64 d.obj)
  c1 : w.cell? ⟨b, o + 1, none⟩ = some (.int .i64 d.op)
  c5 : w.cell? ⟨b, o + 5, none⟩ = some (.int .i64 d.got)
  c7 : w.cell? ⟨b, o + 7, none⟩ = some (.int .i64 d.back)
theorem ddAt {w : World} {P : Nat → Prop} {v : Value} {ds : List Dd} (h : RdP w P v ds.length (flatD ds)) {j : Nat} {d : Dd} (hj : ds[j]? = some d) : ∃ b o c, v = .slice (some ⟨b, o, none⟩) ds.length c ∧ b < w.heap.size ∧ DdAt w b (o + j * 8) d := by
  obtain ⟨b, o, c, hv, hb, hc⟩ := h.dd hj
  exact ⟨b, o, c, hv, hb, hc 0 (by decide), hc 1 (by decide), hc 5 (by decide), hc 7 (by decide)⟩
theorem min100 (n : Nat) (h : n ≤ 20) : n ≤ 100000 := by omega

set_option maxRecDepth 100000 in
set_option maxHeartbeats 4000000 in
theorem lateReads_any (E : Nat → Addr) (P PS : Nat → Prop) (p : Pg) (vc vt vs : Value) (sched : List Int) (w : World) (hG : Gl E w) (h : PgAt w P vc vt p) (hs : RdP w PS vs sched.length (flatI sched)) :
    Calls Tryz.prog 3 #[.agg #[vc, vt], vs] w fun r w' => r = .returned (.bool true) ∧ Kp [] w w' := by
  have hF : ∀ W, Kp [] w W → _ := fun W hW => first_any E W (hG.kp0 hW)
  have hSm : ∀ W, Kp [] w W → _ := fun W hW => small_any P p vc vt W (h.kp hW (by simp))
  have HG := Lib.hid hG
  have HFI := Lib.hid hF
  have HSM := Lib.hid hSm
  cases hp : p.ok with
  | false =>
    have hB : ∀ W, Kp [] w W → p.ths.length ≤ 20 → _ := fun W hW h20 => lfull_bad E P p vc vt vs W (hG.kp0 hW) (h.kp hW (by simp)) hp (min100 _ h20)
    have HB := Lib.hid hB
    obtain ⟨⟨ac, cc, rfl, _⟩, us, _, ⟨at_, ct, rfl, _⟩, _⟩ := h
    obtain ⟨asl, csl, rfl, _⟩ := hs
    clear hG hF hSm hB hp
    unfold errV at HB
    by_cases hl : sched.length ≤ 300
    · have hl2 : (sched.length : Int) ≤ 300 := by omega
      go_enter Tryz.func3, Tryz.ntmps3
      go_wp2_with (first | (go_at_call 10; refine (HFI.out _ ((Kp.refl _ _).alloc _)).mono ?_; rintro e w1 ⟨rfl, hk1⟩; obtain ⟨lb, cb, fb⟩ := hk1.blk w.heap.size (by simp) (by simp); have HK1 := Lib.hid (((Kp.refl [] w).alloc _).trans hk1 (by simp)); have e0 : w1.cell? ⟨w.heap.size, 0, none⟩ = some (.slice ac p.cells.length cc) := (cb 0).trans (by simp [go_sem]); have e1 : w1.cell? ⟨w.heap.size, 1, none⟩ = some (.slice at_ p.ths.length ct) := (cb 1).trans (by simp [go_sem]); clear hk1 cb fb) | (go_at_call 11; refine (HSM.out _ HK1.out).mono ?_; rintro e w2 ⟨he, hk2⟩; obtain ⟨lb2, cb2, fb2⟩ := hk2.blk w.heap.size lb (by simp); have HK2 := Lib.hid (HK1.out.trans hk2 (by simp)); have e0 : w2.cell? ⟨w.heap.size, 0, none⟩ = some (.slice ac p.cells.length cc) := (cb2 0).trans e0; have e1 : w2.cell? ⟨w.heap.size, 1, none⟩ = some (.slice at_ p.ths.length ct) := (cb2 1).trans e1; clear hk2 cb2 fb2; rcases he with ⟨rfl, h20⟩ | rfl) | (go_at_call 12; refine (HB.out _ HK2.out h20).mono ?_; rintro e w3 ⟨rfl, hk3⟩; have HK3 := Lib.hid (HK2.out.trans hk3 (by simp)); clear hk3))
      all_goals go_ret
      all_goals first | exact ⟨rfl, HK3.out.alloc _⟩ | exact ⟨rfl, HK2.out⟩
    · have hl2 : 300 < (sched.length : Int) := by omega
      go_enter Tryz.func3, Tryz.ntmps3
      go_wp2_with (first | (go_at_call 10; refine (HFI.out _ ((Kp.refl _ _).alloc _)).mono ?_; rintro e w1 ⟨rfl, hk1⟩; obtain ⟨lb, cb, fb⟩ := hk1.blk w.heap.size (by simp) (by simp); have HK1 := Lib.hid (((Kp.refl [] w).alloc _).trans hk1 (by simp)); have e0 : w1.cell? ⟨w.heap.size, 0, none⟩ = some (.slice ac p.cells.length cc) := (cb 0).trans (by simp [go_sem]); have e1 : w1.cell? ⟨w.heap.size, 1, none⟩ = some (.slice at_ p.ths.length ct) := (cb 1).trans (by simp [go_sem]); clear hk1 cb fb) | (go_at_call 11; refine (HSM.out _ HK1.out).mono ?_; rintro e w2 ⟨he, hk2⟩; have HK2 := Lib.hid (HK1.out.trans hk2 (by simp)); clear hk2; rcases he with ⟨rfl, h20⟩ | rfl))
      all_goals go_ret
      all_goals exact ⟨rfl, HK2.out⟩
  | true =>
    have hpo := Pg.ok.all hp
    by_cases hl : sched.length ≤ 300
    · have hFu : ∀ W, Kp [] w W → _ := fun W hW => lfull_ok E P PS p vc vt vs sched W (hG.kp0 hW) (h.kp hW (by simp)) hp (hs.kp hW (by simp)) hl
      have HFU := Lib.hid hFu
      have HPO := Lib.hid hpo
      obtain ⟨⟨ac, cc, rfl, _⟩, us, _, ⟨at_, ct, rfl, _⟩, _⟩ := h
      obtain ⟨asl, csl, rfl, _⟩ := hs
      have hl2 : (sched.length : Int) ≤ 300 := by omega
      clear hG hF hSm hFu hp hpo
      go_enter Tryz.func3, Tryz.ntmps3
      go_wp2_with (first | (go_at_call 10; refine (HFI.out _ ((Kp.refl _ _).alloc _)).mono ?_; rintro e w1 ⟨rfl, hk1⟩; obtain ⟨lb, cb, fb⟩ := hk1.blk w.heap.size (by simp) (by simp); have HK1 := Lib.hid (((Kp.refl [] w).alloc _).trans hk1 (by simp)); have e0 : w1.cell? ⟨w.heap.size, 0, none⟩ = some (.slice ac p.cells.length cc) := (cb 0).trans (by simp [go_sem]); have e1 : w1.cell? ⟨w.heap.size, 1, none⟩ = some (.slice at_ p.ths.length ct) := (cb 1).trans (by simp [go_sem]); clear hk1 cb fb) | (go_at_call 11; refine (HSM.out _ HK1.out).mono ?_; rintro e w2 ⟨he, hk2⟩; obtain ⟨lb2, cb2, fb2⟩ := hk2.blk w.heap.size lb (by simp); have HK2 := Lib.hid (HK1.out.trans hk2 (by simp)); have e0 : w2.cell? ⟨w.heap.size, 0, none⟩ = some (.slice ac p.cells.length cc) := (cb2 0).trans e0; have e1 : w2.cell? ⟨w.heap.size, 1, none⟩ = some (.slice at_ p.ths.length ct) := (cb2 1).trans e1; clear hk2 cb2 fb2; rcases he with ⟨rfl, h20⟩ | rfl) | (go_at_call 12; refine (HFU.out _ HK2.out).mono ?_; rintro e w3 ⟨⟨m, vo, vev, rfl, hend, hv1, hv2⟩, hk3⟩; have HEND := Lib.hid hend; obtain ⟨l, hI⟩ := hend.inv HPO.out; have HI := Lib.hid hI; have HV1 := Lib.hid hv1; have HV2 := Lib.hid hv2; obtain ⟨ao, co, rfl, _⟩ := hv1; obtain ⟨ae, ce, rfl, _⟩ := hv2; have HK3 := Lib.hid (HK2.out.trans hk3 (by simp)); clear hk3 hend hI) | (go_at_call 13; refine (table_late HPO.out HI.out (w := w3.alloc _) (HG.out.kp0 (HK3.out.alloc _)) (HV1.out.kp ((Kp.refl [] _).alloc _) (by simp)) (HV2.out.kp ((Kp.refl [] _).alloc _) (by simp))).mono ?_; rintro e w4 ⟨⟨v, rfl, hT⟩, hk4⟩; have HT := Lib.hid hT; have HK4 := Lib.hid ((HK3.out.alloc _).trans hk4 (by simp)); clear hT hk4))
      · obtain ⟨l, hl0⟩ : ∃ x, x = l := ⟨_, rfl⟩
        have hI := HI.out
        have hdone := HEND.out.done
        have hsz := hI.sim.fed.sizes
        have hfew := hI.sim.few HPO.out
        have hlen : (l.map St.t).length ≤ 1000000 := by rw [hl0, List.length_map]; omega
        have hcom : ∀ (i : Nat) t, (l.map St.t)[i]? = some t → (t.status = 3 → ∃ f : Int → Int, RdOk (fun c g => g = f c) t.deeds) ∧ (∀ d ∈ t.deeds, d.op = 1 ∨ d.op = 2) ∧ t.deeds.length ≤ 1000000 := fun i t ht => by
          simp only [List.getElem?_map, Option.map_eq_some_iff] at ht
          obtain ⟨s, hs, rfl⟩ := ht
          rw [hl0] at hs
          have hm := List.mem_of_getElem? hs
          exact ⟨fun h3 => hI.com s hm (done_all hI hdone s hm) h3, hI.ops s hm, by have := hsz.2 s hm; omega⟩
        rw [← hl0] at HT
        obtain ⟨txs, htxs⟩ : ∃ x, x = l.map St.t := ⟨_, rfl⟩
        rw [← htxs] at HT hcom hlen
        have HCOM := Lib.hid hcom
        clear hI hdone hsz hfew hcom hl0 htxs HI HEND HV1 HV2 HK3 HK2 HK1
        have hv : ∃ a c, v = .slice a txs.length c := by
          obtain ⟨_, _, ⟨a, c, h, _⟩, _⟩ := HT.out
          exact ⟨a, c, h⟩
        obtain ⟨av, cv, rfl⟩ := hv
        rename_i w4x _ _
        go_loopw [10] (fun s10 wr => ∃ i : Nat, i ≤ txs.length ∧ s10 = .int .i64 i ∧ Kp [] w4 wr) (fun s10 _ => txs.length + 1 - (intOf s10).toNat)
        case atStart => exact ⟨0, by omega, rfl, Kp.refl _ _⟩
        case round =>
          obtain ⟨i, hi, rfl, hkr⟩ := hrel
          by_cases hlt : i < txs.length
          · obtain ⟨t, ht⟩ : ∃ t, txs[i]? = some t := ⟨txs[i], by simp [hlt]⟩
            obtain ⟨b, o, c', u, hv, hb, hc, hR⟩ := (HT.out.kp hkr (by simp)).row ht
            obtain ⟨rfl, rfl⟩ : av = some ⟨b, o, none⟩ ∧ cv = c' := by simpa using hv
            have q2 : wr.cell? ⟨b, o + i * 7 + 2, none⟩ = some (.int .i64 t.status) := hc 2 (by decide)
            have q6 : wr.cell? ⟨b, o + i * 7 + 6, none⟩ = some u := hc 6 (by decide)
            obtain ⟨hcm, hops, hdl⟩ := HCOM.out i t ht
            have HR := Lib.hid hR
            obtain ⟨au, cu, rfl, _⟩ := hR
            have HOPS := Lib.hid hops
            have HKR := Lib.hid hkr
            clear hkr hc hv ht hops
            by_cases h3 : t.status = 3
            · obtain ⟨f, hf⟩ := hcm h3
              have HFF := Lib.hid hf
              obtain ⟨ds, hds⟩ : ∃ x, x = t.deeds := ⟨_, rfl⟩
              rw [← hds] at HFF HOPS HR hdl
              simp only [← hds] at q6 ⊢
              have hb3 : (t.status != 3) = false := by simp [h3]
              have H3 := Lib.hid h3
              clear hcm hf h3 hds
              go_wp2
              rename World => wq
              go_loopw [12] (fun s12 wr => ∃ k : Nat, k ≤ ds.length ∧ s12 = .int .i64 k ∧ Kp [] wq wr) (fun s12 _ => ds.length + 1 - (intOf s12).toNat)
              case atStart => exact ⟨0, by omega, rfl, Kp.refl _ _⟩
              case round =>
                obtain ⟨k, hk, rfl, hkr⟩ := hrel
                by_cases hlk : k < ds.length
                · obtain ⟨d, hd⟩ : ∃ d, ds[k]? = some d := ⟨ds[k], by simp [hlk]⟩
                  have HKR2 := Lib.hid hkr
                  have HD := Lib.hid hd
                  clear hkr hd
                  go_wp2
                  rename World => wx
                  go_loopw [13] (fun s13 wr => ∃ j : Nat, k + 1 ≤ j ∧ j ≤ ds.length ∧ s13 = .int .i64 j ∧ Kp [] wx wr ∧ (∀ (i' : Nat) x, k < i' → i' < j → ds[i']? = some x → ¬ (x.op = 2 ∧ x.obj = d.obj))) (fun s13 _ => ds.length + 1 - (intOf s13).toNat)
                  case atStart => exact ⟨k + 1, by omega, by omega, by go_num, Kp.refl _ _, fun i' x h1 h2 => by omega⟩
                  case round =>
                    obtain ⟨j, hkj, hj, rfl, hkr3, hno⟩ := hrel
                    have HNO := Lib.hid hno
                    have HKR3 := Lib.hid hkr3
                    have hRj := HR.out.kp ((HKR2.out.trans hkr3 (by simp))) (by simp)
                    clear hkr3 hno
                    obtain ⟨b1, o1, c1, hv, hb1, hdd⟩ := ddAt hRj HD.out
                    obtain ⟨rfl, rfl⟩ : au = some ⟨b1, o1, none⟩ ∧ cu = c1 := by simpa using hv
                    obtain ⟨p0, p1, p5, _⟩ := hdd
                    clear hv
                    by_cases hlj : j < ds.length
                    · obtain ⟨e, he⟩ : ∃ e, ds[j]? = some e := ⟨ds[j], by simp [hlj]⟩
                      obtain ⟨b2, o2, c2, hv, _, hee⟩ := ddAt hRj he
                      obtain ⟨⟨rfl, rfl⟩, _⟩ : (b1 = b2 ∧ o1 = o2) ∧ cu = c2 := by simpa using hv
                      obtain ⟨r0, r1, r5, _⟩ := hee
                      have HEE := Lib.hid he
                      clear hv he hRj
                      by_cases hd1 : d.op = 1
                      · have hd1b : (d.op == 1) = true := by simpa using hd1
                        have HD1 := Lib.hid hd1
                        clear hd1
                        by_cases hob : e.obj = d.obj
                        · have hobb : (e.obj == d.obj) = true := by simpa using hob
                          have HOB := Lib.hid hob
                          clear hob
                          by_cases hop : e.op = 2
                          · have hopb : (e.op == 2) = true := by simpa using hop
                            clear hop
                            go_wp2_with fail
                            go_quiet (fail)
                            go_wp2_with fail
                            go_roundw
                            case rel => exact ⟨k + 1, by omega, by go_num, HKR2.out.trans (HKR3.out.drewN _) (by simp)⟩
                            case measure => simp [intOf]; omega
                          · have hopb : (e.op == 2) = false := by simpa using hop
                            have hop1 : e.op = 1 := by
                              rcases HOPS.out e (List.mem_of_getElem? HEE.out) with h | h
                              · exact h
                              · exact absurd h hop
                            have hgot := reads_same HFF.out HD.out HEE.out (by omega) HD1.out HOB.out hop1 HNO.out
                            have hgb : (e.got != d.got) = false := by simp [hgot]
                            have HOP := Lib.hid hop
                            clear hop hop1 hgot
                            go_wp2_with fail
                            go_quiet (fail)
                            go_wp2_with fail
                            go_quiet (fail)
                            go_wp2_with fail
                            go_roundw
                            case rel => exact ⟨j + 1, by omega, by omega, by go_num, HKR3.out.drewN _, fun i' x h1 h2 hx => by
                              rcases Nat.lt_succ_iff_lt_or_eq.1 h2 with h2 | rfl
                              · exact HNO.out i' x h1 h2 hx
                              · rw [HEE.out] at hx; cases hx
                                exact fun h => HOP.out h.1⟩
                            case measure => simp [intOf]; omega
                        · have hobb : (e.obj == d.obj) = false := by simpa using hob
                          have HOB := Lib.hid hob
                          clear hob
                          go_wp2_with fail
                          go_quiet (fail)
                          go_wp2_with fail
                          go_quiet (fail)
                          go_wp2_with fail
                          go_roundw
                          case rel => exact ⟨j + 1, by omega, by omega, by go_num, HKR3.out.drewN _, fun i' x h1 h2 hx => by
                            rcases Nat.lt_succ_iff_lt_or_eq.1 h2 with h2 | rfl
                            · exact HNO.out i' x h1 h2 hx
                            · rw [HEE.out] at hx; cases hx
                              exact fun h => HOB.out h.2⟩
                          case measure => simp [intOf]; omega
                      · have hd1b : (d.op == 1) = false := by simpa using hd1
                        clear hd1
                        go_wp2_with fail
                        go_roundw
                        case rel => exact ⟨k + 1, by omega, by go_num, HKR2.out.trans HKR3.out (by simp)⟩
                        case measure => simp [intOf]; omega
                    · obtain rfl : j = ds.length := by omega
                      clear hRj
                      go_wp2_with fail
                      go_roundw
                      case rel => exact ⟨k + 1, by omega, by go_num, HKR2.out.trans HKR3.out (by simp)⟩
                      case measure => simp [intOf]; omega
                · obtain rfl : k = ds.length := by omega
                  have HKR2 := Lib.hid hkr
                  clear hkr
                  go_wp2_with fail
                  go_roundw
                  case rel => exact ⟨i + 1, by omega, by go_num, HKR.out.trans HKR2.out (by simp)⟩
                  case measure => simp [intOf]; omega
            · have hb3 : (t.status != 3) = true := by simpa using h3
              clear h3 hcm
              go_wp2_with fail
              go_roundw
              case rel => exact ⟨i + 1, by omega, by go_num, HKR.out⟩
              case measure => simp [intOf]; omega
          · obtain rfl : i = txs.length := by omega
            have HKR := Lib.hid hkr
            clear hkr
            go_wp2_with fail
            go_ret
            exact ⟨rfl, HK4.out.trans HKR.out (by simp)⟩
      · go_ret
        exact ⟨rfl, HK2.out⟩
    · have hl2 : 300 < (sched.length : Int) := by omega
      obtain ⟨⟨ac, cc, rfl, _⟩, us, _, ⟨at_, ct, rfl, _⟩, _⟩ := h
      obtain ⟨asl, csl, rfl, _⟩ := hs
      clear hG hF hSm hp hpo
      go_enter Tryz.func3, Tryz.ntmps3
      go_wp2_with (first | (go_at_call 10; refine (HFI.out _ ((Kp.refl _ _).alloc _)).mono ?_; rintro e w1 ⟨rfl, hk1⟩; obtain ⟨lb, cb, fb⟩ := hk1.blk w.heap.size (by simp) (by simp); have HK1 := Lib.hid (((Kp.refl [] w).alloc _).trans hk1 (by simp)); have e0 : w1.cell? ⟨w.heap.size, 0, none⟩ = some (.slice ac p.cells.length cc) := (cb 0).trans (by simp [go_sem]); have e1 : w1.cell? ⟨w.heap.size, 1, none⟩ = some (.slice at_ p.ths.length ct) := (cb 1).trans (by simp [go_sem]); clear hk1 cb fb) | (go_at_call 11; refine (HSM.out _ HK1.out).mono ?_; rintro e w2 ⟨he, hk2⟩; have HK2 := Lib.hid (HK1.out.trans hk2 (by simp)); clear hk2; rcases he with ⟨rfl, h20⟩ | rfl))
      all_goals go_ret
      all_goals exact ⟨rfl, HK2.out⟩
end Go.Proofs.YtbogjkggfdhckaaGreatDoor

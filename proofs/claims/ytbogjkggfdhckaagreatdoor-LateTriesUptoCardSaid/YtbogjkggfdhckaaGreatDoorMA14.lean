/-
  Lemmas on the way to Rr1: Pr3, Pr4, Pr5.
-/
import Derived.Test.YtbogjkggfdhckaaGreatDoorMA13
import Derived.Deep.DeepCutAuto
/-
  prog: a thread's cells are written; the end of a transaction.
-/
namespace Go.Proofs.YtbogjkggfdhckaaGreatDoor
open Go.RowKit Go.Um

theorem flatT_set : ∀ {ths : List Th} {i : Nat} {t t' : Th} {j : Nat} {v : Value}, ths[i]? = some t → Th.cells t' = (Th.cells t).set j v → j < 6 → flatT (ths.set i t') = (flatT ths).set (i * 6 + j) v
  | [], _, _, _, _, _, h, _, _ => by simp at h
  | x :: l, 0, t, t', j, v, h, hc, hj => by
    simp at h; subst h
    have hl : (Th.cells x).length = 6 := rfl
    simp only [List.set_cons_zero, flatT, List.flatMap_cons, hc, Nat.zero_mul, Nat.zero_add]
    rw [List.set_append_left _ _ (by rw [hl]; exact hj)]
  | x :: l, i + 1, t, t', j, v, h, hc, hj => by
    have ih := flatT_set (ths := l) (i := i) (by simpa using h) hc hj
    have hl : (Th.cells x).length = 6 := rfl
    simp only [List.set_cons_succ, flatT, List.flatMap_cons] at ih ⊢
    rw [ih, List.set_append_right _ _ (by rw [hl]; omega), hl]
    congr 2
    omega
theorem WalkAt.put1 {w : World} {bw B : Nat} {P : Nat → Prop} {p : Pg} {vc vt : Value} {ths : List Th} {gt ct : Nat} {evs : List Ev} {ve : Value} (h : WalkAt w bw B P p vc vt ths gt ct evs ve) {i : Nat} {t t' : Th} {j : Nat} {v : Value} (hi : ths[i]? = some t) (hc : Th.cells t' = (Th.cells t).set j v) (hj : j < 6) :
    WalkAt (w.setCell ⟨gt, i * 6 + j, none⟩ v) bw B P p vc vt (ths.set i t') gt ct evs ve := by
  have hk : Kp [gt] w (w.setCell ⟨gt, i * 6 + j, none⟩ v) := (Kp.refl _ _).setCell _ _ (fun _ => by simp)
  obtain ⟨l, c, f⟩ := hk.blk bw h.lt (by simpa using fun e => h.d1 e.symm)
  have hlen : (ths.set i t').length = ths.length := by simp
  refine { lt := l, fz := fun j => (f j).trans (h.fz j), c0 := (c 0).trans h.c0, c1 := (c 1).trans h.c1, c2 := by rw [hlen]; exact (c 2).trans h.c2, c3 := (c 3).trans h.c3, ne := by simp [h.ne], pg := h.pg.kp hk ?_, ow := ?_, oe := own_kp h.oe hk ?_, d1 := h.d1, d2 := h.d2, d3 := h.d3, p0 := fun x hx => Nat.lt_of_lt_of_le (h.p0 x hx) hk.size, p1 := h.p1, p2 := h.p2, p3 := h.p3 }
  · intro x hx
    simp at hx
    subst hx
    exact h.p2
  · rw [hlen, flatT_set hi hc hj]
    exact (h.ow.stored (i * 6 + j) v).1
  · intro g hg hx
    simp at hx
    subst hx
    exact h.d3 hg
theorem set_get {α : Type} {l : List α} {i : Nat} {a b : α} (h : l[i]? = some a) : (l.set i b)[i]? = some b := by
  simp [(List.getElem?_eq_some_iff.1 h).1]
theorem set_twice {α : Type} {l : List α} {i : Nat} {a b : α} : (l.set i a).set i b = l.set i b := by simp

set_option maxRecDepth 100000 in
set_option maxHeartbeats 2000000 in
theorem ends_any {w : World} {bw B : Nat} {P : Nat → Prop} {p : Pg} {vc vt : Value} {ths : List Th} {gt ct : Nat} {evs : List Ev} {ve : Value} (h : WalkAt w bw B P p vc vt ths gt ct evs ve) {i : Nat} {t : Th} (hi : ths[i]? = some t) (hi4 : i < 4) (hk : t.tx < 3) (kind : Int) (hl : evs.length < 1000000) (hB : B ≤ w.heap.size) :
    Calls Tryz.prog 157 #[.pointer (some ⟨bw, 0, none⟩), .int .i64 i, .int .i64 kind] w fun r w' => r = .returned (.tuple #[evV (endE i t kind).f, .bool true]) ∧
      (∃ ve', WalkAt w' bw B P p vc vt (ths.set i (newT t)) gt ct (evs ++ [endE i t kind]) ve' ∧ ∀ g, ve'.ownBlock = some g → ve.ownBlock = some g ∨ w.heap.size ≤ g) ∧ Kp (bw :: gt :: ve.ownBlock.toList) w w' := by
  have hil := (List.getElem?_eq_some_iff.1 hi).1
  have hi0 : (0 : Int) ≤ i := by omega
  have hi1 : (i : Int) < ths.length := by omega
  have H := Lib.hid h
  have hH : ∀ W, Kp [] w W → _ := fun W hW => happens_any (h.kp0 hW) hi hi4 hk ⟨kind, 0, 0, 0, 0, 0, 0, 0⟩ hl (Nat.le_trans hB hW.size)
  unfold evV at hH ⊢
  simp only [Ev.f] at hH
  simp only [Ev.f, endE]
  have HH := Lib.hid hH
  have HI := Lib.hid hi
  clear h hH hi
  go_enter Tryz.func157, Tryz.ntmps157
  go_wp2_with (go_at_call 134; refine (HH.out _ ((Kp.refl _ _).alloc _)).mono ?_; rintro r w1 ⟨rfl, ⟨ve', hw1, hve⟩, hk1⟩; have HVE := Lib.hid hve; have hvl : ∀ x ∈ bw :: ve.ownBlock.toList, x < w.heap.size := (fun x hx => by simp at hx; rcases hx with rfl | hx; exact H.out.lt; exact (H.out.oe.lt x hx).2); obtain ⟨l1, c1, f1⟩ := hk1.blk w.heap.size (by simp) (fun hx => by have := hvl _ hx; omega); have t0 := hw1.th HI.out 0 (by decide); have t1 := hw1.th HI.out 1 (by decide); have t2 := hw1.th HI.out 2 (by decide); have t3 := hw1.th HI.out 3 (by decide); have t4 := hw1.th HI.out 4 (by decide); have t5 := hw1.th HI.out 5 (by decide); simp [Th.cells] at t0 t1 t2 t3 t4 t5; have hc2 := hw1.c2; have hlw := hw1.lt; have hgl := (hw1.ow.lt gt rfl).2; have hgf := hw1.ow.frozenAt; have HW1 := Lib.hid hw1; have HK1 := Lib.hid hk1; clear hve hw1 hk1)
  refine wp_gen fun W hW => ?_
  have hkW : Kp [] w1 W := by rw [hW]; exact (Kp.refl _ _).alloc _
  obtain ⟨be, hbe⟩ : ∃ x, x = w1.heap.size := ⟨_, rfl⟩
  obtain ⟨br, hbr⟩ : ∃ x, x = w.heap.size := ⟨_, rfl⟩
  have e0 : ∀ j, W.cell? ⟨be, j, none⟩ = #[.int .i64 kind, .int .i64 (idOf i t.tx), .int .i64 0, .int .i64 0, .int .i64 0, .int .i64 0, .int .i64 0, .int .i64 0][j]? := fun j => by rw [hW, hbe, World.cell?_alloc_new]
  have hbl : be < W.heap.size := by rw [hW, hbe]; simp
  rw [← hbe, ← hbr]
  have r0 : ∀ j, W.cell? ⟨br, j, none⟩ = #[.int .i64 0, .int .i64 0, .int .i64 0, .int .i64 0, .int .i64 0, .int .i64 0, .int .i64 0, .int .i64 0][j]? := fun j => by
    rw [hkW.cell (by rw [hbr]; exact l1) (by simp), hbr, c1, World.cell?_alloc_new]
  have rf : ∀ j, W.frozen? ⟨br, j, none⟩ = false := fun j => by
    rw [hkW.frozen (by rw [hbr]; exact l1) (by simp), hbr, f1, World.frozen?_alloc_new]
  have hbrl : br < W.heap.size := by rw [hbr]; exact Nat.lt_of_lt_of_le l1 hkW.size
  have hbrlt := l1
  have d1 := (hkW.cellAt t0 (by simp)).1
  have d2 := (hkW.cellAt t1 (by simp)).1
  have d3 := (hkW.cellAt t2 (by simp)).1
  have d4 := (hkW.cellAt t3 (by simp)).1
  have d5 := (hkW.cellAt t4 (by simp)).1
  have d6 := (hkW.cellAt t5 (by simp)).1
  have d7 := (hkW.cellAt hc2 (by simp)).1
  have hgl' := (hkW.blk gt hgl (by simp)).1
  have hlw' := (hkW.blk bw hlw (by simp)).1
  have hgf' : ∀ j, W.frozen? ⟨gt, j, none⟩ = false := fun j => (hkW.frozen hgl (by simp)).trans (hgf j)
  have hgb : gt ≠ be := by omega
  have hbg : be ≠ gt := by omega
  have HKW := Lib.hid hkW
  have HBE := Lib.hid hbe
  have HBR := Lib.hid hbr
  clear hbe hbr hW c1 f1 t0 t1 t2 t3 t4 t5 hc2 hgf hkW
  go_cut [] (fun wx => Kp [gt] W wx ∧ WalkAt wx bw B P p vc vt (ths.set i (newT t)) gt ct (evs ++ [endE i t kind]) ve')
  case first =>
    go_region
    all_goals go_wp2_with fail
    all_goals go_meet
    all_goals
      have a0 : WalkAt W bw B P p vc vt ths gt ct (evs ++ [endE i t kind]) ve' := HW1.out.kp0 HKW.out
      have a1 : WalkAt (W.setCell ⟨gt, i * 6, none⟩ (.int .i64 ((t.tx : Int) + 1))) bw B P p vc vt (ths.set i { t with tx := t.tx + 1 }) gt ct (evs ++ [endE i t kind]) ve' := a0.put1 (t' := { t with tx := t.tx + 1 }) (j := 0) (v := .int .i64 ((t.tx : Int) + 1)) HI.out rfl (by decide)
      have a2 := a1.put1 (t' := { t with tx := t.tx + 1, act := 0 }) (j := 1) (v := .int .i64 0) (set_get HI.out) rfl (by decide)
      have a3 := a2.put1 (t' := { t with tx := t.tx + 1, act := 0, begun := false }) (j := 2) (v := .bool false) (set_get (set_get HI.out)) rfl (by decide)
      have a4 := a3.put1 (t' := { t with tx := t.tx + 1, act := 0, begun := false, adding := false }) (j := 3) (v := .bool false) (set_get (set_get (set_get HI.out))) rfl (by decide)
      have a5 := a4.put1 (t' := { t with tx := t.tx + 1, act := 0, begun := false, adding := false, read := 0 }) (j := 4) (v := .int .i64 0) (set_get (set_get (set_get (set_get HI.out)))) rfl (by decide)
      have a6 := a5.put1 (t' := newT t) (j := 5) (v := .int .i64 0) (set_get (set_get (set_get (set_get (set_get HI.out))))) rfl (by decide)
      simp only [List.set_set] at a6
      exact ⟨by repeat (first | (with_reducible exact Kp.refl _ _) | refine Kp.drew ?_ | refine Kp.setCell ?_ _ _ (fun _ => by simp)), a6.kp0 ((Kp.refl _ _).drew)⟩
  case rest =>
  obtain ⟨hkc, hwf⟩ := hcut
  have hbrg : br ∉ [gt] := by
    simp; intro e0; have := (H.out.ow.lt gt rfl).2; have := HBR.out; omega
  have hbeg : be ∉ [gt] := by simp; exact hbg
  have e1 : ∀ j, wc.cell? ⟨be, j, none⟩ = #[.int .i64 kind, .int .i64 (idOf i t.tx), .int .i64 0, .int .i64 0, .int .i64 0, .int .i64 0, .int .i64 0, .int .i64 0][j]? := fun j => (hkc.cell hbl hbeg).trans (e0 j)
  have r1 : ∀ j, wc.cell? ⟨br, j, none⟩ = #[.int .i64 0, .int .i64 0, .int .i64 0, .int .i64 0, .int .i64 0, .int .i64 0, .int .i64 0, .int .i64 0][j]? := fun j => (hkc.cell hbrl hbrg).trans (r0 j)
  have rf1 : ∀ j, wc.frozen? ⟨br, j, none⟩ = false := fun j => (hkc.frozen hbrl hbrg).trans (rf j)
  have hbe1 := (hkc.blk be hbl hbeg).1
  have hbr1 := (hkc.blk br hbrl hbrg).1
  have HKC := Lib.hid hkc
  have HWF := Lib.hid hwf
  clear hkc hwf e0 r0 rf d1 d2 d3 d4 d5 d6 d7
  go_wp2
  have hbrw : br = w.heap.size := HBR.out
  have hk3 : Kp (bw :: gt :: ve.ownBlock.toList) w wc := (((((Kp.refl _ _).alloc _).trans (HK1.out.mono (T := bw :: gt :: ve.ownBlock.toList) (fun x hx _ => by simp at hx; rcases hx with rfl | hx; simp; simp [hx])) (fun x hx _ => hx)).trans (HKW.out.mono (T := bw :: gt :: ve.ownBlock.toList) (fun x hx _ => by simp at hx)) (fun x hx _ => hx)).trans (HKC.out.mono (T := bw :: gt :: ve.ownBlock.toList) (fun x hx _ => by simp at hx; simp [hx])) (fun x hx _ => hx))
  have hfin : ∀ w', Kp [br] wc w' → (∃ ve', WalkAt w' bw B P p vc vt (ths.set i (newT t)) gt ct (evs ++ [endE i t kind]) ve' ∧ ∀ g, ve'.ownBlock = some g → ve.ownBlock = some g ∨ w.heap.size ≤ g) ∧ Kp (bw :: gt :: ve.ownBlock.toList) w w' := by
    intro w' hk'
    refine ⟨⟨ve', HWF.out.kp hk' ?_ ?_ ?_ ?_, fun x hx => ?_⟩, hk3.trans hk' (fun x hx hl => by simp at hx; omega)⟩
    · have := H.out.lt; simp; omega
    · simpa using fun e0 => hbrg (by simp [e0])
    · intro x hx hx2
      simp at hx2
      subst hx2
      rcases HVE.out x hx with h1 | h1
      · have := (H.out.oe.lt x h1).2; omega
      · simp at h1; omega
    · intro x hx hP
      simp at hx
      subst hx
      have := H.out.p0 x hP
      omega
    · rcases HVE.out x hx with h1 | h1
      · exact .inl h1
      · right; simp at h1; omega
  have b0 := r1 0
  have b1 := r1 1
  have b2 := r1 2
  have b3 := r1 3
  have b4 := r1 4
  have b5 := r1 5
  have b6 := r1 6
  have b7 := r1 7
  simp at b0 b1 b2 b3 b4 b5 b6 b7
  refine bodyPost_ret (v := .tuple #[.agg #[.int .i64 kind, .int .i64 (idOf i t.tx), .int .i64 0, .int .i64 0, .int .i64 0, .int .i64 0, .int .i64 0, .int .i64 0], .bool true]) ?_ rfl ⟨rfl, hfin _ ?_⟩
  · simp [results, Tryz.results157, go_sem, b0, b1, b2, b3, b4, b5, b6, b7]
  · repeat (first | (with_reducible exact Kp.refl _ _) | refine Kp.setCell ?_ _ _ (fun _ => by simp))
end Go.Proofs.YtbogjkggfdhckaaGreatDoor

/-
  prog: what an act asks for.
-/
namespace Go.Proofs.YtbogjkggfdhckaaGreatDoor
open Go.RowKit Go.Um

def acV (a : Ac) : Value := .agg #[.int .i64 a.k, .int .i64 a.c, .int .i64 a.v]
def readE (a : Ac) : Ev := ⟨2, 0, 0, a.c, 1, 0, 0, 0⟩
def writeE (c v : Int) : Ev := ⟨2, 0, 0, c, 2, 0, v, 0⟩
set_option maxRecDepth 100000 in
theorem ask1_any (q : Value) (a : Ac) (w : World) : Calls Tryz.prog 160 #[q, acV a] w fun r w' => r = .returned (evV (readE a).f) ∧ Kp [] w w' := by
  unfold acV evV
  simp only [Ev.f, readE]
  go_enter Tryz.func160, Tryz.ntmps160
  go_wp2
  refine bodyPost_ret (v := .agg #[.int .i64 2, .int .i64 0, .int .i64 0, .int .i64 a.c, .int .i64 1, .int .i64 0, .int .i64 0, .int .i64 0]) ?_ rfl ⟨rfl, ?_⟩
  · simp [results, Tryz.results160, go_sem]
  · repeat (first | (with_reducible exact Kp.refl _ _) | refine Kp.alloc ?_ _ | refine Kp.setCell ?_ _ _ (fun h => absurd h (by simp)))
set_option maxRecDepth 100000 in
theorem ask2_any (q : Value) (a : Ac) (w : World) : Calls Tryz.prog 161 #[q, acV a] w fun r w' => r = .returned (evV (writeE a.c a.v).f) ∧ Kp [] w w' := by
  unfold acV evV
  simp only [Ev.f, writeE]
  go_enter Tryz.func161, Tryz.ntmps161
  go_wp2
  refine bodyPost_ret (v := .agg #[.int .i64 2, .int .i64 0, .int .i64 0, .int .i64 a.c, .int .i64 2, .int .i64 0, .int .i64 a.v, .int .i64 0]) ?_ rfl ⟨rfl, ?_⟩
  · simp [results, Tryz.results161, go_sem]
  · repeat (first | (with_reducible exact Kp.refl _ _) | refine Kp.alloc ?_ _ | refine Kp.setCell ?_ _ _ (fun h => absurd h (by simp)))
theorem cf_ask1 (args : Array Value) (w : World) : (callFunc 160 args).run Tryz.prog w = .ok (.enter 160 args) w := cf_of Tryz.func160 (by kernel_rfl) rfl args w
theorem cf_ask2 (args : Array Value) (w : World) : (callFunc 161 args).run Tryz.prog w = .ok (.enter 161 args) w := cf_of Tryz.func161 (by kernel_rfl) rfl args w
theorem cf_ask3 (args : Array Value) (w : World) : (callFunc 162 args).run Tryz.prog w = .ok (.enter 162 args) w := cf_of Tryz.func162 (by kernel_rfl) rfl args w

set_option maxRecDepth 100000 in
set_option maxHeartbeats 2000000 in
theorem ask3_read (gt i b1 b2 : Nat) (a : Ac) (w : World) (h3 : w.cell? ⟨gt, i * 6 + 3, none⟩ = some (.bool false)) (h1 : w.cell? ⟨b1, 0, none⟩ = some (.func (.func 160) #[] #[])) :
    Calls Tryz.prog 162 #[.pointer (some ⟨gt, i * 6, none⟩), acV a, .pointer (some ⟨b1, 0, none⟩), .pointer (some ⟨b2, 0, none⟩)] w fun r w' => r = .returned (evV (readE a).f) ∧ Kp [] w w' := by
  have hA := fun q W => ask1_any q a W
  have l1 := World.block_lt_of_cell? w _ h1
  have l2 := World.block_lt_of_cell? w _ h3
  dsimp only at l1 l2
  unfold acV evV at hA ⊢
  simp only [Ev.f, readE] at hA ⊢
  have HA := Lib.hid hA
  clear hA
  go_enter Tryz.func162, Tryz.ntmps162
  go_wp2_with (go_at_call 160; refine (HA.out _ _).mono ?_; rintro e w1 ⟨rfl, hk1⟩; obtain ⟨l3, c3, f3⟩ := hk1.blk (w.heap.size + 1) (by simp) (by simp); have HK := Lib.hid hk1; clear hk1)
  have r0 : ∀ j, w1.cell? ⟨w.heap.size + 1, j, none⟩ = #[.int .i64 0, .int .i64 0, .int .i64 0, .int .i64 0, .int .i64 0, .int .i64 0, .int .i64 0, .int .i64 0][j]? := fun j => (c3 j).trans (by simp [go_sem])
  have q0 := r0 0
  have q1 := r0 1
  have q2 := r0 2
  have q3 := r0 3
  have q4 := r0 4
  have q5 := r0 5
  have q6 := r0 6
  have q7 := r0 7
  simp at q0 q1 q2 q3 q4 q5 q6 q7
  have hk0 : Kp [] w w1 := (((Kp.refl _ _).alloc _).alloc _).trans HK.out (by simp)
  refine bodyPost_ret (v := .agg #[.int .i64 2, .int .i64 0, .int .i64 0, .int .i64 a.c, .int .i64 1, .int .i64 0, .int .i64 0, .int .i64 0]) ?_ rfl ⟨rfl, ?_⟩
  · simp [results, Tryz.results162, go_sem, q0, q1, q2, q3, q4, q5, q6, q7]
  · repeat (first | (with_reducible exact hk0) | refine Kp.setCell ?_ _ _ (fun h => absurd h (by simp)))

set_option maxRecDepth 100000 in
set_option maxHeartbeats 2000000 in
theorem ask3_add (gt i b1 b2 : Nat) (a : Ac) (rd : Int) (w : World) (h3 : w.cell? ⟨gt, i * 6 + 3, none⟩ = some (.bool true)) (h4 : w.cell? ⟨gt, i * 6 + 4, none⟩ = some (.int .i64 rd)) (h1 : w.cell? ⟨b2, 0, none⟩ = some (.func (.func 161) #[] #[])) (hr : -1000000000 ≤ a.v + rd ∧ a.v + rd ≤ 1000000000) :
    Calls Tryz.prog 162 #[.pointer (some ⟨gt, i * 6, none⟩), acV a, .pointer (some ⟨b1, 0, none⟩), .pointer (some ⟨b2, 0, none⟩)] w fun r w' => r = .returned (evV (writeE a.c (a.v + rd)).f) ∧ Kp [] w w' := by
  have hA := fun q W => ask2_any q ⟨a.k, a.c, a.v + rd⟩ W
  have l1 := World.block_lt_of_cell? w _ h1
  have l2 := World.block_lt_of_cell? w _ h3
  dsimp only at l1 l2
  unfold acV evV at hA ⊢
  simp only [Ev.f, writeE] at hA ⊢
  have HA := Lib.hid hA
  clear hA
  go_enter Tryz.func162, Tryz.ntmps162
  go_wp2
  go_region
  all_goals
    go_wp2_with (go_at_call 161; refine (HA.out _ _).mono ?_; rintro e w1 ⟨rfl, hk1⟩; obtain ⟨l3, c3, f3⟩ := hk1.blk (w.heap.size + 1) (by simp) (by simp); have HK := Lib.hid hk1; clear hk1)
    have r0 : ∀ j, w1.cell? ⟨w.heap.size + 1, j, none⟩ = #[.int .i64 0, .int .i64 0, .int .i64 0, .int .i64 0, .int .i64 0, .int .i64 0, .int .i64 0, .int .i64 0][j]? := fun j => (c3 j).trans (by simp [go_sem])
    have q0 := r0 0
    have q1 := r0 1
    have q2 := r0 2
    have q3 := r0 3
    have q4 := r0 4
    have q5 := r0 5
    have q6 := r0 6
    have q7 := r0 7
    simp at q0 q1 q2 q3 q4 q5 q6 q7
    have hk0 : Kp [] w w1 := ((((Kp.refl _ _).alloc _).alloc _).drew).trans HK.out (by simp)
    refine bodyPost_ret (v := .agg #[.int .i64 2, .int .i64 0, .int .i64 0, .int .i64 a.c, .int .i64 2, .int .i64 0, .int .i64 (a.v + rd), .int .i64 0]) ?_ rfl ⟨rfl, ?_⟩
    · simp [results, Tryz.results162, go_sem, q0, q1, q2, q3, q4, q5, q6, q7]
    · repeat (first | (with_reducible exact hk0) | refine Kp.setCell ?_ _ _ (fun h => absurd h (by simp)))
/-- What an act asks for: its function's value. -/
def AskOk (w : World) (k : Int) (v : Value) : Prop :=
  (k = 1 ∧ v = .func (.func 160) #[] #[]) ∨ (k = 2 ∧ v = .func (.func 161) #[] #[]) ∨
  (k = 3 ∧ ∃ b1 b2, v = .func (.func 162) #[] #[.pointer (some ⟨b1, 0, none⟩), .pointer (some ⟨b2, 0, none⟩)] ∧ w.cell? ⟨b1, 0, none⟩ = some (.func (.func 160) #[] #[]) ∧ w.cell? ⟨b2, 0, none⟩ = some (.func (.func 161) #[] #[]))
theorem AskOk.kp {w w' : World} {k : Int} {v : Value} (h : AskOk w k v) (hk : Kp [] w w') : AskOk w' k v := by
  rcases h with h | h | ⟨h1, b1, b2, h2, h3, h4⟩
  · exact .inl h
  · exact .inr (.inl h)
  · exact .inr (.inr ⟨h1, b1, b2, h2, (hk.cellAt h3 (by simp)).1, (hk.cellAt h4 (by simp)).1⟩)
def askE0 (t : Th) (a : Ac) : Ev := if isRead t a then readE a else writeE a.c (if a.k = 3 then a.v + t.read else a.v)
theorem askE0_tx (i : Nat) (t : Th) (a : Ac) : ({ askE0 t a with tx := idOf i t.tx } : Ev) = askE i t a := by
  unfold askE0 askE
  by_cases h : isRead t a = true
  · rw [if_pos h, if_pos h]; rfl
  · rw [if_neg h, if_neg h]; rfl
theorem ask_any {w : World} {v : Value} {gt i : Nat} {t : Th} {a : Ac} (h : AskOk w a.k v) (h3 : w.cell? ⟨gt, i * 6 + 3, none⟩ = some (.bool t.adding)) (h4 : w.cell? ⟨gt, i * 6 + 4, none⟩ = some (.int .i64 t.read)) (hr : t.adding = true → -1000000000 ≤ a.v + t.read ∧ a.v + t.read ≤ 1000000000) :
    ∃ fn caps, v = .func (.func fn) #[] caps ∧ (∀ (args : Array Value) (W : World), (callFunc fn args).run Tryz.prog W = .ok (.enter fn args) W) ∧
      Calls Tryz.prog fn (#[.pointer (some ⟨gt, i * 6, none⟩), acV a] ++ caps) w fun r w' => r = .returned (evV (askE0 t a).f) ∧ Kp [] w w' := by
  rcases h with ⟨h1, rfl⟩ | ⟨h1, rfl⟩ | ⟨h1, b1, b2, rfl, c1, c2⟩
  · refine ⟨_, _, rfl, cf_ask1, ?_⟩
    have : askE0 t a = readE a := by simp [askE0, isRead, h1]
    rw [this]
    exact ask1_any _ a w
  · refine ⟨_, _, rfl, cf_ask2, ?_⟩
    have : askE0 t a = writeE a.c a.v := by simp [askE0, isRead, h1]
    rw [this]
    exact ask2_any _ a w
  · refine ⟨_, _, rfl, cf_ask3, ?_⟩
    cases had : t.adding with
    | false =>
      have : askE0 t a = readE a := by simp [askE0, isRead, h1, had]
      rw [this]
      rw [had] at h3
      exact ask3_read gt i b1 b2 a w h3 c1
    | true =>
      have : askE0 t a = writeE a.c (a.v + t.read) := by simp [askE0, isRead, h1, had]
      rw [this]
      rw [had] at h3
      exact ask3_add gt i b1 b2 a t.read w h3 h4 c2 (hr had)

set_option maxRecDepth 100000 in
theorem asks_any (w : World) : Calls Tryz.prog 135 #[] w fun r w' => (∃ g, r = .returned (.slice (some ⟨g, 0, none⟩) 5 5) ∧ g < w'.heap.size ∧ ∀ k : Nat, 1 ≤ k → k ≤ 3 → ∃ v, w'.cell? ⟨g, k, none⟩ = some v ∧ AskOk w' k v) ∧ Kp [] w w' := by
  go_enter Tryz.func135, Tryz.ntmps135
  go_wp2
  go_ret
  refine ⟨⟨_, rfl, by simp, ?_⟩, ?_⟩
  · intro k h1 h3
    match k, h1, h3 with
    | 1, _, _ => exact ⟨.func (.func 160) #[] #[], by simp [go_sem], .inl ⟨rfl, rfl⟩⟩
    | 2, _, _ => exact ⟨.func (.func 161) #[] #[], by simp [go_sem], .inr (.inl ⟨rfl, rfl⟩)⟩
    | 3, _, _ => exact ⟨.func (.func 162) #[] #[.pointer (some ⟨w.heap.size, 0, none⟩), .pointer (some ⟨w.heap.size + 1, 0, none⟩)], by simp [go_sem], .inr (.inr ⟨rfl, _, _, rfl, by simp [go_sem], by simp [go_sem]⟩)⟩
  · repeat (first | (with_reducible exact Kp.refl _ _) | refine Kp.alloc ?_ _ | refine Kp.setCell ?_ _ _ (fun h => absurd h (by simp)))
end Go.Proofs.YtbogjkggfdhckaaGreatDoor

/-
  prog: a thread's next event.
-/
namespace Go.Proofs.YtbogjkggfdhckaaGreatDoor
open Go.RowKit Go.Um

/-- What a step of a walk leaves. -/
def Went (n : Nat) (w' : World) (bw B : Nat) (P : Nat → Prop) (p : Pg) (vc vt : Value) (ths : List Th) (gt ct : Nat) (evs : List Ev) (ve : Value) : Prop :=
  ∃ ve', WalkAt w' bw B P p vc vt ths gt ct evs ve' ∧ ∀ g, ve'.ownBlock = some g → ve.ownBlock = some g ∨ n ≤ g
theorem Went.fin {n br : Nat} {w w2 w' : World} {bw B : Nat} {P : Nat → Prop} {p : Pg} {vc vt : Value} {ths ths' : List Th} {gt ct : Nat} {evs evs' : List Ev} {ve : Value} (h : Went n w2 bw B P p vc vt ths' gt ct evs' ve) (h0 : WalkAt w bw B P p vc vt ths gt ct evs ve) (h1 : w.heap.size ≤ br) (h2 : br < n) (hk : Kp [br] w2 w') : Went w.heap.size w' bw B P p vc vt ths' gt ct evs' ve := by
  obtain ⟨ve', hw, hve⟩ := h
  have a1 := h0.lt
  have a2 := (h0.ow.lt gt rfl).2
  refine ⟨ve', hw.kp hk (by simp; omega) (by simp; omega) ?_ ?_, fun g hg => (hve g hg).imp (fun h => h) (fun h => by omega)⟩
  · intro g hg hx
    simp at hx
    subst hx
    rcases hve g hg with h | h
    · have := (h0.oe.lt g h).2; omega
    · omega
  · intro x hx hP
    simp at hx
    subst hx
    have := h0.p0 x hP
    omega

set_option maxRecDepth 100000 in
set_option maxHeartbeats 2000000 in
theorem next_begin {w : World} {bw B : Nat} {P : Nat → Prop} {p : Pg} {vc vt : Value} {ths : List Th} {gt ct : Nat} {evs : List Ev} {ve : Value} (h : WalkAt w bw B P p vc vt ths gt ct evs ve) {i : Nat} {t : Th} {txs : List (List Ac)} (hi : ths[i]? = some t) (ht : p.ths[i]? = some txs) (hn : t.tx < txs.length) (hi4 : i < 4) (hk : t.tx < 3) (hb : t.begun = false) (hw : t.waits = 0) (hl : evs.length < 1000000) (hB : B ≤ w.heap.size) :
    Calls Tryz.prog 109 #[.pointer (some ⟨bw, 0, none⟩), .int .i64 i] w fun r w' => r = .returned (.tuple #[evV (beginE i t).f, .bool true]) ∧
      Went w.heap.size w' bw B P p vc vt (ths.set i { t with begun := true }) gt ct (evs ++ [beginE i t]) ve ∧ Kp (bw :: gt :: ve.ownBlock.toList) w w' := by
  have H := Lib.hid h
  have HI := Lib.hid hi
  have hof : ∀ W, Kp [] w W → _ := fun W hW => of_more (h.kp0 hW) hi ht hn
  have HOF := Lib.hid hof
  have hgl : gt < w.heap.size := (h.ow.lt gt rfl).2
  have hgf := h.ow.frozenAt
  have t2 := h.th hi 2 (by decide)
  have t5 := h.th hi 5 (by decide)
  simp [Th.cells, hb, hw] at t2 t5
  have hput := h.kp0 ((Kp.refl [] w).alloc (.cells #[.int .i64 0, .int .i64 0, .int .i64 0, .int .i64 0, .int .i64 0, .int .i64 0, .int .i64 0, .int .i64 0] tEve))
  have hH : ∀ W, WalkAt W bw B P p vc vt (ths.set i { t with begun := true }) gt ct evs ve → w.heap.size ≤ W.heap.size → _ := fun W hW hs => happens_any hW (set_get hi) hi4 hk ⟨1, 0, i, 0, 0, 0, 0, 0⟩ hl (Nat.le_trans hB hs)
  unfold evV at hH ⊢
  simp only [Ev.f, beginE] at hH ⊢
  have HH := Lib.hid hH
  clear h hi hof ht hn hH hput hb hw
  go_enter Tryz.func109, Tryz.ntmps109
  go_upto_region 6 with (go_at_call 107; refine (HOF.out _ ((Kp.refl _ _).alloc _)).mono ?_; rintro r w1 ⟨rfl, m, rfl⟩)
  refine wp_gen fun W hW => ?_
  obtain ⟨br, hbr⟩ : ∃ x, x = w.heap.size := ⟨_, rfl⟩
  have hkW : Kp [gt] w W := by rw [hW]; exact (((Kp.refl _ _).alloc _).drewN _).setCell _ _ (fun _ => by simp)
  have hWW : WalkAt W bw B P p vc vt (ths.set i { t with begun := true }) gt ct evs ve := by
    rw [hW]
    exact ((H.out.kp0 ((Kp.refl _ _).alloc _)).kp0 ((Kp.refl _ _).drewN _)).put1 HI.out rfl (by decide)
  have r0 : ∀ j, W.cell? ⟨br, j, none⟩ = #[.int .i64 0, .int .i64 0, .int .i64 0, .int .i64 0, .int .i64 0, .int .i64 0, .int .i64 0, .int .i64 0][j]? := fun j => by
    rw [hW, World.cell?_setCell_other _ _ _ _ (by simp <;> omega), hbr]
    exact World.cell?_alloc_new w _ _ _
  have rf : ∀ j, W.frozen? ⟨br, j, none⟩ = false := fun j => by rw [hW, World.frozen?_setCell, hbr]; exact World.frozen?_alloc_new w _ _ _
  have hs1 : w.heap.size + 1 ≤ W.heap.size := by rw [hW]; simp [go_sem]
  rw [← hbr]
  have HWW := Lib.hid hWW
  have HKW := Lib.hid hkW
  have HBR := Lib.hid hbr
  clear hW hkW hWW hbr t2 t5 hgf
  go_wp2_with (go_at_call 134; refine (HH.out W HWW.out (by omega)).mono ?_; rintro r w2 ⟨rfl, hq, hk2⟩; have HQ := Lib.hid hq; have hbr2 : br ∉ bw :: ve.ownBlock.toList := (fun hx => by have := HBR.out; simp at hx; rcases hx with hx | hx; have := H.out.lt; omega; have := (H.out.oe.lt _ hx).2; omega); obtain ⟨l3, c3, f3⟩ := hk2.blk br (by have := HBR.out; omega) hbr2; have q0 := (c3 0).trans (r0 0); have q1 := (c3 1).trans (r0 1); have q2 := (c3 2).trans (r0 2); have q3 := (c3 3).trans (r0 3); have q4 := (c3 4).trans (r0 4); have q5 := (c3 5).trans (r0 5); have q6 := (c3 6).trans (r0 6); have q7 := (c3 7).trans (r0 7); simp at q0 q1 q2 q3 q4 q5 q6 q7; have q8 := fun j => (f3 j).trans (rf j); have HK2 := Lib.hid hk2; clear hk2 hq c3 f3)
  have hbw := HBR.out
  refine bodyPost_ret (v := .tuple #[evV (beginE i t).f, .bool true]) ?_ rfl ?_
  · simp [results, Tryz.results109, go_sem, q0, q1, q2, q3, q4, q5, q6, q7, evV, Ev.f, beginE]
  · have hk3 : ∀ w', Kp [br] w2 w' → Kp (bw :: gt :: ve.ownBlock.toList) w w' := fun w' h => ((HKW.out.mono (T := bw :: gt :: ve.ownBlock.toList) (fun x hx _ => by simp at hx; simp [hx])).trans (HK2.out.mono (T := bw :: gt :: ve.ownBlock.toList) (fun x hx _ => by simp at hx; rcases hx with rfl | hx; simp; simp [hx])) (fun x hx _ => hx)).trans h (fun x hx hl => by simp at hx; omega)
    have hfin : ∀ w', Kp [br] w2 w' → _ := fun w' hk => And.intro (Went.fin (n := W.heap.size) HQ.out H.out (br := br) (by omega) (by omega) hk) (hk3 w' hk)
    refine ⟨rfl, hfin _ ?_⟩
    repeat (first | (with_reducible exact Kp.refl _ _) | refine Kp.setCell ?_ _ _ (fun _ => by simp))
end Go.Proofs.YtbogjkggfdhckaaGreatDoor

/-
  Lemmas on the way to Rr1: La9, LaA.
-/
import Derived.Test.YtbogjkggfdhckaaGreatDoorMA21
/-
  late in memory: react.
-/
namespace Go.Proofs.YtbogjkggfdhckaaGreatDoor
open Go.RowKit Go.Um

theorem cf_react (args : Array Value) (w : World) : (callFunc 48 args).run Tryz.prog w = .ok (.enter 48 args) w := cf_of Tryz.func48 (by kernel_rfl) rfl args w
theorem asAt_new2 (W : World) : AsAt ((W.alloc (.map #[] 0)).alloc (.map #[] 0)).drew W.heap.size [] ∧ AsAt ((W.alloc (.map #[] 0)).alloc (.map #[] 0)).drew (W.heap.size + 1) [] := by
  refine ⟨⟨[], 0, ?_, rfl, by simp, by simp⟩, ⟨[], 0, ?_, rfl, by simp, by simp⟩⟩
  · rw [imap?_drew, imap?_alloc_past _ _ (by simp), imap?_alloc_new _ _ rfl]
  · rw [imap?_drew, imap?_alloc_new _ _ (by simp)]

set_option maxRecDepth 100000 in
set_option maxHeartbeats 2000000 in
theorem react_begin {w : World} {bm g2 k2 n2 i B : Nat} {e : Ev} {xs : List Value} (hk : e.kind = 1) (m2 : w.cell? ⟨bm, 2, none⟩ = some (.slice (some ⟨g2, 0, none⟩) n2 k2)) (hi : i < n2) (hrow : w.ownsRow B tWorker 2 (.slice (some ⟨g2, 0, none⟩) n2 k2) n2 xs) (hng : bm ≠ g2) :
    Calls Tryz.prog 48 #[.pointer (some ⟨bm, 0, none⟩), .int .i64 i, evV e.f] w fun r w' => r = .returned .nilFunc ∧ ∃ r1 r2, AsAt w' r1 [] ∧ AsAt w' r2 [] ∧ w.heap.size ≤ r1 ∧ w.heap.size ≤ r2 ∧ r1 ≠ r2 ∧ Kp [g2] w w' ∧ w'.ownsRow B tWorker 2 (.slice (some ⟨g2, 0, none⟩) n2 k2) n2 ((xs.set (i * 2) (.map (some r1))).set (i * 2 + 1) (.map (some r2))) := by
  have l1 := World.block_lt_of_cell? w _ m2
  have l2 : g2 < w.heap.size := (hrow.lt g2 rfl).2
  dsimp only at l1
  have hxl := hrow.1
  have q1 := hrow.cellAt (i * 2) (by omega)
  have q2 := hrow.cellAt (i * 2 + 1) (by omega)
  obtain ⟨u1, hu1⟩ : ∃ u, xs[i * 2]? = some u := ⟨xs[i * 2]'(by omega), by simp⟩
  obtain ⟨u2, hu2⟩ : ∃ u, xs[i * 2 + 1]? = some u := ⟨xs[i * 2 + 1]'(by omega), by simp⟩
  rw [hu1] at q1
  rw [hu2] at q2
  have HROW := Lib.hid hrow
  have i0 : (0 : Int) ≤ i := by omega
  have i1 : (i : Int) < n2 := by omega
  unfold evV
  simp only [Ev.f, hk]
  have hmm := @run_makeMap Tryz.prog
  clear hrow hk hu1 hu2
  go_enter Tryz.func48, Tryz.ntmps48
  go_upto_region 3 with fail
  refine wp_gen fun W hW => ?_
  obtain ⟨b3, hb3⟩ : ∃ x, x = w.heap.size := ⟨_, rfl⟩
  obtain ⟨b4, hb4⟩ : ∃ x, x = w.heap.size + 1 := ⟨_, rfl⟩
  have ne1 : b3 ≠ g2 := by omega
  have ne2 : b4 ≠ g2 := by omega
  have ne3 := ne1.symm
  have ne4 := ne2.symm
  have ne5 := hng.symm
  have hkW : Kp [] w W := by rw [hW]; exact (((Kp.refl _ _).alloc _).alloc _).alloc _
  have e2 : W.cell? ⟨b3, 0, none⟩ = some (.pointer (some ⟨bm, 0, none⟩)) := by rw [hW, hb3]; simp [go_sem]
  have e3 : W.cell? ⟨b4, 0, none⟩ = some (.int .i64 i) := by rw [hW, hb4]; simp [go_sem]
  rw [← hb4, ← hb3]
  replace m2 := (hkW.cellAt m2 (by simp)).1
  replace q1 := (hkW.cellAt q1 (by simp)).1
  replace q2 := (hkW.cellAt q2 (by simp)).1
  have hro := own_kp HROW.out hkW (by simp)
  have z1 := hro.frozenAt
  replace l1 := (hkW.blk bm l1 (by simp)).1
  replace l2 := (hkW.blk g2 l2 (by simp)).1
  have l4 := World.block_lt_of_cell? W _ e2
  have l5 := World.block_lt_of_cell? W _ e3
  dsimp only at l4 l5
  have HRO := Lib.hid hro
  have HKW := Lib.hid hkW
  clear hW hkW hb3 hb4 hro
  go_region
  all_goals go_wp2_with fail
  all_goals go_ret
  · obtain ⟨W', hW'⟩ : ∃ x, x = (W.setCell ⟨g2, i * 2, none⟩ (.map (some W.heap.size))).setCell ⟨g2, i * 2 + 1, none⟩ (.map (some (W.heap.size + 1))) := ⟨_, rfl⟩
    have hs : W'.heap.size = W.heap.size := by rw [hW']; simp [World.size_setCell]
    have hk : Kp [g2] W W' := by rw [hW']; exact ((Kp.refl _ _).setCell _ _ (fun _ => by simp)).setCell _ _ (fun _ => by simp)
    have hrow := ((HRO.out.stored (i * 2) (.map (some W.heap.size))).1.stored (i * 2 + 1) (.map (some (W.heap.size + 1)))).1
    rw [← hW'] at hrow ⊢
    have ha := asAt_new2 W'
    rw [hs] at ha
    have hsz := HKW.out.size
    exact ⟨rfl, W.heap.size, (W.heap.size + 1), ha.1, ha.2, by omega, by omega, by omega, ((((HKW.out.mono (T := [g2]) (fun x hx _ => by simp at hx)).trans hk (fun x hx _ => hx)).alloc _).alloc _).drew, own_kp hrow (((Kp.refl [] W').alloc _).alloc _).drew (by simp)⟩
  · obtain ⟨W', hW'⟩ : ∃ x, x = (W.setCell ⟨g2, i * 2, none⟩ (.map (some (W.heap.size + 1)))).setCell ⟨g2, i * 2 + 1, none⟩ (.map (some W.heap.size)) := ⟨_, rfl⟩
    have hs : W'.heap.size = W.heap.size := by rw [hW']; simp [World.size_setCell]
    have hk : Kp [g2] W W' := by rw [hW']; exact ((Kp.refl _ _).setCell _ _ (fun _ => by simp)).setCell _ _ (fun _ => by simp)
    have hrow := ((HRO.out.stored (i * 2) (.map (some (W.heap.size + 1)))).1.stored (i * 2 + 1) (.map (some W.heap.size))).1
    rw [← hW'] at hrow ⊢
    have ha := asAt_new2 W'
    rw [hs] at ha
    have hsz := HKW.out.size
    exact ⟨rfl, (W.heap.size + 1), W.heap.size, ha.2, ha.1, by omega, by omega, by omega, ((((HKW.out.mono (T := [g2]) (fun x hx _ => by simp at hx)).trans hk (fun x hx _ => hx)).alloc _).alloc _).drew, own_kp hrow (((Kp.refl [] W').alloc _).alloc _).drew (by simp)⟩

set_option maxRecDepth 100000 in
set_option maxHeartbeats 2000000 in
theorem react_other {w : World} {bm i : Nat} {e : Ev} (ρ : Nat → Nat) (hk : e.kind = 2 ∨ e.kind = 4 ∨ e.kind = 7) :
    Calls Tryz.prog 48 #[.pointer (some ⟨bm, 0, none⟩), .int .i64 i, evV e.f] w fun r w' => (∃ f c, r = .returned (.func (.func f) #[] c) ∧ StpAt w' (fun y => if y < w.heap.size then ρ y else 0) bm i (react e) (.func (.func f) #[] c)) ∧ Kp [] w w' := by
  unfold evV
  simp only [Ev.f]
  have nn : ∀ k, (if w.heap.size + k < w.heap.size then ρ (w.heap.size + k) else 0) = 0 := fun k => if_neg (by omega)
  have NN := Lib.hid nn
  clear nn
  rcases hk with h | h | h
  · have hr : react e = .ans e := by simp [react, h]
    rw [hr]
    have HH := Lib.hid h
    simp only [h]
    clear hr h
    go_enter Tryz.func48, Tryz.ntmps48
    go_wp2
    go_ret
    refine ⟨⟨_, _, rfl, _, _, _, rfl, ?_⟩, by repeat (first | exact Kp.refl _ _ | apply Kp.alloc | apply Kp.drew)⟩
    refine ⟨NN.out 0, NN.out 1, NN.out 2, by simp [go_sem], by simp [go_sem], fun j hj => ?_⟩
    have := HH.out
    match j, hj with
    | 0, _ => simp [go_sem, Ev.cells, this]
    | 1, _ => simp [go_sem, Ev.cells, this]
    | 2, _ => simp [go_sem, Ev.cells, this]
    | 3, _ => simp [go_sem, Ev.cells, this]
    | 4, _ => simp [go_sem, Ev.cells, this]
    | 5, _ => simp [go_sem, Ev.cells, this]
    | 6, _ => simp [go_sem, Ev.cells, this]
    | 7, _ => simp [go_sem, Ev.cells, this]
  · have hr : react e = .look := by simp [react, h]
    rw [hr]
    simp only [h]
    clear hr h
    go_enter Tryz.func48, Tryz.ntmps48
    go_wp2
    go_ret
    exact ⟨⟨_, _, rfl, _, _, rfl, NN.out 0, NN.out 1, by simp [go_sem], by simp [go_sem]⟩, by repeat (first | exact Kp.refl _ _ | apply Kp.alloc | apply Kp.drew)⟩
  · have hr : react e = .abort := by simp [react, h]
    rw [hr]
    simp only [h]
    clear hr h
    go_enter Tryz.func48, Tryz.ntmps48
    go_wp2
    go_ret
    exact ⟨⟨_, _, rfl, _, _, rfl, NN.out 0, NN.out 1, by simp [go_sem], by simp [go_sem]⟩, by repeat (first | exact Kp.refl _ _ | apply Kp.alloc | apply Kp.drew)⟩
end Go.Proofs.YtbogjkggfdhckaaGreatDoor

/-
  late in memory: a transaction begins; the step that goes on.
-/
namespace Go.Proofs.YtbogjkggfdhckaaGreatDoor
open Go.RowKit Go.Um

theorem MachAt.begin {w w' : World} {p : Pg} {L : Lay} {m : Mc} {nv : List Value} {wv : List (Value × Value)} (h : MachAt w p L m nv wv) {S : List Nat} (hk : Kp S w w') (hC : Cl S w L.ρ [1, 2, 3, 6, 7]) {t' : Th} {evs' : List Ev} {ve' : Value} {i r1 r2 : Nat} (hw : WalkAt w' L.bw L.B L.P p L.vc L.vt (m.ths.set i t') L.gt L.ct evs' ve') (hve : ∀ g, ve'.ownBlock = some g → L.ve.ownBlock = some g ∨ w.heap.size ≤ g)
    (a1 : AsAt w' r1 []) (a2 : AsAt w' r2 []) (l1 : w.heap.size ≤ r1) (l2 : w.heap.size ≤ r2) (hne : r1 ≠ r2) (hn1 : ve'.ownBlock ≠ some r1) (hn2 : ve'.ownBlock ≠ some r2) (hwo : w'.ownsRow L.B tWorker 2 L.vwk m.ws.length (flatW (wv.set i (.map (some r1), .map (some r2))))) :
    MachAt w' p { L with ve := ve', ρ := fun x => if ve'.ownBlock = some x then 3 else if x = r1 then 10 + 2 * i else if x = r2 then 11 + 2 * i else L.ρ x } { m with ths := m.ths.set i t', evs := evs', ws := m.ws.set i ([], []) } nv (wv.set i (.map (some r1), .map (some r2))) := by
  have hB := h.sz
  have hρ : ∀ x, x < w.heap.size → (if ve'.ownBlock = some x then 3 else if x = r1 then 10 + 2 * i else if x = r2 then 11 + 2 * i else L.ρ x) = L.ρ x := by
    intro x hx
    split
    · rename_i he
      rcases hve x he with h1 | h1
      · exact (h.k3 x h1).symm
      · omega
    · rw [if_neg (by omega), if_neg (by omega)]
  have ro : ∀ {b o : Nat} {v : Value}, L.ρ b = 0 → w.cell? ⟨b, o, none⟩ = some v → w'.cell? ⟨b, o, none⟩ = some v := fun hb hc => cell_ro hk hC (by simp) hb hc
  have hlt := fun {b o : Nat} {v : Value} (hc : w.cell? ⟨b, o, none⟩ = some v) => World.block_lt_of_cell? w _ hc
  have hown : ∀ {e sz n : Nat} {v : Value} {xs : List Value}, w.ownsRow L.B e sz v n xs → (∀ g, v.ownBlock = some g → L.ρ g ∉ [1, 2, 3, 6, 7]) → w'.ownsRow L.B e sz v n xs := fun ho hc => own_kp ho hk (fun g hg => hC.out (ho.lt g hg).2 (hc g hg))
  exact {
    wk := hw, t0 := ro h.kt h.t0, t1 := ro h.kt h.t1, t2 := ro h.kt h.t2, t3 := ro h.kt h.t3, t4 := ro h.kt h.t4
    pg := h.pg.kp hk (fun x hx hq => by
      obtain ⟨q1, q2⟩ := h.q0 x hq
      exact hC.out q1 (by rw [q2]; simp) hx)
    q0 := fun x hx => ⟨Nat.lt_of_lt_of_le (h.q0 x hx).1 hk.size, (hρ x (h.q0 x hx).1).trans (h.q0 x hx).2⟩
    p0 := fun x hx => (hρ x (h.wk.p0 x hx)).trans (h.p0 x hx)
    nx := hown h.nx (fun g hg => by simp [Value.ownBlock] at hg; subst hg; rw [h.k4]; simp)
    st := fun j x v hx hv => (h.st j x v hx hv).fr hk hC (by simp) hρ
    m0 := ro h.km h.m0, m1 := ro h.km h.m1, m2 := ro h.km h.m2
    ce := hown h.ce (fun g hg => by rw [h.k5 g hg]; simp)
    wo := by simpa using hwo
    wl := by simpa using h.wl
    wm := fun j q v hq hv => by
      rcases get_set hq with ⟨rfl, rfl⟩ | ⟨hji, hq⟩
      · rcases get_set hv with ⟨_, rfl⟩ | ⟨hjj, _⟩
        · refine ⟨.inr ⟨r1, rfl, ?_, a1⟩, .inr ⟨r2, rfl, ?_, a2⟩⟩
          · show (if _ then _ else _) = _
            rw [if_neg hn1, if_pos rfl]
          · show (if _ then _ else _) = _
            rw [if_neg hn2, if_neg hne.symm, if_pos rfl]
        · exact absurd rfl hjj
      · rcases get_set hv with ⟨hjj, _⟩ | ⟨_, hv⟩
        · exact absurd hjj hji
        · exact ⟨(h.wm j q v hq hv).1.fr hk hC (by simp; omega) hρ, (h.wm j q v hq hv).2.fr hk hC (by simp; omega) hρ⟩
    bg := fun j u v hj hu hv => by
      rcases get_set hv with ⟨_, rfl⟩ | ⟨hjj, hv⟩
      · exact ⟨r1, r2, rfl⟩
      · rcases get_set hj with ⟨hji, _⟩ | ⟨_, hj⟩
        · exact absurd hji hjj
        · exact h.bg j u v hj hu hv
    k1 := (hρ _ h.wk.lt).trans h.k1
    k2 := (hρ _ (h.wk.ow.lt _ rfl).2).trans h.k2
    k3 := fun g hg => by show (if _ then _ else _) = 3; rw [if_pos hg]
    k4 := (hρ _ (h.nx.lt _ rfl).2).trans h.k4
    k5 := fun g hg => (hρ _ (h.ce.lt g hg).2).trans (h.k5 g hg)
    k6 := fun g hg => (hρ _ (h.wo.lt g hg).2).trans (h.k6 g hg)
    kt := (hρ _ (hlt h.t0)).trans h.kt
    km := (hρ _ (hlt h.m0)).trans h.km
    mb := fun j v r hv hor => by
      rcases get_set hv with ⟨_, rfl⟩ | ⟨_, hv⟩
      · rcases hor with hor | hor
        · simp at hor; subst hor; exact Nat.le_trans hB l1
        · simp at hor; subst hor; exact Nat.le_trans hB l2
      · exact h.mb j v r hv hor
    base := h.base }
theorem flatW_set (l : List (Value × Value)) (i : Nat) (x : Value × Value) : flatW (l.set i x) = ((flatW l).set (i * 2) x.1).set (i * 2 + 1) x.2 := by
  have := flat2_set Prod.fst Prod.snd l i x
  rw [Nat.mul_comm] at this
  exact this
/-- A thread goes on: its transaction begins. -/
theorem step_begin {w : World} {p : Pg} {L : Lay} {m : Mc} {nv : List Value} {wv : List (Value × Value)} {l : List St} (hp : PgOk p) (hI : Inv p m l) (h : MachAt w p L m nv wv) {i : Nat} {t : Th} {txs : List (List Ac)} {q : As × As} (hi : m.ths[i]? = some t) (ht : p.ths[i]? = some txs) (hn : t.tx < txs.length) (hq : m.ws[i]? = some q) (hx : m.nx[i]? = some .nil) (hb : t.begun = false) :
    Calls Tryz.prog 17 #[.pointer (some ⟨L.bm, 0, none⟩), .int .i64 i] w fun r w' => r = .returned (.bool true) ∧ Stepped w w' p L (m.put i { t with begun := true } (beginE i t) .nil ([], [])) := by
  have hil := (List.getElem?_eq_some_iff.1 ht).1
  have hwl := (List.getElem?_eq_some_iff.1 hq).1
  have h3 := hp.tx i txs ht
  have hi4 : i < 4 := by have := hp.t4; omega
  have hfew := hI.sim.few hp
  have T := hI.th i t _ q.1 q.2 hi hx hq
  have hwt : t.waits = 0 := T.nx
  obtain ⟨v, hv, hcell⟩ := nv_cell h hil
  have hv0 : v = .nilFunc := h.st i .nil v hx hv
  subst hv0
  obtain ⟨g6, c6, hg6, _, hl6⟩ := own_shape h.wo (by omega)
  have k6 := h.k6 g6 (by rw [hg6]; rfl)
  have hvel := fun g hg => (h.wk.oe.lt g hg).2
  have hbwl := h.wk.lt
  have hgtl : L.gt < w.heap.size := (h.wk.ow.lt _ rfl).2
  have hS : ∀ x ∈ L.bw :: L.gt :: L.ve.ownBlock.toList, x < w.heap.size := fun x hx => by
    simp at hx
    rcases hx with rfl | rfl | hx
    · exact hbwl
    · exact hgtl
    · exact hvel x hx
  have hC : Cl (L.bw :: L.gt :: L.ve.ownBlock.toList) w L.ρ [1, 2, 3] := fun x hx _ => by
    simp at hx
    rcases hx with rfl | rfl | hx
    · rw [h.k1]; simp
    · rw [h.k2]; simp
    · rw [h.k3 x hx]; simp
  have hnS : ∀ b, w.heap.size ≤ b → b ∉ L.bw :: L.gt :: L.ve.ownBlock.toList := fun b hb hx => by have := hS b hx; omega
  refine lateStep h.m0 ?_
  refine (step_gnil (R := fun W => GoneS w W p L { m with ths := m.ths.set i { t with begun := true }, evs := m.evs ++ [beginE i t], ws := m.ws.set i ([], []) } i .nil .nilFunc) h.t2 h.t3 hil hcell (done_no h.wk ⟨i, t, txs, rfl, hi, ht, hn⟩) (fun W b1 b2 hW c1 c2 hb12 => ?_)).mono ?_
  · have hMW := h.kp0 hW
    refine (goOnStep (e := beginE i t) (bm := L.bm) (bw := L.bw) (S := L.bw :: L.gt :: L.ve.ownBlock.toList) (R := fun W0 W1 => Went W0.heap.size W1 L.bw L.B L.P p L.vc L.vt (m.ths.set i { t with begun := true }) L.gt L.ct (m.evs ++ [beginE i t]) L.ve ∧ Kp (L.bw :: L.gt :: L.ve.ownBlock.toList) W0 W1) (Q := fun v w' => v = .nilFunc ∧ GoneS w w' p L { m with ths := m.ths.set i { t with begun := true }, evs := m.evs ++ [beginE i t], ws := m.ws.set i ([], []) } i .nil .nilFunc) (fun x hx => Nat.lt_of_lt_of_le (hS x hx) hW.size) c1 c2 hMW.t2 cf_react (fun W0 hW0 => ?_) (fun W0 W1 W' b hk0 hq1 hb0 hb1 hkb => ?_)).mono ?_
    · have hM0 := hMW.kp0 hW0
      refine (next_begin hM0.wk hi ht hn hi4 (by omega) hb hwt (by omega) hM0.sz).mono ?_
      rintro r w' ⟨rfl, hq', hk⟩
      have hkw : Kp (L.bw :: L.gt :: L.ve.ownBlock.toList) W w' := (hW0.mono (T := L.bw :: L.gt :: L.ve.ownBlock.toList) (fun x hx _ => by simp at hx)).trans hk (fun x hx _ => hx)
      exact ⟨rfl, ⟨hq', hk⟩, (hkw.cellAt c1 (hnS _ hb12.1)).1, (hkw.cellAt c2 (hnS _ hb12.2)).1, (hkw.cellAt hMW.t4 (fun hx => by have := hC L.bt hx (World.block_lt_of_cell? w _ h.t0); rw [h.kt] at this; simp at this)).1, hk⟩
    · obtain ⟨⟨ve', hw', hve'⟩, hk1⟩ := hq1
      have hkw0 : Kp [] w W0 := hW.trans hk0 (by simp)
      have hs0 := hkw0.size
      have hs1 := hk1.size
      have hsW := hW.size
      have hkw1 : Kp (L.bw :: L.gt :: L.ve.ownBlock.toList) w W1 := (hkw0.mono (T := L.bw :: L.gt :: L.ve.ownBlock.toList) (fun x hx _ => by simp at hx)).trans hk1 (fun x hx _ => hx)
      have hkw2 : Kp (L.bw :: L.gt :: L.ve.ownBlock.toList) w W' := hkw1.trans hkb (fun x hx hl => by simp at hx; omega)
      have n6 : g6 ∉ L.bw :: L.gt :: L.ve.ownBlock.toList := hC.out hl6 (by rw [k6]; simp)
      have hro := own_kp h.wo hkw2 (fun g hg => by rw [hg6] at hg; simp [Value.ownBlock] at hg; subst hg; exact n6)
      have hm2 := (hkw2.cellAt h.m2 (fun hx => by have := hC L.bm hx (World.block_lt_of_cell? w _ h.m0); rw [h.km] at this; simp at this)).1
      rw [hg6] at hro hm2
      refine (react_begin (e := beginE i t) rfl hm2 hwl hro (fun he => by have := h.km; rw [he, k6] at this; omega)).mono ?_
      rintro r w'' ⟨rfl, r1, r2, a1, a2, l1, l2, hne, hk2, hrow2⟩
      have hs2 := hkb.size
      have hkw3 : Kp (L.bw :: L.gt :: g6 :: L.ve.ownBlock.toList) w w'' := (hkw2.mono (T := L.bw :: L.gt :: g6 :: L.ve.ownBlock.toList) (fun x hx _ => by simp at hx ⊢; rcases hx with h | h | h <;> simp [h])).trans hk2 (fun x hx _ => by simp at hx; simp [hx])
      have hC3 : Cl (L.bw :: L.gt :: g6 :: L.ve.ownBlock.toList) w L.ρ [1, 2, 3, 6, 7] := fun x hx _ => by
        simp at hx
        rcases hx with rfl | rfl | rfl | hx
        · rw [h.k1]; simp
        · rw [h.k2]; simp
        · rw [k6]; simp
        · rw [h.k3 x hx]; simp
      have hvo := fun g hg => hw'.oe.lt g hg
      have hvb : ∀ g, ve'.ownBlock = some g → g ≠ b ∧ g ≠ g6 := fun g hg => by
        have := (hvo g hg).2
        rcases hve' g hg with h1 | h1
        · refine ⟨fun e => by have := hvel g h1; omega, fun e => ?_⟩
          have := h.k3 g h1; rw [e, k6] at this; omega
        · exact ⟨by omega, by omega⟩
      have hw2 := hw'.kp hkb (by simp; omega) (by simp; omega) (fun g hg => by simpa using (hvb g hg).1) (fun x hx hP => by simp at hx; subst hx; have := h.wk.p0 _ hP; omega)
      have hw3 := hw2.kp hk2 (fun hx => by simp at hx; have := h.k1; rw [hx, k6] at this; omega) (fun hx => by simp at hx; have := h.k2; rw [hx, k6] at this; omega) (fun g hg => by simpa using (hvb g hg).2) (fun x hx hP => by simp at hx; subst hx; have := h.p0 _ hP; omega)
      rw [← hg6, ← flatW_set wv i (.map (some r1), .map (some r2))] at hrow2
      have hM := h.begin (i := i) hkw3 hC3 hw3 (fun g hg => (hve' g hg).imp (fun h => h) (fun h => Nat.le_trans hs0 h)) a1 a2 (by omega) (by omega) hne (fun he => by have := (hvo _ he).2; omega) (fun he => by have := (hvo _ he).2; omega) hrow2
      refine ⟨_, rfl, rfl, ⟨_, _, _, hM, rfl, rfl, rfl, rfl, rfl, rfl, fun x hx => ?_⟩, _, hkw3, fun x hx => ?_⟩
      · show (if _ then _ else _) = _
        split
        · rename_i he
          rcases hve' x he with h1 | h1
          · exact (h.k3 x h1).symm
          · omega
        · rw [if_neg (by omega), if_neg (by omega)]
      simp at hx
      rcases hx with rfl | rfl | rfl | hx
      · exact ⟨h.base.1, fun _ => by rw [h.k1]; decide⟩
      · exact ⟨h.base.2.1, fun _ => by rw [h.k2]; decide⟩
      · exact ⟨(h.wo.lt x (by rw [hg6]; rfl)).1, fun _ => by rw [k6]; decide⟩
      · exact ⟨(h.wk.oe.lt x hx).1, fun _ => by rw [h.k3 x hx]; decide⟩
    · rintro r w' ⟨v, rfl, rfl, hg⟩
      exact ⟨rfl, hg, hg.put hil⟩
  · rintro r w' ⟨rfl, W, hg, _, rfl⟩
    exact ⟨⟨_, rfl⟩, rfl, hg.stepped h.gnMine⟩
/-- A thread goes on: its next act, or the try. -/
theorem step_more {w : World} {p : Pg} {L : Lay} {m : Mc} {nv : List Value} {wv : List (Value × Value)} {l : List St} (hp : PgOk p) (hI : Inv p m l) (h : MachAt w p L m nv wv) {i : Nat} {t : Th} {txs : List (List Ac)} {acts : List Ac} {q : As × As} (hi : m.ths[i]? = some t) (ht : p.ths[i]? = some txs) (hac : txs[t.tx]? = some acts) (hq : m.ws[i]? = some q) (hx : m.nx[i]? = some .nil) (hb : t.begun = true) :
    Calls Tryz.prog 17 #[.pointer (some ⟨L.bm, 0, none⟩), .int .i64 i] w fun r w' => r = .returned (.bool true) ∧ Stepped w w' p L (m.put i { t with waits := (nextE i t acts).kind } (nextE i t acts) (react (nextE i t acts)) q) := by
  have hil := (List.getElem?_eq_some_iff.1 ht).1
  have hn := (List.getElem?_eq_some_iff.1 hac).1
  have hwl := (List.getElem?_eq_some_iff.1 hq).1
  have h3 := hp.tx i txs ht
  have hi4 : i < 4 := by have := hp.t4; omega
  have hfew := hI.sim.few hp
  have T := hI.th i t _ q.1 q.2 hi hx hq
  have hwt : t.waits = 0 := T.nx
  obtain ⟨txs', acts', j, s, hc⟩ := hI.sim.get hi hb
  have e1 : txs' = txs := by have := hc.ptx; rw [ht] at this; cases this; rfl
  subst e1
  have e2 : acts' = acts := by have := hc.pac; rw [hac] at this; cases this; rfl
  subst e2
  obtain ⟨v, hv, hcell⟩ := nv_cell h hil
  have hv0 : v = .nilFunc := h.st i .nil v hx hv
  subst hv0
  have hke : (nextE i t acts').kind = 2 ∨ (nextE i t acts').kind = 4 ∨ (nextE i t acts').kind = 7 := by
    rcases nextE_cases i t acts' with h | h | ⟨a, _, _, h⟩
    · rw [h]; simp
    · rw [h]; simp
    · rw [h]; exact .inl (askE_parts i t a).1
  have hS : ∀ x ∈ L.bw :: L.gt :: L.ve.ownBlock.toList, x < w.heap.size := fun x hx => by
    simp at hx
    rcases hx with rfl | rfl | hx
    · exact h.wk.lt
    · exact (h.wk.ow.lt _ rfl).2
    · exact (h.wk.oe.lt x hx).2
  have hC : Cl (L.bw :: L.gt :: L.ve.ownBlock.toList) w L.ρ [1, 2, 3] := fun x hx _ => by
    simp at hx
    rcases hx with rfl | rfl | hx
    · rw [h.k1]; simp
    · rw [h.k2]; simp
    · rw [h.k3 x hx]; simp
  have hnS : ∀ b, w.heap.size ≤ b → b ∉ L.bw :: L.gt :: L.ve.ownBlock.toList := fun b hb hx => by have := hS b hx; omega
  have hbg := bg_set (m := m) (t' := { t with waits := (nextE i t acts').kind }) hi (.inl hb) h.bg
  refine lateStep h.m0 ?_
  refine (step_gfn (R := fun f c W => GoneS w W p L { m with ths := m.ths.set i { t with waits := (nextE i t acts').kind }, evs := m.evs ++ [nextE i t acts'] } i (react (nextE i t acts')) (.func (.func f) #[] c)) h.t2 h.t3 hil hcell (done_no h.wk ⟨i, t, txs', rfl, hi, ht, hn⟩) (fun W b1 b2 hW c1 c2 hb12 => ?_)).mono ?_
  · have hR := (h.recolor (ρ' := fun x => if x < w.heap.size then L.ρ x else 7) (fun x hx => by simp [hx])).kp0 hW
    refine (goOnStep (e := nextE i t acts') (bm := L.bm) (bw := L.bw) (S := L.bw :: L.gt :: L.ve.ownBlock.toList) (R := fun W0 W1 => Gone W0 W1 p { L with ρ := fun x => if x < w.heap.size then L.ρ x else 7 } { m with ths := m.ths.set i { t with waits := (nextE i t acts').kind }, evs := m.evs ++ [nextE i t acts'] } nv wv ∧ W0.heap.size ≤ W1.heap.size) (Q := fun v w' => ∃ f c, v = .func (.func f) #[] c ∧ GoneS w w' p L { m with ths := m.ths.set i { t with waits := (nextE i t acts').kind }, evs := m.evs ++ [nextE i t acts'] } i (react (nextE i t acts')) (.func (.func f) #[] c)) (fun x hx => Nat.lt_of_lt_of_le (hS x hx) hW.size) c1 c2 hR.t2 cf_react (fun W0 hW0 => ?_) (fun W0 W1 W' b hk0 hq1 hb0 hb1 hkb => ?_)).mono ?_
    · have hM0 := hR.kp0 hW0
      refine (next_more hM0.wk hi ht hac hi4 (by omega) hb hwt hc.le (fun a ha => ?_) (fun had a ha => ?_) (by omega) hM0.sz).mono ?_
      · have h0 := hp.a i t.tx t.act txs' acts' a ht hac ha
        by_cases h4 : a.k = 4
        · exact .inr (.inr (.inr h4))
        · rcases (actOk_cases h0 h4).2.1 with h | h | h
          · exact .inl h
          · exact .inr (.inl h)
          · exact .inr (.inr (.inl h))
      · obtain ⟨a', ha', _, h5⟩ := hc.add had
        rw [ha] at ha'; cases ha'
        exact h5
      · rintro r w' ⟨rfl, hq', hk⟩
        have hkw : Kp (L.bw :: L.gt :: L.ve.ownBlock.toList) W w' := (hW0.mono (T := L.bw :: L.gt :: L.ve.ownBlock.toList) (fun x hx _ => by simp at hx)).trans hk (fun x hx _ => hx)
        exact ⟨rfl, ⟨hM0.gone (Kp.refl [] W0) hq' hk hbg, hk.size⟩, (hkw.cellAt c1 (hnS _ hb12.1)).1, (hkw.cellAt c2 (hnS _ hb12.2)).1, (hkw.cellAt hR.t4 (fun hx => by have := hC L.bt hx (World.block_lt_of_cell? w _ h.t0); rw [h.kt] at this; simp at this)).1, hk⟩
    · obtain ⟨⟨⟨ve', ρ', hρ', hM⟩, S', hkS, hS'⟩, hs1⟩ := hq1
      have hsW := hW.size
      have hM1 := hM.recolor (ρ' := fun x => if x < W1.heap.size then ρ' x else 7) (fun x hx => by simp [hx])
      have hM2 := hM1.kp7 hkb (fun x hx hl => by
        simp at hx; subst hx
        simp only [hl, if_true]
        have hb2 : x < W0.heap.size := by omega
        have := hρ' x hb2
        rw [this]
        show (if _ then _ else _) ∈ _
        rw [if_neg (by omega)]; simp)
      refine (react_other (e := nextE i t acts') (fun x => if x < W1.heap.size then ρ' x else 7) hke).mono ?_
      rintro r w'' ⟨⟨f, c, rfl, hst⟩, hk2⟩
      refine ⟨_, rfl, f, c, rfl, ?_⟩
      obtain ⟨⟨L', nv', wv', g1, g2, g3, g4, g5, g6, g7, g8⟩, T', k1, k2⟩ := stp_new hM2 hk2 i (react (nextE i t acts')) (.func (.func f) #[] c) hst
      have hs2 := hkb.size
      have hs0 := hk0.size
      have hρw : ∀ x, x < w.heap.size → (if x < W1.heap.size then ρ' x else 7) = L.ρ x := fun x hx => by
        rw [if_pos (by omega), hρ' x (by omega)]
        show (if _ then _ else _) = _
        rw [if_pos hx]
      refine ⟨⟨L', nv', wv', g1, g2, g3, g4, g5, g6, g7, fun x hx => (g8 x (by omega)).trans (hρw x hx)⟩, T' ++ S', ?_, fun x hx => ?_⟩
      · have hkw0 : Kp (T' ++ S') w W0 := (hW.trans hk0 (by simp)).mono (T := T' ++ S') (fun x hx _ => by simp at hx)
        have hkw1 : Kp (T' ++ S') w W1 := hkw0.trans hkS (fun x hx _ => by simp [hx])
        have hkw2 : Kp (T' ++ S') w W' := hkw1.trans hkb (fun x hx hl => by simp at hx; omega)
        exact hkw2.trans k1 (fun x hx _ => by simp [hx])
      · rcases List.mem_append.1 hx with hx | hx
        · refine ⟨(k2 x hx).1, fun hl => ?_⟩
          have h1 : (if x < W1.heap.size then ρ' x else 7) ≠ 8 := (k2 x hx).2 (by omega)
          rwa [hρw x hl] at h1
        · refine ⟨(hS' x hx).1, fun hl => ?_⟩
          have h1 : (if x < w.heap.size then L.ρ x else 7) ≠ 8 := (hS' x hx).2 (by omega)
          rwa [if_pos hl] at h1
    · rintro r w' ⟨v, rfl, f, c, rfl, hg⟩
      exact ⟨f, c, rfl, hg, hg.put hil⟩
  · rintro r w' ⟨rfl, f, c, W, hg, _, rfl⟩
    have e : m.put i { t with waits := (nextE i t acts').kind } (nextE i t acts') (react (nextE i t acts')) q = { m with ths := m.ths.set i { t with waits := (nextE i t acts').kind }, evs := m.evs ++ [nextE i t acts'], nx := m.nx.set i (react (nextE i t acts')) } := by simp [Mc.put, set_self' hq]
    rw [e]
    exact ⟨⟨_, rfl⟩, rfl, hg.stepped h.gnMine⟩
end Go.Proofs.YtbogjkggfdhckaaGreatDoor

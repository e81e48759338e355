/-
  Lemmas on the way to Rr1: Pr6, Pr7.
-/
import Derived.Test.YtbogjkggfdhckaaGreatDoorMA14
import Derived.Test.YtbogjkggfdhckaaGreatDoorMA2
import Derived.Deep.CutBlock
/-
  prog: a running thread's next event.
-/
namespace Go.Proofs.YtbogjkggfdhckaaGreatDoor
open Go.RowKit Go.Um

/-- The event that comes next, its number not yet written. -/
def nextE0 (t : Th) (acts : List Ac) : Ev := match acts[t.act]? with
  | none => ⟨4, 0, 0, 0, 0, 0, 0, 0⟩
  | some a => if a.k = 4 then ⟨7, 0, 0, 0, 0, 0, 0, 0⟩ else askE0 t a
theorem nextE0_tx (i : Nat) (t : Th) (acts : List Ac) : ({ nextE0 t acts with tx := idOf i t.tx } : Ev) = nextE i t acts := by
  cases ha : acts[t.act]? with
  | none => simp [nextE0, nextE, ha]
  | some a =>
    by_cases h4 : a.k = 4
    · simp [nextE0, nextE, ha, h4]
    · have h1 : nextE0 t acts = askE0 t a := by simp [nextE0, ha, h4]
      have h2 : nextE i t acts = askE i t a := by simp [nextE, ha, h4]
      rw [h1, h2]
      exact askE0_tx i t a
theorem nextE0_kind (i : Nat) (t : Th) (acts : List Ac) : (nextE0 t acts).kind = (nextE i t acts).kind := by rw [← nextE0_tx]

theorem eightP {Q : Nat → Prop} (h0 : Q 0) (h1 : Q 1) (h2 : Q 2) (h3 : Q 3) (h4 : Q 4) (h5 : Q 5) (h6 : Q 6) (h7 : Q 7) : ∀ j, j < 8 → Q j
  | 0, _ => h0
  | 1, _ => h1
  | 2, _ => h2
  | 3, _ => h3
  | 4, _ => h4
  | 5, _ => h5
  | 6, _ => h6
  | 7, _ => h7
  | _ + 8, h => by omega
theorem set8_cell (W : World) (b : Nat) (z : ∀ j, j < 8 → ∃ u, W.cell? ⟨b, j, none⟩ = some u) (v0 v1 v2 v3 v4 v5 v6 v7 : Value) : ∀ j, j < 8 →
    ((((((((W.setCell ⟨b, 0, none⟩ v0).setCell ⟨b, 1, none⟩ v1).setCell ⟨b, 2, none⟩ v2).setCell ⟨b, 3, none⟩ v3).setCell ⟨b, 4, none⟩ v4).setCell ⟨b, 5, none⟩ v5).setCell ⟨b, 6, none⟩ v6).setCell ⟨b, 7, none⟩ v7).cell? ⟨b, j, none⟩ = [v0, v1, v2, v3, v4, v5, v6, v7][j]? := by
  obtain ⟨u0, h0⟩ := z 0 (by decide)
  obtain ⟨u1, h1⟩ := z 1 (by decide)
  obtain ⟨u2, h2⟩ := z 2 (by decide)
  obtain ⟨u3, h3⟩ := z 3 (by decide)
  obtain ⟨u4, h4⟩ := z 4 (by decide)
  obtain ⟨u5, h5⟩ := z 5 (by decide)
  obtain ⟨u6, h6⟩ := z 6 (by decide)
  obtain ⟨u7, h7⟩ := z 7 (by decide)
  intro j hj
  match j, hj with
  | 0, _ => simp [go_sem, h0]
  | 1, _ => simp [go_sem, h1]
  | 2, _ => simp [go_sem, h2]
  | 3, _ => simp [go_sem, h3]
  | 4, _ => simp [go_sem, h4]
  | 5, _ => simp [go_sem, h5]
  | 6, _ => simp [go_sem, h6]
  | 7, _ => simp [go_sem, h7]

set_option maxRecDepth 100000 in
set_option maxHeartbeats 2000000 in
theorem next_more {w : World} {bw B : Nat} {P : Nat → Prop} {p : Pg} {vc vt : Value} {ths : List Th} {gt ct : Nat} {evs : List Ev} {ve : Value} (h : WalkAt w bw B P p vc vt ths gt ct evs ve) {i : Nat} {t : Th} {txs : List (List Ac)} {acts : List Ac} (hi : ths[i]? = some t) (ht : p.ths[i]? = some txs) (ha : txs[t.tx]? = some acts) (hi4 : i < 4) (hk : t.tx < 3) (hb : t.begun = true) (hw : t.waits = 0) (hle : t.act ≤ acts.length) (hac : ∀ a, acts[t.act]? = some a → a.k = 1 ∨ a.k = 2 ∨ a.k = 3 ∨ a.k = 4)
    (had : t.adding = true → ∀ a, acts[t.act]? = some a → -1000000000 ≤ a.v + t.read ∧ a.v + t.read ≤ 1000000000) (hl : evs.length < 1000000) (hB : B ≤ w.heap.size) :
    Calls Tryz.prog 109 #[.pointer (some ⟨bw, 0, none⟩), .int .i64 i] w fun r w' => r = .returned (.tuple #[evV (nextE i t acts).f, .bool true]) ∧
      Went w.heap.size w' bw B P p vc vt (ths.set i { t with waits := (nextE i t acts).kind }) gt ct (evs ++ [nextE i t acts]) ve ∧ Kp (bw :: gt :: ve.ownBlock.toList) w w' := by
  have H := Lib.hid h
  have HI := Lib.hid hi
  have hn : t.tx < txs.length := (List.getElem?_eq_some_iff.1 ha).1
  have hof : ∀ W, Kp [] w W → _ := fun W hW => of_more (h.kp0 hW) hi ht hn
  have HOF := Lib.hid hof
  have hgl : gt < w.heap.size := (h.ow.lt gt rfl).2
  have hgf := h.ow.frozenAt
  have hbl := h.lt
  have c1 := h.c1
  obtain ⟨b1, o1, cc1, v1, rfl, hv1, hT⟩ := h.pg.row ht
  obtain ⟨b2, o2, cc2, v2, rfl, hv2, hR⟩ := hT.row ha
  have hil2 : i < p.ths.length := (List.getElem?_eq_some_iff.1 ht).1
  have i0 : (0 : Int) ≤ i := by omega
  have i1 : (i : Int) < p.ths.length := by omega
  have i2 : (0 : Int) ≤ t.tx := by omega
  have i3 : ((t.tx : Nat) : Int) < txs.length := by omega
  have t0 := h.th hi 0 (by decide)
  have t1 := h.th hi 1 (by decide)
  have t2 := h.th hi 2 (by decide)
  have t3 := h.th hi 3 (by decide)
  have t4 := h.th hi 4 (by decide)
  have t5 := h.th hi 5 (by decide)
  simp [Th.cells, hb, hw] at t0 t1 t2 t3 t4 t5
  have hH : ∀ W, WalkAt W bw B P p vc (.slice (some ⟨b1, o1, none⟩) p.ths.length cc1) (ths.set i { t with waits := (nextE i t acts).kind }) gt ct evs ve → w.heap.size ≤ W.heap.size → _ := fun W hW hs => happens_any hW (set_get hi) hi4 hk (nextE0 t acts) hl (Nat.le_trans hB hs)
  unfold evV at hH ⊢
  simp only [nextE0_tx] at hH
  simp only [Ev.f] at hH ⊢
  have HH := Lib.hid hH
  obtain ⟨a3, cc3, hv2e, _⟩ := id hR
  have HR := Lib.hid hR
  have HAC := Lib.hid hac
  have HAD := Lib.hid had
  have HLE := Lib.hid hle
  subst hv2e
  clear h hi hof ht hn hH hb hw hT hR hac had ha hle
  go_enter Tryz.func109, Tryz.ntmps109
  go_upto_region 7 with (go_at_call 107; refine (HOF.out _ ((Kp.refl _ _).alloc _)).mono ?_; rintro r w1 ⟨rfl, m, rfl⟩)
  refine wp_gen fun W hW => ?_
  have hkW : Kp [] w W := by rw [hW]; exact ((Kp.refl _ _).alloc _).drewN _
  obtain ⟨br, hbr⟩ : ∃ x, x = w.heap.size := ⟨_, rfl⟩
  have r0 : ∀ j, W.cell? ⟨br, j, none⟩ = #[.int .i64 0, .int .i64 0, .int .i64 0, .int .i64 0, .int .i64 0, .int .i64 0, .int .i64 0, .int .i64 0][j]? := fun j => by
    rw [hW, hbr]; exact World.cell?_alloc_new w _ _ _
  have rf : ∀ j, W.frozen? ⟨br, j, none⟩ = false := fun j => by rw [hW, hbr]; exact World.frozen?_alloc_new w _ _ _
  have hs1 : br + 1 ≤ W.heap.size := by rw [hW, hbr]; simp [go_sem]
  rw [← hbr]
  replace c1 := (hkW.cellAt c1 (by simp)).1
  replace hv1 := (hkW.cellAt hv1 (by simp)).1
  replace hv2 := (hkW.cellAt hv2 (by simp)).1
  replace t0 := (hkW.cellAt t0 (by simp)).1
  replace t1 := (hkW.cellAt t1 (by simp)).1
  replace t2 := (hkW.cellAt t2 (by simp)).1
  replace t3 := (hkW.cellAt t3 (by simp)).1
  replace t4 := (hkW.cellAt t4 (by simp)).1
  replace t5 := (hkW.cellAt t5 (by simp)).1
  replace hbl := (hkW.blk bw hbl (by simp)).1
  have hgf1 : ∀ j, W.frozen? ⟨gt, j, none⟩ = false := fun j => (hkW.frozen hgl (by simp)).trans (hgf j)
  replace hgl := (hkW.blk gt hgl (by simp)).1
  have HKW := Lib.hid hkW
  have HBR := Lib.hid hbr
  have HH1 := Lib.hid (H.out.kp0 hkW)
  clear hW hkW hbr hgf
  go_quiet (fail)
  go_upto_block 0 with fail
  refine wp_gen fun W2 hW2 => ?_
  have hkW2 : Kp [] W W2 := by rw [hW2]; exact ((Kp.refl _ _).drewN _).alloc _
  obtain ⟨be, hbe⟩ : ∃ x, x = W.heap.size := ⟨_, rfl⟩
  have e0 : ∀ j, W2.cell? ⟨be, j, none⟩ = #[.int .i64 0, .int .i64 0, .int .i64 0, .int .i64 0, .int .i64 0, .int .i64 0, .int .i64 0, .int .i64 0][j]? := fun j => by
    rw [hW2, hbe]; exact World.cell?_alloc_new (W.drewN _) _ _ _
  have ef : ∀ j, W2.frozen? ⟨be, j, none⟩ = false := fun j => by rw [hW2, hbe]; exact World.frozen?_alloc_new (W.drewN _) _ _ _
  have hs2 : be + 1 ≤ W2.heap.size := by rw [hW2, hbe]; simp [go_sem]
  rw [← hbe]
  have z0 := e0 0
  have z1 := e0 1
  have z2 := e0 2
  have z3 := e0 3
  have z4 := e0 4
  have z5 := e0 5
  have z6 := e0 6
  have z7 := e0 7
  simp at z0 z1 z2 z3 z4 z5 z6 z7
  have hzz : ∀ j, j < 8 → ∃ u, W2.cell? ⟨be, j, none⟩ = some u := eightP ⟨_, z0⟩ ⟨_, z1⟩ ⟨_, z2⟩ ⟨_, z3⟩ ⟨_, z4⟩ ⟨_, z5⟩ ⟨_, z6⟩ ⟨_, z7⟩
  have HZZ := Lib.hid hzz
  clear hzz
  replace t0 := (hkW2.cellAt t0 (by simp)).1
  replace t1 := (hkW2.cellAt t1 (by simp)).1
  replace t2 := (hkW2.cellAt t2 (by simp)).1
  replace t3 := (hkW2.cellAt t3 (by simp)).1
  replace t4 := (hkW2.cellAt t4 (by simp)).1
  replace t5 := (hkW2.cellAt t5 (by simp)).1
  replace r0 := fun j => (hkW2.cell (b := W2) (o := j) (k := br) (by omega) (by simp)).trans (r0 j)
  replace rf := fun j => (hkW2.frozen (b := W2) (o := j) (k := br) (by omega) (by simp)).trans (rf j)
  have hbge : gt ≠ be := by omega
  have hbeg : be ≠ gt := by omega
  have hgf2 : ∀ j, W2.frozen? ⟨gt, j, none⟩ = false := fun j => (hkW2.frozen hgl (by simp)).trans (hgf1 j)
  have hrb : br < W2.heap.size := by omega
  replace hbl := (hkW2.blk bw hbl (by simp)).1
  replace hgl := (hkW2.blk gt hgl (by simp)).1
  have HR2 := Lib.hid ((HR.out.kp (S := []) HKW.out (by simp)).kp (S := []) hkW2 (by simp))
  have HKW2 := Lib.hid (HKW.out.trans hkW2 (by simp))
  have HBE := Lib.hid hbe
  have HH2 := Lib.hid (HH1.out.kp0 hkW2)
  clear hW2 hkW2 hbe hgf1 c1 hv1 hv2 e0
  have hcell : acts[t.act]? = none ∨ ∃ a, acts[t.act]? = some a := by
    cases acts[t.act]? with
    | none => exact .inl rfl
    | some a => exact .inr ⟨a, rfl⟩
  go_cut [] (fun wx => Kp [be] W2 wx ∧ ∀ j, j < 8 → wx.cell? ⟨be, j, none⟩ = (Ev.cells (nextE0 t acts))[j]?)
  case first =>
    rcases hcell with ha | ⟨a, ha⟩
    · have hb : (((t.act : Nat) : Int) == (acts.length : Int)) = true := by
        have := HLE.out
        have := List.getElem?_eq_none_iff.1 ha
        simp; omega
      have he : nextE0 t acts = ⟨4, 0, 0, 0, 0, 0, 0, 0⟩ := by simp [nextE0, ha]
      have HE := Lib.hid he
      clear ha he
      go_wp2_with fail
      go_meet
      rw [HE.out]
      exact ⟨by repeat (first | (with_reducible exact Kp.refl _ _) | refine Kp.setCell ?_ _ _ (fun _ => by simp)), set8_cell W2 be HZZ.out _ _ _ _ _ _ _ _⟩
    · obtain ⟨b3, o3, c3, hv3, k0, k1, k2⟩ := HR2.out.act ha
      have hal := (List.getElem?_eq_some_iff.1 ha).1
      have hb : (((t.act : Nat) : Int) == (acts.length : Int)) = false := by simp; omega
      have j0 : (0 : Int) ≤ t.act := by omega
      have j1 : ((t.act : Nat) : Int) < acts.length := by omega
      obtain ⟨rfl, -, rfl⟩ : a3 = some ⟨b3, o3, none⟩ ∧ True ∧ cc3 = c3 := by simpa using hv3
      have HAc := Lib.hid (HAC.out a ha)
      have HAd := Lib.hid (fun h => HAD.out h a ha)
      by_cases h4 : a.k = 4
      · have he : nextE0 t acts = ⟨7, 0, 0, 0, 0, 0, 0, 0⟩ := by simp [nextE0, ha, h4]
        have HE := Lib.hid he
        rw [h4] at k0
        clear ha he h4 hv3
        go_wp2_with fail
        go_meet
        rw [HE.out]
        exact ⟨by repeat (first | (with_reducible exact Kp.refl _ _) | refine Kp.setCell ?_ _ _ (fun _ => by simp)), set8_cell W2 be HZZ.out _ _ _ _ _ _ _ _⟩
      · have he : nextE0 t acts = askE0 t a := by simp [nextE0, ha, h4]
        have HE := Lib.hid he
        have h4b : (a.k == 4) = false := by simpa using h4
        have H4 := Lib.hid h4
        clear ha he h4 hv3
        obtain ⟨kk, hkk, hk1, hk3⟩ : ∃ kk : Nat, a.k = kk ∧ 1 ≤ kk ∧ kk ≤ 3 := by
          have := HAc.out
          have := H4.out
          exact ⟨a.k.toNat, by omega, by omega, by omega⟩
        rw [hkk] at k0 h4b
        have HKK := Lib.hid hkk
        have yy0 : (0 : Int) ≤ kk := by omega
        have yy1 : (kk : Int) < (5 : Nat) := by omega
        have yy2 : (kk : Int) < 5 := by omega
        have hb3 : b3 ≠ be := fun e0 => by
          have hl3 := World.block_lt_of_cell? W2 _ k0
          obtain ⟨_, _, hv, hP⟩ := HR.out
          obtain ⟨b, o, e1, hPb, hlb, _⟩ := hP (by omega)
          simp at hv e1
          obtain ⟨rfl, _⟩ := hv
          simp at e1
          have := HBE.out
          have := HKW.out.size
          omega
        have d1 : W2.drew.cell? ⟨gt, i * 6 + 1, none⟩ = some (.int .i64 t.act) := t1
        have d2 : W2.drew.cell? ⟨b3, o3 + t.act * 3, none⟩ = some (.int .i64 kk) := k0
        have d3 : W2.drew.cell? ⟨b3, o3 + t.act * 3 + 1, none⟩ = some (.int .i64 a.c) := k1
        have d4 : W2.drew.cell? ⟨b3, o3 + t.act * 3 + 2, none⟩ = some (.int .i64 a.v) := k2
        clear hkk
        go_wp2_with fail
        clear d1 d2 d3 d4
        have HB3 := Lib.hid hb3
        have HBG := Lib.hid hbge
        refine wp_region_ao2 20 (fun w' => Kp [] W2 w') (Kp [])
          (fun n v w' => match n with
            | 0 => ∃ g, v = .slice (some ⟨g, 0, none⟩) 5 5 ∧ g < w'.heap.size ∧ ∀ k : Nat, 1 ≤ k → k ≤ 3 → ∃ u, w'.cell? ⟨g, k, none⟩ = some u ∧ AskOk w' k u
            | 1 => v = .slice (some ⟨b3, o3, none⟩) acts.length cc3
            | 12 => v = .slice (some ⟨b3, o3, none⟩) acts.length cc3
            | 4 => v = .pointer (some ⟨gt, i * 6 + 1, none⟩)
            | 15 => v = .pointer (some ⟨gt, i * 6 + 1, none⟩)
            | 5 => v = .int .i64 t.act
            | 16 => v = .int .i64 t.act
            | 6 => v = .pointer (some ⟨b3, o3 + t.act * 3, none⟩)
            | 7 => v = .pointer (some ⟨b3, o3 + t.act * 3, none⟩)
            | 17 => v = .pointer (some ⟨b3, o3 + t.act * 3, none⟩)
            | 8 => v = .int .i64 kk
            | 9 => ∃ g, v = .pointer (some ⟨g, kk, none⟩) ∧ ∃ u, w'.cell? ⟨g, kk, none⟩ = some u ∧ AskOk w' kk u
            | 10 => AskOk w' kk v
            | 18 => v = acV a
            | 19 => v = evV (askE0 t a).f
            | _ => v = .pointer (some ⟨gt, i * 6, none⟩))
          mixed (by kernel_rfl) (by kernel_rfl) (Kp.refl _ _).drew ?stab ?hops ?fin
        case stab =>
          intro i v w1 w2 h hk
          match i, h with
          | 0, ⟨g, h1, h2, h3⟩ => exact ⟨g, h1, Nat.lt_of_lt_of_le h2 hk.size, fun k k1 k2 => by obtain ⟨u, u1, u2⟩ := h3 k k1 k2; exact ⟨u, (hk.cellAt u1 (by simp)).1, u2.kp hk⟩⟩
          | 9, ⟨g, h1, u, u1, u2⟩ => exact ⟨g, h1, u, (hk.cellAt u1 (by simp)).1, u2.kp hk⟩
          | 10, h => exact AskOk.kp h hk
          | 1, h => exact h
          | 2, h => exact h
          | 3, h => exact h
          | 4, h => exact h
          | 5, h => exact h
          | 6, h => exact h
          | 7, h => exact h
          | 8, h => exact h
          | 11, h => exact h
          | 12, h => exact h
          | 13, h => exact h
          | 14, h => exact h
          | 15, h => exact h
          | 16, h => exact h
          | 17, h => exact h
          | 18, h => exact h
          | 19, h => exact h
          | _ + 20, h => exact h
        case hops =>
          simp only [List.take, aoAll, aoSet]
          refine ⟨?_, ?_, ?_, ?_, ?_, ?_, ?_, ?_, ?_, ?_, ?_, ?_, ?_, ?_, ?_, ?_, ?_, ?_, ?_, ?_, trivial⟩
          · intro x w1 hK hd
            go_wp2_with (go_at_call 135; refine (asks_any _).mono ?_; rintro r w3 ⟨⟨g, rfl, hg, hask⟩, hk⟩)
            exact ⟨_, by simp [put1, Act.put], hK.trans hk (by simp), hk, g, rfl, hg, hask⟩
          · intro x w1 hK hd
            go_wp2
            exact ⟨_, by simp [put1, Act.put], hK, Kp.refl _ _, rfl⟩
          · intro x w1 hK hd
            go_wp2
            exact ⟨_, by simp [put1, Act.put], hK, Kp.refl _ _, rfl⟩
          · intro x w1 hK hd
            obtain ⟨h2, _⟩ := hd
            replace h2 := h2 rfl
            dsimp only at h2
            go_wp2
            exact ⟨_, by simp [put1, Act.put, h2], hK, Kp.refl _ _, rfl⟩
          · intro x w1 hK hd
            obtain ⟨h3, _⟩ := hd
            replace h3 := h3 rfl
            dsimp only at h3
            go_wp2
            exact ⟨_, by simp [put1, Act.put, h3], hK, Kp.refl _ _, rfl⟩
          · intro x w1 hK hd
            obtain ⟨h4, _⟩ := hd
            replace h4 := h4 rfl
            dsimp only at h4
            have y1 := (hK.cellAt t1 (by simp)).1
            have y2 := (hK.cellAt k0 (by simp)).1
            have y3 := (hK.cellAt k1 (by simp)).1
            have y4 := (hK.cellAt k2 (by simp)).1
            go_wp2
            exact ⟨_, by simp [put1, Act.put, h4], hK, Kp.refl _ _, rfl⟩
          · intro x w1 hK hd
            obtain ⟨h1, h5, _⟩ := hd
            replace h1 := h1 rfl
            replace h5 := h5 rfl
            dsimp only at h1 h5
            go_wp2
            exact ⟨_, by simp [put1, Act.put, h1, h5], hK, Kp.refl _ _, rfl⟩
          · intro x w1 hK hd
            obtain ⟨h6, _⟩ := hd
            replace h6 := h6 rfl
            dsimp only at h6
            go_wp2
            exact ⟨_, by simp [put1, Act.put, h6], hK, Kp.refl _ _, rfl⟩
          · intro x w1 hK hd
            obtain ⟨h7, _⟩ := hd
            replace h7 := h7 rfl
            dsimp only at h7
            have y1 := (hK.cellAt t1 (by simp)).1
            have y2 := (hK.cellAt k0 (by simp)).1
            have y3 := (hK.cellAt k1 (by simp)).1
            have y4 := (hK.cellAt k2 (by simp)).1
            go_wp2
            exact ⟨_, by simp [put1, Act.put, h7], hK, Kp.refl _ _, rfl⟩
          · intro x w1 hK hd
            obtain ⟨h0, h8, _⟩ := hd
            replace h0 := h0 rfl
            replace h8 := h8 rfl
            dsimp only at h0 h8
            obtain ⟨g, hv, hg, hask⟩ := h0
            have HAS := Lib.hid (hask kk hk1 hk3)
            go_wp2
            exact ⟨_, by simp [put1, Act.put, hv, h8], hK, Kp.refl _ _, g, rfl, HAS.out⟩
          · intro x w1 hK hd
            obtain ⟨h9, _⟩ := hd
            replace h9 := h9 rfl
            dsimp only at h9
            obtain ⟨g, hv, u, hu, hask⟩ := h9
            have HAS := Lib.hid hask
            clear hask
            go_wp2
            exact ⟨_, by simp [put1, Act.put, hv], hK, Kp.refl _ _, HAS.out⟩
          · intro x w1 hK hd
            go_wp2
            exact ⟨_, by simp [put1, Act.put], hK, Kp.refl _ _, rfl⟩
          · intro x w1 hK hd
            go_wp2
            exact ⟨_, by simp [put1, Act.put], hK, Kp.refl _ _, rfl⟩
          · intro x w1 hK hd
            go_wp2
            exact ⟨_, by simp [put1, Act.put], hK, Kp.refl _ _, rfl⟩
          · intro x w1 hK hd
            obtain ⟨h13, _⟩ := hd
            replace h13 := h13 rfl
            dsimp only at h13
            go_wp2
            exact ⟨_, by simp [put1, Act.put, h13], hK, Kp.refl _ _, rfl⟩
          · intro x w1 hK hd
            obtain ⟨h14, _⟩ := hd
            replace h14 := h14 rfl
            dsimp only at h14
            go_wp2
            exact ⟨_, by simp [put1, Act.put, h14], hK, Kp.refl _ _, rfl⟩
          · intro x w1 hK hd
            obtain ⟨h15, _⟩ := hd
            replace h15 := h15 rfl
            dsimp only at h15
            have y1 := (hK.cellAt t1 (by simp)).1
            have y2 := (hK.cellAt k0 (by simp)).1
            have y3 := (hK.cellAt k1 (by simp)).1
            have y4 := (hK.cellAt k2 (by simp)).1
            go_wp2
            exact ⟨_, by simp [put1, Act.put, h15], hK, Kp.refl _ _, rfl⟩
          · intro x w1 hK hd
            obtain ⟨h12, h16, _⟩ := hd
            replace h12 := h12 rfl
            replace h16 := h16 rfl
            dsimp only at h12 h16
            go_wp2
            exact ⟨_, by simp [put1, Act.put, h12, h16], hK, Kp.refl _ _, rfl⟩
          · intro x w1 hK hd
            obtain ⟨h17, _⟩ := hd
            replace h17 := h17 rfl
            dsimp only at h17
            have y1 := (hK.cellAt t1 (by simp)).1
            have y2 := (hK.cellAt k0 (by simp)).1
            have y3 := (hK.cellAt k1 (by simp)).1
            have y4 := (hK.cellAt k2 (by simp)).1
            go_wp2
            exact ⟨.agg #[.int .i64 kk, .int .i64 a.c, .int .i64 a.v], by simp [put1, Act.put, h17], hK, Kp.refl _ _, (show acV a = .agg #[.int .i64 kk, .int .i64 a.c, .int .i64 a.v] by unfold acV; rw [HKK.out]).symm⟩
          · intro x w1 hK hd
            obtain ⟨h10, h11, h18, _⟩ := hd
            replace h10 := h10 rfl
            replace h11 := h11 rfl
            replace h18 := h18 rfl
            dsimp only at h10 h11 h18
            obtain ⟨fn, caps, hv, hcf, hcall⟩ := ask_any (gt := gt) (i := i) (t := t) (a := a) (by rw [HKK.out]; exact h10) ((hK.cellAt t3 (by simp)).1) ((hK.cellAt t4 (by simp)).1) HAd.out
            unfold acV evV at hcall
            simp only [Ev.f] at hcall
            rw [HKK.out] at hcall
            unfold acV at h18
            rw [HKK.out] at h18
            have HC := Lib.hid hcall
            clear hcall h10
            go_wp2_with ((with_reducible refine (HC.out).mono ?_); rintro r w4 ⟨rfl, hk4⟩)
            exact ⟨.agg #[.int .i64 (askE0 t a).kind, .int .i64 (askE0 t a).tx, .int .i64 (askE0 t a).thread, .int .i64 (askE0 t a).obj, .int .i64 (askE0 t a).op, .int .i64 (askE0 t a).key, .int .i64 (askE0 t a).val, .int .i64 (askE0 t a).ret], by simp [put1, Act.put, hv, h11, h18], hK.trans hk4 (by simp), hk4, (show evV (askE0 t a).f = _ by unfold evV; simp only [Ev.f]).symm⟩
        case fin =>
          intro x w4 hkB hd
          have h19 : x 19 = evV (askE0 t a).f := hd 19 (by decide)
          unfold evV at h19
          simp only [Ev.f] at h19
          have x0 := (hkB.cellAt z0 (by simp)).1
          have x1 := (hkB.cellAt z1 (by simp)).1
          have x2 := (hkB.cellAt z2 (by simp)).1
          have x3 := (hkB.cellAt z3 (by simp)).1
          have x4 := (hkB.cellAt z4 (by simp)).1
          have x5 := (hkB.cellAt z5 (by simp)).1
          have x6 := (hkB.cellAt z6 (by simp)).1
          have x7 := (hkB.cellAt z7 (by simp)).1
          have x8 : ∀ j, w4.frozen? ⟨be, j, none⟩ = false := fun j => (hkB.frozen (by omega) (by simp)).trans (ef j)
          have HKB := Lib.hid hkB
          simp only [List.drop, List.take, aoSet, Nat.zero_add, Nat.reduceAdd, h19]
          clear hkB hd h19
          go_wp2_with fail
          go_meet
          have hkBm := HKB.out.mono (T := [be]) (fun x hx _ => by simp at hx)
          rw [HE.out]
          exact ⟨by repeat (first | (with_reducible exact hkBm) | refine Kp.setCell ?_ _ _ (fun _ => by simp)), set8_cell w4 be (eightP ⟨_, x0⟩ ⟨_, x1⟩ ⟨_, x2⟩ ⟨_, x3⟩ ⟨_, x4⟩ ⟨_, x5⟩ ⟨_, x6⟩ ⟨_, x7⟩) _ _ _ _ _ _ _ _⟩
  case rest =>
  obtain ⟨hkc, hec⟩ := hcut
  have hbes : w.heap.size < be := by have := HBE.out; have := HBR.out; omega
  have hWc : WalkAt wc bw B P p vc (.slice (some ⟨b1, o1, none⟩) p.ths.length cc1) ths gt ct evs ve := HH2.out.kp hkc (by simp; have := H.out.lt; omega) (by simpa using hbge) (fun g hg hx => by simp at hx; subst hx; have := (H.out.oe.lt g hg).2; omega) (fun x hx hP => by simp at hx; subst hx; have := H.out.p0 x hP; omega)
  have e0 : wc.cell? ⟨be, 0, none⟩ = some (.int .i64 (nextE0 t acts).kind) := hec 0 (by decide)
  have e1 : wc.cell? ⟨be, 1, none⟩ = some (.int .i64 (nextE0 t acts).tx) := hec 1 (by decide)
  have e2 : wc.cell? ⟨be, 2, none⟩ = some (.int .i64 (nextE0 t acts).thread) := hec 2 (by decide)
  have e3 : wc.cell? ⟨be, 3, none⟩ = some (.int .i64 (nextE0 t acts).obj) := hec 3 (by decide)
  have e4 : wc.cell? ⟨be, 4, none⟩ = some (.int .i64 (nextE0 t acts).op) := hec 4 (by decide)
  have e5 : wc.cell? ⟨be, 5, none⟩ = some (.int .i64 (nextE0 t acts).key) := hec 5 (by decide)
  have e6 : wc.cell? ⟨be, 6, none⟩ = some (.int .i64 (nextE0 t acts).val) := hec 6 (by decide)
  have e7 : wc.cell? ⟨be, 7, none⟩ = some (.int .i64 (nextE0 t acts).ret) := hec 7 (by decide)
  have hnge : gt ∉ [be] := by simpa using hbge
  have hnre : br ∉ [be] := by have := HBR.out; simp; omega
  replace t5 := (hkc.cellAt t5 hnge).1
  replace r0 := fun j => (hkc.cell (b := wc) (o := j) hrb hnre).trans (r0 j)
  replace rf := fun j => (hkc.frozen (b := wc) (o := j) hrb hnre).trans (rf j)
  have hgf3 : ∀ j, wc.frozen? ⟨gt, j, none⟩ = false := fun j => (hkc.frozen hgl hnge).trans (hgf2 j)
  have hbel := World.block_lt_of_cell? wc _ e0
  replace hgl := (hkc.blk gt hgl hnge).1
  have hrb3 := (hkc.blk br hrb hnre).1
  have HWc := Lib.hid hWc
  have HKC := Lib.hid hkc
  have hput := hWc.put1 (t' := { t with waits := (nextE i t acts).kind }) (j := 5) (v := .int .i64 (nextE0 t acts).kind) HI.out (by rw [nextE0_kind i]; rfl) (by decide)
  have HPUT := Lib.hid hput
  clear hWc hkc hec t0 t1 t2 t3 t4 hput hgf2 z0 z1 z2 z3 z4 z5 z6 z7
  go_upto_region 15 with fail
  refine wp_gen fun W3 hW3 => ?_
  have hk3 : Kp [gt] wc W3 := by rw [hW3]; exact (Kp.refl _ _).setCell _ _ (fun _ => by simp)
  have hW3w : WalkAt W3 bw B P p vc (.slice (some ⟨b1, o1, none⟩) p.ths.length cc1) (ths.set i { t with waits := (nextE i t acts).kind }) gt ct evs ve := by rw [hW3]; exact HPUT.out
  have hneg : be ∉ [gt] := by simpa using hbeg
  have hnrg : br ∉ [gt] := by simp; have := (H.out.ow.lt gt rfl).2; have := HBR.out; omega
  replace e0 := (hk3.cellAt e0 hneg).1
  replace e1 := (hk3.cellAt e1 hneg).1
  replace e2 := (hk3.cellAt e2 hneg).1
  replace e3 := (hk3.cellAt e3 hneg).1
  replace e4 := (hk3.cellAt e4 hneg).1
  replace e5 := (hk3.cellAt e5 hneg).1
  replace e6 := (hk3.cellAt e6 hneg).1
  replace e7 := (hk3.cellAt e7 hneg).1
  replace hbel := (hk3.blk be hbel hneg).1
  replace r0 := fun j => (hk3.cell (b := W3) (o := j) hrb3 hnrg).trans (r0 j)
  replace rf := fun j => (hk3.frozen (b := W3) (o := j) hrb3 hnrg).trans (rf j)
  have hrb4 := (hk3.blk br hrb3 hnrg).1
  have HK3 := Lib.hid hk3
  have HW3 := Lib.hid hW3w
  clear hW3 hk3 hW3w t5 hgf3
  go_wp2_with (go_at_call 134; refine (HH.out W3 HW3.out (by have := HBR.out; omega)).mono ?_; rintro r w5 ⟨rfl, hq, hk5⟩; have HQ := Lib.hid hq; have hbr2 : br ∉ bw :: ve.ownBlock.toList := (fun hx => by have := HBR.out; simp at hx; rcases hx with hx | hx; have := H.out.lt; omega; have := (H.out.oe.lt _ hx).2; omega); obtain ⟨l9, c9, f9⟩ := hk5.blk br hrb4 hbr2; have q0 := (c9 0).trans (r0 0); have q1 := (c9 1).trans (r0 1); have q2 := (c9 2).trans (r0 2); have q3 := (c9 3).trans (r0 3); have q4 := (c9 4).trans (r0 4); have q5 := (c9 5).trans (r0 5); have q6 := (c9 6).trans (r0 6); have q7 := (c9 7).trans (r0 7); simp at q0 q1 q2 q3 q4 q5 q6 q7; have q8 := fun j => (f9 j).trans (rf j); have HK5 := Lib.hid hk5; clear hk5 hq c9 f9)
  have hbw := HBR.out
  refine bodyPost_ret (v := .tuple #[evV (nextE i t acts).f, .bool true]) ?_ rfl ?_
  · simp [results, Tryz.results109, go_sem, q0, q1, q2, q3, q4, q5, q6, q7, evV, Ev.f]
  · have hk6 : Kp (bw :: gt :: ve.ownBlock.toList) w w5 := (((HKW2.out.mono (T := bw :: gt :: ve.ownBlock.toList) (fun x hx _ => by simp at hx)).trans HKC.out (fun x hx hl => by simp at hx; omega)).trans (HK3.out.mono (T := bw :: gt :: ve.ownBlock.toList) (fun x hx _ => by simp at hx; simp [hx])) (fun x hx _ => hx)).trans (HK5.out.mono (T := bw :: gt :: ve.ownBlock.toList) (fun x hx _ => by simp at hx; rcases hx with rfl | hx; simp; simp [hx])) (fun x hx _ => hx)
    have hfin : ∀ w', Kp [br] w5 w' → _ := fun w' hk => And.intro (Went.fin (n := W3.heap.size) HQ.out H.out (br := br) (by omega) (by omega) hk) (hk6.trans hk (fun x hx hl => by simp at hx; omega))
    refine ⟨rfl, hfin _ ?_⟩
    repeat (first | (with_reducible exact Kp.refl _ _) | refine Kp.setCell ?_ _ _ (fun _ => by simp))
end Go.Proofs.YtbogjkggfdhckaaGreatDoor

/-
  prog: an answer.
-/
namespace Go.Proofs.YtbogjkggfdhckaaGreatDoor
open Go.RowKit Go.Um

set_option maxRecDepth 100000 in
set_option maxHeartbeats 2000000 in
theorem answer_abort {w : World} {bw B : Nat} {P : Nat → Prop} {p : Pg} {vc vt : Value} {ths : List Th} {gt ct : Nat} {evs : List Ev} {ve : Value} (h : WalkAt w bw B P p vc vt ths gt ct evs ve) {i : Nat} {t : Th} {txs : List (List Ac)} (hi : ths[i]? = some t) (ht : p.ths[i]? = some txs) (hn : t.tx < txs.length) (hi4 : i < 4) (hk : t.tx < 3) (hw : t.waits ≠ 0) (val : Int) (hl : evs.length < 1000000) (hB : B ≤ w.heap.size) :
    Calls Tryz.prog 133 #[.pointer (some ⟨bw, 0, none⟩), .int .i64 i, .int .i64 val, .bool true] w fun r w' => r = .returned (.tuple #[evV (endE i t 6).f, .bool true]) ∧
      Went w.heap.size w' bw B P p vc vt (ths.set i (newT t)) gt ct (evs ++ [endE i t 6]) ve ∧ Kp (bw :: gt :: ve.ownBlock.toList) w w' := by
  have H := Lib.hid h
  have hof : ∀ W, Kp [] w W → _ := fun W hW => of_more (h.kp0 hW) hi ht hn
  have HOF := Lib.hid hof
  have hgl : gt < w.heap.size := (h.ow.lt gt rfl).2
  have t5 := h.th hi 5 (by decide)
  simp [Th.cells] at t5
  have hwb : (t.waits == 0) = false := by simpa using hw
  have hH : ∀ W, Kp [] w W → _ := fun W hW => ends_any (h.kp0 hW) hi hi4 hk 6 hl (Nat.le_trans hB hW.size)
  unfold evV at hH ⊢
  simp only [Ev.f, endE] at hH ⊢
  have HH := Lib.hid hH
  clear h hi hof ht hn hH hw
  go_enter Tryz.func133, Tryz.ntmps133
  go_upto_region 5 with (go_at_call 107; refine (HOF.out _ ((Kp.refl _ _).alloc _)).mono ?_; rintro r w1 ⟨rfl, m, rfl⟩)
  refine wp_gen fun W hW => ?_
  have hkW : Kp [] w W := by rw [hW]; exact ((Kp.refl _ _).alloc _).drewN _
  obtain ⟨br, hbr⟩ : ∃ x, x = w.heap.size := ⟨_, rfl⟩
  have r0 : ∀ j, W.cell? ⟨br, j, none⟩ = #[.int .i64 0, .int .i64 0, .int .i64 0, .int .i64 0, .int .i64 0, .int .i64 0, .int .i64 0, .int .i64 0][j]? := fun j => by
    rw [hW, hbr]; exact World.cell?_alloc_new w _ _ _
  have rf : ∀ j, W.frozen? ⟨br, j, none⟩ = false := fun j => by rw [hW, hbr]; exact World.frozen?_alloc_new w _ _ _
  have hs1 : br + 1 ≤ W.heap.size := by rw [hW, hbr]; simp [go_sem]
  rw [← hbr]
  have HKW := Lib.hid hkW
  have HBR := Lib.hid hbr
  clear hW hkW hbr t5
  go_wp2_with (go_at_call 157; refine (HH.out W HKW.out).mono ?_; rintro r w5 ⟨rfl, hq, hk5⟩; have HQ := Lib.hid hq; have hbr2 : br ∉ bw :: gt :: ve.ownBlock.toList := (fun hx => by have := HBR.out; simp at hx; rcases hx with hx | hx | hx; have := H.out.lt; omega; omega; have := (H.out.oe.lt _ hx).2; omega); obtain ⟨l9, c9, f9⟩ := hk5.blk br (by omega) hbr2; have q0 := (c9 0).trans (r0 0); have q1 := (c9 1).trans (r0 1); have q2 := (c9 2).trans (r0 2); have q3 := (c9 3).trans (r0 3); have q4 := (c9 4).trans (r0 4); have q5 := (c9 5).trans (r0 5); have q6 := (c9 6).trans (r0 6); have q7 := (c9 7).trans (r0 7); simp at q0 q1 q2 q3 q4 q5 q6 q7; have q8 := fun j => (f9 j).trans (rf j); have HK5 := Lib.hid hk5; clear hk5 hq c9 f9)
  have hbw := HBR.out
  refine bodyPost_ret (v := .tuple #[evV (endE i t 6).f, .bool true]) ?_ rfl ?_
  · simp [results, Tryz.results133, go_sem, q0, q1, q2, q3, q4, q5, q6, q7, evV, Ev.f, endE]
  · have hk6 : Kp (bw :: gt :: ve.ownBlock.toList) w w5 := (HKW.out.mono (T := bw :: gt :: ve.ownBlock.toList) (fun x hx _ => by simp at hx)).trans HK5.out (fun x hx _ => hx)
    have hfin : ∀ w', Kp [br] w5 w' → _ := fun w' hk => And.intro (Went.fin (n := W.heap.size) HQ.out H.out (br := br) (by omega) (by omega) hk) (hk6.trans hk (fun x hx hl => by simp at hx; omega))
    refine ⟨rfl, hfin _ ?_⟩
    repeat (first | (with_reducible exact Kp.refl _ _) | refine Kp.setCell ?_ _ _ (fun _ => by simp))

set_option maxRecDepth 100000 in
set_option maxHeartbeats 2000000 in
theorem answer_commit {w : World} {bw B : Nat} {P : Nat → Prop} {p : Pg} {vc vt : Value} {ths : List Th} {gt ct : Nat} {evs : List Ev} {ve : Value} (h : WalkAt w bw B P p vc vt ths gt ct evs ve) {i : Nat} {t : Th} {txs : List (List Ac)} (hi : ths[i]? = some t) (ht : p.ths[i]? = some txs) (hn : t.tx < txs.length) (hi4 : i < 4) (hk : t.tx < 3) (hw : t.waits ≠ 0) (hw4 : t.waits = 4) (val : Int) (hl : evs.length < 1000000) (hB : B ≤ w.heap.size) :
    Calls Tryz.prog 133 #[.pointer (some ⟨bw, 0, none⟩), .int .i64 i, .int .i64 val, .bool false] w fun r w' => r = .returned (.tuple #[evV (endE i t 5).f, .bool true]) ∧
      Went w.heap.size w' bw B P p vc vt (ths.set i (newT t)) gt ct (evs ++ [endE i t 5]) ve ∧ Kp (bw :: gt :: ve.ownBlock.toList) w w' := by
  have H := Lib.hid h
  have hof : ∀ W, Kp [] w W → _ := fun W hW => of_more (h.kp0 hW) hi ht hn
  have HOF := Lib.hid hof
  have hgl : gt < w.heap.size := (h.ow.lt gt rfl).2
  have t5 := h.th hi 5 (by decide)
  simp [Th.cells] at t5
  have hwb : (t.waits == 0) = false := by simpa using hw
  have hw4b : (t.waits == 4) = true := by simpa using hw4
  have hH : ∀ W, Kp [] w W → _ := fun W hW => ends_any (h.kp0 hW) hi hi4 hk 5 hl (Nat.le_trans hB hW.size)
  unfold evV at hH ⊢
  simp only [Ev.f, endE] at hH ⊢
  have HH := Lib.hid hH
  clear h hi hof ht hn hH hw hw4
  go_enter Tryz.func133, Tryz.ntmps133
  go_upto_region 7 with (go_at_call 107; refine (HOF.out _ ((Kp.refl _ _).alloc _)).mono ?_; rintro r w1 ⟨rfl, m, rfl⟩)
  refine wp_gen fun W hW => ?_
  have hkW : Kp [] w W := by rw [hW]; exact ((Kp.refl _ _).alloc _).drewN _
  obtain ⟨br, hbr⟩ : ∃ x, x = w.heap.size := ⟨_, rfl⟩
  have r0 : ∀ j, W.cell? ⟨br, j, none⟩ = #[.int .i64 0, .int .i64 0, .int .i64 0, .int .i64 0, .int .i64 0, .int .i64 0, .int .i64 0, .int .i64 0][j]? := fun j => by
    rw [hW, hbr]; exact World.cell?_alloc_new w _ _ _
  have rf : ∀ j, W.frozen? ⟨br, j, none⟩ = false := fun j => by rw [hW, hbr]; exact World.frozen?_alloc_new w _ _ _
  have hs1 : br + 1 ≤ W.heap.size := by rw [hW, hbr]; simp [go_sem]
  rw [← hbr]
  have HKW := Lib.hid hkW
  have HBR := Lib.hid hbr
  clear hW hkW hbr t5
  go_wp2_with (go_at_call 157; refine (HH.out W HKW.out).mono ?_; rintro r w5 ⟨rfl, hq, hk5⟩; have HQ := Lib.hid hq; have hbr2 : br ∉ bw :: gt :: ve.ownBlock.toList := (fun hx => by have := HBR.out; simp at hx; rcases hx with hx | hx | hx; have := H.out.lt; omega; omega; have := (H.out.oe.lt _ hx).2; omega); obtain ⟨l9, c9, f9⟩ := hk5.blk br (by omega) hbr2; have q0 := (c9 0).trans (r0 0); have q1 := (c9 1).trans (r0 1); have q2 := (c9 2).trans (r0 2); have q3 := (c9 3).trans (r0 3); have q4 := (c9 4).trans (r0 4); have q5 := (c9 5).trans (r0 5); have q6 := (c9 6).trans (r0 6); have q7 := (c9 7).trans (r0 7); simp at q0 q1 q2 q3 q4 q5 q6 q7; have q8 := fun j => (f9 j).trans (rf j); have HK5 := Lib.hid hk5; clear hk5 hq c9 f9)
  have hbw := HBR.out
  refine bodyPost_ret (v := .tuple #[evV (endE i t 5).f, .bool true]) ?_ rfl ?_
  · simp [results, Tryz.results133, go_sem, q0, q1, q2, q3, q4, q5, q6, q7, evV, Ev.f, endE]
  · have hk6 : Kp (bw :: gt :: ve.ownBlock.toList) w w5 := (HKW.out.mono (T := bw :: gt :: ve.ownBlock.toList) (fun x hx _ => by simp at hx)).trans HK5.out (fun x hx _ => hx)
    have hfin : ∀ w', Kp [br] w5 w' → _ := fun w' hk => And.intro (Went.fin (n := W.heap.size) HQ.out H.out (br := br) (by omega) (by omega) hk) (hk6.trans hk (fun x hx hl => by simp at hx; omega))
    refine ⟨rfl, hfin _ ?_⟩
    repeat (first | (with_reducible exact Kp.refl _ _) | refine Kp.setCell ?_ _ _ (fun _ => by simp))

def retE0 (t : Th) (a : Ac) (val : Int) : Ev := if isRead t a then ⟨3, 0, 0, 0, 0, 0, val, 3⟩ else ⟨3, 0, 0, 0, 0, 0, 0, 1⟩
theorem retE0_tx (i : Nat) (t : Th) (a : Ac) (val : Int) : ({ retE0 t a val with tx := idOf i t.tx } : Ev) = retE i t a val := by
  by_cases h : isRead t a = true
  · simp [retE0, retE, h]
  · simp [retE0, retE, h]

theorem within_yes (n : Int) (h : -1000000000 ≤ n ∧ n ≤ 1000000000) (w : World) : Calls Tryz.prog 158 #[.int .i64 n] w fun e w' => e = .returned (.bool true) ∧ w' = w :=
  (within_any n w).mono fun _ _ ⟨h1, h2⟩ => ⟨by rw [h1]; simp [h], h2⟩

set_option maxRecDepth 100000 in
set_option maxHeartbeats 4000000 in
theorem answer_ret {w : World} {bw B : Nat} {P : Nat → Prop} {p : Pg} {vc vt : Value} {ths : List Th} {gt ct : Nat} {evs : List Ev} {ve : Value} (h : WalkAt w bw B P p vc vt ths gt ct evs ve) {i : Nat} {t : Th} {txs : List (List Ac)} {acts : List Ac} {a : Ac} (hi : ths[i]? = some t) (ht : p.ths[i]? = some txs) (hac : txs[t.tx]? = some acts) (ha : acts[t.act]? = some a) (hi4 : i < 4) (hk : t.tx < 3) (hw : t.waits = 2) (hak : a.k = 1 ∨ a.k = 2 ∨ a.k = 3) (val : Int)
    (hv : isRead t a = true → (-1000000000 ≤ val ∧ val ≤ 1000000000) ∧ (a.k = 3 → -1000000000 ≤ val + a.v ∧ val + a.v ≤ 1000000000)) (hm : t.act < 1000) (hl : evs.length < 1000000) (hB : B ≤ w.heap.size) :
    Calls Tryz.prog 133 #[.pointer (some ⟨bw, 0, none⟩), .int .i64 i, .int .i64 val, .bool false] w fun r w' => r = .returned (.tuple #[evV (retE i t a val).f, .bool true]) ∧
      Went w.heap.size w' bw B P p vc vt (ths.set i (retT t a val)) gt ct (evs ++ [retE i t a val]) ve ∧ Kp (bw :: gt :: ve.ownBlock.toList) w w' := by
  have H := Lib.hid h
  have HI := Lib.hid hi
  have hn : t.tx < txs.length := (List.getElem?_eq_some_iff.1 hac).1
  have hof : ∀ W, Kp [] w W → _ := fun W hW => of_more (h.kp0 hW) hi ht hn
  have HOF := Lib.hid hof
  have hgl : gt < w.heap.size := (h.ow.lt gt rfl).2
  have hgf := h.ow.frozenAt
  have hbl := h.lt
  have c1 := h.c1
  obtain ⟨b1, o1, cc1, v1, rfl, hv1, hT⟩ := h.pg.row ht
  obtain ⟨b2, o2, cc2, v2, rfl, hv2, hR⟩ := hT.row hac
  obtain ⟨b3, o3, cc3, rfl, k0, k1, k2⟩ := hR.act ha
  have hil2 : i < p.ths.length := (List.getElem?_eq_some_iff.1 ht).1
  have hal := (List.getElem?_eq_some_iff.1 ha).1
  have i0 : (0 : Int) ≤ i := by omega
  have i1 : (i : Int) < p.ths.length := by omega
  have i2 : (0 : Int) ≤ t.tx := by omega
  have i3 : ((t.tx : Nat) : Int) < txs.length := by omega
  have i4 : (0 : Int) ≤ t.act := by omega
  have i5 : ((t.act : Nat) : Int) < acts.length := by omega
  have t0 := h.th hi 0 (by decide)
  have t1 := h.th hi 1 (by decide)
  have t3 := h.th hi 3 (by decide)
  have t4 := h.th hi 4 (by decide)
  have t5 := h.th hi 5 (by decide)
  simp [Th.cells, hw] at t0 t1 t3 t4 t5
  have hH : ∀ W, WalkAt W bw B P p vc (.slice (some ⟨b1, o1, none⟩) p.ths.length cc1) (ths.set i (retT t a val)) gt ct evs ve → w.heap.size ≤ W.heap.size → _ := fun W hW hs => happens_any hW (set_get hi) hi4 (show (retT t a val).tx < 3 by unfold retT; split; split; exact hk; exact hk; exact hk) (retE0 t a val) hl (Nat.le_trans hB hs)
  have hrt : (retT t a val).tx = t.tx := by unfold retT; split; split; rfl; rfl; rfl
  unfold evV at hH ⊢
  simp only [hrt, retE0_tx] at hH
  simp only [Ev.f] at hH ⊢
  have HH := Lib.hid hH
  have HAK := Lib.hid hak
  have HV := Lib.hid hv
  clear h hi hof ht hn hH hw hT hR hac ha hak hv hrt
  go_enter Tryz.func133, Tryz.ntmps133
  go_upto_region 10 with (go_at_call 107; refine (HOF.out _ ((Kp.refl _ _).alloc _)).mono ?_; rintro r w1 ⟨rfl, m, rfl⟩)
  refine wp_gen fun W hW => ?_
  have hkW : Kp [] w W := by rw [hW]; exact ((Kp.refl _ _).alloc _).drewN _
  obtain ⟨br, hbr⟩ : ∃ x, x = w.heap.size := ⟨_, rfl⟩
  have r0 : ∀ j, W.cell? ⟨br, j, none⟩ = #[.int .i64 0, .int .i64 0, .int .i64 0, .int .i64 0, .int .i64 0, .int .i64 0, .int .i64 0, .int .i64 0][j]? := fun j => by
    rw [hW, hbr]; exact World.cell?_alloc_new w _ _ _
  have rf : ∀ j, W.frozen? ⟨br, j, none⟩ = false := fun j => by rw [hW, hbr]; exact World.frozen?_alloc_new w _ _ _
  have hs1 : br + 1 ≤ W.heap.size := by rw [hW, hbr]; simp [go_sem]
  rw [← hbr]
  replace c1 := (hkW.cellAt c1 (by simp)).1
  replace hv1 := (hkW.cellAt hv1 (by simp)).1
  replace hv2 := (hkW.cellAt hv2 (by simp)).1
  replace k0 := (hkW.cellAt k0 (by simp)).1
  replace k1 := (hkW.cellAt k1 (by simp)).1
  replace k2 := (hkW.cellAt k2 (by simp)).1
  replace t0 := (hkW.cellAt t0 (by simp)).1
  replace t1 := (hkW.cellAt t1 (by simp)).1
  replace t3 := (hkW.cellAt t3 (by simp)).1
  replace t4 := (hkW.cellAt t4 (by simp)).1
  replace t5 := (hkW.cellAt t5 (by simp)).1
  have hbl1 := (hkW.blk bw hbl (by simp)).1
  have hgf1 : ∀ j, W.frozen? ⟨gt, j, none⟩ = false := fun j => (hkW.frozen hgl (by simp)).trans (hgf j)
  have hgl1 := (hkW.blk gt hgl (by simp)).1
  have hgbr : gt ≠ br := by omega
  have hbrg : br ≠ gt := by omega
  have HKW := Lib.hid hkW
  have HBR := Lib.hid hbr
  have HH1 := Lib.hid (H.out.kp0 hkW)
  clear hW hkW hbr hgf hbl hgl
  have lb1 := World.block_lt_of_cell? W _ hv1
  have lb2 := World.block_lt_of_cell? W _ hv2
  have lb3 := World.block_lt_of_cell? W _ k0
  dsimp only at lb1 lb2 lb3
  go_cut [12] (fun s12 wx => ∃ bx, s12 = .pointer (some ⟨bx, 0, none⟩) ∧ Kp [] W wx ∧ bx < wx.heap.size ∧ W.heap.size ≤ bx ∧ wx.cell? ⟨bx, 0, none⟩ = some (.int .i64 a.k) ∧ wx.cell? ⟨bx, 1, none⟩ = some (.int .i64 a.c) ∧ wx.cell? ⟨bx, 2, none⟩ = some (.int .i64 a.v))
  case first =>
    go_region
    all_goals go_wp2_with fail
    all_goals go_meet
    all_goals exact ⟨_, rfl, ((Kp.refl _ _).alloc _).drew, by simp, Nat.le_refl _, by simp, by simp, by simp⟩
  case rest =>
  obtain ⟨bx, rfl, hkc, hbx, hbx0, x0, x1, x2⟩ := hcut
  replace t1 := (hkc.cellAt t1 (by simp)).1
  replace t3 := (hkc.cellAt t3 (by simp)).1
  replace t4 := (hkc.cellAt t4 (by simp)).1
  replace t5 := (hkc.cellAt t5 (by simp)).1
  have hrb3 := (hkc.blk br (by omega) (by simp)).1
  replace r0 := fun j => (hkc.cell (b := wc) (o := j) (k := br) (by omega) (by simp)).trans (r0 j)
  replace rf := fun j => (hkc.frozen (b := wc) (o := j) (k := br) (by omega) (by simp)).trans (rf j)
  have hgf2 : ∀ j, wc.frozen? ⟨gt, j, none⟩ = false := fun j => (hkc.frozen hgl1 (by simp)).trans (hgf1 j)
  have hgl2 := (hkc.blk gt hgl1 (by simp)).1
  have hgbx : gt ≠ bx := by omega
  have hbxg : bx ≠ gt := by omega
  have HKC := Lib.hid hkc
  have HWc := Lib.hid (HH1.out.kp0 hkc)
  clear hkc c1 hv1 hv2 k0 k1 k2 t0 hgf1 lb1 lb2 lb3 hbl1
  have hcase : a.k = 1 ∨ a.k = 2 ∨ (a.k = 3 ∧ t.adding = false) ∨ (a.k = 3 ∧ t.adding = true) := by
    rcases HAK.out with h | h | h
    · exact .inl h
    · exact .inr (.inl h)
    · cases t.adding with
      | false => exact .inr (.inr (.inl ⟨h, rfl⟩))
      | true => exact .inr (.inr (.inr ⟨h, rfl⟩))
  rcases hcase with h1 | h1 | ⟨h1, h2⟩ | ⟨h1, h2⟩
  · have HK1 := Lib.hid h1
    have hR : isRead t a = true := by simp [isRead, h1]
    have hb1 := (HV.out hR).1
    have hb2 := hb1
    have hRT : retT t a val = { t with waits := 0, act := t.act + 1 } := by simp [retT, hR, h1]
    have hRE : retE0 t a val = ⟨3, 0, 0, 0, 0, 0, val, 3⟩ := by simp [retE0, hR]
    rw [h1] at x0
    clear h1
    go_upto_region 22 with (first | (go_at_call 158; refine (within_yes _ hb1 _).mono ?_; rintro r w6 ⟨rfl, hw6⟩; rw [hw6]) | (go_at_call 158; refine (within_yes _ hb2 _).mono ?_; rintro r w6 ⟨rfl, hw6⟩; rw [hw6]))
    refine wp_gen fun W3 hW3 => ?_
    have hk3 : Kp [gt] wc W3 := by rw [hW3]; repeat (first | (with_reducible exact Kp.refl _ _) | refine Kp.drew ?_ | refine Kp.drewN ?_ _ | refine Kp.setCell ?_ _ _ (fun _ => by simp))
    have hW3w : WalkAt W3 bw B P p vc (.slice (some ⟨b1, o1, none⟩) p.ths.length cc1) (ths.set i (retT t a val)) gt ct evs ve := by
      rw [hW3, hRT]
      have a0 := HWc.out.put1 (t' := { t with waits := 0 }) (j := 5) (v := .int .i64 0) HI.out rfl (by decide)
      have a1 := a0.put1 (t' := { t with waits := 0, act := t.act + 1 }) (j := 1) (v := .int .i64 ((t.act : Int) + 1)) (set_get HI.out) rfl (by decide)
      simp only [List.set_set] at a1
      first | (with_reducible exact a1) | (with_reducible exact a1.kp0 ((Kp.refl _ _).drewN _)) | (trace_state; exact a1)
    have hnrg : br ∉ [gt] := by simpa using hbrg
    replace r0 := fun j => (hk3.cell (b := W3) (o := j) hrb3 hnrg).trans (r0 j)
    replace rf := fun j => (hk3.frozen (b := W3) (o := j) hrb3 hnrg).trans (rf j)
    have hrb4 := (hk3.blk br hrb3 hnrg).1
    have HK3 := Lib.hid hk3
    have HW3 := Lib.hid hW3w
    have HHH := HH.out W3 HW3.out (by have := HBR.out; have := hk3.size; have := HKC.out.size; omega)
    rw [hRE] at HHH
    dsimp only at HHH
    have HH5 := Lib.hid HHH
    clear hW3 hk3 hW3w t1 t3 t4 t5 hgf2 x0 x1 x2 HHH
    go_wp2_with (go_at_call 134; refine HH5.out.mono ?_; rintro r w5 ⟨rfl, hq, hk5⟩; have HQ := Lib.hid hq; have hbr2 : br ∉ bw :: ve.ownBlock.toList := (fun hx => by have := HBR.out; simp at hx; rcases hx with hx | hx; have := H.out.lt; omega; have := (H.out.oe.lt _ hx).2; omega); obtain ⟨l9, c9, f9⟩ := hk5.blk br hrb4 hbr2; have q0 := (c9 0).trans (r0 0); have q1 := (c9 1).trans (r0 1); have q2 := (c9 2).trans (r0 2); have q3 := (c9 3).trans (r0 3); have q4 := (c9 4).trans (r0 4); have q5 := (c9 5).trans (r0 5); have q6 := (c9 6).trans (r0 6); have q7 := (c9 7).trans (r0 7); simp at q0 q1 q2 q3 q4 q5 q6 q7; have q8 := fun j => (f9 j).trans (rf j); have HK5 := Lib.hid hk5; clear hk5 hq c9 f9)
    have hbw := HBR.out
    refine bodyPost_ret (v := .tuple #[evV (retE i t a val).f, .bool true]) ?_ rfl ?_
    · simp [results, Tryz.results133, go_sem, q0, q1, q2, q3, q4, q5, q6, q7, evV, Ev.f]
    · have hk6 : Kp (bw :: gt :: ve.ownBlock.toList) w w5 := (((HKW.out.mono (T := bw :: gt :: ve.ownBlock.toList) (fun x hx _ => by simp at hx)).trans (HKC.out.mono (T := bw :: gt :: ve.ownBlock.toList) (fun x hx _ => by simp at hx)) (fun x hx _ => hx)).trans (HK3.out.mono (T := bw :: gt :: ve.ownBlock.toList) (fun x hx _ => by simp at hx; simp [hx])) (fun x hx _ => hx)).trans (HK5.out.mono (T := bw :: gt :: ve.ownBlock.toList) (fun x hx _ => by simp at hx; rcases hx with rfl | hx; simp; simp [hx])) (fun x hx _ => hx)
      have hfin : ∀ w', Kp [br] w5 w' → _ := fun w' hk => And.intro (Went.fin (n := W3.heap.size) HQ.out H.out (br := br) (by omega) (by have := HKC.out.size; have := HK3.out.size; omega) hk) (hk6.trans hk (fun x hx hl => by simp at hx; omega))
      refine ⟨rfl, hfin _ ?_⟩
      repeat (first | (with_reducible exact Kp.refl _ _) | refine Kp.setCell ?_ _ _ (fun _ => by simp))
  · have HK1 := Lib.hid h1
    have hR : isRead t a = false := by simp [isRead, h1]
    have hb1 : -1000000000 ≤ (0 : Int) ∧ (0 : Int) ≤ 1000000000 := by omega
    have hb2 := hb1
    have hRT : retT t a val = { t with waits := 0, adding := false, act := t.act + 1 } := by simp [retT, hR]
    have hRE : retE0 t a val = ⟨3, 0, 0, 0, 0, 0, 0, 1⟩ := by simp [retE0, hR]
    rw [h1] at x0
    clear h1
    go_upto_region 18 with (first | (go_at_call 158; refine (within_yes _ hb1 _).mono ?_; rintro r w6 ⟨rfl, hw6⟩; rw [hw6]) | (go_at_call 158; refine (within_yes _ hb2 _).mono ?_; rintro r w6 ⟨rfl, hw6⟩; rw [hw6]))
    refine wp_gen fun W3 hW3 => ?_
    have hk3 : Kp [gt] wc W3 := by rw [hW3]; repeat (first | (with_reducible exact Kp.refl _ _) | refine Kp.drew ?_ | refine Kp.drewN ?_ _ | refine Kp.setCell ?_ _ _ (fun _ => by simp))
    have hW3w : WalkAt W3 bw B P p vc (.slice (some ⟨b1, o1, none⟩) p.ths.length cc1) (ths.set i (retT t a val)) gt ct evs ve := by
      rw [hW3, hRT]
      have a0 := HWc.out.put1 (t' := { t with waits := 0 }) (j := 5) (v := .int .i64 0) HI.out rfl (by decide)
      have a1 := a0.put1 (t' := { t with waits := 0, adding := false }) (j := 3) (v := .bool false) (set_get HI.out) rfl (by decide)
      have a2 := a1.put1 (t' := { t with waits := 0, adding := false, act := t.act + 1 }) (j := 1) (v := .int .i64 ((t.act : Int) + 1)) (set_get (set_get HI.out)) rfl (by decide)
      simp only [List.set_set] at a2
      first | (with_reducible exact a2) | (with_reducible exact a2.kp0 ((Kp.refl _ _).drewN _)) | (trace_state; exact a2)
    have hnrg : br ∉ [gt] := by simpa using hbrg
    replace r0 := fun j => (hk3.cell (b := W3) (o := j) hrb3 hnrg).trans (r0 j)
    replace rf := fun j => (hk3.frozen (b := W3) (o := j) hrb3 hnrg).trans (rf j)
    have hrb4 := (hk3.blk br hrb3 hnrg).1
    have HK3 := Lib.hid hk3
    have HW3 := Lib.hid hW3w
    have HHH := HH.out W3 HW3.out (by have := HBR.out; have := hk3.size; have := HKC.out.size; omega)
    rw [hRE] at HHH
    dsimp only at HHH
    have HH5 := Lib.hid HHH
    clear hW3 hk3 hW3w t1 t3 t4 t5 hgf2 x0 x1 x2 HHH
    go_wp2_with (go_at_call 134; refine HH5.out.mono ?_; rintro r w5 ⟨rfl, hq, hk5⟩; have HQ := Lib.hid hq; have hbr2 : br ∉ bw :: ve.ownBlock.toList := (fun hx => by have := HBR.out; simp at hx; rcases hx with hx | hx; have := H.out.lt; omega; have := (H.out.oe.lt _ hx).2; omega); obtain ⟨l9, c9, f9⟩ := hk5.blk br hrb4 hbr2; have q0 := (c9 0).trans (r0 0); have q1 := (c9 1).trans (r0 1); have q2 := (c9 2).trans (r0 2); have q3 := (c9 3).trans (r0 3); have q4 := (c9 4).trans (r0 4); have q5 := (c9 5).trans (r0 5); have q6 := (c9 6).trans (r0 6); have q7 := (c9 7).trans (r0 7); simp at q0 q1 q2 q3 q4 q5 q6 q7; have q8 := fun j => (f9 j).trans (rf j); have HK5 := Lib.hid hk5; clear hk5 hq c9 f9)
    have hbw := HBR.out
    refine bodyPost_ret (v := .tuple #[evV (retE i t a val).f, .bool true]) ?_ rfl ?_
    · simp [results, Tryz.results133, go_sem, q0, q1, q2, q3, q4, q5, q6, q7, evV, Ev.f]
    · have hk6 : Kp (bw :: gt :: ve.ownBlock.toList) w w5 := (((HKW.out.mono (T := bw :: gt :: ve.ownBlock.toList) (fun x hx _ => by simp at hx)).trans (HKC.out.mono (T := bw :: gt :: ve.ownBlock.toList) (fun x hx _ => by simp at hx)) (fun x hx _ => hx)).trans (HK3.out.mono (T := bw :: gt :: ve.ownBlock.toList) (fun x hx _ => by simp at hx; simp [hx])) (fun x hx _ => hx)).trans (HK5.out.mono (T := bw :: gt :: ve.ownBlock.toList) (fun x hx _ => by simp at hx; rcases hx with rfl | hx; simp; simp [hx])) (fun x hx _ => hx)
      have hfin : ∀ w', Kp [br] w5 w' → _ := fun w' hk => And.intro (Went.fin (n := W3.heap.size) HQ.out H.out (br := br) (by omega) (by have := HKC.out.size; have := HK3.out.size; omega) hk) (hk6.trans hk (fun x hx hl => by simp at hx; omega))
      refine ⟨rfl, hfin _ ?_⟩
      repeat (first | (with_reducible exact Kp.refl _ _) | refine Kp.setCell ?_ _ _ (fun _ => by simp))
  · have HK1 := Lib.hid h1
    have hR : isRead t a = true := by simp [isRead, h1, h2]
    have hb1 := (HV.out hR).1
    have hb2 := (HV.out hR).2 h1
    have hRT : retT t a val = { t with waits := 0, adding := true, read := val } := by simp [retT, hR, h1]
    have hRE : retE0 t a val = ⟨3, 0, 0, 0, 0, 0, val, 3⟩ := by simp [retE0, hR]
    rw [h1] at x0
    rw [h2] at t3
    clear h1 h2
    go_upto_region 22 with (first | (go_at_call 158; refine (within_yes _ hb1 _).mono ?_; rintro r w6 ⟨rfl, hw6⟩; rw [hw6]) | (go_at_call 158; refine (within_yes _ hb2 _).mono ?_; rintro r w6 ⟨rfl, hw6⟩; rw [hw6]))
    refine wp_gen fun W3 hW3 => ?_
    have hk3 : Kp [gt] wc W3 := by rw [hW3]; repeat (first | (with_reducible exact Kp.refl _ _) | refine Kp.drew ?_ | refine Kp.drewN ?_ _ | refine Kp.setCell ?_ _ _ (fun _ => by simp))
    have hW3w : WalkAt W3 bw B P p vc (.slice (some ⟨b1, o1, none⟩) p.ths.length cc1) (ths.set i (retT t a val)) gt ct evs ve := by
      rw [hW3, hRT]
      have a0 := HWc.out.put1 (t' := { t with waits := 0 }) (j := 5) (v := .int .i64 0) HI.out rfl (by decide)
      have a1 := a0.put1 (t' := { t with waits := 0, adding := true }) (j := 3) (v := .bool true) (set_get HI.out) rfl (by decide)
      have a2 := a1.put1 (t' := { t with waits := 0, adding := true, read := val }) (j := 4) (v := .int .i64 val) (set_get (set_get HI.out)) rfl (by decide)
      simp only [List.set_set] at a2
      first | (with_reducible exact a2) | (with_reducible exact a2.kp0 ((Kp.refl _ _).drewN _)) | (trace_state; exact a2)
    have hnrg : br ∉ [gt] := by simpa using hbrg
    replace r0 := fun j => (hk3.cell (b := W3) (o := j) hrb3 hnrg).trans (r0 j)
    replace rf := fun j => (hk3.frozen (b := W3) (o := j) hrb3 hnrg).trans (rf j)
    have hrb4 := (hk3.blk br hrb3 hnrg).1
    have HK3 := Lib.hid hk3
    have HW3 := Lib.hid hW3w
    have HHH := HH.out W3 HW3.out (by have := HBR.out; have := hk3.size; have := HKC.out.size; omega)
    rw [hRE] at HHH
    dsimp only at HHH
    have HH5 := Lib.hid HHH
    clear hW3 hk3 hW3w t1 t3 t4 t5 hgf2 x0 x1 x2 HHH
    go_wp2_with (go_at_call 134; refine HH5.out.mono ?_; rintro r w5 ⟨rfl, hq, hk5⟩; have HQ := Lib.hid hq; have hbr2 : br ∉ bw :: ve.ownBlock.toList := (fun hx => by have := HBR.out; simp at hx; rcases hx with hx | hx; have := H.out.lt; omega; have := (H.out.oe.lt _ hx).2; omega); obtain ⟨l9, c9, f9⟩ := hk5.blk br hrb4 hbr2; have q0 := (c9 0).trans (r0 0); have q1 := (c9 1).trans (r0 1); have q2 := (c9 2).trans (r0 2); have q3 := (c9 3).trans (r0 3); have q4 := (c9 4).trans (r0 4); have q5 := (c9 5).trans (r0 5); have q6 := (c9 6).trans (r0 6); have q7 := (c9 7).trans (r0 7); simp at q0 q1 q2 q3 q4 q5 q6 q7; have q8 := fun j => (f9 j).trans (rf j); have HK5 := Lib.hid hk5; clear hk5 hq c9 f9)
    have hbw := HBR.out
    refine bodyPost_ret (v := .tuple #[evV (retE i t a val).f, .bool true]) ?_ rfl ?_
    · simp [results, Tryz.results133, go_sem, q0, q1, q2, q3, q4, q5, q6, q7, evV, Ev.f]
    · have hk6 : Kp (bw :: gt :: ve.ownBlock.toList) w w5 := (((HKW.out.mono (T := bw :: gt :: ve.ownBlock.toList) (fun x hx _ => by simp at hx)).trans (HKC.out.mono (T := bw :: gt :: ve.ownBlock.toList) (fun x hx _ => by simp at hx)) (fun x hx _ => hx)).trans (HK3.out.mono (T := bw :: gt :: ve.ownBlock.toList) (fun x hx _ => by simp at hx; simp [hx])) (fun x hx _ => hx)).trans (HK5.out.mono (T := bw :: gt :: ve.ownBlock.toList) (fun x hx _ => by simp at hx; rcases hx with rfl | hx; simp; simp [hx])) (fun x hx _ => hx)
      have hfin : ∀ w', Kp [br] w5 w' → _ := fun w' hk => And.intro (Went.fin (n := W3.heap.size) HQ.out H.out (br := br) (by omega) (by have := HKC.out.size; have := HK3.out.size; omega) hk) (hk6.trans hk (fun x hx hl => by simp at hx; omega))
      refine ⟨rfl, hfin _ ?_⟩
      repeat (first | (with_reducible exact Kp.refl _ _) | refine Kp.setCell ?_ _ _ (fun _ => by simp))
  · have HK1 := Lib.hid h1
    have hR : isRead t a = false := by simp [isRead, h1, h2]
    have hb1 : -1000000000 ≤ (0 : Int) ∧ (0 : Int) ≤ 1000000000 := by omega
    have hb2 := hb1
    have hRT : retT t a val = { t with waits := 0, adding := false, act := t.act + 1 } := by simp [retT, hR]
    have hRE : retE0 t a val = ⟨3, 0, 0, 0, 0, 0, 0, 1⟩ := by simp [retE0, hR]
    rw [h1] at x0
    rw [h2] at t3
    clear h1 h2
    go_upto_region 18 with (first | (go_at_call 158; refine (within_yes _ hb1 _).mono ?_; rintro r w6 ⟨rfl, hw6⟩; rw [hw6]) | (go_at_call 158; refine (within_yes _ hb2 _).mono ?_; rintro r w6 ⟨rfl, hw6⟩; rw [hw6]))
    refine wp_gen fun W3 hW3 => ?_
    have hk3 : Kp [gt] wc W3 := by rw [hW3]; repeat (first | (with_reducible exact Kp.refl _ _) | refine Kp.drew ?_ | refine Kp.drewN ?_ _ | refine Kp.setCell ?_ _ _ (fun _ => by simp))
    have hW3w : WalkAt W3 bw B P p vc (.slice (some ⟨b1, o1, none⟩) p.ths.length cc1) (ths.set i (retT t a val)) gt ct evs ve := by
      rw [hW3, hRT]
      have a0 := HWc.out.put1 (t' := { t with waits := 0 }) (j := 5) (v := .int .i64 0) HI.out rfl (by decide)
      have a1 := a0.put1 (t' := { t with waits := 0, adding := false }) (j := 3) (v := .bool false) (set_get HI.out) rfl (by decide)
      have a2 := a1.put1 (t' := { t with waits := 0, adding := false, act := t.act + 1 }) (j := 1) (v := .int .i64 ((t.act : Int) + 1)) (set_get (set_get HI.out)) rfl (by decide)
      simp only [List.set_set] at a2
      first | (with_reducible exact a2) | (with_reducible exact a2.kp0 ((Kp.refl _ _).drewN _)) | (trace_state; exact a2)
    have hnrg : br ∉ [gt] := by simpa using hbrg
    replace r0 := fun j => (hk3.cell (b := W3) (o := j) hrb3 hnrg).trans (r0 j)
    replace rf := fun j => (hk3.frozen (b := W3) (o := j) hrb3 hnrg).trans (rf j)
    have hrb4 := (hk3.blk br hrb3 hnrg).1
    have HK3 := Lib.hid hk3
    have HW3 := Lib.hid hW3w
    have HHH := HH.out W3 HW3.out (by have := HBR.out; have := hk3.size; have := HKC.out.size; omega)
    rw [hRE] at HHH
    dsimp only at HHH
    have HH5 := Lib.hid HHH
    clear hW3 hk3 hW3w t1 t3 t4 t5 hgf2 x0 x1 x2 HHH
    go_wp2_with (go_at_call 134; refine HH5.out.mono ?_; rintro r w5 ⟨rfl, hq, hk5⟩; have HQ := Lib.hid hq; have hbr2 : br ∉ bw :: ve.ownBlock.toList := (fun hx => by have := HBR.out; simp at hx; rcases hx with hx | hx; have := H.out.lt; omega; have := (H.out.oe.lt _ hx).2; omega); obtain ⟨l9, c9, f9⟩ := hk5.blk br hrb4 hbr2; have q0 := (c9 0).trans (r0 0); have q1 := (c9 1).trans (r0 1); have q2 := (c9 2).trans (r0 2); have q3 := (c9 3).trans (r0 3); have q4 := (c9 4).trans (r0 4); have q5 := (c9 5).trans (r0 5); have q6 := (c9 6).trans (r0 6); have q7 := (c9 7).trans (r0 7); simp at q0 q1 q2 q3 q4 q5 q6 q7; have q8 := fun j => (f9 j).trans (rf j); have HK5 := Lib.hid hk5; clear hk5 hq c9 f9)
    have hbw := HBR.out
    refine bodyPost_ret (v := .tuple #[evV (retE i t a val).f, .bool true]) ?_ rfl ?_
    · simp [results, Tryz.results133, go_sem, q0, q1, q2, q3, q4, q5, q6, q7, evV, Ev.f]
    · have hk6 : Kp (bw :: gt :: ve.ownBlock.toList) w w5 := (((HKW.out.mono (T := bw :: gt :: ve.ownBlock.toList) (fun x hx _ => by simp at hx)).trans (HKC.out.mono (T := bw :: gt :: ve.ownBlock.toList) (fun x hx _ => by simp at hx)) (fun x hx _ => hx)).trans (HK3.out.mono (T := bw :: gt :: ve.ownBlock.toList) (fun x hx _ => by simp at hx; simp [hx])) (fun x hx _ => hx)).trans (HK5.out.mono (T := bw :: gt :: ve.ownBlock.toList) (fun x hx _ => by simp at hx; rcases hx with rfl | hx; simp; simp [hx])) (fun x hx _ => hx)
      have hfin : ∀ w', Kp [br] w5 w' → _ := fun w' hk => And.intro (Went.fin (n := W3.heap.size) HQ.out H.out (br := br) (by omega) (by have := HKC.out.size; have := HK3.out.size; omega) hk) (hk6.trans hk (fun x hx hl => by simp at hx; omega))
      refine ⟨rfl, hfin _ ?_⟩
      repeat (first | (with_reducible exact Kp.refl _ _) | refine Kp.setCell ?_ _ _ (fun _ => by simp))
end Go.Proofs.YtbogjkggfdhckaaGreatDoor

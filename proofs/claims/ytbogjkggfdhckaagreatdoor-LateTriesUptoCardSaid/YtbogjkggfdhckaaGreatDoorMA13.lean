/-
  Lemmas on the way to Rr1: Pr2.
-/
import Derived.Test.YtbogjkggfdhckaaGreatDoorMA4
import Derived.BigRegion
import Derived.Deep.AppendLies
import Derived.Laws.OwnMore
import Derived.Deep.RegionLaw
/-
  prog: an event is written down.
-/
namespace Go.Proofs.YtbogjkggfdhckaaGreatDoor
open Go.RowKit Go.Um

theorem info_eve : (Tryz.prog.info? tEve).map (fun i => (i.zero, i.size, i.bytes)) = some (some (.agg #[.int .i64 0, .int .i64 0, .int .i64 0, .int .i64 0, .int .i64 0, .int .i64 0, .int .i64 0, .int .i64 0]), 8, 64) := by kernel_rfl

/-- An event more. -/
theorem WalkAt.grown {w w' : World} {bw B : Nat} {P : Nat → Prop} {p : Pg} {vc vt : Value} {ths : List Th} {gt ct : Nat} {evs evs' : List Ev} {ve ve' : Value} (h : WalkAt w bw B P p vc vt ths gt ct evs ve) (hk : Kp (bw :: ve.ownBlock.toList) w w') (hc : ∀ j, j ≠ 3 → w'.cell? ⟨bw, j, none⟩ = w.cell? ⟨bw, j, none⟩)
    (hf : ∀ j, w'.frozen? ⟨bw, j, none⟩ = false) (h3 : w'.cell? ⟨bw, 3, none⟩ = some ve') (ho : w'.ownsRow B tEve 8 ve' evs'.length (flatE evs')) (hg : ∀ g, ve'.ownBlock = some g → ve.ownBlock = some g ∨ w.heap.size ≤ g) : WalkAt w' bw B P p vc vt ths gt ct evs' ve' := by
  have hl := h.lt
  have hgl : gt < w.heap.size := (h.ow.lt gt rfl).2
  have hp0 := h.p0
  refine { lt := Nat.lt_of_lt_of_le h.lt hk.size, fz := hf, c0 := (hc 0 (by decide)).trans h.c0, c1 := (hc 1 (by decide)).trans h.c1, c2 := (hc 2 (by decide)).trans h.c2, c3 := h3, ne := h.ne, pg := h.pg.kp hk ?_, ow := own_kp h.ow hk ?_, oe := ho, d1 := h.d1, d2 := ?_, d3 := ?_, p0 := fun x hx => Nat.lt_of_lt_of_le (h.p0 x hx) hk.size, p1 := h.p1, p2 := h.p2, p3 := ?_ }
  · intro x hx
    simp at hx
    rcases hx with rfl | hx
    · exact h.p1
    · exact h.p3 x hx
  · intro g hg hx
    simp [Value.ownBlock] at hg
    subst hg
    simp at hx
    rcases hx with hx | hx
    · exact h.d1 hx
    · exact h.d3 hx
  · intro e
    rcases hg bw e with h1 | h1
    · exact h.d2 h1
    · omega
  · intro e
    rcases hg gt e with h1 | h1
    · exact h.d3 h1
    · omega
  · intro g hg' hP
    rcases hg g hg' with h1 | h1
    · exact h.p3 g h1 hP
    · have := h.p0 g hP; omega

set_option maxRecDepth 100000 in
set_option maxHeartbeats 2000000 in
theorem happens_any {w : World} {bw B : Nat} {P : Nat → Prop} {p : Pg} {vc vt : Value} {ths : List Th} {gt ct : Nat} {evs : List Ev} {ve : Value} (h : WalkAt w bw B P p vc vt ths gt ct evs ve) {i : Nat} {t : Th} (hi : ths[i]? = some t) (hi4 : i < 4) (hk : t.tx < 3) (e : Ev) (hl : evs.length < 1000000) (hB : B ≤ w.heap.size) :
    Calls Tryz.prog 134 #[.pointer (some ⟨bw, 0, none⟩), .int .i64 i, evV e.f] w fun r w' => r = .returned (.tuple #[evV ({ e with tx := idOf i t.tx } : Ev).f, .bool true]) ∧
      (∃ ve', WalkAt w' bw B P p vc vt ths gt ct (evs ++ [{ e with tx := idOf i t.tx }]) ve' ∧ ∀ g, ve'.ownBlock = some g → ve.ownBlock = some g ∨ w.heap.size ≤ g) ∧ Kp (bw :: ve.ownBlock.toList) w w' := by
  have hbl := h.lt
  have c2 := h.c2
  have hil := (List.getElem?_eq_some_iff.1 hi).1
  have ht0 := h.th hi 0 (by decide)
  simp [Th.cells] at ht0
  have hgl : gt < w.heap.size := (h.ow.lt gt rfl).2
  have hi0 : (0 : Int) ≤ i := by omega
  have hi1 : (i : Int) < ths.length := by omega
  have H := Lib.hid h
  clear h
  unfold evV
  simp only [Ev.f]
  go_enter Tryz.func134, Tryz.ntmps134
  go_wp2_with (go_at_call 159; refine (id_any i t.tx hi4 hk _).mono ?_; rintro e1 w1 ⟨rfl, rfl⟩)
  refine wp_gen fun W hW => ?_
  have hkW : Kp [] w W := by rw [hW]; repeat (first | exact Kp.refl _ _ | refine Kp.drew ?_ | refine Kp.alloc ?_ _ | refine Kp.setCell ?_ _ _ (fun h => absurd h (by simp)))
  obtain ⟨be, hbe⟩ : ∃ x, x = w.heap.size := ⟨_, rfl⟩
  have e0 : W.cell? ⟨be, 0, none⟩ = some (.int .i64 e.kind) := by rw [hW, hbe]; simp [go_sem]
  have e1 : W.cell? ⟨be, 1, none⟩ = some (.int .i64 (idOf i t.tx)) := by rw [hW, hbe]; simp [go_sem]
  have e2 : W.cell? ⟨be, 2, none⟩ = some (.int .i64 e.thread) := by rw [hW, hbe]; simp [go_sem]
  have e3 : W.cell? ⟨be, 3, none⟩ = some (.int .i64 e.obj) := by rw [hW, hbe]; simp [go_sem]
  have e4 : W.cell? ⟨be, 4, none⟩ = some (.int .i64 e.op) := by rw [hW, hbe]; simp [go_sem]
  have e5 : W.cell? ⟨be, 5, none⟩ = some (.int .i64 e.key) := by rw [hW, hbe]; simp [go_sem]
  have e6 : W.cell? ⟨be, 6, none⟩ = some (.int .i64 e.val) := by rw [hW, hbe]; simp [go_sem]
  have e7 : W.cell? ⟨be, 7, none⟩ = some (.int .i64 e.ret) := by rw [hW, hbe]; simp [go_sem]
  obtain ⟨br, hbr⟩ : ∃ x, x = w.heap.size + 1 := ⟨_, rfl⟩
  have r0 : ∀ j, j < 8 → W.cell? ⟨br, j, none⟩ = some (.int .i64 0) := by
    intro j hj
    rw [hW, hbr]
    match j, hj with
    | 0, _ => simp [go_sem]
    | 1, _ => simp [go_sem]
    | 2, _ => simp [go_sem]
    | 3, _ => simp [go_sem]
    | 4, _ => simp [go_sem]
    | 5, _ => simp [go_sem]
    | 6, _ => simp [go_sem]
    | 7, _ => simp [go_sem]
  have rf : ∀ j, W.frozen? ⟨br, j, none⟩ = false := by intro j; rw [hW, hbr]; simp [go_sem]
  have hlr : br < W.heap.size := by rw [hW, hbr]; simp [go_sem]
  have hle : be < W.heap.size := by omega
  rw [← hbr, ← hbe]
  have HBE := Lib.hid hbe
  have HBR := Lib.hid hbr
  have h' := H.out.kp0 hkW
  have HKW := Lib.hid hkW
  have c3 := h'.c3
  have hbl' := h'.lt
  have hfzw := h'.fz
  have H' := Lib.hid h'
  have hveb : ∀ x, x ∈ ve.ownBlock.toList → x < w.heap.size := fun x hx => (H.out.oe.lt x (by simpa using hx)).2
  have hbv : bw ∉ ve.ownBlock.toList := fun hx => H.out.d2 (by simpa using hx)
  have hbev : be ∉ ve.ownBlock.toList := fun hx => by have := hveb be hx; omega
  have hbrv : br ∉ ve.ownBlock.toList := fun hx => by have := hveb br hx; omega
  have hbb : bw ≠ be := by omega
  have hbbr : bw ≠ br := by omega
  have hber : be ≠ br := by omega
  have hWsz := hkW.size
  have HV := Lib.hid hveb
  clear hW hbe hbr hkW h' c2 ht0 hbl hgl hi0 hi1 hil hveb
  obtain ⟨i0, hi', hz0, hz1, hz2⟩ := info_parts info_eve
  have hn : (Ev.cells ({ e with tx := idOf i t.tx } : Ev)).length = 1 * 8 := rfl
  have hz8 : (Value.agg #[.int .i64 0, .int .i64 0, .int .i64 0, .int .i64 0, .int .i64 0, .int .i64 0, .int .i64 0, .int .i64 0]).cells.size = 8 := rfl
  have hone : ∀ u ∈ Ev.cells ({ e with tx := idOf i t.tx } : Ev), u.oneCell' = true := by intro u hu; simp [Ev.cells] at hu; rcases hu with rfl | rfl | rfl | rfl | rfl | rfl | rfl | rfl <;> rfl
  have hmx : evs.length + 1 ≤ maxLen := by simp only [maxLen]; omega
  have hby : (evs.length + 1) * 64 ≤ 140737488355328 := by omega
  have hbx : bw < (W.alloc (.cells #[.int .i64 e.kind, .int .i64 (idOf i t.tx), .int .i64 e.thread, .int .i64 e.obj, .int .i64 e.op, .int .i64 e.key, .int .i64 e.val, .int .i64 e.ret] tEve)).drew.heap.size := by simp; omega
  have hbex : be < (W.alloc (.cells #[.int .i64 e.kind, .int .i64 (idOf i t.tx), .int .i64 e.thread, .int .i64 e.obj, .int .i64 e.op, .int .i64 e.key, .int .i64 e.val, .int .i64 e.ret] tEve)).drew.heap.size := by simp; omega
  have hbrx : br < (W.alloc (.cells #[.int .i64 e.kind, .int .i64 (idOf i t.tx), .int .i64 e.thread, .int .i64 e.obj, .int .i64 e.op, .int .i64 e.key, .int .i64 e.val, .int .i64 e.ret] tEve)).drew.heap.size := by simp; omega
  go_region_law (first | (refine step_append_lies (w := (W.alloc (.cells #[.int .i64 e.kind, .int .i64 (idOf i t.tx), .int .i64 e.thread, .int .i64 e.obj, .int .i64 e.op, .int .i64 e.key, .int .i64 e.val, .int .i64 e.ret] tEve)).drew) (hgd := by rfl) (s := .tmp 23) (x := .tmp 25) (t := 29) (ho := by rfl) (base := B) (e := tEve) (i := i0) (z := .agg #[.int .i64 0, .int .i64 0, .int .i64 0, .int .i64 0, .int .i64 0, .int .i64 0, .int .i64 0, .int .i64 0]) (size := 8) (bytes := 64) (ht := Tryz.underlying29) (hi := hi') (hz := hz0) (hsize := hz1) (hby := hz2) (hzs := hz8) (hsz := by decide) (v := ve) (n := evs.length) (xs := flatE evs) (hs := by rfl) (hown := by exact own_kp H'.out.oe (((Kp.refl [] _).alloc _).drew) (by simp)) (ad := ⟨W.heap.size, 0, none⟩) (m := 1) (c := 1) (news := Ev.cells ({ e with tx := idOf i t.tx } : Ev)) (hx := by rfl) (hl := by rfl) (hnews := by exact fun j u h => news_of (w := W.alloc _) (heap_alloc_new W _) j u h) (h1 := hone) (hm := by decide) (h63 := hmx) (hbytes := hby) (hbase := by simp; omega) (H := _) (hH := by rfl) ?_; intro g cap w1 hown hgrow hat hlt; have hkp := Kp.of_grown hgrow; obtain ⟨lb1, cb1, fb1⟩ := hkp.blk bw hbx hbv; obtain ⟨lb2, cb2, fb2⟩ := hkp.blk be hbex hbev; obtain ⟨lb3, cb3, fb3⟩ := hkp.blk br hbrx hbrv))
  all_goals
    have c30 : (w1.setCell ⟨bw, 3, none⟩ (.slice (some ⟨g, 0, none⟩) (evs.length + 1) cap)).cell? ⟨bw, 3, none⟩ = some (.slice (some ⟨g, 0, none⟩) (evs.length + 1) cap) := by
      rw [World.cell?_setCell_same' _ _ _ (by rw [cb1]; simp [go_sem, c3, hbl'])]
    have HG := Lib.hid hgrow
    have HAT := Lib.hid hat
    have HOW := Lib.hid hown
    have HKP := Lib.hid hkp
    clear hgrow hat hown hkp
    go_wp2
    have hWw : Kp ve.ownBlock.toList w w1 := ((HKW.out.mono (T := ve.ownBlock.toList) (fun x hx _ => by simp at hx)).alloc _ |>.drew).trans HKP.out (fun x hx _ => hx)
    have hk2 : Kp (bw :: ve.ownBlock.toList) w (w1.setCell ⟨bw, 3, none⟩ (.slice (some ⟨g, 0, none⟩) (evs.length + 1) cap)) := (hWw.mono (T := bw :: ve.ownBlock.toList) (fun x hx _ => by simp at hx; simp [hx])).setCell _ _ (fun _ => by simp)
    have hgat : ve.ownBlock = some g ∨ W.heap.size ≤ g := by
      rcases HAT.out with h | h
      · exact .inl h
      · right; rw [h]; simp
    have hgbw : g ≠ bw := by
      rcases hgat with h | h
      · intro e0; subst e0; exact H.out.d2 h
      · omega
    have hown2 : (w1.setCell ⟨bw, 3, none⟩ (.slice (some ⟨g, 0, none⟩) (evs.length + 1) cap)).ownsRow B tEve 8 (.slice (some ⟨g, 0, none⟩) (evs.length + 1) cap) (evs ++ [({ e with tx := idOf i t.tx } : Ev)]).length (flatE (evs ++ [({ e with tx := idOf i t.tx } : Ev)])) := by
      have e1 : (evs ++ [({ e with tx := idOf i t.tx } : Ev)]).length = evs.length + 1 := by simp
      have e2 : flatE (evs ++ [({ e with tx := idOf i t.tx } : Ev)]) = flatE evs ++ Ev.cells ({ e with tx := idOf i t.tx } : Ev) := by simp [flatE]
      rw [e1, e2]
      exact own_kp (S := [bw]) HOW.out ((Kp.refl _ _).setCell _ _ (fun _ => by simp)) (fun x hx => by simp [Value.ownBlock] at hx; subst hx; simp; exact hgbw)
    have hgr : WalkAt (w1.setCell ⟨bw, 3, none⟩ (.slice (some ⟨g, 0, none⟩) (evs.length + 1) cap)) bw B P p vc vt ths gt ct (evs ++ [({ e with tx := idOf i t.tx } : Ev)]) (.slice (some ⟨g, 0, none⟩) (evs.length + 1) cap) := by
      refine H.out.grown hk2 (fun j hj => ?_) (fun j => ?_) c30 hown2 (fun x hx => ?_)
      · rw [World.cell?_setCell_other _ _ _ _ (by first | (simp; done) | simpa using fun e0 => hj e0.symm)]
        exact hWw.cell H.out.lt hbv
      · rw [World.frozen?_setCell]
        exact (hWw.frozen H.out.lt hbv).trans (H.out.fz j)
      · simp [Value.ownBlock] at hx
        subst hx
        rcases hgat with h | h
        · exact .inl h
        · exact .inr (Nat.le_trans hWsz h)
    have hnbr : br ∉ (Value.slice (some ⟨g, 0, none⟩) (evs.length + 1) cap).ownBlock.toList := by
      intro hx
      simp [Value.ownBlock] at hx
      rcases hgat with h | h
      · exact hbrv (by rw [h]; simp [hx])
      · omega
    have hfin : ∀ w', Kp [br] (w1.setCell ⟨bw, 3, none⟩ (.slice (some ⟨g, 0, none⟩) (evs.length + 1) cap)) w' → (∃ ve', WalkAt w' bw B P p vc vt ths gt ct (evs ++ [({ e with tx := idOf i t.tx } : Ev)]) ve' ∧ ∀ g, ve'.ownBlock = some g → ve.ownBlock = some g ∨ w.heap.size ≤ g) ∧ Kp (bw :: ve.ownBlock.toList) w w' := by
      intro w' hk'
      have hbr1 : w.heap.size ≤ br := by have := HBR.out; omega
      refine ⟨⟨_, hgr.kp hk' (by simpa using hbbr) ?_ ?_ ?_, fun x hx => ?_⟩, ?_⟩
      · have := (H.out.ow.lt gt rfl).2
        simp; omega
      · intro x hx hx2
        simp at hx2
        subst hx2
        exact hnbr (by simp [hx])
      · intro x hx hP
        simp at hx
        subst hx
        have := H.out.p0 x hP
        omega
      · simp [Value.ownBlock] at hx
        subst hx
        rcases hgat with h | h
        · exact .inl h
        · exact .inr (Nat.le_trans hWsz h)
      · exact hk2.trans hk' (fun x hx hl => by simp at hx; omega)
    refine bodyPost_ret (v := .tuple #[.agg #[.int .i64 e.kind, .int .i64 (idOf i t.tx), .int .i64 e.thread, .int .i64 e.obj, .int .i64 e.op, .int .i64 e.key, .int .i64 e.val, .int .i64 e.ret], .bool true]) ?_ rfl ⟨rfl, hfin _ ?_⟩
    · have hkx : Kp ve.ownBlock.toList W w1 := (((Kp.refl _ _).alloc _).drew).trans HKP.out (fun x hx _ => hx)
      have b0 := (hkx.cellAt (r0 0 (by decide)) hbrv).1
      have b1 := (hkx.cellAt (r0 1 (by decide)) hbrv).1
      have b2 := (hkx.cellAt (r0 2 (by decide)) hbrv).1
      have b3 := (hkx.cellAt (r0 3 (by decide)) hbrv).1
      have b4 := (hkx.cellAt (r0 4 (by decide)) hbrv).1
      have b5 := (hkx.cellAt (r0 5 (by decide)) hbrv).1
      have b6 := (hkx.cellAt (r0 6 (by decide)) hbrv).1
      have b7 := (hkx.cellAt (r0 7 (by decide)) hbrv).1
      simp [results, Tryz.results134, go_sem, b0, b1, b2, b3, b4, b5, b6, b7]
    · repeat (first | (with_reducible exact Kp.refl _ _) | refine Kp.setCell ?_ _ _ (fun _ => by simp))
end Go.Proofs.YtbogjkggfdhckaaGreatDoor

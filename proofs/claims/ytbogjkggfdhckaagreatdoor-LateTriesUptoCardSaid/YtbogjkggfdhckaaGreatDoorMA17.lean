/-
  Lemmas on the way to Rr1: Pr8.
-/
import Derived.Test.YtbogjkggfdhckaaGreatDoorMA13
import Derived.Deep.RegionHeldLaw
/-
  prog: Events: a copy of what has happened.
-/
namespace Go.Proofs.YtbogjkggfdhckaaGreatDoor
open Go.RowKit Go.Um

set_option maxRecDepth 100000 in
set_option maxHeartbeats 2000000 in
theorem events_some {w : World} {bw B : Nat} {P : Nat → Prop} {p : Pg} {vc vt : Value} {ths : List Th} {gt ct : Nat} {evs : List Ev} {ve : Value} (h : WalkAt w bw B P p vc vt ths gt ct evs ve) (hn : 0 < evs.length) (hl : evs.length < 1000000) :
    Calls Tryz.prog 80 #[.pointer (some ⟨bw, 0, none⟩)] w fun r w' => (∃ v, r = .returned v ∧ w'.ownsRow w.heap.size tEve 8 v evs.length (flatE evs)) ∧ Kp [] w w' := by
  have hbl := h.lt
  have c3 := h.c3
  obtain ⟨g, cap, rfl, hg, hgl⟩ := own_shape h.oe hn
  have hone : ∀ u ∈ flatE evs, u.oneCell' = true := by
    intro u hu
    simp [flatE, Ev.cells] at hu
    obtain ⟨x, _, hx⟩ := hu
    rcases hx with rfl | rfl | rfl | rfl | rfl | rfl | rfl | rfl <;> rfl
  have hcells := h.oe.cells (g := g) rfl
  have HC := Lib.hid hcells
  have hfl := flatE_len evs
  obtain ⟨i0, hi', hz0, hz1, hz2⟩ := info_parts info_eve
  have hmk : ∀ W : World, (Instr.makeSlice 29 (.int .i64 0) (.int .i64 evs.length)).run Tryz.prog W = .ok (.slice (some ⟨W.heap.size, 0, none⟩) 0 evs.length) (W.alloc (.cells (madeCells (Value.agg #[.int .i64 0, .int .i64 0, .int .i64 0, .int .i64 0, .int .i64 0, .int .i64 0, .int .i64 0, .int .i64 0]).cells (evs.length * 8)) tEve)) := fun W => by
    have := run_makeSlice (P := Tryz.prog) (w := W) 29 tEve i0 _ Tryz.underlying29 hi' hz0 .i64 .i64 0 evs.length (by decide) (by omega) (by rw [hz1]; simp; omega) (by rw [hz2]; omega) (by omega)
    rw [this, hz1]
    simp only [Int.toNat_zero, Int.toNat_natCast]
  have hmx : 0 + evs.length ≤ maxLen := by simp only [maxLen]; omega
  have hby : (0 + evs.length) * 64 ≤ 140737488355328 := by omega
  clear h hcells
  go_enter Tryz.func80, Tryz.ntmps80
  go_wp2
  have d1 : w.drew.cell? ⟨bw, 3, none⟩ = some (.slice (some ⟨g, 0, none⟩) evs.length cap) := c3
  have d2 : ∀ o, (w.alloc o).drew.cell? ⟨bw, 3, none⟩ = some (.slice (some ⟨g, 0, none⟩) evs.length cap) := fun o => (World.cell?_alloc_past _ _ _ hbl).trans c3
  have hlz : bw < (w.alloc (.cells (madeCells #[.int .i64 0, .int .i64 0, .int .i64 0, .int .i64 0, .int .i64 0, .int .i64 0, .int .i64 0, .int .i64 0] (evs.length * 8)) tEve)).drew.heap.size := by simp; omega
  have hown0 : (w.alloc (.cells (madeCells #[.int .i64 0, .int .i64 0, .int .i64 0, .int .i64 0, .int .i64 0, .int .i64 0, .int .i64 0, .int .i64 0] (evs.length * 8)) tEve)).drew.ownsRow w.heap.size tEve 8 (.slice (some ⟨w.heap.size, 0, none⟩) 0 evs.length) 0 [] := World.ownsRow_made w _ evs.length (Nat.le_refl _) (by simp only [maxLen]; omega) (size_madeCells _ _)
  have hadd : ∀ j, ((⟨g, 0, none⟩ : Addr).add j) = ⟨g, j, none⟩ := fun j => by unfold Addr.add; split <;> simp_all
  have hnews0 : ∀ j u, (flatE evs)[j]? = some u → (w.alloc (.cells (madeCells #[.int .i64 0, .int .i64 0, .int .i64 0, .int .i64 0, .int .i64 0, .int .i64 0, .int .i64 0, .int .i64 0] (evs.length * 8)) tEve)).drew.cell? ((⟨g, 0, none⟩ : Addr).add j) = some u := fun j u h => by
    have h1 := HC.out j u h
    rw [hadd] at h1 ⊢
    exact (((Kp.refl [] w).alloc _).drew.cellAt h1 (by simp)).1
  go_region_held_law (fun w' => w'.cell? ⟨bw, 3, none⟩ = some (.slice (some ⟨g, 0, none⟩) evs.length cap)) (first | (with_reducible exact d1) | (with_reducible exact d2 _) | (with_reducible exact s1)) (first | (refine step_append_lies (w := (w.alloc (.cells (madeCells #[.int .i64 0, .int .i64 0, .int .i64 0, .int .i64 0, .int .i64 0, .int .i64 0, .int .i64 0, .int .i64 0] (evs.length * 8)) tEve)).drew) (hgd := by rfl) (s := .tmp 8) (x := .tmp 12) (t := 29) (ho := by rfl) (base := w.heap.size) (e := tEve) (i := i0) (z := .agg #[.int .i64 0, .int .i64 0, .int .i64 0, .int .i64 0, .int .i64 0, .int .i64 0, .int .i64 0, .int .i64 0]) (size := 8) (bytes := 64) (ht := Tryz.underlying29) (hi := hi') (hz := hz0) (hsize := hz1) (hby := hz2) (hzs := by rfl) (hsz := by decide) (v := .slice (some ⟨w.heap.size, 0, none⟩) 0 evs.length) (n := 0) (xs := []) (hs := by rfl) (hown := by exact hown0) (ad := ⟨g, 0, none⟩) (m := evs.length) (c := cap) (news := flatE evs) (hx := by rfl) (hl := hfl) (hnews := hnews0) (h1 := hone) (hm := hn) (h63 := hmx) (hbytes := hby) (hbase := by simp) (H := _) (hH := by rfl) ?_; intro g2 cap2 w1 hown hgrow hat hlt; have hkp := Kp.of_grown hgrow; have s1 : w1.cell? ⟨bw, 3, none⟩ = some (.slice (some ⟨g, 0, none⟩) evs.length cap) := ((hkp.cell hlz (by simp [Value.ownBlock]; omega)).trans (d2 _))))
  all_goals go_wp2
  all_goals go_ret
  all_goals
    refine ⟨⟨_, rfl, ?_⟩, ?_⟩
    · simpa using hown
    · exact (((Kp.refl [] w).alloc _).drew).trans hkp (fun x hx hl => by simp [Value.ownBlock] at hx; omega)

theorem own_len0 {w : World} {B e sz n : Nat} {v : Value} {xs : List Value} (h : w.ownsRow B e sz v n xs) : ∃ a c, v = .slice a n c := by
  rcases h.2 with ⟨rfl, rfl⟩ | ⟨g, cap, cur, rfl, _⟩
  · exact ⟨none, 0, rfl⟩
  · exact ⟨_, _, rfl⟩
set_option maxRecDepth 100000 in
set_option maxHeartbeats 2000000 in
theorem events_none {w : World} {bw B : Nat} {P : Nat → Prop} {p : Pg} {vc vt : Value} {ths : List Th} {gt ct : Nat} {ve : Value} (h : WalkAt w bw B P p vc vt ths gt ct [] ve) :
    Calls Tryz.prog 80 #[.pointer (some ⟨bw, 0, none⟩)] w fun r w' => (∃ v, r = .returned v ∧ w'.ownsRow w.heap.size tEve 8 v 0 []) ∧ Kp [] w w' := by
  have hbl := h.lt
  have c3 := h.c3
  obtain ⟨a, c, hv⟩ := own_len0 h.oe
  simp only [List.length_nil] at hv
  subst hv
  obtain ⟨i0, hi', hz0, hz1, hz2⟩ := info_parts info_eve
  have hmk : ∀ W : World, (Instr.makeSlice 29 (.int .i64 0) (.int .i64 0)).run Tryz.prog W = .ok (.slice (some ⟨W.heap.size, 0, none⟩) 0 0) (W.alloc (.cells (madeCells (Value.agg #[.int .i64 0, .int .i64 0, .int .i64 0, .int .i64 0, .int .i64 0, .int .i64 0, .int .i64 0, .int .i64 0]).cells 0) tEve)) := fun W => by
    have := run_makeSlice (P := Tryz.prog) (w := W) 29 tEve i0 _ Tryz.underlying29 hi' hz0 .i64 .i64 0 0 (by decide) (by omega) (by rw [hz1]; simp) (by rw [hz2]; omega) (by omega)
    rw [this, hz1]
    rfl
  clear h
  have hown0 : (w.alloc (.cells (madeCells #[.int .i64 0, .int .i64 0, .int .i64 0, .int .i64 0, .int .i64 0, .int .i64 0, .int .i64 0, .int .i64 0] 0) tEve)).drew.ownsRow w.heap.size tEve 8 (.slice (some ⟨w.heap.size, 0, none⟩) 0 0) 0 [] := World.ownsRow_made w _ 0 (Nat.le_refl _) (by simp only [maxLen]; omega) (size_madeCells _ _)
  have ha : a = none ∨ ∃ a', a = some a' := by cases a with
    | none => exact .inl rfl
    | some a => exact .inr ⟨a, rfl⟩
  rcases ha with rfl | ⟨a', rfl⟩
  all_goals
    go_enter Tryz.func80, Tryz.ntmps80
    go_wp2
    go_region
    all_goals go_wp2
    all_goals go_ret
    all_goals exact ⟨⟨_, rfl, by simpa using hown0⟩, ((Kp.refl [] w).alloc _).drew⟩
end Go.Proofs.YtbogjkggfdhckaaGreatDoor

/-
  Lemmas on the way to Rr1: Ev4, Sh1, Ev5, Pr1.
-/
import Derived.Test.YtbogjkggfdhckaaGreatDoorMA3
import Derived.Test.YtbogjkggfdhckaaGreatDoorMA2
/-
  event: the closures that tell the fields of a call, of a return. (Printed by gen_ev2.py.)
-/
namespace Go.Proofs.YtbogjkggfdhckaaGreatDoor
open Go.RowKit Go.Um

set_option maxRecDepth 100000 in
set_option maxHeartbeats 4000000 in
theorem next147k_yes (bl : Nat) (e : Nat → Int) (i : Nat) (w : World) (hb : w.cell? ⟨bl, 0, none⟩ = some (.func (.func 143) #[] #[])) (hky : keyed (e 4) = true) (hvl : valued (e 4) = false) (f : FS) (hf : [fTx, fObj, fOp, fKey][i]? = some f) :
    Calls Tryz.prog 147 #[evV e, .int .i64 i, .pointer (some ⟨bl, 0, none⟩)] w fun r w' => r = .returned (.tuple #[f.v, .bool true]) ∧ Kp [] w w' := by
  have hbl : bl < w.heap.size := World.block_lt_of_cell? w _ hb
  have HF := Lib.hid hf
  clear hf
  obtain ⟨i0, hi, hz0, hz1, hz2⟩ := info_parts info_field
  unfold evV
  go_enter Tryz.func147, Tryz.ntmps147
  go_wp2_with (first
    | (go_at_call 145; refine (tx_any _).mono ?_; rintro e1 w1 ⟨rfl, hb1⟩; unfold fTx FS.v gfn)
    | (go_at_call 148; refine (obj_any _).mono ?_; rintro e1 w2 ⟨rfl, hb2⟩; unfold fObj FS.v gfn)
    | (go_at_call 149; refine (op_any _).mono ?_; rintro e1 w3 ⟨rfl, hb3⟩; have hK3 := (hb1.trans hb2 (by simp)).trans hb3 (by simp); have hs3 := hK3.size; simp only [World.size_alloc] at hs3; obtain ⟨l3a, c3a, f3a⟩ := hK3.blk w.heap.size (by first | omega | (simp <;> omega)) (by simp); obtain ⟨l3b, c3b, f3b⟩ := hK3.blk (w.heap.size + 1) (by first | omega | (simp <;> omega)) (by simp); obtain ⟨l3c, c3c, f3c⟩ := hK3.blk bl (by first | omega | (simp <;> omega)) (by simp); clear hb1 hb2 hb3; unfold fOp FS.v gfn)
    | (go_at_call 150; refine (keyed_any _ _).mono ?_; rintro e1 w' ⟨rfl, rfl⟩)
    | (go_at_call 151; refine (key_any _).mono ?_; rintro e1 w4 ⟨rfl, hb4⟩; have hrow := own_built hb4 (sz := 4) (n := 3) rfl (by decide) (B := w.heap.size + 2) (by first | omega | (simp <;> omega)); have hK4 := (hK3.alloc _).trans hb4 (by simp); clear hK3 hb4 l3a l3b l3c c3a c3b c3c f3a f3b f3c; obtain ⟨l4a, c4a, f4a⟩ := hK4.blk w.heap.size (by first | omega | (simp <;> omega)) (by simp); obtain ⟨l4b, c4b, f4b⟩ := hK4.blk (w.heap.size + 1) (by first | omega | (simp <;> omega)) (by simp); obtain ⟨l4c, c4c, f4c⟩ := hK4.blk bl (by first | omega | (simp <;> omega)) (by simp); unfold fKey FS.v gfn)
    | (at_builtin; refine wpList_append_own _ rfl _ _ 208 rfl (w.heap.size + 2) 183 i0 _ 4 32 Tryz.underlying208 hi hz0 hz1 hz2 rfl (by decide) _ _ _ rfl (hrow.alloc _) ⟨w4.heap.size, 0, none⟩ 1 1 (fKey.cells) rfl rfl (news_of (heap_alloc_new w4 _)) ?c2 ?c3 ?c4 ?c5 ?_))
  case c2 => intro u hu; simp [fKey, FS.cells] at hu; rcases hu with rfl | rfl | rfl | rfl <;> rfl
  case c3 => decide
  case c4 => decide
  case c5 => first | omega | (simp <;> omega)
  intro v' w5 hown5 hgrow _
  obtain ⟨g5, cap5, rfl, hG5, hg5⟩ := own_shape hown5 (by decide)
  have hK5 := (hK4.alloc _).trans (Kp.of_grown hgrow) (fun x hx hlt => by simp [Value.ownBlock] at hx; simp at hlt; omega)
  obtain ⟨l5a, c5a, f5a⟩ := hK5.blk w.heap.size (by first | omega | (simp <;> omega)) (by simp); obtain ⟨l5b, c5b, f5b⟩ := hK5.blk (w.heap.size + 1) (by first | omega | (simp <;> omega)) (by simp); obtain ⟨l5c, c5c, f5c⟩ := hK5.blk bl (by first | omega | (simp <;> omega)) (by simp)
  clear hgrow hrow hK4 l4a l4b l4c c4a c4b c4c f4a f4b f4c
  go_wp2_with (go_at_call 152; refine (valued_any _ _).mono ?_; rintro e1 w' ⟨rfl, rfl⟩)
  have hfs : IsFs w5.drew (.slice (some ⟨g5, 0, none⟩) 4 cap5) [fTx, fObj, fOp, fKey] := ⟨g5, cap5, rfl, own_base hown5 (Nat.zero_le _)⟩
  have hw : Kp [] w w5.drew := ((((Kp.refl [] w).alloc _).alloc _).trans hK5 (by simp)).drew
  clear hown5
  go_wp2
  go_region_with (first
    | (go_at_call 143; refine (list_any _ _ _ _).mono ?_; rintro e1 w5 ⟨⟨b5, _, rfl, hb5⟩, hk5⟩; obtain ⟨l5a, c5a, f5a⟩ := hk5.blk w.heap.size (by first | omega | (simp <;> omega)) (by simp); obtain ⟨l5b, c5b, f5b⟩ := hk5.blk (w.heap.size + 1) (by first | omega | (simp <;> omega)) (by simp); have hfs5 := hfs.kp hk5; have hw5 := hw.trans hk5 (by simp))
    | (go_at_call 144; refine (next144_yes _ _ _ e _ f _ hb5 hfs5 HF.out).mono ?_; rintro e1 w6 ⟨rfl, hk6⟩; obtain ⟨l6b, c6b, f6b⟩ := hk6.blk (w.heap.size + 1) l5b (by simp); have hw6 := hw5.trans hk6 (by simp); unfold FS.v))
  all_goals go_wp2
  all_goals refine bodyPost_ret (v := .tuple #[f.v, .bool true]) ?_ rfl ⟨rfl, ?_⟩
  all_goals first | exact hw6 | (simp [results, Tryz.results147, go_sem, FS.v, *]; done) | (repeat (first | exact hw6 | refine Kp.drew ?_ | refine Kp.alloc ?_ _ | refine Kp.setCell ?_ _ _ (fun h => absurd h (by simp))))
set_option maxRecDepth 100000 in
set_option maxHeartbeats 4000000 in
theorem next147k_no (bl : Nat) (e : Nat → Int) (i : Nat) (w : World) (hb : w.cell? ⟨bl, 0, none⟩ = some (.func (.func 143) #[] #[])) (hky : keyed (e 4) = true) (hvl : valued (e 4) = false) (hf : [fTx, fObj, fOp, fKey].length ≤ i) :
    Calls Tryz.prog 147 #[evV e, .int .i64 i, .pointer (some ⟨bl, 0, none⟩)] w fun r w' => r = .returned (.tuple #[zeroF, .bool false]) ∧ Kp [] w w' := by
  have hbl : bl < w.heap.size := World.block_lt_of_cell? w _ hb
  have HF := Lib.hid hf
  clear hf
  obtain ⟨i0, hi, hz0, hz1, hz2⟩ := info_parts info_field
  unfold evV
  go_enter Tryz.func147, Tryz.ntmps147
  go_wp2_with (first
    | (go_at_call 145; refine (tx_any _).mono ?_; rintro e1 w1 ⟨rfl, hb1⟩; unfold fTx FS.v gfn)
    | (go_at_call 148; refine (obj_any _).mono ?_; rintro e1 w2 ⟨rfl, hb2⟩; unfold fObj FS.v gfn)
    | (go_at_call 149; refine (op_any _).mono ?_; rintro e1 w3 ⟨rfl, hb3⟩; have hK3 := (hb1.trans hb2 (by simp)).trans hb3 (by simp); have hs3 := hK3.size; simp only [World.size_alloc] at hs3; obtain ⟨l3a, c3a, f3a⟩ := hK3.blk w.heap.size (by first | omega | (simp <;> omega)) (by simp); obtain ⟨l3b, c3b, f3b⟩ := hK3.blk (w.heap.size + 1) (by first | omega | (simp <;> omega)) (by simp); obtain ⟨l3c, c3c, f3c⟩ := hK3.blk bl (by first | omega | (simp <;> omega)) (by simp); clear hb1 hb2 hb3; unfold fOp FS.v gfn)
    | (go_at_call 150; refine (keyed_any _ _).mono ?_; rintro e1 w' ⟨rfl, rfl⟩)
    | (go_at_call 151; refine (key_any _).mono ?_; rintro e1 w4 ⟨rfl, hb4⟩; have hrow := own_built hb4 (sz := 4) (n := 3) rfl (by decide) (B := w.heap.size + 2) (by first | omega | (simp <;> omega)); have hK4 := (hK3.alloc _).trans hb4 (by simp); clear hK3 hb4 l3a l3b l3c c3a c3b c3c f3a f3b f3c; obtain ⟨l4a, c4a, f4a⟩ := hK4.blk w.heap.size (by first | omega | (simp <;> omega)) (by simp); obtain ⟨l4b, c4b, f4b⟩ := hK4.blk (w.heap.size + 1) (by first | omega | (simp <;> omega)) (by simp); obtain ⟨l4c, c4c, f4c⟩ := hK4.blk bl (by first | omega | (simp <;> omega)) (by simp); unfold fKey FS.v gfn)
    | (at_builtin; refine wpList_append_own _ rfl _ _ 208 rfl (w.heap.size + 2) 183 i0 _ 4 32 Tryz.underlying208 hi hz0 hz1 hz2 rfl (by decide) _ _ _ rfl (hrow.alloc _) ⟨w4.heap.size, 0, none⟩ 1 1 (fKey.cells) rfl rfl (news_of (heap_alloc_new w4 _)) ?c2 ?c3 ?c4 ?c5 ?_))
  case c2 => intro u hu; simp [fKey, FS.cells] at hu; rcases hu with rfl | rfl | rfl | rfl <;> rfl
  case c3 => decide
  case c4 => decide
  case c5 => first | omega | (simp <;> omega)
  intro v' w5 hown5 hgrow _
  obtain ⟨g5, cap5, rfl, hG5, hg5⟩ := own_shape hown5 (by decide)
  have hK5 := (hK4.alloc _).trans (Kp.of_grown hgrow) (fun x hx hlt => by simp [Value.ownBlock] at hx; simp at hlt; omega)
  obtain ⟨l5a, c5a, f5a⟩ := hK5.blk w.heap.size (by first | omega | (simp <;> omega)) (by simp); obtain ⟨l5b, c5b, f5b⟩ := hK5.blk (w.heap.size + 1) (by first | omega | (simp <;> omega)) (by simp); obtain ⟨l5c, c5c, f5c⟩ := hK5.blk bl (by first | omega | (simp <;> omega)) (by simp)
  clear hgrow hrow hK4 l4a l4b l4c c4a c4b c4c f4a f4b f4c
  go_wp2_with (go_at_call 152; refine (valued_any _ _).mono ?_; rintro e1 w' ⟨rfl, rfl⟩)
  have hfs : IsFs w5.drew (.slice (some ⟨g5, 0, none⟩) 4 cap5) [fTx, fObj, fOp, fKey] := ⟨g5, cap5, rfl, own_base hown5 (Nat.zero_le _)⟩
  have hw : Kp [] w w5.drew := ((((Kp.refl [] w).alloc _).alloc _).trans hK5 (by simp)).drew
  clear hown5
  go_wp2
  go_region_with (first
    | (go_at_call 143; refine (list_any _ _ _ _).mono ?_; rintro e1 w5 ⟨⟨b5, _, rfl, hb5⟩, hk5⟩; obtain ⟨l5a, c5a, f5a⟩ := hk5.blk w.heap.size (by first | omega | (simp <;> omega)) (by simp); obtain ⟨l5b, c5b, f5b⟩ := hk5.blk (w.heap.size + 1) (by first | omega | (simp <;> omega)) (by simp); have hfs5 := hfs.kp hk5; have hw5 := hw.trans hk5 (by simp))
    | (go_at_call 144; refine (next144_no _ _ _ e _ _ hb5 hfs5 HF.out).mono ?_; rintro e1 w6 ⟨rfl, hk6⟩; obtain ⟨l6b, c6b, f6b⟩ := hk6.blk (w.heap.size + 1) l5b (by simp); have hw6 := hw5.trans hk6 (by simp); unfold zeroF))
  all_goals go_wp2
  all_goals refine bodyPost_ret (v := .tuple #[zeroF, .bool false]) ?_ rfl ⟨rfl, ?_⟩
  all_goals first | exact hw6 | (simp [results, Tryz.results147, go_sem, zeroF, *]; done) | (repeat (first | exact hw6 | refine Kp.drew ?_ | refine Kp.alloc ?_ _ | refine Kp.setCell ?_ _ _ (fun h => absurd h (by simp))))
set_option maxRecDepth 100000 in
set_option maxHeartbeats 4000000 in
theorem next147kv_yes (bl : Nat) (e : Nat → Int) (i : Nat) (w : World) (hb : w.cell? ⟨bl, 0, none⟩ = some (.func (.func 143) #[] #[])) (hky : keyed (e 4) = true) (hvl : valued (e 4) = true) (f : FS) (hf : [fTx, fObj, fOp, fKey, fVal][i]? = some f) :
    Calls Tryz.prog 147 #[evV e, .int .i64 i, .pointer (some ⟨bl, 0, none⟩)] w fun r w' => r = .returned (.tuple #[f.v, .bool true]) ∧ Kp [] w w' := by
  have hbl : bl < w.heap.size := World.block_lt_of_cell? w _ hb
  have HF := Lib.hid hf
  clear hf
  obtain ⟨i0, hi, hz0, hz1, hz2⟩ := info_parts info_field
  unfold evV
  go_enter Tryz.func147, Tryz.ntmps147
  go_wp2_with (first
    | (go_at_call 145; refine (tx_any _).mono ?_; rintro e1 w1 ⟨rfl, hb1⟩; unfold fTx FS.v gfn)
    | (go_at_call 148; refine (obj_any _).mono ?_; rintro e1 w2 ⟨rfl, hb2⟩; unfold fObj FS.v gfn)
    | (go_at_call 149; refine (op_any _).mono ?_; rintro e1 w3 ⟨rfl, hb3⟩; have hK3 := (hb1.trans hb2 (by simp)).trans hb3 (by simp); have hs3 := hK3.size; simp only [World.size_alloc] at hs3; obtain ⟨l3a, c3a, f3a⟩ := hK3.blk w.heap.size (by first | omega | (simp <;> omega)) (by simp); obtain ⟨l3b, c3b, f3b⟩ := hK3.blk (w.heap.size + 1) (by first | omega | (simp <;> omega)) (by simp); obtain ⟨l3c, c3c, f3c⟩ := hK3.blk bl (by first | omega | (simp <;> omega)) (by simp); clear hb1 hb2 hb3; unfold fOp FS.v gfn)
    | (go_at_call 150; refine (keyed_any _ _).mono ?_; rintro e1 w' ⟨rfl, rfl⟩)
    | (go_at_call 151; refine (key_any _).mono ?_; rintro e1 w4 ⟨rfl, hb4⟩; have hrow := own_built hb4 (sz := 4) (n := 3) rfl (by decide) (B := w.heap.size + 2) (by first | omega | (simp <;> omega)); have hK4 := (hK3.alloc _).trans hb4 (by simp); clear hK3 hb4 l3a l3b l3c c3a c3b c3c f3a f3b f3c; obtain ⟨l4a, c4a, f4a⟩ := hK4.blk w.heap.size (by first | omega | (simp <;> omega)) (by simp); obtain ⟨l4b, c4b, f4b⟩ := hK4.blk (w.heap.size + 1) (by first | omega | (simp <;> omega)) (by simp); obtain ⟨l4c, c4c, f4c⟩ := hK4.blk bl (by first | omega | (simp <;> omega)) (by simp); unfold fKey FS.v gfn)
    | (at_builtin; refine wpList_append_own _ rfl _ _ 208 rfl (w.heap.size + 2) 183 i0 _ 4 32 Tryz.underlying208 hi hz0 hz1 hz2 rfl (by decide) _ _ _ rfl (hrow.alloc _) ⟨w4.heap.size, 0, none⟩ 1 1 (fKey.cells) rfl rfl (news_of (heap_alloc_new w4 _)) ?c2 ?c3 ?c4 ?c5 ?_))
  case c2 => intro u hu; simp [fKey, FS.cells] at hu; rcases hu with rfl | rfl | rfl | rfl <;> rfl
  case c3 => decide
  case c4 => decide
  case c5 => first | omega | (simp <;> omega)
  intro v' w5 hown5 hgrow _
  obtain ⟨g5, cap5, rfl, hG5, hg5⟩ := own_shape hown5 (by decide)
  have hK5 := (hK4.alloc _).trans (Kp.of_grown hgrow) (fun x hx hlt => by simp [Value.ownBlock] at hx; simp at hlt; omega)
  obtain ⟨l5a, c5a, f5a⟩ := hK5.blk w.heap.size (by first | omega | (simp <;> omega)) (by simp); obtain ⟨l5b, c5b, f5b⟩ := hK5.blk (w.heap.size + 1) (by first | omega | (simp <;> omega)) (by simp); obtain ⟨l5c, c5c, f5c⟩ := hK5.blk bl (by first | omega | (simp <;> omega)) (by simp)
  clear hgrow hrow hK4 l4a l4b l4c c4a c4b c4c f4a f4b f4c
  go_wp2_with (first
    | (go_at_call 152; refine (valued_any _ _).mono ?_; rintro e1 w' ⟨rfl, rfl⟩)
    | (go_at_call 153; refine (val_any _).mono ?_; rintro e1 w6 ⟨rfl, hb6⟩; have hrow := own_kp hown5 hb6 (fun _ _ => by simp); have hK6 := hK5.trans hb6 (by simp); clear hK5 hb6 l5a l5b l5c c5a c5b c5c f5a f5b f5c; obtain ⟨l6a, c6a, f6a⟩ := hK6.blk w.heap.size (by first | omega | (simp <;> omega)) (by simp); obtain ⟨l6b, c6b, f6b⟩ := hK6.blk (w.heap.size + 1) (by first | omega | (simp <;> omega)) (by simp); obtain ⟨l6c, c6c, f6c⟩ := hK6.blk bl (by first | omega | (simp <;> omega)) (by simp); unfold fVal FS.v gfn)
    | (at_builtin; refine wpList_append_own _ rfl _ _ 208 rfl (w.heap.size + 2) 183 i0 _ 4 32 Tryz.underlying208 hi hz0 hz1 hz2 rfl (by decide) _ _ _ rfl (hrow.alloc _) ⟨w6.heap.size, 0, none⟩ 1 1 (fVal.cells) rfl rfl (news_of (heap_alloc_new w6 _)) ?c2b ?c3b ?c4b ?c5b ?_))
  case c2b => intro u hu; simp [fVal, FS.cells] at hu; rcases hu with rfl | rfl | rfl | rfl <;> rfl
  case c3b => decide
  case c4b => decide
  case c5b => first | omega | (simp <;> omega)
  intro v' w7 hown7 hgrow _
  obtain ⟨g7, cap7, rfl, hG7, hg7⟩ := own_shape hown7 (by decide)
  have hK7 := (hK6.alloc _).trans (Kp.of_grown hgrow) (fun x hx hlt => by simp [Value.ownBlock] at hx; simp at hlt; omega)
  obtain ⟨l7a, c7a, f7a⟩ := hK7.blk w.heap.size (by first | omega | (simp <;> omega)) (by simp); obtain ⟨l7b, c7b, f7b⟩ := hK7.blk (w.heap.size + 1) (by first | omega | (simp <;> omega)) (by simp); obtain ⟨l7c, c7c, f7c⟩ := hK7.blk bl (by first | omega | (simp <;> omega)) (by simp)
  clear hgrow hrow hK6 l6a l6b l6c c6a c6b c6c f6a f6b f6c
  have hfs : IsFs w7.drew (.slice (some ⟨g7, 0, none⟩) 5 cap7) [fTx, fObj, fOp, fKey, fVal] := ⟨g7, cap7, rfl, own_base hown7 (Nat.zero_le _)⟩
  have hw : Kp [] w w7.drew := ((((Kp.refl [] w).alloc _).alloc _).trans hK7 (by simp)).drew
  clear hown7
  go_wp2
  go_region_with (first
    | (go_at_call 143; refine (list_any _ _ _ _).mono ?_; rintro e1 w5 ⟨⟨b5, _, rfl, hb5⟩, hk5⟩; obtain ⟨l5a, c5a, f5a⟩ := hk5.blk w.heap.size (by first | omega | (simp <;> omega)) (by simp); obtain ⟨l5b, c5b, f5b⟩ := hk5.blk (w.heap.size + 1) (by first | omega | (simp <;> omega)) (by simp); have hfs5 := hfs.kp hk5; have hw5 := hw.trans hk5 (by simp))
    | (go_at_call 144; refine (next144_yes _ _ _ e _ f _ hb5 hfs5 HF.out).mono ?_; rintro e1 w6 ⟨rfl, hk6⟩; obtain ⟨l6b, c6b, f6b⟩ := hk6.blk (w.heap.size + 1) l5b (by simp); have hw6 := hw5.trans hk6 (by simp); unfold FS.v))
  all_goals go_wp2
  all_goals refine bodyPost_ret (v := .tuple #[f.v, .bool true]) ?_ rfl ⟨rfl, ?_⟩
  all_goals first | exact hw6 | (simp [results, Tryz.results147, go_sem, FS.v, *]; done) | (repeat (first | exact hw6 | refine Kp.drew ?_ | refine Kp.alloc ?_ _ | refine Kp.setCell ?_ _ _ (fun h => absurd h (by simp))))
set_option maxRecDepth 100000 in
set_option maxHeartbeats 4000000 in
theorem next147kv_no (bl : Nat) (e : Nat → Int) (i : Nat) (w : World) (hb : w.cell? ⟨bl, 0, none⟩ = some (.func (.func 143) #[] #[])) (hky : keyed (e 4) = true) (hvl : valued (e 4) = true) (hf : [fTx, fObj, fOp, fKey, fVal].length ≤ i) :
    Calls Tryz.prog 147 #[evV e, .int .i64 i, .pointer (some ⟨bl, 0, none⟩)] w fun r w' => r = .returned (.tuple #[zeroF, .bool false]) ∧ Kp [] w w' := by
  have hbl : bl < w.heap.size := World.block_lt_of_cell? w _ hb
  have HF := Lib.hid hf
  clear hf
  obtain ⟨i0, hi, hz0, hz1, hz2⟩ := info_parts info_field
  unfold evV
  go_enter Tryz.func147, Tryz.ntmps147
  go_wp2_with (first
    | (go_at_call 145; refine (tx_any _).mono ?_; rintro e1 w1 ⟨rfl, hb1⟩; unfold fTx FS.v gfn)
    | (go_at_call 148; refine (obj_any _).mono ?_; rintro e1 w2 ⟨rfl, hb2⟩; unfold fObj FS.v gfn)
    | (go_at_call 149; refine (op_any _).mono ?_; rintro e1 w3 ⟨rfl, hb3⟩; have hK3 := (hb1.trans hb2 (by simp)).trans hb3 (by simp); have hs3 := hK3.size; simp only [World.size_alloc] at hs3; obtain ⟨l3a, c3a, f3a⟩ := hK3.blk w.heap.size (by first | omega | (simp <;> omega)) (by simp); obtain ⟨l3b, c3b, f3b⟩ := hK3.blk (w.heap.size + 1) (by first | omega | (simp <;> omega)) (by simp); obtain ⟨l3c, c3c, f3c⟩ := hK3.blk bl (by first | omega | (simp <;> omega)) (by simp); clear hb1 hb2 hb3; unfold fOp FS.v gfn)
    | (go_at_call 150; refine (keyed_any _ _).mono ?_; rintro e1 w' ⟨rfl, rfl⟩)
    | (go_at_call 151; refine (key_any _).mono ?_; rintro e1 w4 ⟨rfl, hb4⟩; have hrow := own_built hb4 (sz := 4) (n := 3) rfl (by decide) (B := w.heap.size + 2) (by first | omega | (simp <;> omega)); have hK4 := (hK3.alloc _).trans hb4 (by simp); clear hK3 hb4 l3a l3b l3c c3a c3b c3c f3a f3b f3c; obtain ⟨l4a, c4a, f4a⟩ := hK4.blk w.heap.size (by first | omega | (simp <;> omega)) (by simp); obtain ⟨l4b, c4b, f4b⟩ := hK4.blk (w.heap.size + 1) (by first | omega | (simp <;> omega)) (by simp); obtain ⟨l4c, c4c, f4c⟩ := hK4.blk bl (by first | omega | (simp <;> omega)) (by simp); unfold fKey FS.v gfn)
    | (at_builtin; refine wpList_append_own _ rfl _ _ 208 rfl (w.heap.size + 2) 183 i0 _ 4 32 Tryz.underlying208 hi hz0 hz1 hz2 rfl (by decide) _ _ _ rfl (hrow.alloc _) ⟨w4.heap.size, 0, none⟩ 1 1 (fKey.cells) rfl rfl (news_of (heap_alloc_new w4 _)) ?c2 ?c3 ?c4 ?c5 ?_))
  case c2 => intro u hu; simp [fKey, FS.cells] at hu; rcases hu with rfl | rfl | rfl | rfl <;> rfl
  case c3 => decide
  case c4 => decide
  case c5 => first | omega | (simp <;> omega)
  intro v' w5 hown5 hgrow _
  obtain ⟨g5, cap5, rfl, hG5, hg5⟩ := own_shape hown5 (by decide)
  have hK5 := (hK4.alloc _).trans (Kp.of_grown hgrow) (fun x hx hlt => by simp [Value.ownBlock] at hx; simp at hlt; omega)
  obtain ⟨l5a, c5a, f5a⟩ := hK5.blk w.heap.size (by first | omega | (simp <;> omega)) (by simp); obtain ⟨l5b, c5b, f5b⟩ := hK5.blk (w.heap.size + 1) (by first | omega | (simp <;> omega)) (by simp); obtain ⟨l5c, c5c, f5c⟩ := hK5.blk bl (by first | omega | (simp <;> omega)) (by simp)
  clear hgrow hrow hK4 l4a l4b l4c c4a c4b c4c f4a f4b f4c
  go_wp2_with (first
    | (go_at_call 152; refine (valued_any _ _).mono ?_; rintro e1 w' ⟨rfl, rfl⟩)
    | (go_at_call 153; refine (val_any _).mono ?_; rintro e1 w6 ⟨rfl, hb6⟩; have hrow := own_kp hown5 hb6 (fun _ _ => by simp); have hK6 := hK5.trans hb6 (by simp); clear hK5 hb6 l5a l5b l5c c5a c5b c5c f5a f5b f5c; obtain ⟨l6a, c6a, f6a⟩ := hK6.blk w.heap.size (by first | omega | (simp <;> omega)) (by simp); obtain ⟨l6b, c6b, f6b⟩ := hK6.blk (w.heap.size + 1) (by first | omega | (simp <;> omega)) (by simp); obtain ⟨l6c, c6c, f6c⟩ := hK6.blk bl (by first | omega | (simp <;> omega)) (by simp); unfold fVal FS.v gfn)
    | (at_builtin; refine wpList_append_own _ rfl _ _ 208 rfl (w.heap.size + 2) 183 i0 _ 4 32 Tryz.underlying208 hi hz0 hz1 hz2 rfl (by decide) _ _ _ rfl (hrow.alloc _) ⟨w6.heap.size, 0, none⟩ 1 1 (fVal.cells) rfl rfl (news_of (heap_alloc_new w6 _)) ?c2b ?c3b ?c4b ?c5b ?_))
  case c2b => intro u hu; simp [fVal, FS.cells] at hu; rcases hu with rfl | rfl | rfl | rfl <;> rfl
  case c3b => decide
  case c4b => decide
  case c5b => first | omega | (simp <;> omega)
  intro v' w7 hown7 hgrow _
  obtain ⟨g7, cap7, rfl, hG7, hg7⟩ := own_shape hown7 (by decide)
  have hK7 := (hK6.alloc _).trans (Kp.of_grown hgrow) (fun x hx hlt => by simp [Value.ownBlock] at hx; simp at hlt; omega)
  obtain ⟨l7a, c7a, f7a⟩ := hK7.blk w.heap.size (by first | omega | (simp <;> omega)) (by simp); obtain ⟨l7b, c7b, f7b⟩ := hK7.blk (w.heap.size + 1) (by first | omega | (simp <;> omega)) (by simp); obtain ⟨l7c, c7c, f7c⟩ := hK7.blk bl (by first | omega | (simp <;> omega)) (by simp)
  clear hgrow hrow hK6 l6a l6b l6c c6a c6b c6c f6a f6b f6c
  have hfs : IsFs w7.drew (.slice (some ⟨g7, 0, none⟩) 5 cap7) [fTx, fObj, fOp, fKey, fVal] := ⟨g7, cap7, rfl, own_base hown7 (Nat.zero_le _)⟩
  have hw : Kp [] w w7.drew := ((((Kp.refl [] w).alloc _).alloc _).trans hK7 (by simp)).drew
  clear hown7
  go_wp2
  go_region_with (first
    | (go_at_call 143; refine (list_any _ _ _ _).mono ?_; rintro e1 w5 ⟨⟨b5, _, rfl, hb5⟩, hk5⟩; obtain ⟨l5a, c5a, f5a⟩ := hk5.blk w.heap.size (by first | omega | (simp <;> omega)) (by simp); obtain ⟨l5b, c5b, f5b⟩ := hk5.blk (w.heap.size + 1) (by first | omega | (simp <;> omega)) (by simp); have hfs5 := hfs.kp hk5; have hw5 := hw.trans hk5 (by simp))
    | (go_at_call 144; refine (next144_no _ _ _ e _ _ hb5 hfs5 HF.out).mono ?_; rintro e1 w6 ⟨rfl, hk6⟩; obtain ⟨l6b, c6b, f6b⟩ := hk6.blk (w.heap.size + 1) l5b (by simp); have hw6 := hw5.trans hk6 (by simp); unfold zeroF))
  all_goals go_wp2
  all_goals refine bodyPost_ret (v := .tuple #[zeroF, .bool false]) ?_ rfl ⟨rfl, ?_⟩
  all_goals first | exact hw6 | (simp [results, Tryz.results147, go_sem, zeroF, *]; done) | (repeat (first | exact hw6 | refine Kp.drew ?_ | refine Kp.alloc ?_ _ | refine Kp.setCell ?_ _ _ (fun h => absurd h (by simp))))
end Go.Proofs.YtbogjkggfdhckaaGreatDoor

/-
  shape: slices.Index, slices.Contains, slices.Clone; the moves' closures.
-/
namespace Go.Proofs.YtbogjkggfdhckaaGreatDoor
open Go.RowKit Go.Um

/-- The place of the first, or -1. -/
def idx (x : Int) : List Int → Nat → Int
  | [], _ => -1
  | y :: l, i => if x = y then i else idx x l (i + 1)
theorem idx_none (x : Int) : ∀ (l : List Int) (i : Nat), (∀ (j : Nat) y, l[j]? = some y → x ≠ y) → idx x l i = -1
  | [], _, _ => rfl
  | y :: l, i, h => by
    simp only [idx, if_neg (h 0 y (by simp))]
    exact idx_none x l (i + 1) (fun j z hz => h (j + 1) z (by simpa using hz))
theorem idx_some (x : Int) : ∀ (l : List Int) (i k : Nat), l[k]? = some x → (∀ (j : Nat) y, j < k → l[j]? = some y → x ≠ y) → idx x l i = ((i + k : Nat) : Int)
  | [], _, _, h, _ => by simp at h
  | y :: l, i, 0, h, _ => by
    simp at h
    simp [idx, h]
  | y :: l, i, k + 1, h, hn => by
    simp only [idx, if_neg (hn 0 y (by omega) (by simp))]
    rw [idx_some x l (i + 1) k (by simpa using h) (fun j z hj hz => hn (j + 1) z (by omega) (by simpa using hz))]
    omega
theorem idx_ge (x : Int) : ∀ (l : List Int) (i : Nat), decide (0 ≤ idx x l i) = decide (x ∈ l)
  | [], _ => by simp [idx]
  | y :: l, i => by
    by_cases h : x = y
    · simp [idx, h]
    · simp only [idx, if_neg h, idx_ge x l (i + 1)]
      simp [h]

theorem index_any (l : List Int) (x : Int) (v : Value) (B : Nat) (w : World) (h : Rd w B v l.length (flatI l)) (hl : l.length ≤ 1000000) :
    Calls Tryz.prog 131 #[v, .int .i64 x] w fun e w' => e = .returned (.int .i64 (idx x l 0)) ∧ w' = w := by
  obtain ⟨a, c, rfl, h⟩ := h
  have H := Lib.hid h
  clear h
  go_enter Tryz.func131, Tryz.ntmps131
  go_wp2
  go_loopw [8] (fun i wr => ∃ k : Nat, k ≤ l.length ∧ i = .int .i64 k ∧ wr = w ∧ (∀ (j : Nat) y, j < k → l[j]? = some y → x ≠ y)) (fun i _ => l.length + 1 - (intOf i).toNat)
  case atStart => exact ⟨0, by omega, rfl, rfl, by simp⟩
  case round =>
    obtain ⟨k, hk, rfl, rfl, hno⟩ := hrel
    have HN := Lib.hid hno
    clear hno
    by_cases hlt : k < l.length
    · obtain ⟨y, hy⟩ : ∃ y, l[k]? = some y := ⟨l[k], by simp [hlt]⟩
      obtain ⟨b, o, rfl, _, hbl, hc⟩ := H.out (by omega)
      have hcy := hc k (.int .i64 y) (by simp [flatI, hy])
      have HY := Lib.hid hy
      clear hy hc
      by_cases hxy : x = y
      · go_wp2
        go_ret
        exact ⟨ret_congr (by rw [idx_some x l 0 k (by rw [hxy]; exact HY.out) HN.out]; simp), by first | rfl | trivial⟩
      · go_wp2
        go_roundw
        case rel => exact ⟨k + 1, by omega, by go_num, by first | rfl | trivial, fun j z hj hz => by
          rcases Nat.lt_succ_iff_lt_or_eq.1 hj with hj | rfl
          · exact HN.out j z hj hz
          · rw [HY.out] at hz; cases hz; exact hxy⟩
        case measure => simp [intOf]; omega
    · have hkl : k = l.length := by omega
      go_wp2
      go_ret
      exact ⟨ret_congr (by rw [idx_none x l 0 (fun j y hy => HN.out j y (by rw [hkl]; exact (List.getElem?_eq_some_iff.1 hy).1) hy)]; rfl), by first | rfl | trivial⟩
theorem contains_any (l : List Int) (x : Int) (v : Value) (B : Nat) (w : World) (h : Rd w B v l.length (flatI l)) (hl : l.length ≤ 1000000) :
    Calls Tryz.prog 103 #[v, .int .i64 x] w fun e w' => e = .returned (.bool (decide (x ∈ l))) ∧ w' = w := by
  go_enter Tryz.func103, Tryz.ntmps103
  go_wp2_with (go_at_call 131; refine (index_any l x v B _ h hl).mono ?_; rintro e w1 ⟨rfl, rfl⟩)
  all_goals go_ret
  all_goals exact ⟨ret_congr (by rw [← idx_ge x l 0]; rfl), by first | rfl | trivial⟩
end Go.Proofs.YtbogjkggfdhckaaGreatDoor

/-
  event: the map of the fields of all kinds.
-/
namespace Go.Proofs.YtbogjkggfdhckaaGreatDoor
open Go.RowKit Go.Um

/-- What the map has for a kind. -/
def ClOk (w : World) (kind : Int) (v : Value) : Prop :=
  ∃ fn b v1, v = .func (.func fn) #[] #[.pointer (some ⟨b, 0, none⟩)] ∧ w.cell? ⟨b, 0, none⟩ = some v1 ∧
    ((kind = 1 ∧ fn = 144 ∧ IsFs w v1 [fTx, fThread]) ∨ (4 ≤ kind ∧ kind ≤ 7 ∧ fn = 144 ∧ IsFs w v1 [fTx]) ∨
     (kind = 2 ∧ fn = 147 ∧ v1 = .func (.func 143) #[] #[]) ∨ (kind = 3 ∧ fn = 154 ∧ v1 = .func (.func 143) #[] #[]))
theorem ClOk.kp {w w' : World} {kind : Int} {v : Value} {S : List Nat} (h : ClOk w kind v) (hk : Kp S w w') (hS : ∀ x ∈ S, ∃ y, w.imap? x = some y) : ClOk w' kind v := by
  have hcell : ∀ b o u, w.cell? ⟨b, o, none⟩ = some u → b ∉ S := by
    intro b o u hb hx
    obtain ⟨⟨l, c⟩, hy⟩ := hS b hx
    have := imap_heap hy
    simp [World.cell?, this] at hb
  obtain ⟨fn, b, v1, e, hb, hr⟩ := h
  have hfs : ∀ L, IsFs w v1 L → IsFs w' v1 L := by
    rintro L ⟨g, c, e1, h⟩
    refine ⟨g, c, e1, own_kp h hk (fun g' hg' hx => ?_)⟩
    rcases h.2 with ⟨h1, _⟩ | ⟨g2, cap, cur, h1, _, h3, _⟩
    · rw [h1] at hg'; simp [Value.ownBlock] at hg'
    · rw [h1] at hg'; simp [Value.ownBlock] at hg'; subst hg'
      obtain ⟨⟨l, c⟩, hy⟩ := hS _ hx
      rw [imap_heap hy] at h3
      cases h3
  refine ⟨fn, b, v1, e, (hk.cellAt hb (hcell _ _ _ hb)).1, ?_⟩
  rcases hr with ⟨a1, a2, a3⟩ | ⟨a1, a2, a3, a4⟩ | h | h
  · exact .inl ⟨a1, a2, hfs _ a3⟩
  · exact .inr (.inl ⟨a1, a2, a3, hfs _ a4⟩)
  · exact .inr (.inr (.inl h))
  · exact .inr (.inr (.inr h))

theorem mu_fields (w : World) (r : Nat) (k : Int) (v : Value) (h : (w.imap? r).isSome = true) : (Instr.mapUpdate 179 (.map (some r)) (.int .i64 k) v).run Tryz.prog w = .ok () (w.setIM r (upd k v (w.imapC r) (w.imapL r)) (updC k (w.imapC r) (w.imapL r))) := run_mapUpdate_im Tryz.underlying179 Tryz.underlying3 h v

def fieldKeys : List Int := [1, 4, 5, 6, 7, 2, 3]
/-- The map is laid: these keys, each with what it should have. -/
def FMap (w : World) (r : Nat) (ks : List Int) : Prop := ∃ l c, w.imap? r = some (l, c) ∧ l.map ME.key = ks ∧ ∀ e ∈ l, ClOk w e.key e.val
theorem upd_new {k : Int} {v : Value} {c : Nat} {l : List ME} (h : k ∉ l.map ME.key) : upd k v c l = l ++ [⟨k, v, c⟩] := by
  have : lk k l = none := by
    induction l with
    | nil => rfl
    | cons e l ih =>
      simp only [List.map_cons, List.mem_cons, not_or] at h
      simp [lk, h.1, ih h.2]
  exact (lk_none_of_findNow this).2 v c
theorem FMap.add {w : World} {r : Nat} {ks : List Int} {k : Int} {v : Value} (h : FMap w r ks) (hk : k ∉ ks) (hv : ClOk w k v) :
    FMap (w.setIM r (upd k v (w.imapC r) (w.imapL r)) (updC k (w.imapC r) (w.imapL r))) r (ks ++ [k]) := by
  obtain ⟨l, c, h1, h2, h3⟩ := h
  have hl : r < w.heap.size := imap_lt h1
  have hS : ∀ x ∈ [r], ∃ y, w.imap? x = some y := by intro x hx; simp at hx; subst hx; exact ⟨_, h1⟩
  refine ⟨_, _, imap?_setIM_same _ _ _ _ (by rw [h1]; rfl), ?_, ?_⟩
  · rw [(imapL_eq h1).1, upd_new (by rw [h2]; exact hk)]
    simp [h2]
  · intro e he
    rw [(imapL_eq h1).1, upd_new (by rw [h2]; exact hk)] at he
    have hkp : Kp [r] w (w.setIM r (upd k v (w.imapC r) (w.imapL r)) (updC k (w.imapC r) (w.imapL r))) := (Kp.refl _ _).setIM _ _ _ (fun _ => by simp)
    rcases List.mem_append.1 he with he | he
    · exact (h3 e he).kp hkp hS
    · simp at he; subst he; exact hv.kp hkp hS
theorem FMap.kp {w w' : World} {r : Nat} {ks : List Int} (h : FMap w r ks) (hk : Kp [] w w') : FMap w' r ks := by
  obtain ⟨l, c, h1, h2, h3⟩ := h
  exact ⟨l, c, (hk.imapAt h1 (by simp)).1, h2, fun e he => (h3 e he).kp hk (by simp)⟩

set_option maxRecDepth 100000 in
set_option maxHeartbeats 4000000 in
theorem fields_any (w : World) : Calls Tryz.prog 123 #[] w fun e w' => (∃ r, e = .returned (.map (some r)) ∧ w.heap.size ≤ r ∧ FMap w' r fieldKeys) ∧ Kp [] w w' := by
  have hmm := @run_makeMap Tryz.prog
  go_enter Tryz.func123, Tryz.ntmps123
  go_wp2
  obtain ⟨bl, hbl⟩ : ∃ b, b = w.heap.size := ⟨_, rfl⟩
  rw [← hbl]
  have hc0 : (w.alloc (.cells #[.func (.func 143) #[] #[]] 209)).cell? ⟨bl, 0, none⟩ = some (.func (.func 143) #[] #[]) := by simp [hbl]
  have hw0 : Kp [] w (w.alloc (.cells #[.func (.func 143) #[] #[]] 209)) := (Kp.refl _ _).alloc _
  generalize hW : w.alloc (.cells #[.func (.func 143) #[] #[]] 209) = W at hc0 hw0 ⊢
  have hwW : w.heap.size < W.heap.size := by rw [← hW]; simp
  clear hW hbl
  refine wp_region_ao2 6 (fun w' => Kp [] W w') (Kp [])
    (fun i v w' => match i with
      | 0 => ∃ r, v = .map (some r) ∧ w'.imap? r = some ([], 0) ∧ W.heap.size ≤ r
      | 1 => v = .func (.func 143) #[] #[]
      | 2 => v = fTx.v
      | 3 => v = fThread.v
      | 4 => IsFs w' v [fTx, fThread]
      | _ => ClOk w' 1 v)
    mixed (by kernel_rfl) (by kernel_rfl) (Kp.refl _ _).drew ?stab ?hops ?fin
  case stab =>
    intro i v w1 w2 h hk
    match i, h with
    | 0, ⟨r, e, h, h2⟩ => exact ⟨r, e, (hk.imapAt h (by simp)).1, h2⟩
    | 1, h => exact h
    | 2, h => exact h
    | 3, h => exact h
    | 4, h => exact IsFs.kp h hk
    | _ + 5, h => exact ClOk.kp h hk (by simp)
  case hops =>
    simp only [List.take, aoAll, aoSet]
    refine ⟨?_, ?_, ?_, ?_, ?_, ?_, trivial⟩
    · intro x w1 hK _
      go_wp2
      exact ⟨_, by simp [put1, Act.put], hK.alloc _, (Kp.refl _ _).alloc _, _, rfl, by simp [go_sem], hK.size⟩
    · intro x w1 hK _
      obtain ⟨hc1, hl1⟩ := hK.cellAt hc0 (by simp)
      go_wp2
      exact ⟨_, by simp [put1, Act.put], hK, Kp.refl _ _, rfl⟩
    · intro x w1 hK _
      go_wp2_with (go_at_call 145; refine (tx_any _).mono ?_; rintro e w2 ⟨rfl, hb⟩)
      exact ⟨_, by simp [put1, Act.put], hK.trans hb (by simp), hb, rfl⟩
    · intro x w1 hK _
      go_wp2_with (go_at_call 146; refine (thread_any _).mono ?_; rintro e w2 ⟨rfl, hb⟩)
      exact ⟨_, by simp [put1, Act.put], hK.trans hb (by simp), hb, rfl⟩
    · intro x w1 hK hd
      obtain ⟨h2, h3, _⟩ := hd
      have h2 := h2 rfl
      have h3 := h3 rfl
      dsimp only at h2 h3
      unfold fTx FS.v gfn at h2
      unfold fThread FS.v gfn at h3
      go_wp2
      refine ⟨_, ?_, hK.alloc _, (Kp.refl _ _).alloc _, _, _, rfl, own_of_block (heap_alloc_new _ _) rfl (by decide) (Nat.zero_le _)⟩
      simp [put1, Act.put, h2, h3]
    · intro x w1 hK hd
      obtain ⟨h1, h4, _⟩ := hd
      have h1 := h1 rfl
      have h4 := h4 rfl
      dsimp only at h1 h4
      obtain ⟨g, c, e4, ho⟩ := h4
      rw [e4] at ho
      go_wp2_with (go_at_call 143; refine (list_any _ _ _ _).mono ?_; rintro e w2 ⟨⟨b, _, rfl, hb⟩, hk⟩)
      refine ⟨_, ?_, hK.trans hk (by simp), hk, _, _, _, rfl, hb, .inl ⟨rfl, rfl, IsFs.kp ⟨g, c, rfl, ho⟩ hk⟩⟩
      simp [put1, Act.put, h1, e4]
  case fin =>
    intro x w1 hK hφ
    obtain ⟨r, e0, hr, hrW⟩ := hφ 0 (by decide)
    have h5 : ClOk w1 1 (x 5) := hφ 5 (by decide)
    clear hφ
    have hmis : (w1.imap? r).isSome = true := by rw [hr]; rfl
    have hF := FMap.add (k := 1) (ks := []) ⟨[], 0, hr, rfl, by simp⟩ (by simp) h5
    have hkS : Kp [] W (w1.setIM r (upd 1 (x 5) (w1.imapC r) (w1.imapL r)) (updC 1 (w1.imapC r) (w1.imapL r))) := hK.setIM _ _ _ (fun h => by omega)
    have hmu := mu_fields w1 r 1 (x 5) hmis
    generalize w1.setIM r (upd 1 (x 5) (w1.imapC r) (w1.imapL r)) (updC 1 (w1.imapC r) (w1.imapL r)) = w2 at hF hkS hmu
    obtain ⟨hc2, hl2⟩ := hkS.cellAt hc0 (by simp)
    simp only [List.take, List.drop, aoSet]
    rw [e0]
    clear hr h5 hmis hK
    go_wp2
    have hr2 : r < w2.heap.size := by obtain ⟨l, c, h, _⟩ := hF; exact imap_lt h
    obtain ⟨W3, hW3⟩ : ∃ W3, W3 = w2.alloc (.cells #[.int .i64 4, .int .i64 5, .int .i64 6, .int .i64 7] 3) := ⟨_, rfl⟩
    obtain ⟨g, hg⟩ : ∃ g, g = w2.heap.size := ⟨_, rfl⟩
    rw [← hg, ← hW3]
    have hF3 : FMap W3 r [1] := by rw [hW3]; exact hF.kp ((Kp.refl _ _).alloc _)
    have hK3 : Kp [] W W3 := by rw [hW3]; exact hkS.alloc _
    have hg0 : W3.cell? ⟨g, 0, none⟩ = some (.int .i64 4) := by rw [hW3, hg]; simp
    have hg1 : W3.cell? ⟨g, 1, none⟩ = some (.int .i64 5) := by rw [hW3, hg]; simp
    have hg2 : W3.cell? ⟨g, 2, none⟩ = some (.int .i64 6) := by rw [hW3, hg]; simp
    have hg3 : W3.cell? ⟨g, 3, none⟩ = some (.int .i64 7) := by rw [hW3, hg]; simp
    have hgr : g ≠ r := by omega
    have hblr : bl ≠ r := by have := World.block_lt_of_cell? W _ hc0; simp at this; omega
    have hc3 : W3.cell? ⟨bl, 0, none⟩ = some (.func (.func 143) #[] #[]) := (hK3.cellAt hc0 (by simp)).1
    clear hF hkS hmu hW3 hg hc2 hl2 hr2 e0
    go_loopw [14] (fun i wr => ∃ k : Nat, k ≤ 4 ∧ i = .int .i64 k ∧ Kp [r] W3 wr ∧ FMap wr r (1 :: [4, 5, 6, 7].take k)) (fun i _ => 4 - (intOf i).toNat)
    case atStart => exact ⟨0, by omega, rfl, Kp.refl _ _, hF3⟩
    case round =>
      obtain ⟨k, hk, rfl, hkr, hFr⟩ := hrel
      by_cases hlt : k < 4
      · have hgk : wr.cell? ⟨g, k, none⟩ = some (.int .i64 (4 + k)) := by
          have h : W3.cell? ⟨g, k, none⟩ = some (.int .i64 (4 + k)) := by
            match k, hlt with
            | 0, _ => exact hg0
            | 1, _ => exact hg1
            | 2, _ => exact hg2
            | 3, _ => exact hg3
          exact (hkr.cellAt h (by simpa using hgr)).1
        have hgl : g < wr.heap.size := World.block_lt_of_cell? wr _ hgk
        go_wp2
        refine wp_region_ao2 6 (fun w' => Kp [] wr w') (Kp [])
          (fun i v w' => match i with
            | 0 => v = .map (some r)
            | 1 => v = .int .i64 (4 + k)
            | 2 => v = .func (.func 143) #[] #[]
            | 3 => v = fTx.v
            | 4 => IsFs w' v [fTx]
            | _ => ClOk w' (4 + k) v)
          mixed (by kernel_rfl) (by kernel_rfl) (Kp.refl _ _).drew ?stab ?hops ?fin
        case stab =>
          intro i v w1 w2 h hk
          match i, h with
          | 0, h => exact h
          | 1, h => exact h
          | 2, h => exact h
          | 3, h => exact h
          | 4, h => exact IsFs.kp h hk
          | _ + 5, h => exact ClOk.kp h hk (by simp)
        case hops =>
          have hc4 : wr.cell? ⟨bl, 0, none⟩ = some (.func (.func 143) #[] #[]) := (hkr.cellAt hc3 (by simpa using hblr)).1
          simp only [List.take, aoAll, aoSet]
          refine ⟨?_, ?_, ?_, ?_, ?_, ?_, trivial⟩
          · intro x w1 hK _
            go_wp2
            exact ⟨_, by simp [put1, Act.put] <;> omega, hK, Kp.refl _ _, rfl⟩
          · intro x w1 hK _
            go_wp2
            exact ⟨_, by simp [put1, Act.put] <;> omega, hK, Kp.refl _ _, rfl⟩
          · intro x w1 hK _
            obtain ⟨hc1, hl1⟩ := hK.cellAt hc4 (by simp)
            go_wp2
            exact ⟨_, by simp [put1, Act.put] <;> omega, hK, Kp.refl _ _, rfl⟩
          · intro x w1 hK _
            go_wp2_with (go_at_call 145; refine (tx_any _).mono ?_; rintro e w2 ⟨rfl, hb⟩)
            exact ⟨_, by simp [put1, Act.put] <;> omega, hK.trans hb (by simp), hb, rfl⟩
          · intro x w1 hK hd
            obtain ⟨h3, _⟩ := hd
            have h3 := h3 rfl
            dsimp only at h3
            unfold fTx FS.v gfn at h3
            go_wp2
            refine ⟨_, ?_, hK.alloc _, (Kp.refl _ _).alloc _, _, _, rfl, own_of_block (heap_alloc_new _ _) rfl (by decide) (Nat.zero_le _)⟩
            simp [put1, Act.put, h3] <;> omega
          · intro x w1 hK hd
            obtain ⟨h2, h4, _⟩ := hd
            have h2 := h2 rfl
            have h4 := h4 rfl
            dsimp only at h2 h4
            obtain ⟨g, c, e4, ho⟩ := h4
            rw [e4] at ho
            go_wp2_with (go_at_call 143; refine (list_any _ _ _ _).mono ?_; rintro e w2 ⟨⟨b, _, rfl, hb⟩, hk⟩)
            refine ⟨_, ?_, hK.trans hk (by simp), hk, _, _, _, rfl, hb, .inr (.inl ⟨by omega, by omega, rfl, IsFs.kp ⟨g, c, rfl, ho⟩ hk⟩)⟩
            simp [put1, Act.put, h2, e4] <;> omega
        case fin =>
          intro x w1 hK hφ
          have e0 : x 0 = .map (some r) := hφ 0 (by decide)
          have e1 : x 1 = .int .i64 (4 + k) := hφ 1 (by decide)
          have h5 : ClOk w1 (4 + k) (x 5) := hφ 5 (by decide)
          clear hφ
          have hF1 := hFr.kp hK
          have hmis : (w1.imap? r).isSome = true := by obtain ⟨l, c, h, _⟩ := hF1; rw [h]; rfl
          have hnew : (4 + k : Int) ∉ (1 :: [4, 5, 6, 7].take k : List Int) := by
            match k, hlt with
            | 0, _ => simp
            | 1, _ => simp
            | 2, _ => simp
            | 3, _ => simp
          have hF := hF1.add hnew h5
          have hkS : Kp [r] W3 (w1.setIM r (upd (4 + k) (x 5) (w1.imapC r) (w1.imapL r)) (updC (4 + k) (w1.imapC r) (w1.imapL r))) := (hkr.trans hK (by simp)).setIM _ _ _ (fun _ => by simp)
          have hmu := mu_fields w1 r (4 + k) (x 5) hmis
          generalize w1.setIM r (upd (4 + k) (x 5) (w1.imapC r) (w1.imapL r)) (updC (4 + k) (w1.imapC r) (w1.imapL r)) = w2 at hF hkS hmu
          simp only [List.take, List.drop, aoSet]
          rw [e0, e1]
          have hks : (1 :: [4, 5, 6, 7].take k : List Int) ++ [4 + (k : Int)] = 1 :: [4, 5, 6, 7].take (k + 1) := by
            match k, hlt with
            | 0, _ => rfl
            | 1, _ => rfl
            | 2, _ => rfl
            | 3, _ => rfl
          rw [hks] at hF
          clear h5 hmis hK hF1 hFr hgk hks hnew e0 e1
          go_wp2
          go_roundw
          case rel => exact ⟨k + 1, by omega, by go_num, hkS, hF⟩
          case measure => simp [intOf]; omega
      · have hk4 : k = 4 := by omega
        subst hk4
        have hc4 : wr.cell? ⟨bl, 0, none⟩ = some (.func (.func 143) #[] #[]) := (hkr.cellAt hc3 (by simpa using hblr)).1
        have hF1 : FMap wr r [1, 4, 5, 6, 7] := hFr
        have hmis : (wr.imap? r).isSome = true := by obtain ⟨l, c, h, _⟩ := hF1; rw [h]; rfl
        have hF2 := hF1.add (k := 2) (v := .func (.func 147) #[] #[.pointer (some ⟨bl, 0, none⟩)]) (by simp) ⟨_, bl, _, rfl, hc4, .inr (.inr (.inl ⟨rfl, rfl, rfl⟩))⟩
        have hk2 : Kp [r] wr _ := (Kp.refl [r] wr).setIM r (upd 2 (.func (.func 147) #[] #[.pointer (some ⟨bl, 0, none⟩)]) (wr.imapC r) (wr.imapL r)) (updC 2 (wr.imapC r) (wr.imapL r)) (fun _ => by simp)
        have hm2 := mu_fields wr r 2 (.func (.func 147) #[] #[.pointer (some ⟨bl, 0, none⟩)]) hmis
        generalize wr.setIM r (upd 2 (.func (.func 147) #[] #[.pointer (some ⟨bl, 0, none⟩)]) (wr.imapC r) (wr.imapL r)) (updC 2 (wr.imapC r) (wr.imapL r)) = w4 at hF2 hk2 hm2
        have hc5 : w4.cell? ⟨bl, 0, none⟩ = some (.func (.func 143) #[] #[]) := (hk2.cellAt hc4 (by simpa using hblr)).1
        have hmis4 : (w4.imap? r).isSome = true := by obtain ⟨l, c, h, _⟩ := hF2; rw [h]; rfl
        have hF3' := hF2.add (k := 3) (v := .func (.func 154) #[] #[.pointer (some ⟨bl, 0, none⟩)]) (by simp) ⟨_, bl, _, rfl, hc5, .inr (.inr (.inr ⟨rfl, rfl, rfl⟩))⟩
        have hk3 : Kp [r] w4 _ := (Kp.refl [r] w4).setIM r (upd 3 (.func (.func 154) #[] #[.pointer (some ⟨bl, 0, none⟩)]) (w4.imapC r) (w4.imapL r)) (updC 3 (w4.imapC r) (w4.imapL r)) (fun _ => by simp)
        have hm3 := mu_fields w4 r 3 (.func (.func 154) #[] #[.pointer (some ⟨bl, 0, none⟩)]) hmis4
        generalize w4.setIM r (upd 3 (.func (.func 154) #[] #[.pointer (some ⟨bl, 0, none⟩)]) (w4.imapC r) (w4.imapL r)) (updC 3 (w4.imapC r) (w4.imapL r)) = w5 at hF3' hk3 hm3
        have hkw : Kp [] w w5 := (hw0.trans hK3 (by simp)).trans ((hkr.trans hk2 (fun x hx _ => hx)).trans hk3 (fun x hx _ => hx)) (fun x hx hl => by simp at hx; subst hx; omega)
        have HF := Lib.hid hF3'
        have HK := Lib.hid hkw
        clear hF1 hFr hF2 hF3' hkw hk2 hk3 hkr hmis hmis4 hc4 hc5 hc3 hc0
        go_wp2
        go_ret
        exact ⟨⟨r, rfl, by omega, HF.out⟩, HK.out⟩
end Go.Proofs.YtbogjkggfdhckaaGreatDoor

/-
  prog: a program and a walk in memory; the small functions.
-/
namespace Go.Proofs.YtbogjkggfdhckaaGreatDoor
open Go.RowKit Go.Um

/-- v is a slice of n elements; its cells, one behind the other, are xs; they lie in a block of P. -/
def RdP (w : World) (P : Nat → Prop) (v : Value) (n : Nat) (xs : List Value) : Prop :=
  ∃ a c, v = .slice a n c ∧ (0 < n → ∃ b o, a = some ⟨b, o, none⟩ ∧ P b ∧ b < w.heap.size ∧ ∀ j u, xs[j]? = some u → w.cell? ⟨b, o + j, none⟩ = some u)
theorem RdP.kp {w w' : World} {P : Nat → Prop} {n : Nat} {v : Value} {xs : List Value} {S : List Nat} (h : RdP w P v n xs) (hk : Kp S w w') (hS : ∀ x ∈ S, ¬ P x) : RdP w' P v n xs := by
  obtain ⟨a, c, rfl, h⟩ := h
  refine ⟨a, c, rfl, fun hn => ?_⟩
  obtain ⟨b, o, rfl, hb, hl, hc⟩ := h hn
  exact ⟨b, o, rfl, hb, Nat.lt_of_lt_of_le hl hk.size, fun j u hj => (hk.cellAt (hc j u hj) (fun hx => hS b hx hb)).1⟩
def Ac.cells (a : Ac) : List Value := [.int .i64 a.k, .int .i64 a.c, .int .i64 a.v]
def flatA (l : List Ac) : List Value := l.flatMap Ac.cells
def Th.cells (t : Th) : List Value := [.int .i64 t.tx, .int .i64 t.act, .bool t.begun, .bool t.adding, .int .i64 t.read, .int .i64 t.waits]
def flatT (l : List Th) : List Value := l.flatMap Th.cells
def TxsAt (w : World) (P : Nat → Prop) (v : Value) (txs : List (List Ac)) : Prop :=
  ∃ us, us.length = txs.length ∧ RdP w P v txs.length us ∧ ∀ (k : Nat) u acts, us[k]? = some u → txs[k]? = some acts → RdP w P u acts.length (flatA acts)
def PgAt (w : World) (P : Nat → Prop) (vc vt : Value) (p : Pg) : Prop :=
  RdP w P vc p.cells.length (flatI p.cells) ∧ ∃ us, us.length = p.ths.length ∧ RdP w P vt p.ths.length us ∧ ∀ (i : Nat) u txs, us[i]? = some u → p.ths[i]? = some txs → TxsAt w P u txs
theorem TxsAt.kp {w w' : World} {P : Nat → Prop} {v : Value} {txs : List (List Ac)} {S : List Nat} (h : TxsAt w P v txs) (hk : Kp S w w') (hS : ∀ x ∈ S, ¬ P x) : TxsAt w' P v txs := by
  obtain ⟨us, h1, h2, h3⟩ := h
  exact ⟨us, h1, h2.kp hk hS, fun k u acts hu ha => (h3 k u acts hu ha).kp hk hS⟩
theorem PgAt.kp {w w' : World} {P : Nat → Prop} {vc vt : Value} {p : Pg} {S : List Nat} (h : PgAt w P vc vt p) (hk : Kp S w w') (hS : ∀ x ∈ S, ¬ P x) : PgAt w' P vc vt p := by
  obtain ⟨h0, us, h1, h2, h3⟩ := h
  exact ⟨h0.kp hk hS, us, h1, h2.kp hk hS, fun i u txs hu ht => (h3 i u txs hu ht).kp hk hS⟩
theorem get_of_len {α β : Type} {l : List α} {m : List β} (h : l.length = m.length) {i : Nat} {b : β} (hb : m[i]? = some b) : ∃ a, l[i]? = some a :=
  ⟨l[i]'(by rw [h]; exact (List.getElem?_eq_some_iff.1 hb).1), by simp [h, (List.getElem?_eq_some_iff.1 hb).1]⟩
/-- A thread's row. -/
theorem PgAt.row {w : World} {P : Nat → Prop} {vc vt : Value} {p : Pg} (h : PgAt w P vc vt p) {i : Nat} {txs : List (List Ac)} (hi : p.ths[i]? = some txs) :
    ∃ b o c v, vt = .slice (some ⟨b, o, none⟩) p.ths.length c ∧ w.cell? ⟨b, o + i, none⟩ = some v ∧ TxsAt w P v txs := by
  obtain ⟨_, us, h1, ⟨a, c, rfl, h2⟩, h3⟩ := h
  obtain ⟨u, hu⟩ := get_of_len h1 hi
  obtain ⟨b, o, rfl, _, _, hc⟩ := h2 (by have := (List.getElem?_eq_some_iff.1 hi).1; omega)
  exact ⟨b, o, c, u, rfl, hc i u hu, h3 i u txs hu hi⟩
theorem TxsAt.len {w : World} {P : Nat → Prop} {v : Value} {txs : List (List Ac)} (h : TxsAt w P v txs) : ∃ a c, v = .slice a txs.length c := by
  obtain ⟨us, h1, ⟨a, c, rfl, _⟩, _⟩ := h
  exact ⟨a, c, rfl⟩
theorem TxsAt.row {w : World} {P : Nat → Prop} {v : Value} {txs : List (List Ac)} (h : TxsAt w P v txs) {k : Nat} {acts : List Ac} (hk : txs[k]? = some acts) :
    ∃ b o c u, v = .slice (some ⟨b, o, none⟩) txs.length c ∧ w.cell? ⟨b, o + k, none⟩ = some u ∧ RdP w P u acts.length (flatA acts) := by
  obtain ⟨us, h1, ⟨a, c, rfl, h2⟩, h3⟩ := h
  obtain ⟨u, hu⟩ := get_of_len h1 hk
  obtain ⟨b, o, rfl, _, _, hc⟩ := h2 (by have := (List.getElem?_eq_some_iff.1 hk).1; omega)
  exact ⟨b, o, c, u, rfl, hc k u hu, h3 k u acts hu hk⟩
theorem RdP.act {w : World} {P : Nat → Prop} {v : Value} {acts : List Ac} (h : RdP w P v acts.length (flatA acts)) {j : Nat} {a : Ac} (hj : acts[j]? = some a) :
    ∃ b o c, v = .slice (some ⟨b, o, none⟩) acts.length c ∧ w.cell? ⟨b, o + j * 3, none⟩ = some (.int .i64 a.k) ∧ w.cell? ⟨b, o + j * 3 + 1, none⟩ = some (.int .i64 a.c) ∧ w.cell? ⟨b, o + j * 3 + 2, none⟩ = some (.int .i64 a.v) := by
  obtain ⟨al, c, rfl, h⟩ := h
  obtain ⟨b, o, rfl, _, _, hc⟩ := h (by have := (List.getElem?_eq_some_iff.1 hj).1; omega)
  have q := Rd.at (c := Ac.cells) (sz := 3) (fun _ => rfl) hc hj
  exact ⟨b, o, c, rfl, by simpa [Ac.cells] using q 0 (by decide), by simpa [Ac.cells] using q 1 (by decide), by simpa [Ac.cells] using q 2 (by decide)⟩

abbrev tThr : Nat := 194
abbrev tEve : Nat := 46
structure WalkAt (w : World) (bw B : Nat) (P : Nat → Prop) (p : Pg) (vc vt : Value) (ths : List Th) (gt ct : Nat) (evs : List Ev) (ve : Value) : Prop where
  lt : bw < w.heap.size
  fz : ∀ j, w.frozen? ⟨bw, j, none⟩ = false
  c0 : w.cell? ⟨bw, 0, none⟩ = some vc
  c1 : w.cell? ⟨bw, 1, none⟩ = some vt
  c2 : w.cell? ⟨bw, 2, none⟩ = some (.slice (some ⟨gt, 0, none⟩) ths.length ct)
  c3 : w.cell? ⟨bw, 3, none⟩ = some ve
  ne : ths.length = p.ths.length
  pg : PgAt w P vc vt p
  ow : w.ownsRow B tThr 6 (.slice (some ⟨gt, 0, none⟩) ths.length ct) ths.length (flatT ths)
  oe : w.ownsRow B tEve 8 ve evs.length (flatE evs)
  d1 : gt ≠ bw
  d2 : ve.ownBlock ≠ some bw
  d3 : ve.ownBlock ≠ some gt
  p0 : ∀ x, P x → x < w.heap.size
  p1 : ¬ P bw
  p2 : ¬ P gt
  p3 : ∀ g, ve.ownBlock = some g → ¬ P g
theorem WalkAt.kp {w w' : World} {bw B : Nat} {P : Nat → Prop} {p : Pg} {vc vt : Value} {ths : List Th} {gt ct : Nat} {evs : List Ev} {ve : Value} {S : List Nat} (h : WalkAt w bw B P p vc vt ths gt ct evs ve) (hk : Kp S w w') (h1 : bw ∉ S) (h2 : gt ∉ S) (h3 : ∀ g, ve.ownBlock = some g → g ∉ S) (h4 : ∀ x ∈ S, ¬ P x) : WalkAt w' bw B P p vc vt ths gt ct evs ve := by
  obtain ⟨l, c, f⟩ := hk.blk bw h.lt h1
  exact { lt := l, fz := fun j => (f j).trans (h.fz j), c0 := (c 0).trans h.c0, c1 := (c 1).trans h.c1, c2 := (c 2).trans h.c2, c3 := (c 3).trans h.c3, ne := h.ne, pg := h.pg.kp hk h4, ow := own_kp h.ow hk (fun g hg => by simp [Value.ownBlock] at hg; subst hg; exact h2), oe := own_kp h.oe hk h3, d1 := h.d1, d2 := h.d2, d3 := h.d3, p0 := fun x hx => Nat.lt_of_lt_of_le (h.p0 x hx) hk.size, p1 := h.p1, p2 := h.p2, p3 := h.p3 }
theorem WalkAt.kp0 {w w' : World} {bw B : Nat} {P : Nat → Prop} {p : Pg} {vc vt : Value} {ths : List Th} {gt ct : Nat} {evs : List Ev} {ve : Value} (h : WalkAt w bw B P p vc vt ths gt ct evs ve) (hk : Kp [] w w') : WalkAt w' bw B P p vc vt ths gt ct evs ve := h.kp hk (by simp) (by simp) (by simp) (by simp)
theorem flatT_len (l : List Th) : (flatT l).length = l.length * 6 := flat_len Th.cells 6 (fun _ => rfl) l
theorem flatE_len (l : List Ev) : (flatE l).length = l.length * 8 := flat_len Ev.cells 8 (fun _ => rfl) l
/-- A thread's cells. -/
theorem WalkAt.th {w : World} {bw B : Nat} {P : Nat → Prop} {p : Pg} {vc vt : Value} {ths : List Th} {gt ct : Nat} {evs : List Ev} {ve : Value} (h : WalkAt w bw B P p vc vt ths gt ct evs ve) {i : Nat} {t : Th} (hi : ths[i]? = some t) :
    ∀ j, j < 6 → w.cell? ⟨gt, i * 6 + j, none⟩ = (Th.cells t)[j]? := by
  intro j hj
  have hl := (List.getElem?_eq_some_iff.1 hi).1
  rw [h.ow.cellAt _ (by omega)]
  exact flat_get Th.cells 6 (fun _ => rfl) ths i t hi j hj

/-- A thread has something to do. -/
def moreT (p : Pg) (ths : List Th) (i : Int) (k : Nat) (t : Th) (txs : List (List Ac)) : Prop := i = k ∧ ths[k]? = some t ∧ p.ths[k]? = some txs ∧ t.tx ≠ txs.length

theorem id_any (i k : Nat) (hi : i < 4) (hk : k < 3) (w : World) : Calls Tryz.prog 159 #[.int .i64 i, .int .i64 k] w fun e w' => e = .returned (.int .i64 (idOf i k)) ∧ w' = w := by
  have h1 : ((i : Int) < 0) = False := by simp
  have h2 : ((4 : Int) ≤ i) = False := by simp; omega
  have h3 : ((k : Int) < 0) = False := by simp
  have h4 : ((3 : Int) ≤ k) = False := by simp; omega
  go_enter Tryz.func159, Tryz.ntmps159
  go_wp2
  all_goals go_ret
  all_goals exact ⟨ret_congr (by simp [idOf]), by first | rfl | trivial⟩
theorem within_any (n : Int) (w : World) : Calls Tryz.prog 158 #[.int .i64 n] w fun e w' => e = .returned (.bool (decide (-1000000000 ≤ n ∧ n ≤ 1000000000))) ∧ w' = w := by
  go_enter Tryz.func158, Tryz.ntmps158
  go_wp2
  all_goals go_ret
  all_goals exact ⟨ret_congr (by simp; omega), by first | rfl | trivial⟩

set_option maxRecDepth 100000 in
set_option maxHeartbeats 2000000 in
theorem of_more {w : World} {bw B : Nat} {P : Nat → Prop} {p : Pg} {vc vt : Value} {ths : List Th} {gt ct : Nat} {evs : List Ev} {ve : Value} (h : WalkAt w bw B P p vc vt ths gt ct evs ve) {i : Nat} {t : Th} {txs : List (List Ac)} (hi : ths[i]? = some t) (ht : p.ths[i]? = some txs) (hn : t.tx < txs.length) :
    Calls Tryz.prog 107 #[.pointer (some ⟨bw, 0, none⟩), .int .i64 i] w fun e w' => e = .returned (.tuple #[.pointer (some ⟨gt, i * 6, none⟩), .bool true]) ∧ ∃ m, w' = w.drewN m := by
  have hbl := h.lt
  have c1 := h.c1
  have c2 := h.c2
  have hil := (List.getElem?_eq_some_iff.1 hi).1
  have ht0 := h.th hi 0 (by decide)
  obtain ⟨b, o, c, v, rfl, hv, hT⟩ := h.pg.row ht
  obtain ⟨a2, cc2, rfl⟩ := hT.len
  have hil2 : i < p.ths.length := (List.getElem?_eq_some_iff.1 ht).1
  simp [Th.cells] at ht0
  have h1 : ((i : Int) < 0) = False := by simp
  have h2 : ((ths.length : Int) ≤ i) = False := by simp; omega
  have h3 : (((t.tx : Nat) : Int) == (txs.length : Int)) = false := by simp; omega
  clear h hT
  go_enter Tryz.func107, Tryz.ntmps107
  go_wp2
  go_quiet (fail)
  go_wp2
  refine bodyPost_ret (v := .tuple #[.pointer (some ⟨gt, i * 6, none⟩), .bool true]) ?_ rfl ⟨rfl, _, rfl⟩
  simp [results, Tryz.results107, go_sem]

set_option maxRecDepth 100000 in
set_option maxHeartbeats 2000000 in
theorem of_out {w : World} {bw B : Nat} {P : Nat → Prop} {p : Pg} {vc vt : Value} {ths : List Th} {gt ct : Nat} {evs : List Ev} {ve : Value} (h : WalkAt w bw B P p vc vt ths gt ct evs ve) {i : Int} (hi : i < 0 ∨ (ths.length : Int) ≤ i) :
    Calls Tryz.prog 107 #[.pointer (some ⟨bw, 0, none⟩), .int .i64 i] w fun e w' => e = .returned (.tuple #[.pointer none, .bool false]) ∧ ∃ m, w' = w.drewN m := by
  have hbl := h.lt
  have c1 := h.c1
  have c2 := h.c2
  clear h
  rcases hi with hi | hi
  · go_enter Tryz.func107, Tryz.ntmps107
    go_wp2
    go_quiet (fail)
    go_wp2
    refine bodyPost_ret (v := .tuple #[.pointer none, .bool false]) ?_ rfl ⟨rfl, _, rfl⟩
    simp [results, Tryz.results107, go_sem]
  · have h0 : (i < 0) = False := by simp; omega
    go_enter Tryz.func107, Tryz.ntmps107
    go_wp2
    go_quiet (fail)
    go_wp2
    refine bodyPost_ret (v := .tuple #[.pointer none, .bool false]) ?_ rfl ⟨rfl, _, rfl⟩
    simp [results, Tryz.results107, go_sem]
set_option maxRecDepth 100000 in
set_option maxHeartbeats 2000000 in
theorem of_done {w : World} {bw B : Nat} {P : Nat → Prop} {p : Pg} {vc vt : Value} {ths : List Th} {gt ct : Nat} {evs : List Ev} {ve : Value} (h : WalkAt w bw B P p vc vt ths gt ct evs ve) {i : Nat} {t : Th} {txs : List (List Ac)} (hi : ths[i]? = some t) (ht : p.ths[i]? = some txs) (hn : t.tx = txs.length) :
    Calls Tryz.prog 107 #[.pointer (some ⟨bw, 0, none⟩), .int .i64 i] w fun e w' => e = .returned (.tuple #[.pointer none, .bool false]) ∧ ∃ m, w' = w.drewN m := by
  have hbl := h.lt
  have c1 := h.c1
  have c2 := h.c2
  have hil := (List.getElem?_eq_some_iff.1 hi).1
  have ht0 := h.th hi 0 (by decide)
  obtain ⟨b, o, c, v, rfl, hv, hT⟩ := h.pg.row ht
  obtain ⟨a2, cc2, rfl⟩ := hT.len
  have hil2 : i < p.ths.length := (List.getElem?_eq_some_iff.1 ht).1
  simp [Th.cells] at ht0
  rw [hn] at ht0
  have h1 : ((i : Int) < 0) = False := by simp
  have h2 : ((ths.length : Int) ≤ i) = False := by simp; omega
  clear h hT hn
  go_enter Tryz.func107, Tryz.ntmps107
  go_wp2
  go_quiet (fail)
  go_wp2
  refine bodyPost_ret (v := .tuple #[.pointer none, .bool false]) ?_ rfl ⟨rfl, _, rfl⟩
  simp [results, Tryz.results107, go_sem]
/-- Something is left to do. -/
def moreI (p : Pg) (ths : List Th) (i : Int) : Prop := ∃ (k : Nat) (t : Th) (txs : List (List Ac)), i = k ∧ ths[k]? = some t ∧ p.ths[k]? = some txs ∧ t.tx < txs.length
theorem notMore {p : Pg} {ths : List Th} {i : Int} (hl : ths.length = p.ths.length) (hle : ∀ (k : Nat) t txs, ths[k]? = some t → p.ths[k]? = some txs → t.tx ≤ txs.length) (h : ¬ moreI p ths i) :
    (i < 0 ∨ (ths.length : Int) ≤ i) ∨ ∃ (k : Nat) (t : Th) (txs : List (List Ac)), i = k ∧ ths[k]? = some t ∧ p.ths[k]? = some txs ∧ t.tx = txs.length := by
  by_cases h1 : i < 0 ∨ (ths.length : Int) ≤ i
  · exact .inl h1
  · right
    have hk : i.toNat < ths.length := by omega
    have h2 : ths[i.toNat]? = some ths[i.toNat] := by simp [hk]
    obtain ⟨txs, h3⟩ : ∃ txs, p.ths[i.toNat]? = some txs := ⟨p.ths[i.toNat]'(by omega), by simp⟩
    have h4 := hle _ _ _ h2 h3
    refine ⟨i.toNat, _, txs, by omega, h2, h3, ?_⟩
    by_cases h5 : ths[i.toNat].tx < txs.length
    · exact absurd ⟨i.toNat, _, txs, by omega, h2, h3, h5⟩ h
    · omega
theorem done_no {w : World} {bw B : Nat} {P : Nat → Prop} {p : Pg} {vc vt : Value} {ths : List Th} {gt ct : Nat} {evs : List Ev} {ve : Value} (h : WalkAt w bw B P p vc vt ths gt ct evs ve) {i : Int} (hm : moreI p ths i) :
    Calls Tryz.prog 76 #[.pointer (some ⟨bw, 0, none⟩), .int .i64 i] w fun e w' => e = .returned (.bool false) ∧ ∃ m, w' = w.drewN m := by
  obtain ⟨k, t, txs, rfl, hi, ht, hn⟩ := hm
  have H := Lib.hid (of_more h hi ht hn)
  clear h hi ht hn
  go_enter Tryz.func76, Tryz.ntmps76
  go_wp2_with (go_at_call 107; refine H.out.mono ?_; rintro e w1 ⟨rfl, m, rfl⟩)
  go_ret
  exact ⟨ret_congr rfl, _, rfl⟩
theorem done_yes {w : World} {bw B : Nat} {P : Nat → Prop} {p : Pg} {vc vt : Value} {ths : List Th} {gt ct : Nat} {evs : List Ev} {ve : Value} (h : WalkAt w bw B P p vc vt ths gt ct evs ve) (hle : ∀ (k : Nat) t txs, ths[k]? = some t → p.ths[k]? = some txs → t.tx ≤ txs.length) {i : Int} (hm : ¬ moreI p ths i) :
    Calls Tryz.prog 76 #[.pointer (some ⟨bw, 0, none⟩), .int .i64 i] w fun e w' => e = .returned (.bool true) ∧ ∃ m, w' = w.drewN m := by
  have H : RowKit.Hid (Calls Tryz.prog 107 #[.pointer (some ⟨bw, 0, none⟩), .int .i64 i] w fun e w' => e = .returned (.tuple #[.pointer none, .bool false]) ∧ ∃ m, w' = w.drewN m) := by
    rcases notMore h.ne hle hm with h1 | ⟨k, t, txs, rfl, hi, ht, hn⟩
    · exact Lib.hid (of_out h h1)
    · exact Lib.hid (of_done h hi ht hn)
  clear h hle hm
  go_enter Tryz.func76, Tryz.ntmps76
  go_wp2_with (go_at_call 107; refine H.out.mono ?_; rintro e w1 ⟨rfl, m, rfl⟩)
  go_ret
  exact ⟨ret_congr rfl, _, rfl⟩
end Go.Proofs.YtbogjkggfdhckaaGreatDoor

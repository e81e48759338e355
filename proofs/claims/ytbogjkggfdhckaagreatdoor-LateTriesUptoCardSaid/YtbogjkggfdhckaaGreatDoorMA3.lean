/-
  Lemmas on the way to Rr1: Ev1, Ev2, Ev6, Ev3.
-/
import Derived.Test.YtbogjkggfdhckaaGreatDoorProg
import Derived.Test.YtbogjkggfdhckaaGreatDoorMA1
import Derived.Test.YtbogjkggfdhckaaGreatDoorMA2
/-
  event: the small functions; the fields of an event.
-/
namespace Go.Proofs.YtbogjkggfdhckaaGreatDoor
open Go.RowKit Go.Um

theorem mixed : Tryz.prog.follows .mixedOrders = true := by kernel_rfl
theorem ret_congr {a b : Value} (h : a = b) : Ending.returned a = Ending.returned b := by rw [h]

/-! ### Of, Keyed, Valued, Fits -/
def opKind (op : Int) : Int :=
  if op = 1 then 1 else if op = 2 then 1 else if op = 3 then 2 else if op = 4 then 2 else if op = 5 then 3 else if op = 6 then 3 else
  if op = 7 then 4 else if op = 8 then 4 else if op = 9 then 4 else 0
def keyed (op : Int) : Bool := op == 7 || op == 8 || op == 9
def valued (op : Int) : Bool := op == 2 || op == 3 || op == 5 || op == 7
def fitsB (op ret : Int) : Bool :=
  if valued op then ret == 1 else if op == 1 || op == 4 then ret == 3 else if op == 6 || op == 8 || op == 9 then ret == 2 || ret == 3 else false

theorem of_any (op : Int) (w : World) : Calls Tryz.prog 100 #[.int .i64 op] w fun e w' => e = .returned (.int .i64 (opKind op)) ∧ w = w' := by
  go_enter Tryz.func100, Tryz.ntmps100
  go_wp2
  all_goals go_ret
  all_goals exact ⟨ret_congr (by simp_all [opKind]), rfl⟩
theorem keyed_any (op : Int) (w : World) : Calls Tryz.prog 150 #[.int .i64 op] w fun e w' => e = .returned (.bool (keyed op)) ∧ w = w' := by
  go_enter Tryz.func150, Tryz.ntmps150
  go_wp2
  all_goals go_ret
  all_goals exact ⟨ret_congr (by simp_all [keyed]), rfl⟩
theorem valued_any (op : Int) (w : World) : Calls Tryz.prog 152 #[.int .i64 op] w fun e w' => e = .returned (.bool (valued op)) ∧ w = w' := by
  go_enter Tryz.func152, Tryz.ntmps152
  go_wp2
  all_goals go_ret
  all_goals exact ⟨ret_congr (by simp_all [valued]), rfl⟩
theorem fits_any (op ret : Int) (w : World) : Calls Tryz.prog 128 #[.int .i64 op, .int .i64 ret] w fun e w' => e = .returned (.bool (fitsB op ret)) ∧ w = w' := by
  go_enter Tryz.func128, Tryz.ntmps128
  go_wp2_with (go_at_call 152; refine (valued_any _ _).mono ?_; rintro e w1 ⟨rfl, rfl⟩)
  all_goals go_ret
  all_goals exact ⟨ret_congr (by simp_all [fitsB]), rfl⟩

/-! ### Fields -/
structure FS where
  ix : Nat
  tb : Int
  mn : Int
  mx : Int
def gfn : Nat → Nat
  | 1 => 183
  | 2 => 184
  | 3 => 185
  | 4 => 186
  | 5 => 187
  | 6 => 188
  | _ => 189
def FS.v (f : FS) : Value := .agg #[.func (.func (gfn f.ix)) #[] #[], .int .i64 f.tb, .int .i64 f.mn, .int .i64 f.mx]
def FS.cells (f : FS) : List Value := [.func (.func (gfn f.ix)) #[] #[], .int .i64 f.tb, .int .i64 f.mn, .int .i64 f.mx]
def fTx : FS := ⟨1, 0, 1, 1000⟩
def fThread : FS := ⟨2, 0, 0, 7⟩
def fObj : FS := ⟨3, 0, 0, 7⟩
def fOp : FS := ⟨4, 3, 1, 9⟩
def fKey : FS := ⟨5, 0, 0, 1000⟩
def fVal : FS := ⟨6, 0, -1000000000, 1000000000⟩
def fRet : FS := ⟨7, 4, 1, 3⟩
def zeroF : Value := .agg #[.nilFunc, .int .i64 0, .int .i64 0, .int .i64 0]

theorem tx_any (w : World) : Calls Tryz.prog 145 #[] w fun e w' => e = .returned fTx.v ∧ Kp [] w w' := by
  go_enter Tryz.func145, Tryz.ntmps145
  go_wp2
  exact bodyPost_ret (v := fTx.v) (by simp [results, Tryz.results145, go_sem, fTx, FS.v, gfn]) rfl ⟨rfl, (Kp.refl _ _).alloc _⟩
theorem thread_any (w : World) : Calls Tryz.prog 146 #[] w fun e w' => e = .returned fThread.v ∧ Kp [] w w' := by
  go_enter Tryz.func146, Tryz.ntmps146
  go_wp2
  exact bodyPost_ret (v := fThread.v) (by simp [results, Tryz.results146, go_sem, fThread, FS.v, gfn]) rfl ⟨rfl, (Kp.refl _ _).alloc _⟩
theorem obj_any (w : World) : Calls Tryz.prog 148 #[] w fun e w' => e = .returned fObj.v ∧ Kp [] w w' := by
  go_enter Tryz.func148, Tryz.ntmps148
  go_wp2
  exact bodyPost_ret (v := fObj.v) (by simp [results, Tryz.results148, go_sem, fObj, FS.v, gfn]) rfl ⟨rfl, (Kp.refl _ _).alloc _⟩
theorem op_any (w : World) : Calls Tryz.prog 149 #[] w fun e w' => e = .returned fOp.v ∧ Kp [] w w' := by
  go_enter Tryz.func149, Tryz.ntmps149
  go_wp2
  exact bodyPost_ret (v := fOp.v) (by simp [results, Tryz.results149, go_sem, fOp, FS.v, gfn]) rfl ⟨rfl, (Kp.refl _ _).alloc _⟩
theorem key_any (w : World) : Calls Tryz.prog 151 #[] w fun e w' => e = .returned fKey.v ∧ Kp [] w w' := by
  go_enter Tryz.func151, Tryz.ntmps151
  go_wp2
  exact bodyPost_ret (v := fKey.v) (by simp [results, Tryz.results151, go_sem, fKey, FS.v, gfn]) rfl ⟨rfl, (Kp.refl _ _).alloc _⟩
theorem val_any (w : World) : Calls Tryz.prog 153 #[] w fun e w' => e = .returned fVal.v ∧ Kp [] w w' := by
  go_enter Tryz.func153, Tryz.ntmps153
  go_wp2
  exact bodyPost_ret (v := fVal.v) (by simp [results, Tryz.results153, go_sem, fVal, FS.v, gfn]) rfl ⟨rfl, (Kp.refl _ _).alloc _⟩
theorem ret_any (w : World) : Calls Tryz.prog 155 #[] w fun e w' => e = .returned fRet.v ∧ Kp [] w w' := by
  go_enter Tryz.func155, Tryz.ntmps155
  go_wp2
  exact bodyPost_ret (v := fRet.v) (by simp [results, Tryz.results155, go_sem, fRet, FS.v, gfn]) rfl ⟨rfl, (Kp.refl _ _).alloc _⟩

/-- A slice of fields. -/
def flatF (L : List FS) : List Value := L.flatMap FS.cells
def IsFs (w : World) (v : Value) (L : List FS) : Prop := ∃ g c, v = .slice (some ⟨g, 0, none⟩) L.length c ∧ w.ownsRow 0 183 4 v L.length (flatF L)
theorem IsFs.kp {w w' : World} {v : Value} {L : List FS} (h : IsFs w v L) (hk : Kp [] w w') : IsFs w' v L := by
  obtain ⟨g, c, e, h⟩ := h
  exact ⟨g, c, e, own_kp h hk (fun _ _ => by simp)⟩
theorem flatF_get (L : List FS) : ∀ (i : Nat) (f : FS), L[i]? = some f → (flatF L)[i * 4]? = some (.func (.func (gfn f.ix)) #[] #[]) ∧ (flatF L)[i * 4 + 1]? = some (.int .i64 f.tb) ∧ (flatF L)[i * 4 + 2]? = some (.int .i64 f.mn) ∧ (flatF L)[i * 4 + 3]? = some (.int .i64 f.mx) := by
  induction L with
  | nil => intro i f h; simp at h
  | cons x L ih =>
    intro i f h
    cases i with
    | zero => simp at h; subst h; simp [flatF, FS.cells]
    | succ i =>
      have := ih i f (by simpa using h)
      have e0 : (i + 1) * 4 = 4 + i * 4 := by omega
      have hx : flatF (x :: L) = x.cells ++ flatF L := by simp [flatF]
      have hlen : x.cells.length = 4 := rfl
      rw [hx, e0, Nat.add_assoc, Nat.add_assoc, Nat.add_assoc]
      refine ⟨?_, ?_, ?_, ?_⟩ <;> (rw [List.getElem?_append_right (by rw [hlen]; omega), hlen, Nat.add_sub_cancel_left])
      · exact this.1
      · exact this.2.1
      · exact this.2.2.1
      · exact this.2.2.2
theorem IsFs.at {w : World} {g n c : Nat} {L : List FS} (h : IsFs w (.slice (some ⟨g, 0, none⟩) n c) L) {i : Nat} {f : FS} (hi : L[i]? = some f) :
    w.cell? ⟨g, i * 4, none⟩ = some (.func (.func (gfn f.ix)) #[] #[]) ∧ w.cell? ⟨g, i * 4 + 1, none⟩ = some (.int .i64 f.tb) ∧ w.cell? ⟨g, i * 4 + 2, none⟩ = some (.int .i64 f.mn) ∧ w.cell? ⟨g, i * 4 + 3, none⟩ = some (.int .i64 f.mx) := by
  obtain ⟨g', c', e, h⟩ := h
  simp only [Value.slice.injEq, Option.some.injEq, Addr.mk.injEq, and_true] at e
  obtain ⟨rfl, rfl, rfl⟩ := e
  have hi' : i < L.length := (List.getElem?_eq_some_iff.1 hi).1
  have hc : ∀ j v, (flatF L)[j]? = some v → w.cell? ⟨g, j, none⟩ = some v := by
    intro j v hj
    have hlt : j < L.length * 4 := by rw [← h.1]; exact (List.getElem?_eq_some_iff.1 hj).1
    rw [h.cellAt j hlt, hj]
  obtain ⟨a1, a2, a3, a4⟩ := flatF_get L i f hi
  exact ⟨hc _ _ a1, hc _ _ a2, hc _ _ a3, hc _ _ a4⟩

/-- An event's value. -/
def evV (e : Nat → Int) : Value := .agg #[.int .i64 (e 0), .int .i64 (e 1), .int .i64 (e 2), .int .i64 (e 3), .int .i64 (e 4), .int .i64 (e 5), .int .i64 (e 6), .int .i64 (e 7)]

theorem next144_yes (b : Nat) (v : Value) (L : List FS) (e : Nat → Int) (i : Nat) (f : FS) (w : World) (hb : w.cell? ⟨b, 0, none⟩ = some v) (h : IsFs w v L) (hf : L[i]? = some f) :
    Calls Tryz.prog 144 #[evV e, .int .i64 i, .pointer (some ⟨b, 0, none⟩)] w fun r w' => r = .returned (.tuple #[f.v, .bool true]) ∧ Kp [] w w' := by
  have hbl : b < w.heap.size := World.block_lt_of_cell? w _ hb
  have h' := h
  obtain ⟨g, c, rfl, _⟩ := h'
  have hi : i < L.length := (List.getElem?_eq_some_iff.1 hf).1
  obtain ⟨c0, c1, c2, c3⟩ := h.at hf
  have hgl : g < w.heap.size := World.block_lt_of_cell? w _ c0
  clear h hf
  go_enter Tryz.func144, Tryz.ntmps144
  go_wp2
  refine bodyPost_ret (v := .tuple #[f.v, .bool true]) ?_ rfl ⟨rfl, ((Kp.refl _ _).alloc _).alloc _⟩
  simp [results, Tryz.results144, go_sem, FS.v]
theorem next144_no (b : Nat) (v : Value) (L : List FS) (e : Nat → Int) (i : Nat) (w : World) (hb : w.cell? ⟨b, 0, none⟩ = some v) (h : IsFs w v L) (hi : L.length ≤ i) :
    Calls Tryz.prog 144 #[evV e, .int .i64 i, .pointer (some ⟨b, 0, none⟩)] w fun r w' => r = .returned (.tuple #[zeroF, .bool false]) ∧ Kp [] w w' := by
  have hbl : b < w.heap.size := World.block_lt_of_cell? w _ hb
  have h' := h
  obtain ⟨g, c, rfl, _⟩ := h'
  clear h
  go_enter Tryz.func144, Tryz.ntmps144
  go_wp2
  refine bodyPost_ret (v := .tuple #[zeroF, .bool false]) ?_ rfl ⟨rfl, ((Kp.refl _ _).alloc _).alloc _⟩
  simp [results, Tryz.results144, go_sem, zeroF]
end Go.Proofs.YtbogjkggfdhckaaGreatDoor

/-
  event: the closures that tell the fields of a call, of a return. (Printed by gen_ev2.py.)
-/
namespace Go.Proofs.YtbogjkggfdhckaaGreatDoor
open Go.RowKit Go.Um

theorem list_any (a : Option Addr) (n c : Nat) (w : World) : Calls Tryz.prog 143 #[.slice a n c] w fun e w' => (∃ b, w.heap.size ≤ b ∧ e = .returned (.func (.func 144) #[] #[.pointer (some ⟨b, 0, none⟩)]) ∧ w'.cell? ⟨b, 0, none⟩ = some (.slice a n c)) ∧ Kp [] w w' := by
  go_enter Tryz.func143, Tryz.ntmps143
  go_wp2
  go_ret
  exact ⟨⟨w.heap.size, by omega, rfl, by simp⟩, (Kp.refl _ _).alloc _⟩

theorem info_field : (Tryz.prog.info? 183).map (fun i => (i.zero, i.size, i.bytes)) = some (some (.agg #[.nilFunc, .int .i64 0, .int .i64 0, .int .i64 0]), 4, 32) := by kernel_rfl

set_option maxRecDepth 100000 in
set_option maxHeartbeats 4000000 in
theorem next154v_yes (bl : Nat) (e : Nat → Int) (i : Nat) (w : World) (hb : w.cell? ⟨bl, 0, none⟩ = some (.func (.func 143) #[] #[])) (h7 : e 7 = 3) (f : FS) (hf : [fTx, fRet, fVal][i]? = some f) :
    Calls Tryz.prog 154 #[evV e, .int .i64 i, .pointer (some ⟨bl, 0, none⟩)] w fun r w' => r = .returned (.tuple #[f.v, .bool true]) ∧ Kp [] w w' := by
  have hbl : bl < w.heap.size := World.block_lt_of_cell? w _ hb
  have HF := Lib.hid hf
  clear hf
  have h7' : (e 7 == 3) = true := by simpa using h7
  clear h7
  obtain ⟨i0, hi, hz0, hz1, hz2⟩ := info_parts info_field
  unfold evV
  go_enter Tryz.func154, Tryz.ntmps154
  go_wp2_with (first
    | (go_at_call 145; refine (tx_any _).mono ?_; rintro e1 w1 ⟨rfl, hb1⟩; unfold fTx FS.v gfn)
    | (go_at_call 155; refine (ret_any _).mono ?_; rintro e1 w2 ⟨rfl, hb2⟩; have hK2 := hb1.trans hb2 (by simp); have hs2 := hK2.size; simp only [World.size_alloc] at hs2; obtain ⟨l2a, c2a, f2a⟩ := hK2.blk w.heap.size (by first | omega | (simp <;> omega)) (by simp); obtain ⟨l2b, c2b, f2b⟩ := hK2.blk (w.heap.size + 1) (by first | omega | (simp <;> omega)) (by simp); obtain ⟨l2c, c2c, f2c⟩ := hK2.blk bl (by first | omega | (simp <;> omega)) (by simp); clear hb1 hb2; unfold fRet FS.v gfn)
    | (go_at_call 153; refine (val_any _).mono ?_; rintro e1 w3 ⟨rfl, hb3⟩; have hrow := own_built hb3 (sz := 4) (n := 2) rfl (by decide) (B := w.heap.size + 2) (by first | omega | (simp <;> omega)); have hK3 := (hK2.alloc _).trans hb3 (by simp); clear hK2 hb3 l2a l2b l2c c2a c2b c2c f2a f2b f2c; obtain ⟨l3a, c3a, f3a⟩ := hK3.blk w.heap.size (by first | omega | (simp <;> omega)) (by simp); obtain ⟨l3b, c3b, f3b⟩ := hK3.blk (w.heap.size + 1) (by first | omega | (simp <;> omega)) (by simp); obtain ⟨l3c, c3c, f3c⟩ := hK3.blk bl (by first | omega | (simp <;> omega)) (by simp); unfold fVal FS.v gfn)
    | (at_builtin; refine wpList_append_own _ rfl _ _ 208 rfl (w.heap.size + 2) 183 i0 _ 4 32 Tryz.underlying208 hi hz0 hz1 hz2 rfl (by decide) _ _ _ rfl (hrow.alloc _) ⟨w3.heap.size, 0, none⟩ 1 1 (fVal.cells) rfl rfl (news_of (heap_alloc_new w3 _)) ?c2 ?c3 ?c4 ?c5 ?_))
  case c2 => intro u hu; simp [fVal, FS.cells] at hu; rcases hu with rfl | rfl | rfl | rfl <;> rfl
  case c3 => decide
  case c4 => decide
  case c5 => first | omega | (simp <;> omega)
  intro v' w4 hown4 hgrow _
  obtain ⟨g4, cap4, rfl, hG4, hg4⟩ := own_shape hown4 (by decide)
  have hK4 := (hK3.alloc _).trans (Kp.of_grown hgrow) (fun x hx hlt => by simp [Value.ownBlock] at hx; simp at hlt; omega)
  obtain ⟨l4a, c4a, f4a⟩ := hK4.blk w.heap.size (by first | omega | (simp <;> omega)) (by simp); obtain ⟨l4b, c4b, f4b⟩ := hK4.blk (w.heap.size + 1) (by first | omega | (simp <;> omega)) (by simp); obtain ⟨l4c, c4c, f4c⟩ := hK4.blk bl (by first | omega | (simp <;> omega)) (by simp)
  clear hgrow hrow hK3 l3a l3b l3c c3a c3b c3c f3a f3b f3c hs2
  have hfs : IsFs w4.drew (.slice (some ⟨g4, 0, none⟩) 3 cap4) [fTx, fRet, fVal] := ⟨g4, cap4, rfl, own_base hown4 (Nat.zero_le _)⟩
  have hw : Kp [] w w4.drew := ((((Kp.refl [] w).alloc _).alloc _).trans hK4 (by simp)).drew
  clear hown4
  go_wp2
  go_region_with (first
    | (go_at_call 143; refine (list_any _ _ _ _).mono ?_; rintro e1 w5 ⟨⟨b5, _, rfl, hb5⟩, hk5⟩; obtain ⟨l5a, c5a, f5a⟩ := hk5.blk w.heap.size (by first | omega | (simp <;> omega)) (by simp); obtain ⟨l5b, c5b, f5b⟩ := hk5.blk (w.heap.size + 1) (by first | omega | (simp <;> omega)) (by simp); have hfs5 := hfs.kp hk5; have hw5 := hw.trans hk5 (by simp))
    | (go_at_call 144; refine (next144_yes _ _ _ e _ f _ hb5 hfs5 HF.out).mono ?_; rintro e1 w6 ⟨rfl, hk6⟩; obtain ⟨l6b, c6b, f6b⟩ := hk6.blk (w.heap.size + 1) l5b (by simp); have hw6 := hw5.trans hk6 (by simp); unfold FS.v))
  all_goals go_wp2
  all_goals refine bodyPost_ret (v := .tuple #[f.v, .bool true]) ?_ rfl ⟨rfl, ?_⟩
  all_goals first | exact hw6 | (simp [results, Tryz.results154, go_sem, FS.v, *]; done) | (repeat (first | exact hw6 | refine Kp.drew ?_ | refine Kp.alloc ?_ _ | refine Kp.setCell ?_ _ _ (fun h => absurd h (by simp))))
set_option maxRecDepth 100000 in
set_option maxHeartbeats 4000000 in
theorem next154v_no (bl : Nat) (e : Nat → Int) (i : Nat) (w : World) (hb : w.cell? ⟨bl, 0, none⟩ = some (.func (.func 143) #[] #[])) (h7 : e 7 = 3) (hf : [fTx, fRet, fVal].length ≤ i) :
    Calls Tryz.prog 154 #[evV e, .int .i64 i, .pointer (some ⟨bl, 0, none⟩)] w fun r w' => r = .returned (.tuple #[zeroF, .bool false]) ∧ Kp [] w w' := by
  have hbl : bl < w.heap.size := World.block_lt_of_cell? w _ hb
  have HF := Lib.hid hf
  clear hf
  have h7' : (e 7 == 3) = true := by simpa using h7
  clear h7
  obtain ⟨i0, hi, hz0, hz1, hz2⟩ := info_parts info_field
  unfold evV
  go_enter Tryz.func154, Tryz.ntmps154
  go_wp2_with (first
    | (go_at_call 145; refine (tx_any _).mono ?_; rintro e1 w1 ⟨rfl, hb1⟩; unfold fTx FS.v gfn)
    | (go_at_call 155; refine (ret_any _).mono ?_; rintro e1 w2 ⟨rfl, hb2⟩; have hK2 := hb1.trans hb2 (by simp); have hs2 := hK2.size; simp only [World.size_alloc] at hs2; obtain ⟨l2a, c2a, f2a⟩ := hK2.blk w.heap.size (by first | omega | (simp <;> omega)) (by simp); obtain ⟨l2b, c2b, f2b⟩ := hK2.blk (w.heap.size + 1) (by first | omega | (simp <;> omega)) (by simp); obtain ⟨l2c, c2c, f2c⟩ := hK2.blk bl (by first | omega | (simp <;> omega)) (by simp); clear hb1 hb2; unfold fRet FS.v gfn)
    | (go_at_call 153; refine (val_any _).mono ?_; rintro e1 w3 ⟨rfl, hb3⟩; have hrow := own_built hb3 (sz := 4) (n := 2) rfl (by decide) (B := w.heap.size + 2) (by first | omega | (simp <;> omega)); have hK3 := (hK2.alloc _).trans hb3 (by simp); clear hK2 hb3 l2a l2b l2c c2a c2b c2c f2a f2b f2c; obtain ⟨l3a, c3a, f3a⟩ := hK3.blk w.heap.size (by first | omega | (simp <;> omega)) (by simp); obtain ⟨l3b, c3b, f3b⟩ := hK3.blk (w.heap.size + 1) (by first | omega | (simp <;> omega)) (by simp); obtain ⟨l3c, c3c, f3c⟩ := hK3.blk bl (by first | omega | (simp <;> omega)) (by simp); unfold fVal FS.v gfn)
    | (at_builtin; refine wpList_append_own _ rfl _ _ 208 rfl (w.heap.size + 2) 183 i0 _ 4 32 Tryz.underlying208 hi hz0 hz1 hz2 rfl (by decide) _ _ _ rfl (hrow.alloc _) ⟨w3.heap.size, 0, none⟩ 1 1 (fVal.cells) rfl rfl (news_of (heap_alloc_new w3 _)) ?c2 ?c3 ?c4 ?c5 ?_))
  case c2 => intro u hu; simp [fVal, FS.cells] at hu; rcases hu with rfl | rfl | rfl | rfl <;> rfl
  case c3 => decide
  case c4 => decide
  case c5 => first | omega | (simp <;> omega)
  intro v' w4 hown4 hgrow _
  obtain ⟨g4, cap4, rfl, hG4, hg4⟩ := own_shape hown4 (by decide)
  have hK4 := (hK3.alloc _).trans (Kp.of_grown hgrow) (fun x hx hlt => by simp [Value.ownBlock] at hx; simp at hlt; omega)
  obtain ⟨l4a, c4a, f4a⟩ := hK4.blk w.heap.size (by first | omega | (simp <;> omega)) (by simp); obtain ⟨l4b, c4b, f4b⟩ := hK4.blk (w.heap.size + 1) (by first | omega | (simp <;> omega)) (by simp); obtain ⟨l4c, c4c, f4c⟩ := hK4.blk bl (by first | omega | (simp <;> omega)) (by simp)
  clear hgrow hrow hK3 l3a l3b l3c c3a c3b c3c f3a f3b f3c hs2
  have hfs : IsFs w4.drew (.slice (some ⟨g4, 0, none⟩) 3 cap4) [fTx, fRet, fVal] := ⟨g4, cap4, rfl, own_base hown4 (Nat.zero_le _)⟩
  have hw : Kp [] w w4.drew := ((((Kp.refl [] w).alloc _).alloc _).trans hK4 (by simp)).drew
  clear hown4
  go_wp2
  go_region_with (first
    | (go_at_call 143; refine (list_any _ _ _ _).mono ?_; rintro e1 w5 ⟨⟨b5, _, rfl, hb5⟩, hk5⟩; obtain ⟨l5a, c5a, f5a⟩ := hk5.blk w.heap.size (by first | omega | (simp <;> omega)) (by simp); obtain ⟨l5b, c5b, f5b⟩ := hk5.blk (w.heap.size + 1) (by first | omega | (simp <;> omega)) (by simp); have hfs5 := hfs.kp hk5; have hw5 := hw.trans hk5 (by simp))
    | (go_at_call 144; refine (next144_no _ _ _ e _ _ hb5 hfs5 HF.out).mono ?_; rintro e1 w6 ⟨rfl, hk6⟩; obtain ⟨l6b, c6b, f6b⟩ := hk6.blk (w.heap.size + 1) l5b (by simp); have hw6 := hw5.trans hk6 (by simp); unfold zeroF))
  all_goals go_wp2
  all_goals refine bodyPost_ret (v := .tuple #[zeroF, .bool false]) ?_ rfl ⟨rfl, ?_⟩
  all_goals first | exact hw6 | (simp [results, Tryz.results154, go_sem, zeroF, *]; done) | (repeat (first | exact hw6 | refine Kp.drew ?_ | refine Kp.alloc ?_ _ | refine Kp.setCell ?_ _ _ (fun h => absurd h (by simp))))
set_option maxRecDepth 100000 in
set_option maxHeartbeats 4000000 in
theorem next154_yes (bl : Nat) (e : Nat → Int) (i : Nat) (w : World) (hb : w.cell? ⟨bl, 0, none⟩ = some (.func (.func 143) #[] #[])) (h7 : e 7 ≠ 3) (f : FS) (hf : [fTx, fRet][i]? = some f) :
    Calls Tryz.prog 154 #[evV e, .int .i64 i, .pointer (some ⟨bl, 0, none⟩)] w fun r w' => r = .returned (.tuple #[f.v, .bool true]) ∧ Kp [] w w' := by
  have hbl : bl < w.heap.size := World.block_lt_of_cell? w _ hb
  have HF := Lib.hid hf
  clear hf
  have h7' : (e 7 == 3) = false := by simpa using h7
  clear h7
  unfold evV
  go_enter Tryz.func154, Tryz.ntmps154
  go_wp2_with (first
    | (go_at_call 145; refine (tx_any _).mono ?_; rintro e1 w1 ⟨rfl, hb1⟩; unfold fTx FS.v gfn)
    | (go_at_call 155; refine (ret_any _).mono ?_; rintro e1 w2 ⟨rfl, hb2⟩; have hK2 := hb1.trans hb2 (by simp); have hs2 := hK2.size; simp only [World.size_alloc] at hs2; obtain ⟨l2a, c2a, f2a⟩ := hK2.blk w.heap.size (by first | omega | (simp <;> omega)) (by simp); obtain ⟨l2b, c2b, f2b⟩ := hK2.blk (w.heap.size + 1) (by first | omega | (simp <;> omega)) (by simp); obtain ⟨l2c, c2c, f2c⟩ := hK2.blk bl (by first | omega | (simp <;> omega)) (by simp); clear hb1 hb2; unfold fRet FS.v gfn))
  have hrow : (w2.alloc (.cells #[.func (.func (gfn 1)) #[] #[], .int .i64 0, .int .i64 1, .int .i64 1000, .func (.func (gfn 7)) #[] #[], .int .i64 4, .int .i64 1, .int .i64 3] 183)).ownsRow (w.heap.size + 2) 183 4 (.slice (some ⟨w2.heap.size, 0, none⟩) 2 2) 2 (flatF [fTx, fRet]) := own_of_block (heap_alloc_new _ _) rfl (by decide) (by first | omega | (simp <;> omega))
  have hK4 := hK2.alloc (.cells #[.func (.func (gfn 1)) #[] #[], .int .i64 0, .int .i64 1, .int .i64 1000, .func (.func (gfn 7)) #[] #[], .int .i64 4, .int .i64 1, .int .i64 3] 183)
  unfold gfn at hrow hK4
  generalize hW4 : w2.alloc (.cells _ 183) = w4 at hrow hK4 ⊢
  have hg4 : w2.heap.size < w4.heap.size := by rw [← hW4]; simp
  clear hW4
  obtain ⟨g4, hg4'⟩ : ∃ g, g = w2.heap.size := ⟨_, rfl⟩
  rw [← hg4'] at hrow hg4 ⊢
  have hown4 := hrow
  obtain ⟨l4a, c4a, f4a⟩ := hK4.blk w.heap.size (by first | omega | (simp <;> omega)) (by simp); obtain ⟨l4b, c4b, f4b⟩ := hK4.blk (w.heap.size + 1) (by first | omega | (simp <;> omega)) (by simp); obtain ⟨l4c, c4c, f4c⟩ := hK4.blk bl (by first | omega | (simp <;> omega)) (by simp)
  clear hrow hK2 l2a l2b l2c c2a c2b c2c f2a f2b f2c hs2 hg4'
  have hfs : IsFs w4.drew (.slice (some ⟨g4, 0, none⟩) 2 2) [fTx, fRet] := ⟨g4, 2, rfl, own_base hown4 (Nat.zero_le _)⟩
  have hw : Kp [] w w4.drew := ((((Kp.refl [] w).alloc _).alloc _).trans hK4 (by simp)).drew
  clear hown4
  go_wp2
  go_region_with (first
    | (go_at_call 143; refine (list_any _ _ _ _).mono ?_; rintro e1 w5 ⟨⟨b5, _, rfl, hb5⟩, hk5⟩; obtain ⟨l5a, c5a, f5a⟩ := hk5.blk w.heap.size (by first | omega | (simp <;> omega)) (by simp); obtain ⟨l5b, c5b, f5b⟩ := hk5.blk (w.heap.size + 1) (by first | omega | (simp <;> omega)) (by simp); have hfs5 := hfs.kp hk5; have hw5 := hw.trans hk5 (by simp))
    | (go_at_call 144; refine (next144_yes _ _ _ e _ f _ hb5 hfs5 HF.out).mono ?_; rintro e1 w6 ⟨rfl, hk6⟩; obtain ⟨l6b, c6b, f6b⟩ := hk6.blk (w.heap.size + 1) l5b (by simp); have hw6 := hw5.trans hk6 (by simp); unfold FS.v))
  all_goals go_wp2
  all_goals refine bodyPost_ret (v := .tuple #[f.v, .bool true]) ?_ rfl ⟨rfl, ?_⟩
  all_goals first | exact hw6 | (simp [results, Tryz.results154, go_sem, FS.v, *]; done) | (repeat (first | exact hw6 | refine Kp.drew ?_ | refine Kp.alloc ?_ _ | refine Kp.setCell ?_ _ _ (fun h => absurd h (by simp))))
set_option maxRecDepth 100000 in
set_option maxHeartbeats 4000000 in
theorem next154_no (bl : Nat) (e : Nat → Int) (i : Nat) (w : World) (hb : w.cell? ⟨bl, 0, none⟩ = some (.func (.func 143) #[] #[])) (h7 : e 7 ≠ 3) (hf : [fTx, fRet].length ≤ i) :
    Calls Tryz.prog 154 #[evV e, .int .i64 i, .pointer (some ⟨bl, 0, none⟩)] w fun r w' => r = .returned (.tuple #[zeroF, .bool false]) ∧ Kp [] w w' := by
  have hbl : bl < w.heap.size := World.block_lt_of_cell? w _ hb
  have HF := Lib.hid hf
  clear hf
  have h7' : (e 7 == 3) = false := by simpa using h7
  clear h7
  unfold evV
  go_enter Tryz.func154, Tryz.ntmps154
  go_wp2_with (first
    | (go_at_call 145; refine (tx_any _).mono ?_; rintro e1 w1 ⟨rfl, hb1⟩; unfold fTx FS.v gfn)
    | (go_at_call 155; refine (ret_any _).mono ?_; rintro e1 w2 ⟨rfl, hb2⟩; have hK2 := hb1.trans hb2 (by simp); have hs2 := hK2.size; simp only [World.size_alloc] at hs2; obtain ⟨l2a, c2a, f2a⟩ := hK2.blk w.heap.size (by first | omega | (simp <;> omega)) (by simp); obtain ⟨l2b, c2b, f2b⟩ := hK2.blk (w.heap.size + 1) (by first | omega | (simp <;> omega)) (by simp); obtain ⟨l2c, c2c, f2c⟩ := hK2.blk bl (by first | omega | (simp <;> omega)) (by simp); clear hb1 hb2; unfold fRet FS.v gfn))
  have hrow : (w2.alloc (.cells #[.func (.func (gfn 1)) #[] #[], .int .i64 0, .int .i64 1, .int .i64 1000, .func (.func (gfn 7)) #[] #[], .int .i64 4, .int .i64 1, .int .i64 3] 183)).ownsRow (w.heap.size + 2) 183 4 (.slice (some ⟨w2.heap.size, 0, none⟩) 2 2) 2 (flatF [fTx, fRet]) := own_of_block (heap_alloc_new _ _) rfl (by decide) (by first | omega | (simp <;> omega))
  have hK4 := hK2.alloc (.cells #[.func (.func (gfn 1)) #[] #[], .int .i64 0, .int .i64 1, .int .i64 1000, .func (.func (gfn 7)) #[] #[], .int .i64 4, .int .i64 1, .int .i64 3] 183)
  unfold gfn at hrow hK4
  generalize hW4 : w2.alloc (.cells _ 183) = w4 at hrow hK4 ⊢
  have hg4 : w2.heap.size < w4.heap.size := by rw [← hW4]; simp
  clear hW4
  obtain ⟨g4, hg4'⟩ : ∃ g, g = w2.heap.size := ⟨_, rfl⟩
  rw [← hg4'] at hrow hg4 ⊢
  have hown4 := hrow
  obtain ⟨l4a, c4a, f4a⟩ := hK4.blk w.heap.size (by first | omega | (simp <;> omega)) (by simp); obtain ⟨l4b, c4b, f4b⟩ := hK4.blk (w.heap.size + 1) (by first | omega | (simp <;> omega)) (by simp); obtain ⟨l4c, c4c, f4c⟩ := hK4.blk bl (by first | omega | (simp <;> omega)) (by simp)
  clear hrow hK2 l2a l2b l2c c2a c2b c2c f2a f2b f2c hs2 hg4'
  have hfs : IsFs w4.drew (.slice (some ⟨g4, 0, none⟩) 2 2) [fTx, fRet] := ⟨g4, 2, rfl, own_base hown4 (Nat.zero_le _)⟩
  have hw : Kp [] w w4.drew := ((((Kp.refl [] w).alloc _).alloc _).trans hK4 (by simp)).drew
  clear hown4
  go_wp2
  go_region_with (first
    | (go_at_call 143; refine (list_any _ _ _ _).mono ?_; rintro e1 w5 ⟨⟨b5, _, rfl, hb5⟩, hk5⟩; obtain ⟨l5a, c5a, f5a⟩ := hk5.blk w.heap.size (by first | omega | (simp <;> omega)) (by simp); obtain ⟨l5b, c5b, f5b⟩ := hk5.blk (w.heap.size + 1) (by first | omega | (simp <;> omega)) (by simp); have hfs5 := hfs.kp hk5; have hw5 := hw.trans hk5 (by simp))
    | (go_at_call 144; refine (next144_no _ _ _ e _ _ hb5 hfs5 HF.out).mono ?_; rintro e1 w6 ⟨rfl, hk6⟩; obtain ⟨l6b, c6b, f6b⟩ := hk6.blk (w.heap.size + 1) l5b (by simp); have hw6 := hw5.trans hk6 (by simp); unfold zeroF))
  all_goals go_wp2
  all_goals refine bodyPost_ret (v := .tuple #[zeroF, .bool false]) ?_ rfl ⟨rfl, ?_⟩
  all_goals first | exact hw6 | (simp [results, Tryz.results154, go_sem, zeroF, *]; done) | (repeat (first | exact hw6 | refine Kp.drew ?_ | refine Kp.alloc ?_ _ | refine Kp.setCell ?_ _ _ (fun h => absurd h (by simp))))
end Go.Proofs.YtbogjkggfdhckaaGreatDoor

/-
  event: the package's variables; Word, as far as it is asked; ValidObject.
-/
namespace Go.Proofs.YtbogjkggfdhckaaGreatDoor
open Go.RowKit Go.Um

def errV (E : Nat → Addr) (g : Nat) : Value := .iface 238 (.pointer (some (E g)))
/-- What the package's variables hold. -/
structure Gl (E : Nat → Addr) (w : World) : Prop where
  sz : 17 ≤ w.heap.size
  many : w.cell? ⟨0, 0, none⟩ = some (errV E 0)
  object : w.cell? ⟨1, 0, none⟩ = some (errV E 1)
  op : w.cell? ⟨2, 0, none⟩ = some (errV E 2)
  twice : w.cell? ⟨3, 0, none⟩ = some (errV E 3)
  thread : w.cell? ⟨4, 0, none⟩ = some (errV E 4)
  tx : w.cell? ⟨5, 0, none⟩ = some (errV E 5)
  order : w.cell? ⟨6, 0, none⟩ = some (errV E 6)
  code : w.cell? ⟨7, 0, none⟩ = some (errV E 7)
  event : w.cell? ⟨8, 0, none⟩ = some (errV E 8)
  answer : w.cell? ⟨9, 0, none⟩ = some (errV E 9)
  prog : w.cell? ⟨10, 0, none⟩ = some (errV E 10)
  objects : ∀ i, i < 4 → ∃ s : ByteArray, w.cell? ⟨11, i, none⟩ = some (.string s) ∧ s.toList.isEmpty = false
  answers : ∀ i, i < 3 → ∃ s : ByteArray, w.cell? ⟨14, i, none⟩ = some (.string s) ∧ s.toList.isEmpty = false
theorem Gl.kp {E : Nat → Addr} {w w' : World} {S : List Nat} (h : Gl E w) (hk : Kp S w w') (hS : ∀ x ∈ S, 17 ≤ x) : Gl E w' := by
  have hc : ∀ g o v, g < 17 → w.cell? ⟨g, o, none⟩ = some v → w'.cell? ⟨g, o, none⟩ = some v := fun g o v hg hv => (hk.cellAt hv (fun hx => by have := hS g hx; omega)).1
  exact {
    sz := Nat.le_trans h.sz hk.size
    many := hc _ _ _ (by decide) h.many
    object := hc _ _ _ (by decide) h.object
    op := hc _ _ _ (by decide) h.op
    twice := hc _ _ _ (by decide) h.twice
    thread := hc _ _ _ (by decide) h.thread
    tx := hc _ _ _ (by decide) h.tx
    order := hc _ _ _ (by decide) h.order
    code := hc _ _ _ (by decide) h.code
    event := hc _ _ _ (by decide) h.event
    answer := hc _ _ _ (by decide) h.answer
    prog := hc _ _ _ (by decide) h.prog
    objects := fun i hi => by obtain ⟨s, h1, h2⟩ := h.objects i hi; exact ⟨s, hc _ _ _ (by decide) h1, h2⟩
    answers := fun i hi => by obtain ⟨s, h1, h2⟩ := h.answers i hi; exact ⟨s, hc _ _ _ (by decide) h1, h2⟩ }
theorem Gl.kp0 {E : Nat → Addr} {w w' : World} (h : Gl E w) (hk : Kp [] w w') : Gl E w' := h.kp hk (by simp)

theorem word_in (t : Int) (k : Nat) (c : Int) (s : ByteArray) (w : World) (ht : t = 1 ∧ k < 4 ∧ w.cell? ⟨11, k, none⟩ = some (.string s) ∨ t = 4 ∧ k < 3 ∧ w.cell? ⟨14, k, none⟩ = some (.string s)) (hc : c = k + 1) :
    Calls Tryz.prog 122 #[.int .i64 t, .int .i64 c] w fun e w' => e = .returned (.string s) ∧ Kp [] w w' := by
  subst hc
  have hmx : max ((k : Int) + 1) 0 = k + 1 := by omega
  rcases ht with ⟨rfl, hk, hcell⟩ | ⟨rfl, hk, hcell⟩
  · have hl := World.block_lt_of_cell? w _ hcell
    dsimp only at hl
    go_enter Tryz.func122, Tryz.ntmps122
    go_wp2
    all_goals go_ret
    all_goals exact ⟨rfl, by repeat (first | exact Kp.refl _ _ | apply Kp.alloc | apply Kp.drew)⟩
  · have hl := World.block_lt_of_cell? w _ hcell
    dsimp only at hl
    go_enter Tryz.func122, Tryz.ntmps122
    go_wp2
    all_goals go_ret
    all_goals exact ⟨rfl, by repeat (first | exact Kp.refl _ _ | apply Kp.alloc | apply Kp.drew)⟩
theorem word_out (t : Int) (c : Int) (w : World) (ht : t = 1 ∧ ¬ (1 ≤ c ∧ c ≤ 4) ∨ t = 4 ∧ ¬ (1 ≤ c ∧ c ≤ 3)) (hlo : -9223372036854775808 ≤ c) (hhi : c ≤ 9223372036854775807) :
    Calls Tryz.prog 122 #[.int .i64 t, .int .i64 c] w fun e w' => e = .returned (.string ⟨#[]⟩) ∧ Kp [] w w' := by
  have hm0 : 0 ≤ max c 0 := by omega
  have hm1 : max c 0 ≤ 9223372036854775807 := by omega
  by_cases h0 : c < 1
  · have hmx : max c 0 = 0 := by omega
    rcases ht with ⟨rfl, hk⟩ | ⟨rfl, hk⟩
    all_goals
      go_enter Tryz.func122, Tryz.ntmps122
      go_wp2
      all_goals go_ret
      all_goals exact ⟨rfl, by repeat (first | exact Kp.refl _ _ | apply Kp.alloc | apply Kp.drew)⟩
  · have hmx : max c 0 = c := by omega
    rcases ht with ⟨rfl, hk⟩ | ⟨rfl, hk⟩
    · have h4 : 4 ≤ c - 1 := by omega
      go_enter Tryz.func122, Tryz.ntmps122
      go_wp2
      all_goals go_ret
      all_goals exact ⟨rfl, by repeat (first | exact Kp.refl _ _ | apply Kp.alloc | apply Kp.drew)⟩
    · have h4 : 3 ≤ c - 1 := by omega
      go_enter Tryz.func122, Tryz.ntmps122
      go_wp2
      all_goals go_ret
      all_goals exact ⟨rfl, by repeat (first | exact Kp.refl _ _ | apply Kp.alloc | apply Kp.drew)⟩

/-- An object that may be. -/
def objOk (k i : Int) : Bool := decide (1 ≤ k) && decide (k ≤ 4) && decide (-1000000000 ≤ i) && decide (i ≤ 1000000000) && (k == 1 || k == 2 || i == 0)
def objV (k i : Int) : Value := .agg #[.int .i64 k, .int .i64 i]
set_option maxRecDepth 100000 in
set_option maxHeartbeats 2000000 in
theorem validObject_any (E : Nat → Addr) (k i : Int) (w : World) (hG : Gl E w) (hlo : -9223372036854775808 ≤ k) (hhi : k ≤ 9223372036854775807) :
    Calls Tryz.prog 97 #[objV k i] w fun e w' => e = .returned (if objOk k i then .nilIface else errV E 1) ∧ Kp [] w w' := by
  unfold objV
  have hob := hG.object
  have hbl := hG.sz
  have hol : 1 < w.heap.size := by omega
  unfold errV at hob ⊢
  obtain ⟨r, hr⟩ : ∃ r, r = (if objOk k i then Value.nilIface else .iface 238 (.pointer (some (E 1)))) := ⟨_, rfl⟩
  rw [← hr]
  have HR := Lib.hid hr
  clear hr
  by_cases hk : 1 ≤ k ∧ k ≤ 4
  · have hko : k = 1 ∨ k = 2 ∨ k = 3 ∨ k = 4 := by omega
    obtain ⟨s, hs, hs0⟩ := hG.objects (k - 1).toNat (by omega)
    have hW : ∀ W : World, Kp [] w W → Calls Tryz.prog 122 #[.int .i64 1, .int .i64 k] W fun e w' => e = .returned (.string s) ∧ Kp [] W w' := fun W hW => word_in 1 (k - 1).toNat k s W (.inl ⟨rfl, by omega, (hW.cellAt hs (by simp)).1⟩) (by omega)
    have HW := Lib.hid hW
    clear hG hs hW hk
    rcases (show i < -1000000000 ∨ (-1000000000 ≤ i ∧ i ≤ 1000000000 ∧ i = 0) ∨ (-1000000000 ≤ i ∧ i ≤ 1000000000 ∧ i ≠ 0) ∨ 1000000000 < i from by omega) with hi | ⟨_, _, hi⟩ | ⟨hi1, hi2, hi⟩ | hi
    all_goals
      try (have hib : (i != 0) = true := by rw [bne_iff_ne]; omega)
      rcases hko with rfl | rfl | rfl | rfl
      all_goals
        try subst hi
        go_enter Tryz.func97, Tryz.ntmps97
        go_wp2_with (go_at_call 122; refine (HW.out _ ((Kp.refl _ _).alloc _)).mono ?_; rintro e w1 ⟨rfl, hK⟩; obtain ⟨l1, c1, f1⟩ := hK.blk w.heap.size (by simp) (by simp); obtain ⟨l2, c2, f2⟩ := hK.blk 1 (by simp; omega) (by simp); have hK' := ((Kp.refl [] w).alloc _).trans hK (by simp))
        go_ret
        exact ⟨ret_congr (by first | (rw [HR.out, if_pos (by simp [objOk] <;> omega)]; rfl) | (rw [HR.out, if_neg (by simp [objOk] <;> omega)]; rfl)), hK'⟩
  · have hW : ∀ W : World, Calls Tryz.prog 122 #[.int .i64 1, .int .i64 k] W fun e w' => e = .returned (.string ⟨#[]⟩) ∧ Kp [] W w' := fun W => word_out 1 k W (.inl ⟨rfl, hk⟩) hlo hhi
    have HW := Lib.hid hW
    clear hW hG
    have h1 : (k == 1) = false := by rw [beq_eq_false_iff_ne]; omega
    have h2 : (k == 2) = false := by rw [beq_eq_false_iff_ne]; omega
    have hO : objOk k i = false := by simp [objOk]; omega
    have HR' := Lib.hid (show r = .iface 238 (.pointer (some (E 1))) by rw [HR.out, hO]; rfl)
    clear hO hk
    go_enter Tryz.func97, Tryz.ntmps97
    go_wp2_with (go_at_call 122; refine (HW.out _).mono ?_; rintro e w1 ⟨rfl, hK⟩; obtain ⟨l2, c2, f2⟩ := hK.blk 1 (by simp; omega) (by simp); have hK' := ((Kp.refl [] w).alloc _).trans hK (by simp))
    go_ret
    exact ⟨ret_congr HR'.out.symm, hK'⟩
end Go.Proofs.YtbogjkggfdhckaaGreatDoor

/-
  event: the closures that tell the fields of a call, of a return. (Printed by gen_ev2.py.)
-/
namespace Go.Proofs.YtbogjkggfdhckaaGreatDoor
open Go.RowKit Go.Um

set_option maxRecDepth 100000 in
set_option maxHeartbeats 4000000 in
theorem next147_yes (bl : Nat) (e : Nat → Int) (i : Nat) (w : World) (hb : w.cell? ⟨bl, 0, none⟩ = some (.func (.func 143) #[] #[])) (hky : keyed (e 4) = false) (hvl : valued (e 4) = false) (f : FS) (hf : [fTx, fObj, fOp][i]? = some f) :
    Calls Tryz.prog 147 #[evV e, .int .i64 i, .pointer (some ⟨bl, 0, none⟩)] w fun r w' => r = .returned (.tuple #[f.v, .bool true]) ∧ Kp [] w w' := by
  have hbl : bl < w.heap.size := World.block_lt_of_cell? w _ hb
  have HF := Lib.hid hf
  clear hf
  unfold evV
  go_enter Tryz.func147, Tryz.ntmps147
  go_wp2_with (first
    | (go_at_call 145; refine (tx_any _).mono ?_; rintro e1 w1 ⟨rfl, hb1⟩; unfold fTx FS.v gfn)
    | (go_at_call 148; refine (obj_any _).mono ?_; rintro e1 w2 ⟨rfl, hb2⟩; unfold fObj FS.v gfn)
    | (go_at_call 149; refine (op_any _).mono ?_; rintro e1 w3 ⟨rfl, hb3⟩; have hK3 := (hb1.trans hb2 (by simp)).trans hb3 (by simp); have hs3 := hK3.size; simp only [World.size_alloc] at hs3; obtain ⟨l3a, c3a, f3a⟩ := hK3.blk w.heap.size (by first | omega | (simp <;> omega)) (by simp); obtain ⟨l3b, c3b, f3b⟩ := hK3.blk (w.heap.size + 1) (by first | omega | (simp <;> omega)) (by simp); obtain ⟨l3c, c3c, f3c⟩ := hK3.blk bl (by first | omega | (simp <;> omega)) (by simp); clear hb1 hb2 hb3; unfold fOp FS.v gfn)
    | (go_at_call 150; refine (keyed_any _ _).mono ?_; rintro e1 w' ⟨rfl, rfl⟩)
    | (go_at_call 152; refine (valued_any _ _).mono ?_; rintro e1 w' ⟨rfl, rfl⟩))
  have hrow : (w3.alloc (.cells #[.func (.func (gfn 1)) #[] #[], .int .i64 0, .int .i64 1, .int .i64 1000, .func (.func (gfn 3)) #[] #[], .int .i64 0, .int .i64 0, .int .i64 7, .func (.func (gfn 4)) #[] #[], .int .i64 3, .int .i64 1, .int .i64 9] 183)).ownsRow (w.heap.size + 2) 183 4 (.slice (some ⟨w3.heap.size, 0, none⟩) 3 3) 3 (flatF [fTx, fObj, fOp]) := own_of_block (heap_alloc_new _ _) rfl (by decide) (by first | omega | (simp <;> omega))
  have hK4 := hK3.alloc (.cells #[.func (.func (gfn 1)) #[] #[], .int .i64 0, .int .i64 1, .int .i64 1000, .func (.func (gfn 3)) #[] #[], .int .i64 0, .int .i64 0, .int .i64 7, .func (.func (gfn 4)) #[] #[], .int .i64 3, .int .i64 1, .int .i64 9] 183)
  unfold gfn at hrow hK4
  generalize hW4 : w3.alloc (.cells _ 183) = w4 at hrow hK4 ⊢
  have hg4 : w3.heap.size < w4.heap.size := by rw [← hW4]; simp
  clear hW4
  obtain ⟨g4, hg4'⟩ : ∃ g, g = w3.heap.size := ⟨_, rfl⟩
  rw [← hg4'] at hrow hg4 ⊢
  have hown4 := hrow
  obtain ⟨l4a, c4a, f4a⟩ := hK4.blk w.heap.size (by first | omega | (simp <;> omega)) (by simp); obtain ⟨l4b, c4b, f4b⟩ := hK4.blk (w.heap.size + 1) (by first | omega | (simp <;> omega)) (by simp); obtain ⟨l4c, c4c, f4c⟩ := hK4.blk bl (by first | omega | (simp <;> omega)) (by simp)
  clear hrow hK3 l3a l3b l3c c3a c3b c3c f3a f3b f3c hs3 hg4'
  have hfs : IsFs w4.drew (.slice (some ⟨g4, 0, none⟩) 3 3) [fTx, fObj, fOp] := ⟨g4, 3, rfl, own_base hown4 (Nat.zero_le _)⟩
  have hw : Kp [] w w4.drew := ((((Kp.refl [] w).alloc _).alloc _).trans hK4 (by simp)).drew
  clear hown4
  go_wp2
  go_region_with (first
    | (go_at_call 143; refine (list_any _ _ _ _).mono ?_; rintro e1 w5 ⟨⟨b5, _, rfl, hb5⟩, hk5⟩; obtain ⟨l5a, c5a, f5a⟩ := hk5.blk w.heap.size (by first | omega | (simp <;> omega)) (by simp); obtain ⟨l5b, c5b, f5b⟩ := hk5.blk (w.heap.size + 1) (by first | omega | (simp <;> omega)) (by simp); have hfs5 := hfs.kp hk5; have hw5 := hw.trans hk5 (by simp))
    | (go_at_call 144; refine (next144_yes _ _ _ e _ f _ hb5 hfs5 HF.out).mono ?_; rintro e1 w6 ⟨rfl, hk6⟩; obtain ⟨l6b, c6b, f6b⟩ := hk6.blk (w.heap.size + 1) l5b (by simp); have hw6 := hw5.trans hk6 (by simp); unfold FS.v))
  all_goals go_wp2
  all_goals refine bodyPost_ret (v := .tuple #[f.v, .bool true]) ?_ rfl ⟨rfl, ?_⟩
  all_goals first | exact hw6 | (simp [results, Tryz.results147, go_sem, FS.v, *]; done) | (repeat (first | exact hw6 | refine Kp.drew ?_ | refine Kp.alloc ?_ _ | refine Kp.setCell ?_ _ _ (fun h => absurd h (by simp))))
set_option maxRecDepth 100000 in
set_option maxHeartbeats 4000000 in
theorem next147_no (bl : Nat) (e : Nat → Int) (i : Nat) (w : World) (hb : w.cell? ⟨bl, 0, none⟩ = some (.func (.func 143) #[] #[])) (hky : keyed (e 4) = false) (hvl : valued (e 4) = false) (hf : [fTx, fObj, fOp].length ≤ i) :
    Calls Tryz.prog 147 #[evV e, .int .i64 i, .pointer (some ⟨bl, 0, none⟩)] w fun r w' => r = .returned (.tuple #[zeroF, .bool false]) ∧ Kp [] w w' := by
  have hbl : bl < w.heap.size := World.block_lt_of_cell? w _ hb
  have HF := Lib.hid hf
  clear hf
  unfold evV
  go_enter Tryz.func147, Tryz.ntmps147
  go_wp2_with (first
    | (go_at_call 145; refine (tx_any _).mono ?_; rintro e1 w1 ⟨rfl, hb1⟩; unfold fTx FS.v gfn)
    | (go_at_call 148; refine (obj_any _).mono ?_; rintro e1 w2 ⟨rfl, hb2⟩; unfold fObj FS.v gfn)
    | (go_at_call 149; refine (op_any _).mono ?_; rintro e1 w3 ⟨rfl, hb3⟩; have hK3 := (hb1.trans hb2 (by simp)).trans hb3 (by simp); have hs3 := hK3.size; simp only [World.size_alloc] at hs3; obtain ⟨l3a, c3a, f3a⟩ := hK3.blk w.heap.size (by first | omega | (simp <;> omega)) (by simp); obtain ⟨l3b, c3b, f3b⟩ := hK3.blk (w.heap.size + 1) (by first | omega | (simp <;> omega)) (by simp); obtain ⟨l3c, c3c, f3c⟩ := hK3.blk bl (by first | omega | (simp <;> omega)) (by simp); clear hb1 hb2 hb3; unfold fOp FS.v gfn)
    | (go_at_call 150; refine (keyed_any _ _).mono ?_; rintro e1 w' ⟨rfl, rfl⟩)
    | (go_at_call 152; refine (valued_any _ _).mono ?_; rintro e1 w' ⟨rfl, rfl⟩))
  have hrow : (w3.alloc (.cells #[.func (.func (gfn 1)) #[] #[], .int .i64 0, .int .i64 1, .int .i64 1000, .func (.func (gfn 3)) #[] #[], .int .i64 0, .int .i64 0, .int .i64 7, .func (.func (gfn 4)) #[] #[], .int .i64 3, .int .i64 1, .int .i64 9] 183)).ownsRow (w.heap.size + 2) 183 4 (.slice (some ⟨w3.heap.size, 0, none⟩) 3 3) 3 (flatF [fTx, fObj, fOp]) := own_of_block (heap_alloc_new _ _) rfl (by decide) (by first | omega | (simp <;> omega))
  have hK4 := hK3.alloc (.cells #[.func (.func (gfn 1)) #[] #[], .int .i64 0, .int .i64 1, .int .i64 1000, .func (.func (gfn 3)) #[] #[], .int .i64 0, .int .i64 0, .int .i64 7, .func (.func (gfn 4)) #[] #[], .int .i64 3, .int .i64 1, .int .i64 9] 183)
  unfold gfn at hrow hK4
  generalize hW4 : w3.alloc (.cells _ 183) = w4 at hrow hK4 ⊢
  have hg4 : w3.heap.size < w4.heap.size := by rw [← hW4]; simp
  clear hW4
  obtain ⟨g4, hg4'⟩ : ∃ g, g = w3.heap.size := ⟨_, rfl⟩
  rw [← hg4'] at hrow hg4 ⊢
  have hown4 := hrow
  obtain ⟨l4a, c4a, f4a⟩ := hK4.blk w.heap.size (by first | omega | (simp <;> omega)) (by simp); obtain ⟨l4b, c4b, f4b⟩ := hK4.blk (w.heap.size + 1) (by first | omega | (simp <;> omega)) (by simp); obtain ⟨l4c, c4c, f4c⟩ := hK4.blk bl (by first | omega | (simp <;> omega)) (by simp)
  clear hrow hK3 l3a l3b l3c c3a c3b c3c f3a f3b f3c hs3 hg4'
  have hfs : IsFs w4.drew (.slice (some ⟨g4, 0, none⟩) 3 3) [fTx, fObj, fOp] := ⟨g4, 3, rfl, own_base hown4 (Nat.zero_le _)⟩
  have hw : Kp [] w w4.drew := ((((Kp.refl [] w).alloc _).alloc _).trans hK4 (by simp)).drew
  clear hown4
  go_wp2
  go_region_with (first
    | (go_at_call 143; refine (list_any _ _ _ _).mono ?_; rintro e1 w5 ⟨⟨b5, _, rfl, hb5⟩, hk5⟩; obtain ⟨l5a, c5a, f5a⟩ := hk5.blk w.heap.size (by first | omega | (simp <;> omega)) (by simp); obtain ⟨l5b, c5b, f5b⟩ := hk5.blk (w.heap.size + 1) (by first | omega | (simp <;> omega)) (by simp); have hfs5 := hfs.kp hk5; have hw5 := hw.trans hk5 (by simp))
    | (go_at_call 144; refine (next144_no _ _ _ e _ _ hb5 hfs5 HF.out).mono ?_; rintro e1 w6 ⟨rfl, hk6⟩; obtain ⟨l6b, c6b, f6b⟩ := hk6.blk (w.heap.size + 1) l5b (by simp); have hw6 := hw5.trans hk6 (by simp); unfold zeroF))
  all_goals go_wp2
  all_goals refine bodyPost_ret (v := .tuple #[zeroF, .bool false]) ?_ rfl ⟨rfl, ?_⟩
  all_goals first | exact hw6 | (simp [results, Tryz.results147, go_sem, zeroF, *]; done) | (repeat (first | exact hw6 | refine Kp.drew ?_ | refine Kp.alloc ?_ _ | refine Kp.setCell ?_ _ _ (fun h => absurd h (by simp))))
set_option maxRecDepth 100000 in
set_option maxHeartbeats 4000000 in
theorem next147v_yes (bl : Nat) (e : Nat → Int) (i : Nat) (w : World) (hb : w.cell? ⟨bl, 0, none⟩ = some (.func (.func 143) #[] #[])) (hky : keyed (e 4) = false) (hvl : valued (e 4) = true) (f : FS) (hf : [fTx, fObj, fOp, fVal][i]? = some f) :
    Calls Tryz.prog 147 #[evV e, .int .i64 i, .pointer (some ⟨bl, 0, none⟩)] w fun r w' => r = .returned (.tuple #[f.v, .bool true]) ∧ Kp [] w w' := by
  have hbl : bl < w.heap.size := World.block_lt_of_cell? w _ hb
  have HF := Lib.hid hf
  clear hf
  obtain ⟨i0, hi, hz0, hz1, hz2⟩ := info_parts info_field
  unfold evV
  go_enter Tryz.func147, Tryz.ntmps147
  go_wp2_with (first
    | (go_at_call 145; refine (tx_any _).mono ?_; rintro e1 w1 ⟨rfl, hb1⟩; unfold fTx FS.v gfn)
    | (go_at_call 148; refine (obj_any _).mono ?_; rintro e1 w2 ⟨rfl, hb2⟩; unfold fObj FS.v gfn)
    | (go_at_call 149; refine (op_any _).mono ?_; rintro e1 w3 ⟨rfl, hb3⟩; have hK3 := (hb1.trans hb2 (by simp)).trans hb3 (by simp); have hs3 := hK3.size; simp only [World.size_alloc] at hs3; obtain ⟨l3a, c3a, f3a⟩ := hK3.blk w.heap.size (by first | omega | (simp <;> omega)) (by simp); obtain ⟨l3b, c3b, f3b⟩ := hK3.blk (w.heap.size + 1) (by first | omega | (simp <;> omega)) (by simp); obtain ⟨l3c, c3c, f3c⟩ := hK3.blk bl (by first | omega | (simp <;> omega)) (by simp); clear hb1 hb2 hb3; unfold fOp FS.v gfn)
    | (go_at_call 150; refine (keyed_any _ _).mono ?_; rintro e1 w' ⟨rfl, rfl⟩)
    | (go_at_call 152; refine (valued_any _ _).mono ?_; rintro e1 w' ⟨rfl, rfl⟩)
    | (go_at_call 153; refine (val_any _).mono ?_; rintro e1 w4 ⟨rfl, hb4⟩; have hrow := own_built hb4 (sz := 4) (n := 3) rfl (by decide) (B := w.heap.size + 2) (by first | omega | (simp <;> omega)); have hK4 := (hK3.alloc _).trans hb4 (by simp); clear hK3 hb4 l3a l3b l3c c3a c3b c3c f3a f3b f3c; obtain ⟨l4a, c4a, f4a⟩ := hK4.blk w.heap.size (by first | omega | (simp <;> omega)) (by simp); obtain ⟨l4b, c4b, f4b⟩ := hK4.blk (w.heap.size + 1) (by first | omega | (simp <;> omega)) (by simp); obtain ⟨l4c, c4c, f4c⟩ := hK4.blk bl (by first | omega | (simp <;> omega)) (by simp); unfold fVal FS.v gfn)
    | (at_builtin; refine wpList_append_own _ rfl _ _ 208 rfl (w.heap.size + 2) 183 i0 _ 4 32 Tryz.underlying208 hi hz0 hz1 hz2 rfl (by decide) _ _ _ rfl (hrow.alloc _) ⟨w4.heap.size, 0, none⟩ 1 1 (fVal.cells) rfl rfl (news_of (heap_alloc_new w4 _)) ?c2 ?c3 ?c4 ?c5 ?_))
  case c2 => intro u hu; simp [fVal, FS.cells] at hu; rcases hu with rfl | rfl | rfl | rfl <;> rfl
  case c3 => decide
  case c4 => decide
  case c5 => first | omega | (simp <;> omega)
  intro v' w5 hown5 hgrow _
  obtain ⟨g5, cap5, rfl, hG5, hg5⟩ := own_shape hown5 (by decide)
  have hK5 := (hK4.alloc _).trans (Kp.of_grown hgrow) (fun x hx hlt => by simp [Value.ownBlock] at hx; simp at hlt; omega)
  obtain ⟨l5a, c5a, f5a⟩ := hK5.blk w.heap.size (by first | omega | (simp <;> omega)) (by simp); obtain ⟨l5b, c5b, f5b⟩ := hK5.blk (w.heap.size + 1) (by first | omega | (simp <;> omega)) (by simp); obtain ⟨l5c, c5c, f5c⟩ := hK5.blk bl (by first | omega | (simp <;> omega)) (by simp)
  clear hgrow hrow hK4 l4a l4b l4c c4a c4b c4c f4a f4b f4c
  have hfs : IsFs w5.drew (.slice (some ⟨g5, 0, none⟩) 4 cap5) [fTx, fObj, fOp, fVal] := ⟨g5, cap5, rfl, own_base hown5 (Nat.zero_le _)⟩
  have hw : Kp [] w w5.drew := ((((Kp.refl [] w).alloc _).alloc _).trans hK5 (by simp)).drew
  clear hown5
  go_wp2
  go_region_with (first
    | (go_at_call 143; refine (list_any _ _ _ _).mono ?_; rintro e1 w5 ⟨⟨b5, _, rfl, hb5⟩, hk5⟩; obtain ⟨l5a, c5a, f5a⟩ := hk5.blk w.heap.size (by first | omega | (simp <;> omega)) (by simp); obtain ⟨l5b, c5b, f5b⟩ := hk5.blk (w.heap.size + 1) (by first | omega | (simp <;> omega)) (by simp); have hfs5 := hfs.kp hk5; have hw5 := hw.trans hk5 (by simp))
    | (go_at_call 144; refine (next144_yes _ _ _ e _ f _ hb5 hfs5 HF.out).mono ?_; rintro e1 w6 ⟨rfl, hk6⟩; obtain ⟨l6b, c6b, f6b⟩ := hk6.blk (w.heap.size + 1) l5b (by simp); have hw6 := hw5.trans hk6 (by simp); unfold FS.v))
  all_goals go_wp2
  all_goals refine bodyPost_ret (v := .tuple #[f.v, .bool true]) ?_ rfl ⟨rfl, ?_⟩
  all_goals first | exact hw6 | (simp [results, Tryz.results147, go_sem, FS.v, *]; done) | (repeat (first | exact hw6 | refine Kp.drew ?_ | refine Kp.alloc ?_ _ | refine Kp.setCell ?_ _ _ (fun h => absurd h (by simp))))
set_option maxRecDepth 100000 in
set_option maxHeartbeats 4000000 in
theorem next147v_no (bl : Nat) (e : Nat → Int) (i : Nat) (w : World) (hb : w.cell? ⟨bl, 0, none⟩ = some (.func (.func 143) #[] #[])) (hky : keyed (e 4) = false) (hvl : valued (e 4) = true) (hf : [fTx, fObj, fOp, fVal].length ≤ i) :
    Calls Tryz.prog 147 #[evV e, .int .i64 i, .pointer (some ⟨bl, 0, none⟩)] w fun r w' => r = .returned (.tuple #[zeroF, .bool false]) ∧ Kp [] w w' := by
  have hbl : bl < w.heap.size := World.block_lt_of_cell? w _ hb
  have HF := Lib.hid hf
  clear hf
  obtain ⟨i0, hi, hz0, hz1, hz2⟩ := info_parts info_field
  unfold evV
  go_enter Tryz.func147, Tryz.ntmps147
  go_wp2_with (first
    | (go_at_call 145; refine (tx_any _).mono ?_; rintro e1 w1 ⟨rfl, hb1⟩; unfold fTx FS.v gfn)
    | (go_at_call 148; refine (obj_any _).mono ?_; rintro e1 w2 ⟨rfl, hb2⟩; unfold fObj FS.v gfn)
    | (go_at_call 149; refine (op_any _).mono ?_; rintro e1 w3 ⟨rfl, hb3⟩; have hK3 := (hb1.trans hb2 (by simp)).trans hb3 (by simp); have hs3 := hK3.size; simp only [World.size_alloc] at hs3; obtain ⟨l3a, c3a, f3a⟩ := hK3.blk w.heap.size (by first | omega | (simp <;> omega)) (by simp); obtain ⟨l3b, c3b, f3b⟩ := hK3.blk (w.heap.size + 1) (by first | omega | (simp <;> omega)) (by simp); obtain ⟨l3c, c3c, f3c⟩ := hK3.blk bl (by first | omega | (simp <;> omega)) (by simp); clear hb1 hb2 hb3; unfold fOp FS.v gfn)
    | (go_at_call 150; refine (keyed_any _ _).mono ?_; rintro e1 w' ⟨rfl, rfl⟩)
    | (go_at_call 152; refine (valued_any _ _).mono ?_; rintro e1 w' ⟨rfl, rfl⟩)
    | (go_at_call 153; refine (val_any _).mono ?_; rintro e1 w4 ⟨rfl, hb4⟩; have hrow := own_built hb4 (sz := 4) (n := 3) rfl (by decide) (B := w.heap.size + 2) (by first | omega | (simp <;> omega)); have hK4 := (hK3.alloc _).trans hb4 (by simp); clear hK3 hb4 l3a l3b l3c c3a c3b c3c f3a f3b f3c; obtain ⟨l4a, c4a, f4a⟩ := hK4.blk w.heap.size (by first | omega | (simp <;> omega)) (by simp); obtain ⟨l4b, c4b, f4b⟩ := hK4.blk (w.heap.size + 1) (by first | omega | (simp <;> omega)) (by simp); obtain ⟨l4c, c4c, f4c⟩ := hK4.blk bl (by first | omega | (simp <;> omega)) (by simp); unfold fVal FS.v gfn)
    | (at_builtin; refine wpList_append_own _ rfl _ _ 208 rfl (w.heap.size + 2) 183 i0 _ 4 32 Tryz.underlying208 hi hz0 hz1 hz2 rfl (by decide) _ _ _ rfl (hrow.alloc _) ⟨w4.heap.size, 0, none⟩ 1 1 (fVal.cells) rfl rfl (news_of (heap_alloc_new w4 _)) ?c2 ?c3 ?c4 ?c5 ?_))
  case c2 => intro u hu; simp [fVal, FS.cells] at hu; rcases hu with rfl | rfl | rfl | rfl <;> rfl
  case c3 => decide
  case c4 => decide
  case c5 => first | omega | (simp <;> omega)
  intro v' w5 hown5 hgrow _
  obtain ⟨g5, cap5, rfl, hG5, hg5⟩ := own_shape hown5 (by decide)
  have hK5 := (hK4.alloc _).trans (Kp.of_grown hgrow) (fun x hx hlt => by simp [Value.ownBlock] at hx; simp at hlt; omega)
  obtain ⟨l5a, c5a, f5a⟩ := hK5.blk w.heap.size (by first | omega | (simp <;> omega)) (by simp); obtain ⟨l5b, c5b, f5b⟩ := hK5.blk (w.heap.size + 1) (by first | omega | (simp <;> omega)) (by simp); obtain ⟨l5c, c5c, f5c⟩ := hK5.blk bl (by first | omega | (simp <;> omega)) (by simp)
  clear hgrow hrow hK4 l4a l4b l4c c4a c4b c4c f4a f4b f4c
  have hfs : IsFs w5.drew (.slice (some ⟨g5, 0, none⟩) 4 cap5) [fTx, fObj, fOp, fVal] := ⟨g5, cap5, rfl, own_base hown5 (Nat.zero_le _)⟩
  have hw : Kp [] w w5.drew := ((((Kp.refl [] w).alloc _).alloc _).trans hK5 (by simp)).drew
  clear hown5
  go_wp2
  go_region_with (first
    | (go_at_call 143; refine (list_any _ _ _ _).mono ?_; rintro e1 w5 ⟨⟨b5, _, rfl, hb5⟩, hk5⟩; obtain ⟨l5a, c5a, f5a⟩ := hk5.blk w.heap.size (by first | omega | (simp <;> omega)) (by simp); obtain ⟨l5b, c5b, f5b⟩ := hk5.blk (w.heap.size + 1) (by first | omega | (simp <;> omega)) (by simp); have hfs5 := hfs.kp hk5; have hw5 := hw.trans hk5 (by simp))
    | (go_at_call 144; refine (next144_no _ _ _ e _ _ hb5 hfs5 HF.out).mono ?_; rintro e1 w6 ⟨rfl, hk6⟩; obtain ⟨l6b, c6b, f6b⟩ := hk6.blk (w.heap.size + 1) l5b (by simp); have hw6 := hw5.trans hk6 (by simp); unfold zeroF))
  all_goals go_wp2
  all_goals refine bodyPost_ret (v := .tuple #[zeroF, .bool false]) ?_ rfl ⟨rfl, ?_⟩
  all_goals first | exact hw6 | (simp [results, Tryz.results147, go_sem, zeroF, *]; done) | (repeat (first | exact hw6 | refine Kp.drew ?_ | refine Kp.alloc ?_ _ | refine Kp.setCell ?_ _ _ (fun h => absurd h (by simp))))
end Go.Proofs.YtbogjkggfdhckaaGreatDoor

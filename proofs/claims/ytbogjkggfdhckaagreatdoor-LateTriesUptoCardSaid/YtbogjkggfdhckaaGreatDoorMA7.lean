/-
  Lemmas on the way to Rr1: Sh2, Sh3, Sh4, Sh5, Sh6, Do, Sh7, Au.
-/
import Derived.Test.YtbogjkggfdhckaaGreatDoorMA4
import Derived.Test.YtbogjkggfdhckaaGreatDoorMA3
import Derived.BigRegion
import Derived.Deep.AppendLies
import Derived.Laws.OwnMore
import Derived.Test.YtbogjkggfdhckaaGreatDoorMA2
import Derived.Test.YtbogjkggfdhckaaGreatDoorMA6
/-
  shape: what an event does with its transaction: the moves' closures.
-/
namespace Go.Proofs.YtbogjkggfdhckaaGreatDoor
open Go.RowKit Go.Um

/-- The cells of a transaction and its stand. -/
def stF (t : Tx) (vd : Value) (s : Int) : Nat → Value
  | 0 => .int .i64 t.id
  | 1 => .int .i64 t.thread
  | 2 => .int .i64 t.status
  | 3 => .int .i64 t.begin_
  | 4 => .int .i64 t.end_
  | 5 => .int .i64 t.try_
  | 6 => vd
  | _ => .int .i64 s
structure IsSt (w : World) (b : Nat) (t : Tx) (vd : Value) (s : Int) : Prop where
  lt : b < w.heap.size
  fz : ∀ j, w.frozen? ⟨b, j, none⟩ = false
  c : ∀ j, j < 8 → w.cell? ⟨b, j, none⟩ = some (stF t vd s j)
theorem IsSt.kp {w w' : World} {b : Nat} {t : Tx} {vd : Value} {s : Int} {S : List Nat} (h : IsSt w b t vd s) (hk : Kp S w w') (hS : b ∉ S) : IsSt w' b t vd s := by
  obtain ⟨l, c, f⟩ := hk.blk b h.lt hS
  exact ⟨l, fun j => (f j).trans (h.fz j), fun j hj => (c j).trans (h.c j hj)⟩
theorem IsSt.alloc {w : World} {b : Nat} {t : Tx} {vd : Value} {s : Int} (h : IsSt w b t vd s) (o : Obj) : IsSt (w.alloc o) b t vd s := h.kp ((Kp.refl [] _).alloc o) (by simp)
theorem IsSt.drew {w : World} {b : Nat} {t : Tx} {vd : Value} {s : Int} (h : IsSt w b t vd s) : IsSt w.drew b t vd s := ⟨h.lt, h.fz, h.c⟩
theorem IsSt.put {w : World} {b : Nat} {t t' : Tx} {vd vd' : Value} {s s' : Int} (h : IsSt w b t vd s) (k : Nat) (v : Value) (hv : ∀ j, j < 8 → stF t' vd' s' j = if j = k then v else stF t vd s j) : IsSt (w.setCell ⟨b, k, none⟩ v) b t' vd' s' :=
  ⟨by rw [World.size_setCell]; exact h.lt, fun j => by rw [World.frozen?_setCell]; exact h.fz j, fun j hj => by rw [cells_setCell h.c v j hj, hv j hj]⟩
theorem eight {P : Nat → Prop} (h0 : P 0) (h1 : P 1) (h2 : P 2) (h3 : P 3) (h4 : P 4) (h5 : P 5) (h6 : P 6) (h7 : P 7) : ∀ j, j < 8 → P j
  | 0, _ => h0
  | 1, _ => h1
  | 2, _ => h2
  | 3, _ => h3
  | 4, _ => h4
  | 5, _ => h5
  | 6, _ => h6
  | 7, _ => h7
  | _ + 8, h => by omega

theorem IsSt.stand {w : World} {b : Nat} {t : Tx} {vd : Value} {s : Int} (h : IsSt w b t vd s) (x : Int) : IsSt (w.setCell ⟨b, 7, none⟩ (.int .i64 x)) b t vd x :=
  h.put 7 _ (eight rfl rfl rfl rfl rfl rfl rfl rfl)
theorem IsSt.status {w : World} {b : Nat} {t : Tx} {vd : Value} {s : Int} (h : IsSt w b t vd s) (x : Int) : IsSt (w.setCell ⟨b, 2, none⟩ (.int .i64 x)) b { t with status := x } vd s :=
  h.put 2 _ (eight rfl rfl rfl rfl rfl rfl rfl rfl)
theorem IsSt.end_ {w : World} {b : Nat} {t : Tx} {vd : Value} {s : Int} (h : IsSt w b t vd s) (x : Int) : IsSt (w.setCell ⟨b, 4, none⟩ (.int .i64 x)) b { t with end_ := x } vd s :=
  h.put 4 _ (eight rfl rfl rfl rfl rfl rfl rfl rfl)
theorem IsSt.try_ {w : World} {b : Nat} {t : Tx} {vd : Value} {s : Int} (h : IsSt w b t vd s) (x : Int) : IsSt (w.setCell ⟨b, 5, none⟩ (.int .i64 x)) b { t with try_ := x } vd s :=
  h.put 5 _ (eight rfl rfl rfl rfl rfl rfl rfl rfl)
theorem IsSt.deeds {w : World} {b : Nat} {t : Tx} {vd : Value} {s : Int} (h : IsSt w b t vd s) (v : Value) (l : List Dd) : IsSt (w.setCell ⟨b, 6, none⟩ v) b { t with deeds := l } v s :=
  h.put 6 _ (eight rfl rfl rfl rfl rfl rfl rfl rfl)
theorem IsSt.drewN {w : World} {b : Nat} {t : Tx} {vd : Value} {s : Int} (h : IsSt w b t vd s) (n : Nat) : IsSt (w.drewN n) b t vd s := ⟨h.lt, h.fz, h.c⟩
theorem IsSt.other {w : World} {b : Nat} {t : Tx} {vd : Value} {s : Int} (h : IsSt w b t vd s) (p : Addr) (v : Value) (hp : b ≠ p.block) : IsSt (w.setCell p v) b t vd s :=
  h.kp (S := [p.block]) ((Kp.refl _ _).setCell p v (fun _ => by simp)) (by simpa using hp)
theorem IsSt.only {w : World} {b : Nat} {t : Tx} {vd : Value} {s : Int} (h : IsSt w b t vd s) (l : List Dd) : IsSt w b { t with deeds := l } vd s :=
  ⟨h.lt, h.fz, eight (h.c 0 (by decide)) (h.c 1 (by decide)) (h.c 2 (by decide)) (h.c 3 (by decide)) (h.c 4 (by decide)) (h.c 5 (by decide)) (h.c 6 (by decide)) (h.c 7 (by decide))⟩

set_option maxHeartbeats 1000000 in
theorem end_any (b bs : Nat) (status : Int) (ev : Nat → Int) (at_ : Int) (t : Tx) (vd : Value) (s : Int) (w : World) (h : IsSt w b t vd s) (hs : w.cell? ⟨bs, 0, none⟩ = some (.int .i64 status)) (_hb : bs ≠ b) :
    Calls Tryz.prog 125 #[.pointer (some ⟨b, 0, none⟩), evV ev, .int .i64 at_, .pointer (some ⟨bs, 0, none⟩)] w fun e w' => e = .returned .nilIface ∧ IsSt w' b { t with status := status, end_ := at_ } vd 5 ∧ Kp [b] w w' := by
  have hbl := h.lt
  have hfz := h.fz
  have hbsl : bs < w.heap.size := World.block_lt_of_cell? w _ hs
  have c0 := h.c 0 (by decide)
  have c1 := h.c 1 (by decide)
  have c2 := h.c 2 (by decide)
  have c3 := h.c 3 (by decide)
  have c4 := h.c 4 (by decide)
  have c5 := h.c 5 (by decide)
  have c6 := h.c 6 (by decide)
  have c7 := h.c 7 (by decide)
  simp only [stF] at c0 c1 c2 c3 c4 c5 c6 c7
  have H := Lib.hid h
  clear h
  unfold evV
  go_enter Tryz.func125, Tryz.ntmps125
  go_wp2
  go_region
  all_goals go_wp2
  all_goals go_ret
  exact ⟨ret_congr rfl, by first | exact (((H.out.stand _).end_ _).status _).alloc _ | exact ((((H.out.stand _).end_ _).status _).alloc _).drew,
    by repeat (first | exact Kp.refl _ _ | refine Kp.drew ?_ | refine Kp.alloc ?_ _ | refine Kp.setCell ?_ _ _ (fun _ => by simp))⟩

theorem try_any (b : Nat) (ev : Nat → Int) (at_ : Int) (t : Tx) (vd : Value) (s : Int) (w : World) (h : IsSt w b t vd s) :
    Calls Tryz.prog 129 #[.pointer (some ⟨b, 0, none⟩), evV ev, .int .i64 at_] w fun e w' => e = .returned .nilIface ∧ IsSt w' b { t with try_ := at_, status := 2 } vd 3 ∧ Kp [b] w w' := by
  have hbl := h.lt
  have hfz := h.fz
  have c2 := h.c 2 (by decide)
  have c5 := h.c 5 (by decide)
  have c7 := h.c 7 (by decide)
  simp only [stF] at c2 c5 c7
  have H := Lib.hid h
  clear h
  unfold evV
  go_enter Tryz.func129, Tryz.ntmps129
  go_wp2
  go_ret
  exact ⟨ret_congr rfl, (((H.out.stand _).try_ _).status _).alloc _,
    by repeat (first | exact Kp.refl _ _ | refine Kp.drew ?_ | refine Kp.alloc ?_ _ | refine Kp.setCell ?_ _ _ (fun _ => by simp))⟩

theorem cancel_any (b : Nat) (ev : Nat → Int) (at_ : Int) (t : Tx) (vd : Value) (s : Int) (w : World) (h : IsSt w b t vd s) :
    Calls Tryz.prog 130 #[.pointer (some ⟨b, 0, none⟩), evV ev, .int .i64 at_] w fun e w' => e = .returned .nilIface ∧ IsSt w' b t vd 4 ∧ Kp [b] w w' := by
  have hbl := h.lt
  have hfz := h.fz
  have c7 := h.c 7 (by decide)
  simp only [stF] at c7
  have H := Lib.hid h
  clear h
  unfold evV
  go_enter Tryz.func130, Tryz.ntmps130
  go_wp2
  go_ret
  exact ⟨ret_congr rfl, (H.out.stand _).alloc _,
    by repeat (first | exact Kp.refl _ _ | refine Kp.drew ?_ | refine Kp.alloc ?_ _ | refine Kp.setCell ?_ _ _ (fun _ => by simp))⟩
theorem mk_any (n : Int) (w : World) : Calls Tryz.prog 124 #[.int .i64 n] w fun e w' => (∃ b, w.heap.size ≤ b ∧ e = .returned (.func (.func 125) #[] #[.pointer (some ⟨b, 0, none⟩)]) ∧ w'.cell? ⟨b, 0, none⟩ = some (.int .i64 n) ∧ w'.cell? ⟨b, 1, none⟩ = none) ∧ Kp [] w w' := by
  go_enter Tryz.func124, Tryz.ntmps124
  go_wp2
  go_ret
  exact ⟨⟨w.heap.size, by omega, rfl, by simp, by rw [World.cell?_alloc_new]; rfl⟩, (Kp.refl _ _).alloc _⟩
end Go.Proofs.YtbogjkggfdhckaaGreatDoor

/-
  shape: the moves of a call and of a return.
-/
namespace Go.Proofs.YtbogjkggfdhckaaGreatDoor
open Go.RowKit Go.Um

/-- The deeds' slice. -/
abbrev tDeed : Nat := 43
def OwnD (w : World) (B : Nat) (vd : Value) (l : List Dd) : Prop := w.ownsRow B tDeed 8 vd l.length (flatD l)
theorem fits_q (op ret : Int) (w : World) : Calls Tryz.prog 128 #[.int .i64 op, .int .i64 ret] w fun e w' => e = .returned (.bool (fitsB op ret)) ∧ w' = w :=
  (fits_any op ret w).mono fun _ _ ⟨h, k⟩ => ⟨h, k.symm⟩
theorem flatD_snoc (l : List Dd) (d : Dd) : flatD (l ++ [d]) = flatD l ++ d.cells := by simp [flatD]
theorem flatD_last (l : List Dd) (d : Dd) (j : Nat) (hj : j < 8) : (flatD (l ++ [d]))[l.length * 8 + j]? = d.cells[j]? := by
  have hl : (flatD l).length = l.length * 8 := flat_len Dd.cells 8 (fun _ => rfl) l
  rw [flatD_snoc, List.getElem?_append_right (by omega)]
  congr 1
  omega
theorem flatD_set (l : List Dd) (d : Dd) (j : Nat) (v : Value) : (flatD (l ++ [d])).set (l.length * 8 + j) v = flatD l ++ d.cells.set j v := by
  have hl : (flatD l).length = l.length * 8 := flat_len Dd.cells 8 (fun _ => rfl) l
  rw [flatD_snoc, List.set_append_right _ _ (by omega)]
  congr 2
  omega

set_option maxRecDepth 100000 in
set_option maxHeartbeats 2000000 in
theorem ret_any_ok (_E : Nat → Addr) (b g cap B : Nat) (ev : Nat → Int) (at_ : Int) (t : Tx) (l : List Dd) (d : Dd) (s : Int) (w : World) (h : IsSt w b t (.slice (some ⟨g, 0, none⟩) (l.length + 1) cap) s)
    (ho : OwnD w B (.slice (some ⟨g, 0, none⟩) (l.length + 1) cap) (l ++ [d])) (_hd : t.deeds = l ++ [d]) (hgb : g ≠ b) (hl : l.length < 1000000) (hfit : fitsB d.op (ev 7) = true) :
    Calls Tryz.prog 127 #[.pointer (some ⟨b, 0, none⟩), evV ev, .int .i64 at_] w fun e w' => e = .returned .nilIface ∧ IsSt w' b { t with deeds := l ++ [{ d with ret := ev 7, got := ev 6, back := at_ }] } (.slice (some ⟨g, 0, none⟩) (l.length + 1) cap) 1 ∧
      OwnD w' B (.slice (some ⟨g, 0, none⟩) (l.length + 1) cap) (l ++ [{ d with ret := ev 7, got := ev 6, back := at_ }]) ∧ Kp [b, g] w w' := by
  have hbl := h.lt
  have hfz := h.fz
  have c6 := h.c 6 (by decide)
  have c7 := h.c 7 (by decide)
  simp only [stF] at c6 c7
  have hn : (l ++ [d]).length = l.length + 1 := by simp
  unfold OwnD at ho
  rw [hn] at ho
  have hgf := ho.frozenAt
  have hgl : g < w.heap.size := (ho.lt g rfl).2
  have q : ∀ j, j < 8 → w.cell? ⟨g, l.length * 8 + j, none⟩ = d.cells[j]? := fun j hj => by
    rw [ho.cellAt _ (by omega), flatD_last l d j hj]
  have q1 := q 1 (by decide)
  have q4 := q 4 (by decide)
  have q5 := q 5 (by decide)
  have q7 := q 7 (by decide)
  simp [Dd.cells] at q1 q4 q5 q7
  have H := Lib.hid h
  have HO := Lib.hid ho
  have hb0 : (0 : Int) ≤ (l.length : Int) := by omega
  have hb1 : (l.length : Int) < ((l.length + 1 : Nat) : Int) := by omega
  clear h ho q
  unfold evV
  go_enter Tryz.func127, Tryz.ntmps127
  go_wp2
  go_region
  go_wp2
  refine wp_gen fun W hW => ?_
  have hk : Kp [] w W := by rw [hW]; exact ((Kp.refl _ _).alloc _).drew
  obtain ⟨be, hbe⟩ : ∃ x, x = w.heap.size := ⟨_, rfl⟩
  rw [← hbe]
  have e6 : W.cell? ⟨be, 6, none⟩ = some (.int .i64 (ev 6)) := by rw [hW, hbe]; simp
  have e7 : W.cell? ⟨be, 7, none⟩ = some (.int .i64 (ev 7)) := by rw [hW, hbe]; simp
  have hbw : w.heap.size ≤ be := by omega
  have n1 : be ≠ b := by omega
  have n2 : b ≠ be := by omega
  have n3 : be ≠ g := by omega
  have n4 : g ≠ be := by omega
  have n5 : b ≠ g := fun h => hgb h.symm
  have q1' := (hk.cellAt q1 (by simp)).1
  have HK := Lib.hid (hk.mono (T := [b, g]) (fun x hx _ => by simp at hx))
  have H' := H.out.kp hk (by simp)
  have HO' := own_kp HO.out hk (by simp)
  clear hW hbe q1 q4 q5 q7 c6 c7 hbl hfz hgf
  go_quiet (first | (go_at_call 128; refine Calls.quiet_of_same (fits_q _ _ _)))
  simp only [hfit]
  have hbl := H'.lt
  have hfz := H'.fz
  have c7 := H'.c 7 (by decide)
  simp only [stF] at c7
  have hgf := HO'.frozenAt
  have hgl := (HO'.lt g rfl).2
  have q : ∀ j, j < 8 → W.cell? ⟨g, l.length * 8 + j, none⟩ = d.cells[j]? := fun j hj => by
    rw [HO'.cellAt _ (by omega), flatD_last l d j hj]
  have q4 := q 4 (by decide)
  have q5 := q 5 (by decide)
  have q7 := q 7 (by decide)
  simp [Dd.cells] at q4 q5 q7
  replace H' := Lib.hid H'
  replace HO' := Lib.hid HO'
  clear q q1'
  go_wp2
  refine wp_gen fun W2 hW2 => ?_
  rw [hW2]
  go_region
  all_goals go_wp2
  all_goals go_ret
  have o1 := own_kp (w' := (W.drewN (nq + 1)).setCell ⟨b, 7, none⟩ (.int .i64 1)) (S := [b]) HO'.out (((Kp.refl _ _).drewN _).setCell _ _ (fun _ => by simp)) (fun x hx => by simp [Value.ownBlock] at hx; simp; omega)
  have o2 := (o1.stored (l.length * 8 + 4) (.int .i64 (ev 7))).1
  have o3 := (o2.stored (l.length * 8 + 5) (.int .i64 (ev 6))).1
  have o4 := (o3.stored (l.length * 8 + 7) (.int .i64 at_)).1
  refine ⟨ret_congr rfl, ?_, ?_, ?_⟩
  · exact ((((((H'.out.drewN _).stand _).other _ _ n5).other _ _ n5).other _ _ n5)).only _
  · unfold OwnD
    have e : flatD (l ++ [{ d with ret := ev 7, got := ev 6, back := at_ }]) = (((flatD (l ++ [d])).set (l.length * 8 + 4) (.int .i64 (ev 7))).set (l.length * 8 + 5) (.int .i64 (ev 6))).set (l.length * 8 + 7) (.int .i64 at_) := by
      have hl : (flatD l).length = l.length * 8 := flat_len Dd.cells 8 (fun _ => rfl) l
      rw [flatD_set, List.set_append_right _ _ (by omega), List.set_append_right _ _ (by omega), flatD_snoc]
      congr 1
      simp [hl, Dd.cells]
    rw [e]
    simpa using o4
  · exact (HK.out.trans (T := [b, g]) (by repeat (first | exact Kp.refl _ _ | refine Kp.drew ?_ | refine Kp.drewN ?_ _ | refine Kp.alloc ?_ _ | refine Kp.setCell ?_ _ _ (fun _ => by simp))) (fun x hx _ => hx)).mono (fun x hx _ => hx)
end Go.Proofs.YtbogjkggfdhckaaGreatDoor

/-
  shape: the move of a call.
-/
namespace Go.Proofs.YtbogjkggfdhckaaGreatDoor
open Go.RowKit Go.Um

theorem addr_plus (b o j : Nat) : ((⟨b, o, none⟩ : Addr).add j) = ⟨b, o + j, none⟩ := by unfold Addr.add; split <;> simp_all
theorem info_deed : (Tryz.prog.info? tDeed).map (fun i => (i.zero, i.size, i.bytes)) = some (some (.agg #[.int .i64 0, .int .i64 0, .int .i64 0, .int .i64 0, .int .i64 0, .int .i64 0, .int .i64 0, .int .i64 0]), 8, 64) := by kernel_rfl

set_option maxRecDepth 100000 in
set_option maxHeartbeats 2000000 in
theorem call_any (b B : Nat) (ev : Nat → Int) (at_ : Int) (t : Tx) (vd : Value) (s : Int) (w : World) (h : IsSt w b t vd s) (ho : OwnD w B vd t.deeds) (hv : vd.ownBlock ≠ some b) (hl : t.deeds.length < 1000000) (hB : B ≤ w.heap.size) :
    Calls Tryz.prog 126 #[.pointer (some ⟨b, 0, none⟩), evV ev, .int .i64 at_] w fun e w' => e = .returned .nilIface ∧
      (∃ g cap, IsSt w' b { t with deeds := t.deeds ++ [⟨ev 3, ev 4, ev 5, ev 6, 0, 0, at_, -1⟩] } (.slice (some ⟨g, 0, none⟩) (t.deeds.length + 1) cap) 2 ∧
        OwnD w' B (.slice (some ⟨g, 0, none⟩) (t.deeds.length + 1) cap) (t.deeds ++ [⟨ev 3, ev 4, ev 5, ev 6, 0, 0, at_, -1⟩]) ∧ (vd.ownBlock = some g ∨ w.heap.size ≤ g)) ∧ Kp (b :: vd.ownBlock.toList) w w' := by
  have hbl := h.lt
  have hfz := h.fz
  have c7 := h.c 7 (by decide)
  simp only [stF] at c7
  have H := Lib.hid h
  have HO := Lib.hid ho
  have HV := Lib.hid hv
  clear h ho hv
  unfold evV
  go_enter Tryz.func126, Tryz.ntmps126
  go_wp2
  refine wp_gen fun W hW => ?_
  have hk : Kp [b] w W := by rw [hW]; exact (((Kp.refl _ _).setCell _ _ (fun _ => by simp)).alloc _)
  have hS : IsSt W b t vd 2 := by rw [hW]; exact (H.out.stand _).alloc _
  obtain ⟨be, hbe⟩ : ∃ x, x = w.heap.size := ⟨_, rfl⟩
  rw [← hbe]
  have e3 : W.cell? ⟨be, 3, none⟩ = some (.int .i64 (ev 3)) := by rw [hW, hbe]; simp [go_sem]
  have e4 : W.cell? ⟨be, 4, none⟩ = some (.int .i64 (ev 4)) := by rw [hW, hbe]; simp [go_sem]
  have e5 : W.cell? ⟨be, 5, none⟩ = some (.int .i64 (ev 5)) := by rw [hW, hbe]; simp [go_sem]
  have e6 : W.cell? ⟨be, 6, none⟩ = some (.int .i64 (ev 6)) := by rw [hW, hbe]; simp [go_sem]
  have hlW : be < W.heap.size := by rw [hW, hbe]; simp [go_sem]
  have n1 : be ≠ b := by omega
  have n2 : b ≠ be := by omega
  have HO' := Lib.hid (own_kp HO.out hk (fun x hx => by simp; intro e; subst e; exact HV.out hx))
  have HK := Lib.hid hk
  have hBe : B ≤ be := by omega
  have hbeq := Lib.hid hbe
  clear hW hbe c7 hbl hfz hk hB
  have hbl := hS.lt
  have hfz := hS.fz
  have c6 := hS.c 6 (by decide)
  simp only [stF] at c6
  replace hS := Lib.hid hS
  obtain ⟨i0, hi, hz0, hz1, hz2⟩ := info_parts info_deed
  have hn : (flatD [(⟨ev 3, ev 4, ev 5, ev 6, 0, 0, at_, -1⟩ : Dd)]).length = 1 * 8 := rfl
  have hz8 : (Value.agg #[.int .i64 0, .int .i64 0, .int .i64 0, .int .i64 0, .int .i64 0, .int .i64 0, .int .i64 0, .int .i64 0]).cells.size = 8 := rfl
  have hone : ∀ u ∈ Dd.cells ⟨ev 3, ev 4, ev 5, ev 6, 0, 0, at_, -1⟩, u.oneCell' = true := by intro u hu; simp [Dd.cells] at hu; rcases hu with rfl | rfl | rfl | rfl | rfl | rfl | rfl | rfl <;> rfl
  have hbx : b < (W.alloc (.cells #[.int .i64 (ev 3), .int .i64 (ev 4), .int .i64 (ev 5), .int .i64 (ev 6), .int .i64 0, .int .i64 0, .int .i64 at_, .int .i64 (-1)] 43)).drew.heap.size := by simp; omega
  have hbex : be < (W.alloc (.cells #[.int .i64 (ev 3), .int .i64 (ev 4), .int .i64 (ev 5), .int .i64 (ev 6), .int .i64 0, .int .i64 0, .int .i64 at_, .int .i64 (-1)] 43)).drew.heap.size := by simp; omega
  have hbev : be ∉ vd.ownBlock.toList := by
    intro h
    have := (HO.out.lt be (by simpa using h)).2
    have := hbeq.out
    omega
  have hbv : b ∉ vd.ownBlock.toList := by simpa using HV.out
  have hmx : t.deeds.length + 1 ≤ maxLen := by simp only [maxLen]; omega
  have hby : (t.deeds.length + 1) * 64 ≤ 140737488355328 := by omega
  have hbK : ∀ c : Bool, b ∉ (if c then vd.ownBlock.toList else []) := fun c => by cases c <;> simp [hbv]
  have hbeK : ∀ c : Bool, be ∉ (if c then vd.ownBlock.toList else []) := fun c => by cases c <;> simp [hbev]
  have hnew : ∀ g, W.heap.size ≤ g → g ∉ vd.ownBlock.toList := fun g hg h => by
    have := (HO'.out.lt g (by simpa using h)).2
    omega
  refine wp_region_ao3 21 17 (fun c w' => Kp (if c then vd.ownBlock.toList else []) W w') (Kp []) (Kp vd.ownBlock.toList)
    (fun i v w' => match i with
      | 5 => v = vd
      | 4 => v = .pointer (some ⟨b, 6, none⟩)
      | 20 => v = .pointer (some ⟨b, 6, none⟩)
      | 6 => v = .pointer (some ⟨be, 3, none⟩)
      | 7 => v = .int .i64 (ev 3)
      | 8 => v = .pointer (some ⟨be, 4, none⟩)
      | 9 => v = .int .i64 (ev 4)
      | 10 => v = .pointer (some ⟨be, 5, none⟩)
      | 11 => v = .int .i64 (ev 5)
      | 12 => v = .pointer (some ⟨be, 6, none⟩)
      | 13 => v = .int .i64 (ev 6)
      | 14 => v = .int .i64 at_
      | 15 => v = .agg #[.int .i64 (ev 3), .int .i64 (ev 4), .int .i64 (ev 5), .int .i64 (ev 6), .int .i64 0, .int .i64 0, .int .i64 at_, .int .i64 (-1)]
      | 16 => ∃ g, v = .slice (some ⟨g, 0, none⟩) 1 1 ∧ W.heap.size ≤ g ∧ g < w'.heap.size ∧ ∀ (k : Nat) u, (flatD [(⟨ev 3, ev 4, ev 5, ev 6, 0, 0, at_, -1⟩ : Dd)])[k]? = some u → w'.cell? ⟨g, k, none⟩ = some u
      | 17 => ∃ g cap, v = .slice (some ⟨g, 0, none⟩) (t.deeds.length + 1) cap ∧ w'.ownsRow B tDeed 8 (.slice (some ⟨g, 0, none⟩) (t.deeds.length + 1) cap) (t.deeds.length + 1) (flatD t.deeds ++ flatD [(⟨ev 3, ev 4, ev 5, ev 6, 0, 0, at_, -1⟩ : Dd)]) ∧ (vd.ownBlock = some g ∨ W.heap.size ≤ g)
      | _ => v = .pointer (some ⟨b, 0, none⟩))
    mixed (by kernel_rfl) (by kernel_rfl) (Kp.refl _ _).drew ?st1 ?st2 ?hops ?fin
  case st1 =>
    intro i v w1 w2 h hk
    match i, h with
    | 16, ⟨g, h1, h2, h3, h4⟩ => exact ⟨g, h1, h2, Nat.lt_of_lt_of_le h3 hk.size, fun k u hu => (hk.cellAt (h4 k u hu) (by simp)).1⟩
    | 17, ⟨g, cap, h1, h2, h3⟩ => exact ⟨g, cap, h1, own_kp h2 hk (by simp), h3⟩
    | 0, h => exact h
    | 1, h => exact h
    | 2, h => exact h
    | 3, h => exact h
    | 4, h => exact h
    | 5, h => exact h
    | 6, h => exact h
    | 7, h => exact h
    | 8, h => exact h
    | 9, h => exact h
    | 10, h => exact h
    | 11, h => exact h
    | 12, h => exact h
    | 13, h => exact h
    | 14, h => exact h
    | 15, h => exact h
    | 18, h => exact h
    | 19, h => exact h
    | 20, h => exact h
    | _ + 21, h => exact h
  case st2 =>
    intro i v w1 w2 hi h hk
    match i, hi, h with
    | 16, _, ⟨g, h1, h2, h3, h4⟩ => exact ⟨g, h1, h2, Nat.lt_of_lt_of_le h3 hk.size, fun k u hu => (hk.cellAt (h4 k u hu) (hnew g h2)).1⟩
    | 17, hi, _ => exact absurd rfl hi
    | 0, _, h => exact h
    | 1, _, h => exact h
    | 2, _, h => exact h
    | 3, _, h => exact h
    | 4, _, h => exact h
    | 5, _, h => exact h
    | 6, _, h => exact h
    | 7, _, h => exact h
    | 8, _, h => exact h
    | 9, _, h => exact h
    | 10, _, h => exact h
    | 11, _, h => exact h
    | 12, _, h => exact h
    | 13, _, h => exact h
    | 14, _, h => exact h
    | 15, _, h => exact h
    | 18, _, h => exact h
    | 19, _, h => exact h
    | 20, _, h => exact h
    | _ + 21, _, h => exact h
  case hops =>
    simp only [List.take, aoAll3, aoSet]
    refine ⟨?_, ?_, ?_, ?_, ?_, ?_, ?_, ?_, ?_, ?_, ?_, ?_, ?_, ?_, ?_, ?_, ?_, ?_, ?_, ?_, ?_, trivial⟩
    · intro c x w1 _ hK hd
      go_wp2
      exact ⟨_, by simp [put1, Act.put], by simpa using hK, by simpa using Kp.refl [] w1, rfl⟩
    · intro c x w1 _ hK hd
      go_wp2
      exact ⟨_, by simp [put1, Act.put], by simpa using hK, by simpa using Kp.refl [] w1, rfl⟩
    · intro c x w1 _ hK hd
      obtain ⟨h1, _⟩ := hd
      have h1 := h1 rfl
      dsimp only at h1
      go_wp2
      exact ⟨_, by simp [put1, Act.put, h1], by simpa using hK, by simpa using Kp.refl [] w1, rfl⟩
    · intro c x w1 _ hK hd
      obtain ⟨h1, _⟩ := hd
      have h1 := h1 rfl
      dsimp only at h1
      go_wp2
      exact ⟨_, by simp [put1, Act.put, h1], by simpa using hK, by simpa using Kp.refl [] w1, rfl⟩
    · intro c x w1 _ hK hd
      obtain ⟨h1, _⟩ := hd
      have h1 := h1 rfl
      dsimp only at h1
      go_wp2
      exact ⟨_, by simp [put1, Act.put, h1], by simpa using hK, by simpa using Kp.refl [] w1, rfl⟩
    · intro c x w1 _ hK hd
      obtain ⟨h1, _⟩ := hd
      have h1 := h1 rfl
      dsimp only at h1
      have hk6 := (hK.cellAt c6 (hbK c)).1
      have hb6 := (hK.blk b hbl (hbK c)).1
      have g3 := (hK.cellAt e3 (hbeK c)).1
      have g4 := (hK.cellAt e4 (hbeK c)).1
      have g5 := (hK.cellAt e5 (hbeK c)).1
      have g6 := (hK.cellAt e6 (hbeK c)).1
      have gl := (hK.blk be hlW (hbeK c)).1
      go_wp2
      exact ⟨_, by simp [put1, Act.put, h1], by simpa using hK, by simpa using Kp.refl [] w1, rfl⟩
    · intro c x w1 _ hK hd
      go_wp2
      exact ⟨_, by simp [put1, Act.put], by simpa using hK, by simpa using Kp.refl [] w1, rfl⟩
    · intro c x w1 _ hK hd
      obtain ⟨h1, _⟩ := hd
      have h1 := h1 rfl
      dsimp only at h1
      have hk6 := (hK.cellAt c6 (hbK c)).1
      have hb6 := (hK.blk b hbl (hbK c)).1
      have g3 := (hK.cellAt e3 (hbeK c)).1
      have g4 := (hK.cellAt e4 (hbeK c)).1
      have g5 := (hK.cellAt e5 (hbeK c)).1
      have g6 := (hK.cellAt e6 (hbeK c)).1
      have gl := (hK.blk be hlW (hbeK c)).1
      go_wp2
      exact ⟨_, by simp [put1, Act.put, h1], by simpa using hK, by simpa using Kp.refl [] w1, rfl⟩
    · intro c x w1 _ hK hd
      go_wp2
      exact ⟨_, by simp [put1, Act.put], by simpa using hK, by simpa using Kp.refl [] w1, rfl⟩
    · intro c x w1 _ hK hd
      obtain ⟨h1, _⟩ := hd
      have h1 := h1 rfl
      dsimp only at h1
      have hk6 := (hK.cellAt c6 (hbK c)).1
      have hb6 := (hK.blk b hbl (hbK c)).1
      have g3 := (hK.cellAt e3 (hbeK c)).1
      have g4 := (hK.cellAt e4 (hbeK c)).1
      have g5 := (hK.cellAt e5 (hbeK c)).1
      have g6 := (hK.cellAt e6 (hbeK c)).1
      have gl := (hK.blk be hlW (hbeK c)).1
      go_wp2
      exact ⟨_, by simp [put1, Act.put, h1], by simpa using hK, by simpa using Kp.refl [] w1, rfl⟩
    · intro c x w1 _ hK hd
      go_wp2
      exact ⟨_, by simp [put1, Act.put], by simpa using hK, by simpa using Kp.refl [] w1, rfl⟩
    · intro c x w1 _ hK hd
      obtain ⟨h1, _⟩ := hd
      have h1 := h1 rfl
      dsimp only at h1
      have hk6 := (hK.cellAt c6 (hbK c)).1
      have hb6 := (hK.blk b hbl (hbK c)).1
      have g3 := (hK.cellAt e3 (hbeK c)).1
      have g4 := (hK.cellAt e4 (hbeK c)).1
      have g5 := (hK.cellAt e5 (hbeK c)).1
      have g6 := (hK.cellAt e6 (hbeK c)).1
      have gl := (hK.blk be hlW (hbeK c)).1
      go_wp2
      exact ⟨_, by simp [put1, Act.put, h1], by simpa using hK, by simpa using Kp.refl [] w1, rfl⟩
    · intro c x w1 _ hK hd
      go_wp2
      exact ⟨_, by simp [put1, Act.put], by simpa using hK, by simpa using Kp.refl [] w1, rfl⟩
    · intro c x w1 _ hK hd
      obtain ⟨h1, _⟩ := hd
      have h1 := h1 rfl
      dsimp only at h1
      have hk6 := (hK.cellAt c6 (hbK c)).1
      have hb6 := (hK.blk b hbl (hbK c)).1
      have g3 := (hK.cellAt e3 (hbeK c)).1
      have g4 := (hK.cellAt e4 (hbeK c)).1
      have g5 := (hK.cellAt e5 (hbeK c)).1
      have g6 := (hK.cellAt e6 (hbeK c)).1
      have gl := (hK.blk be hlW (hbeK c)).1
      go_wp2
      exact ⟨_, by simp [put1, Act.put, h1], by simpa using hK, by simpa using Kp.refl [] w1, rfl⟩
    · intro c x w1 _ hK hd
      go_wp2
      exact ⟨_, by simp [put1, Act.put], by simpa using hK, by simpa using Kp.refl [] w1, rfl⟩
    · intro c x w1 _ hK hd
      obtain ⟨h1, h2, h3, h4, h5, _⟩ := hd
      have h1 := h1 rfl
      have h2 := h2 rfl
      have h3 := h3 rfl
      have h4 := h4 rfl
      have h5 := h5 rfl
      dsimp only at h1 h2 h3 h4 h5
      go_wp2
      exact ⟨_, by simp [put1, Act.put, h1, h2, h3, h4, h5], by simpa using hK, by simpa using Kp.refl [] w1, rfl⟩
    · intro c x w1 _ hK hd
      obtain ⟨h1, _⟩ := hd
      have h1 := h1 rfl
      dsimp only at h1
      go_wp2
      refine ⟨_, by simp [put1, Act.put, h1], by simpa using hK.alloc _, by simpa using (Kp.refl [] w1).alloc _, _, rfl, hK.size, by simp, fun k u hu => ?_⟩
      rw [World.cell?_alloc_new]
      simpa [flatD, Dd.cells] using hu
    · intro c x w1 hc hK hd
      obtain ⟨h5, h16, _⟩ := hd
      have h5 : x 5 = vd := h5 rfl
      have h16 := h16 rfl
      dsimp only at h16
      obtain rfl : c = false := by simpa using hc
      obtain ⟨gx, hv16, hgx, hgl, hgc⟩ := h16
      have hK0 : Kp [] W w1 := by simpa using hK
      have hrow := own_kp HO'.out hK0 (by simp)
      have hb0 : B ≤ w1.heap.size := by have := hK0.size; omega
      have HR := Lib.hid hrow
      have HKW := Lib.hid hK0
      clear hrow hK hK0
      simp only [Nat.zero_add, Nat.reduceAdd, h5, hv16, Act.put, List.setIfInBounds_toArray, List.set_cons_zero, List.set_cons_succ]
      at_builtin
      refine wpList_append_lies (w := _) (hgd := by rfl) (s := .tmp 15) (x := .tmp 26) (t := 39) (ho := by rfl) (base := B) (e := tDeed) (i := i0) (z := .agg #[.int .i64 0, .int .i64 0, .int .i64 0, .int .i64 0, .int .i64 0, .int .i64 0, .int .i64 0, .int .i64 0]) (size := 8) (bytes := 64) (ht := Tryz.underlying39) (hi := hi) (hz := hz0) (hsize := hz1) (hby := hz2) (hzs := hz8) (hsz := by decide) (v := vd) (n := t.deeds.length) (xs := flatD t.deeds) (hs := by rfl) (hown := HR.out) (ad := ⟨gx, 0, none⟩) (m := 1) (c := 1) (news := flatD [(⟨ev 3, ev 4, ev 5, ev 6, 0, 0, at_, -1⟩ : Dd)]) (hx := by rfl) (hl := by rfl) (hnews := by intro k u hu; rw [addr_plus]; rw [Nat.zero_add]; exact hgc k u hu) (h1 := by intro u hu; exact hone u (by simpa [flatD] using hu)) (hm := by decide) (h63 := hmx) (hbytes := hby) (hbase := hb0) (H := _) (hH := by rfl) ?_
      intro g cap w5 hown5 hgr5 hat5 hlt5
      have hkp := Kp.of_grown hgr5
      have hx5 := Lib.hid h5
      have hx16 := Lib.hid hv16
      clear h5 hv16
      go_wp2
      refine ⟨.slice (some ⟨g, 0, none⟩) (t.deeds.length + 1) cap, by simp [put1, hx5.out, hx16.out], by simpa using (HKW.out.mono (T := vd.ownBlock.toList) (fun x hx _ => by simp at hx)).trans hkp (fun x hx _ => hx), by simpa using hkp, g, cap, rfl, hown5, ?_⟩
      rcases hat5 with h | h
      · exact .inl h
      · exact .inr (by rw [h]; exact HKW.out.size)
    · intro c x w1 _ hK hd
      obtain ⟨h1, _⟩ := hd
      have h1 := h1 rfl
      dsimp only at h1
      go_wp2
      exact ⟨_, by simp [put1, Act.put, h1], by simpa using hK, by simpa using Kp.refl [] w1, rfl⟩
    · intro c x w1 _ hK hd
      obtain ⟨h1, _⟩ := hd
      have h1 := h1 rfl
      dsimp only at h1
      go_wp2
      exact ⟨_, by simp [put1, Act.put, h1], by simpa using hK, by simpa using Kp.refl [] w1, rfl⟩
    · intro c x w1 _ hK hd
      obtain ⟨h1, _⟩ := hd
      have h1 := h1 rfl
      dsimp only at h1
      go_wp2
      exact ⟨_, by simp [put1, Act.put, h1], by simpa using hK, by simpa using Kp.refl [] w1, rfl⟩
  case fin =>
    intro c x w1 hK hd
    have h17 := hd 17 (by decide)
    have h20 : x 20 = .pointer (some ⟨b, 6, none⟩) := hd 20 (by decide)
    obtain ⟨g, cap, h17, hown, hat⟩ := h17
    have hkp : Kp vd.ownBlock.toList W w1 := hK.mono (fun x hx _ => by cases c <;> simp at hx ⊢; exact hx)
    obtain ⟨lb1, cb1, fb1⟩ := hkp.blk b hbl hbv
    have hK1 := Lib.hid hkp
    have HOW := Lib.hid hown
    have HAT := Lib.hid hat
    simp only [List.drop, List.take, aoSet, Nat.zero_add, Nat.reduceAdd, h17, h20, Act.put, List.setIfInBounds_toArray, List.set_cons_zero, List.set_cons_succ]
    clear hK hd h17 h20 hkp hown hat
    go_wp2
    go_ret
    have hgb : b ≠ g := by
      rcases HAT.out with h | h
      · intro e; subst e; exact HV.out h
      · omega
    have hS1 : IsSt w1 b t vd 2 := hS.out.kp hK1.out hbv
    have hlen : (t.deeds ++ [(⟨ev 3, ev 4, ev 5, ev 6, 0, 0, at_, -1⟩ : Dd)]).length = t.deeds.length + 1 := by simp
    refine ⟨ret_congr rfl, ⟨g, cap, hS1.deeds _ _, ?_, ?_⟩, ?_⟩
    · unfold OwnD
      rw [hlen, flatD_snoc]
      exact own_kp (S := [b]) HOW.out ((Kp.refl _ _).setCell _ _ (fun _ => by simp)) (fun x hx => by simp [Value.ownBlock] at hx; simp; omega)
    · rcases HAT.out with h | h
      · exact .inl h
      · right; have := hbeq.out; omega
    · have hk1 : Kp (b :: vd.ownBlock.toList) w W := HK.out.mono (fun x hx _ => by simp at hx; simp [hx])
      exact (hk1.trans hK1.out (fun x hx _ => by simp; right; simpa using hx)).setCell _ _ (fun _ => by simp)
end Go.Proofs.YtbogjkggfdhckaaGreatDoor

/-
  shape: the map of the moves.
-/
namespace Go.Proofs.YtbogjkggfdhckaaGreatDoor
open Go.RowKit Go.Um

abbrev tMv : Nat := 161
theorem mu_moves (w : World) (r : Nat) (k : Int) (v : Value) (h : (w.imap? r).isSome = true) : (Instr.mapUpdate tMv (.map (some r)) (.int .i64 k) v).run Tryz.prog w = .ok () (w.setIM r (upd k v (w.imapC r) (w.imapL r)) (updC k (w.imapC r) (w.imapL r))) := run_mapUpdate_im Tryz.underlying161 Tryz.underlying3 h v

/-- What a move does: its function's value. -/
def DoOk (w : World) (k : Int) (v : Value) : Prop :=
  (k = 2 ∧ v = .func (.func 126) #[] #[]) ∨ (k = 3 ∧ v = .func (.func 127) #[] #[]) ∨ (k = 4 ∧ v = .func (.func 129) #[] #[]) ∨ (k = 7 ∧ v = .func (.func 130) #[] #[]) ∨
  (k = 5 ∧ ∃ b, v = .func (.func 125) #[] #[.pointer (some ⟨b, 0, none⟩)] ∧ w.cell? ⟨b, 0, none⟩ = some (.int .i64 3) ∧ w.cell? ⟨b, 1, none⟩ = none) ∨
  (k = 6 ∧ ∃ b, v = .func (.func 125) #[] #[.pointer (some ⟨b, 0, none⟩)] ∧ w.cell? ⟨b, 0, none⟩ = some (.int .i64 4) ∧ w.cell? ⟨b, 1, none⟩ = none)
/-- Where a transaction must stand. -/
def froms (k : Int) : List Int := if k = 2 then [1] else if k = 3 then [2] else if k = 4 then [1] else if k = 7 then [1] else if k = 5 then [3] else [1, 2, 3, 4]
def MvOk (w : World) (k : Int) (v : Value) : Prop :=
  ∃ g d, v = .agg #[.slice (some ⟨g, 0, none⟩) (froms k).length (froms k).length, d] ∧ (∀ j u, (flatI (froms k))[j]? = some u → w.cell? ⟨g, j, none⟩ = some u) ∧ DoOk w k d
def MvMap (w : World) (r : Nat) (ks : List Int) : Prop := ∃ l c, w.imap? r = some (l, c) ∧ l.map ME.key = ks ∧ ∀ e ∈ l, MvOk w e.key e.val
theorem cell_notmap {w : World} {S : List Nat} (hS : ∀ x ∈ S, ∃ y, w.imap? x = some y) {b o : Nat} {u : Value} (hb : w.cell? ⟨b, o, none⟩ = some u) : b ∉ S := by
  intro hx
  obtain ⟨⟨l, c⟩, hy⟩ := hS b hx
  have := imap_heap hy
  simp [World.cell?, this] at hb
theorem DoOk.kp {w w' : World} {k : Int} {d : Value} {S : List Nat} (h : DoOk w k d) (hk : Kp S w w') (hS : ∀ x ∈ S, ∃ y, w.imap? x = some y) : DoOk w' k d := by
  rcases h with h | h | h | h | ⟨hk5, b, hv, hb, hb1⟩ | ⟨hk5, b, hv, hb, hb1⟩
  · exact .inl h
  · exact .inr (.inl h)
  · exact .inr (.inr (.inl h))
  · exact .inr (.inr (.inr (.inl h)))
  · exact .inr (.inr (.inr (.inr (.inl ⟨hk5, b, hv, (hk.cellAt hb (cell_notmap hS hb)).1, (hk.cell (World.block_lt_of_cell? w _ hb) (cell_notmap hS hb)).trans hb1⟩))))
  · exact .inr (.inr (.inr (.inr (.inr ⟨hk5, b, hv, (hk.cellAt hb (cell_notmap hS hb)).1, (hk.cell (World.block_lt_of_cell? w _ hb) (cell_notmap hS hb)).trans hb1⟩))))
theorem MvOk.kp {w w' : World} {k : Int} {v : Value} {S : List Nat} (h : MvOk w k v) (hk : Kp S w w') (hS : ∀ x ∈ S, ∃ y, w.imap? x = some y) : MvOk w' k v := by
  obtain ⟨g, d, hv, hc, hd⟩ := h
  exact ⟨g, d, hv, fun j u hj => (hk.cellAt (hc j u hj) (cell_notmap hS (hc j u hj))).1, hd.kp hk hS⟩
theorem MvMap.kp {w w' : World} {r : Nat} {ks : List Int} (h : MvMap w r ks) (hk : Kp [] w w') : MvMap w' r ks := by
  obtain ⟨l, c, h1, h2, h3⟩ := h
  exact ⟨l, c, (hk.imapAt h1 (by simp)).1, h2, fun e he => (h3 e he).kp hk (by simp)⟩
/-- One more move is laid. -/
theorem MvMap.add {w : World} {r : Nat} {ks : List Int} {k : Int} {v : Value} (h : MvMap w r ks) (hk : k ∉ ks) (hv : MvOk w k v) :
    ∃ w2, (Instr.mapUpdate tMv (.map (some r)) (.int .i64 k) v).run Tryz.prog w = .ok () w2 ∧ MvMap w2 r (ks ++ [k]) ∧ Kp [r] w w2 := by
  obtain ⟨l, c, h1, h2, h3⟩ := h
  have hl : r < w.heap.size := imap_lt h1
  have hS : ∀ x ∈ [r], ∃ y, w.imap? x = some y := by intro x hx; simp at hx; subst hx; exact ⟨_, h1⟩
  have hkp : Kp [r] w (w.setIM r (upd k v (w.imapC r) (w.imapL r)) (updC k (w.imapC r) (w.imapL r))) := (Kp.refl _ _).setIM _ _ _ (fun _ => by simp)
  refine ⟨_, mu_moves w r k v (by rw [h1]; rfl), ⟨_, _, imap?_setIM_same _ _ _ _ (by rw [h1]; rfl), ?_, ?_⟩, hkp⟩
  · rw [(imapL_eq h1).1, upd_new (by rw [h2]; exact hk)]
    simp [h2]
  · intro e he
    rw [(imapL_eq h1).1, upd_new (by rw [h2]; exact hk)] at he
    rcases List.mem_append.1 he with he | he
    · exact (h3 e he).kp hkp hS
    · simp at he; subst he; exact hv.kp hkp hS
/-- A built row, then the move. -/
theorem MvMap.next {w W : World} {r : Nat} {ks : List Int} {k : Int} {d : Value} (h : MvMap W r ks) (hw : Kp [r] w W) (hk : k ∉ ks) (hd : DoOk W k d) :
    ∃ w2, (Instr.mapUpdate tMv (.map (some r)) (.int .i64 k) (.agg #[.slice (some ⟨W.heap.size, 0, none⟩) (froms k).length (froms k).length, d])).run Tryz.prog (W.alloc (.cells (flatI (froms k)).toArray 3)) = .ok () w2 ∧ MvMap w2 r (ks ++ [k]) ∧ Kp [r] w w2 := by
  have ha : Kp [] W (W.alloc (.cells (flatI (froms k)).toArray 3)) := (Kp.refl _ _).alloc _
  obtain ⟨w2, h1, h2, h3⟩ := (h.kp ha).add (k := k) (v := .agg #[.slice (some ⟨W.heap.size, 0, none⟩) (froms k).length (froms k).length, d]) hk ⟨_, _, rfl, fun j u hj => by
    rw [World.cell?_alloc_new]; simpa using hj, hd.kp ha (by simp)⟩
  exact ⟨w2, h1, h2, (hw.alloc _).trans h3 (fun x hx _ => hx)⟩

set_option maxRecDepth 100000 in
set_option maxHeartbeats 2000000 in
theorem moves_any (w : World) : Calls Tryz.prog 102 #[] w fun e w' => (∃ r, e = .returned (.map (some r)) ∧ w.heap.size ≤ r ∧ MvMap w' r [2, 3, 4, 7, 5, 6]) ∧ Kp [] w w' := by
  have hmm := @run_makeMap Tryz.prog
  go_enter Tryz.func102, Tryz.ntmps102
  go_wp2
  have hM : MvMap (w.alloc (.map #[] 0)) w.heap.size [] := ⟨[], 0, by simp [go_sem], rfl, by simp⟩
  obtain ⟨r, hr0⟩ : ∃ r, r = w.heap.size := ⟨_, rfl⟩
  have hK0 : Kp [r] w (w.alloc (.map #[] 0)) := (Kp.refl _ _).alloc _
  have hs0 : (w.alloc (.map #[] 0)).heap.size = w.heap.size + 1 := by simp
  rw [← hr0] at hM
  obtain ⟨w2, hr2, hM2, hK2⟩ := hM.next (k := 2) hK0 (by simp) (.inl ⟨rfl, rfl⟩)
  rw [hs0, ← hr0] at hr2
  rw [← hr0]
  have HR0 := Lib.hid hr0
  clear hr0
  simp [froms, flatI] at hr2
  rw [hr2]
  go_wp2
  obtain ⟨w3, hr3, hM3, hK3⟩ := hM2.next (k := 3) hK2 (by simp) (.inr (.inl ⟨rfl, rfl⟩))
  simp [froms, flatI] at hr3
  rw [hr3]
  go_wp2
  obtain ⟨w4, hr4, hM4, hK4⟩ := hM3.next (k := 4) hK3 (by simp) (.inr (.inr (.inl ⟨rfl, rfl⟩)))
  simp [froms, flatI] at hr4
  rw [hr4]
  go_wp2
  obtain ⟨w5, hr5, hM5, hK5⟩ := hM4.next (k := 7) hK4 (by simp) (.inr (.inr (.inr (.inl ⟨rfl, rfl⟩))))
  simp [froms, flatI] at hr5
  rw [hr5]
  go_wp2_with (go_at_call 124; refine (mk_any 3 _).mono ?_; rintro e6 v6 ⟨⟨b6, _, rfl, hb6⟩, hk6⟩)
  have ha6 : Kp [r] w v6 := (hK5.alloc _).trans hk6 (by simp)
  obtain ⟨w6, hr6, hM6, hK6⟩ := (hM5.kp (((Kp.refl _ _).alloc (.cells #[.int .i64 3] 3)).trans hk6 (by simp))).add (k := 5) (v := .agg #[.slice (some ⟨w5.heap.size, 0, none⟩) 1 1, .func (.func 125) #[] #[.pointer (some ⟨b6, 0, none⟩)]]) (by simp) ⟨_, _, rfl, fun j u hj => by
      refine (hk6.cellAt (k := w5.heap.size) ?_ (by simp)).1
      rw [World.cell?_alloc_new]; simpa [flatI, froms] using hj, (.inr (.inr (.inr (.inr (.inl ⟨rfl, _, rfl, hb6⟩)))))⟩
  replace hK6 := ha6.trans hK6 (fun x hx _ => hx)
  rw [hr6]
  go_wp2_with (go_at_call 124; refine (mk_any 4 _).mono ?_; rintro e7 v7 ⟨⟨b7, _, rfl, hb7⟩, hk7⟩)
  have ha7 : Kp [r] w v7 := (hK6.alloc _).trans hk7 (by simp)
  obtain ⟨w7, hr7, hM7, hK7⟩ := (hM6.kp (((Kp.refl _ _).alloc (.cells #[.int .i64 1, .int .i64 2, .int .i64 3, .int .i64 4] 3)).trans hk7 (by simp))).add (k := 6) (v := .agg #[.slice (some ⟨w6.heap.size, 0, none⟩) 4 4, .func (.func 125) #[] #[.pointer (some ⟨b7, 0, none⟩)]]) (by simp) ⟨_, _, rfl, fun j u hj => by
      refine (hk7.cellAt (k := w6.heap.size) ?_ (by simp)).1
      rw [World.cell?_alloc_new]; simpa [flatI, froms] using hj, (.inr (.inr (.inr (.inr (.inr ⟨rfl, _, rfl, hb7⟩)))))⟩
  replace hK7 := ha7.trans hK7 (fun x hx _ => hx)
  rw [hr7]
  go_wp2
  go_ret
  refine ⟨⟨r, rfl, by have := HR0.out; omega, by simpa using hM7⟩, hK7.mono (fun x hx hl => by simp at hx; have := HR0.out; omega)⟩
end Go.Proofs.YtbogjkggfdhckaaGreatDoor

/-
  shape: the automaton, purely and in memory.
-/
namespace Go.Proofs.YtbogjkggfdhckaaGreatDoor
open Go.RowKit Go.Um

structure St where
  t : Tx
  stand : Int
/-- A transaction's number, a thread's running one. -/
def St.has (k : Int) (s : St) : Bool := s.t.id == k
def St.busy (k : Int) (s : St) : Bool := s.t.thread == k && s.stand != 5
/-- The last deed is answered. -/
def answer (ds : List Dd) (ret got at_ : Int) : List Dd := match ds.getLast? with
  | none => ds
  | some d => ds.dropLast ++ [{ d with ret := ret, got := got, back := at_ }]
/-- What an event that is no begin does with its transaction; none: a wrong answer. -/
def move (s : St) (e : Ev) (n : Int) : Option St :=
  if e.kind = 2 then some ⟨{ s.t with deeds := s.t.deeds ++ [⟨e.obj, e.op, e.key, e.val, 0, 0, n, -1⟩] }, 2⟩
  else if e.kind = 3 then
    match s.t.deeds.getLast? with
    | none => none
    | some d => if fitsB d.op e.ret then some ⟨{ s.t with deeds := answer s.t.deeds e.ret e.val n }, 1⟩ else none
  else if e.kind = 4 then some ⟨{ s.t with try_ := n, status := 2 }, 3⟩
  else if e.kind = 5 then some ⟨{ s.t with status := 3, end_ := n }, 5⟩
  else if e.kind = 6 then some ⟨{ s.t with status := 4, end_ := n }, 5⟩
  else some ⟨s.t, 4⟩
/-- One event is fed: the new list, or the fault. -/
def feed (objs : List Ob) (l : List St) (n : Nat) (e : Ev) : Except Nat (List St) :=
  if n = 400 then .error 0
  else match evFault objs e with
    | some g => .error g
    | none =>
      if e.kind = 1 then
        if (l.findIdx? (St.has e.tx)).isSome then .error 3
        else if (l.findIdx? (St.busy e.thread)).isSome then .error 4
        else .ok (l ++ [⟨⟨e.tx, e.thread, 1, n, -1, -1, []⟩, 1⟩])
      else match l.findIdx? (St.has e.tx) with
        | none => .error 5
        | some i => match l[i]? with
          | none => .error 5
          | some s =>
            if s.stand ∈ froms e.kind then
              match move s e n with
              | none => .error 9
              | some s' => .ok (l.set i s')
            else .error 6
def ptrV (b : Nat) : Value := .pointer (some ⟨b, 0, none⟩)
abbrev tStP : Nat := 117
structure AutoAt (w : World) (ba B : Nat) (objs : List Ob) (vo : Value) (l : List St) (n : Nat) (vt : Value) (ry rz : Nat) (ps : List Nat) (ds : List Value) (ρ : Nat → Nat) : Prop where
  lt : ba < w.heap.size
  fz : ∀ j, w.frozen? ⟨ba, j, none⟩ = false
  c0 : w.cell? ⟨ba, 0, none⟩ = some vo
  c1 : w.cell? ⟨ba, 1, none⟩ = some (.int .i64 n)
  c2 : w.cell? ⟨ba, 2, none⟩ = some vt
  c3 : w.cell? ⟨ba, 3, none⟩ = some (.map (some ry))
  c4 : w.cell? ⟨ba, 4, none⟩ = some (.map (some rz))
  ln : l.length ≤ n
  uq : ∀ (i j : Nat) s t, l[i]? = some s → l[j]? = some t → s.stand ≠ 5 → t.stand ≠ 5 → s.t.thread = t.t.thread → i = j
  wt : ∀ s ∈ l, s.stand = 2 → s.t.deeds ≠ []
  dn : ∀ s ∈ l, s.t.deeds.length ≤ n
  lp : ps.length = l.length
  ld : ds.length = l.length
  oo : w.ownsRow B 136 2 vo objs.length (flatO objs)
  own : w.ownsRow B tStP 1 vt l.length (ps.map ptrV)
  by_ : ∃ m c, w.imap? ry = some (m, c) ∧ (∀ e ∈ m, e.born < c) ∧ ∀ k, lk k m = (l.findIdx? (St.has k)).bind (fun i => (ps[i]?).map ptrV)
  bz : ∃ m c, w.imap? rz = some (m, c) ∧ (m.map ME.key).Nodup ∧ (∀ e ∈ m, e.born < c) ∧ ∀ k, lk k m = (l.findIdx? (St.busy k)).bind (fun i => (ps[i]?).map ptrV)
  st : ∀ (i : Nat) s p d, l[i]? = some s → ps[i]? = some p → ds[i]? = some d → IsSt w p s.t d s.stand ∧ OwnD w B d s.t.deeds ∧ B ≤ p
  base : B ≤ ba ∧ B ≤ ry ∧ B ≤ rz
  k0 : ρ ba = 0
  k1 : ρ ry = 1
  k2 : ρ rz = 2
  k3 : ∀ g, vt.ownBlock = some g → ρ g = 3
  ko : ∀ g, vo.ownBlock = some g → ρ g = 4
  k4 : ∀ (i : Nat) p, ps[i]? = some p → ρ p = 10 + 2 * i
  k5 : ∀ (i : Nat) d g, ds[i]? = some d → d.ownBlock = some g → ρ g = 11 + 2 * i
theorem AutoAt.kp {w w' : World} {ba B : Nat} {objs : List Ob} {vo : Value} {l : List St} {n : Nat} {vt : Value} {ry rz : Nat} {ps : List Nat} {ds : List Value} {ρ : Nat → Nat} {S : List Nat} (h : AutoAt w ba B objs vo l n vt ry rz ps ds ρ) (hk : Kp S w w') (hS : ∀ x ∈ S, w.heap.size ≤ x) : AutoAt w' ba B objs vo l n vt ry rz ps ds ρ := by
  have hnS : ∀ x, x < w.heap.size → x ∉ S := fun x hx hm => by have := hS x hm; omega
  obtain ⟨l0, cc, ff⟩ := hk.blk ba h.lt (hnS _ h.lt)
  refine { lt := l0, fz := fun j => (ff j).trans (h.fz j), c0 := (cc 0).trans h.c0, c1 := (cc 1).trans h.c1, c2 := (cc 2).trans h.c2, c3 := (cc 3).trans h.c3, c4 := (cc 4).trans h.c4, ln := h.ln, uq := h.uq, wt := h.wt, dn := h.dn, lp := h.lp, ld := h.ld, oo := own_kp h.oo hk (fun g hg => hnS g (h.oo.lt g hg).2), own := own_kp h.own hk (fun g hg => hnS g (h.own.lt g hg).2), by_ := ?_, bz := ?_, st := ?_, base := h.base, k0 := h.k0, k1 := h.k1, k2 := h.k2, k3 := h.k3, ko := h.ko, k4 := h.k4, k5 := h.k5 }
  · obtain ⟨m, c, hm, hr⟩ := h.by_
    exact ⟨m, c, (hk.imapAt hm (hnS _ (imap_lt hm))).1, hr⟩
  · obtain ⟨m, c, hm, hr⟩ := h.bz
    exact ⟨m, c, (hk.imapAt hm (hnS _ (imap_lt hm))).1, hr⟩
  · intro i s p d h1 h2 h3
    obtain ⟨a, b, c⟩ := h.st i s p d h1 h2 h3
    exact ⟨a.kp hk (hnS _ a.lt), own_kp b hk (fun g hg => hnS g (b.lt g hg).2), c⟩
theorem AutoAt.kp0 {w w' : World} {ba B : Nat} {objs : List Ob} {vo : Value} {l : List St} {n : Nat} {vt : Value} {ry rz : Nat} {ps : List Nat} {ds : List Value} {ρ : Nat → Nat} (h : AutoAt w ba B objs vo l n vt ry rz ps ds ρ) (hk : Kp [] w w') : AutoAt w' ba B objs vo l n vt ry rz ps ds ρ := h.kp hk (by simp)
end Go.Proofs.YtbogjkggfdhckaaGreatDoor

/-
  shape: the moves' function values by one contract; the look into the map of the moves.
-/
namespace Go.Proofs.YtbogjkggfdhckaaGreatDoor
open Go.RowKit Go.Um

theorem lk_mem {k : Int} : ∀ {m : List ME}, k ∈ m.map ME.key → ∃ e ∈ m, e.key = k ∧ lk k m = some e.val
  | [], h => by simp at h
  | x :: m, h => by
    by_cases hk : k = x.key
    · exact ⟨x, by simp, hk.symm, by simp [lk, hk]⟩
    · have h' : k ∈ m.map ME.key := by simpa [hk] using h
      obtain ⟨e, h1, h2, h3⟩ := lk_mem h'
      exact ⟨e, by simp [h1], h2, by simp [lk, hk, h3]⟩
theorem MvMap.look {w : World} {r : Nat} {ks : List Int} {k : Int} (h : MvMap w r ks) (hk : k ∈ ks) : ∃ v, MvOk w k v ∧ ∀ W : World, W.imap? r = w.imap? r → (Instr.lookup tMv (.map (some r)) (.int .i64 k) false).run Tryz.prog W = .ok v W := by
  obtain ⟨l, c, h1, h2, h3⟩ := h
  obtain ⟨e, he, hek, hl⟩ := lk_mem (m := l) (k := k) (by rw [h2]; exact hk)
  refine ⟨e.val, by have := h3 e he; rwa [hek] at this, fun W hW => ?_⟩
  have := run_lookup_im (P := Tryz.prog) (w := W) (r := r) (k := k) (T := tMv) Tryz.underlying161 Tryz.underlying3 (z := .agg #[.slice none 0 0, .nilFunc]) Tryz.zeroValue160 (by rw [hW, h1]; rfl) false
  rw [this, (imapL_eq (hW.trans h1)).1, hl]
  rfl
theorem do_any {w : World} {d : Value} {B p : Nat} {s s' : St} {e : Ev} {n : Nat} {dv : Value} (hD : DoOk w e.kind d) (hS : IsSt w p s.t dv s.stand) (hO : OwnD w B dv s.t.deeds) (hm : move s e n = some s') (hv : dv.ownBlock ≠ some p) (hl : s.t.deeds.length < 1000000) (hB : B ≤ w.heap.size) :
    ∃ fn caps, d = .func (.func fn) #[] caps ∧ (∀ (args : Array Value) (W : World), (callFunc fn args).run Tryz.prog W = .ok (.enter fn args) W) ∧
      Calls Tryz.prog fn (#[.pointer (some ⟨p, 0, none⟩), evV e.f, .int .i64 n] ++ caps) w fun r w' => r = .returned .nilIface ∧
        (∃ d', IsSt w' p s'.t d' s'.stand ∧ OwnD w' B d' s'.t.deeds ∧ ∀ g, d'.ownBlock = some g → dv.ownBlock = some g ∨ w.heap.size ≤ g) ∧ Kp (p :: dv.ownBlock.toList) w w' := by
  have hO1 : ∀ (t' : Tx) (st : Int) (w' : World), IsSt w' p t' dv st → t'.deeds = s.t.deeds → Kp [p] w w' → (∃ d', IsSt w' p t' d' st ∧ OwnD w' B d' t'.deeds ∧ ∀ g, d'.ownBlock = some g → dv.ownBlock = some g ∨ w.heap.size ≤ g) ∧ Kp (p :: dv.ownBlock.toList) w w' := by
    intro t' st w' h1 h2 h3
    refine ⟨⟨dv, h1, ?_, fun g hg => .inl hg⟩, h3.mono (fun x hx _ => by simp at hx; simp [hx])⟩
    rw [h2]
    exact own_kp hO h3 (fun g hg h => by simp at h; exact hv (by rw [hg, h]))
  rcases hD with ⟨hk, rfl⟩ | ⟨hk, rfl⟩ | ⟨hk, rfl⟩ | ⟨hk, rfl⟩ | ⟨hk, b, rfl, hb, hb1⟩ | ⟨hk, b, rfl, hb, hb1⟩
  · refine ⟨126, #[], rfl, fun args W => cf_of Tryz.func126 (by kernel_rfl) rfl args W, ?_⟩
    have hs : s' = ⟨{ s.t with deeds := s.t.deeds ++ [⟨e.obj, e.op, e.key, e.val, 0, 0, n, -1⟩] }, 2⟩ := by simpa [move, hk] using hm.symm
    subst hs
    refine (call_any p B e.f n s.t dv s.stand w hS hO hv hl hB).mono ?_
    rintro r w' ⟨h1, ⟨g, cap, h2, h3, h4⟩, h5⟩
    refine ⟨h1, ⟨_, h2, h3, ?_⟩, h5⟩
    intro x hx
    simp [Value.ownBlock] at hx
    subst hx
    exact h4
  · refine ⟨127, #[], rfl, fun args W => cf_of Tryz.func127 (by kernel_rfl) rfl args W, ?_⟩
    unfold move at hm
    rw [if_neg (by rw [hk]; decide), if_pos hk] at hm
    cases hg : s.t.deeds.getLast? with
    | none => rw [hg] at hm; cases hm
    | some dd =>
      rw [hg] at hm
      simp only at hm
      split at hm
      · rename_i hfit
        have hs : s' = ⟨{ s.t with deeds := answer s.t.deeds e.ret e.val n }, 1⟩ := by simpa using hm.symm
        subst hs
        obtain ⟨ds, hds⟩ : ∃ ds, s.t.deeds = ds ++ [dd] := List.getLast?_eq_some_iff.1 hg
        have hans : answer s.t.deeds e.ret e.val n = ds ++ [{ dd with ret := e.ret, got := e.val, back := n }] := by simp [answer, hds]
        have hlen : s.t.deeds.length = ds.length + 1 := by rw [hds]; simp
        obtain ⟨g, cap, rfl, hg1, hg2⟩ := own_shape hO (by omega)
        rw [hlen] at hS hO hv hl ⊢
        rw [hds] at hO
        have hgp : g ≠ p := fun h => hv (by rw [h]; rfl)
        refine (ret_any_ok (fun _ => ⟨0, 0, none⟩) p g cap B e.f n s.t ds dd s.stand w hS hO hds hgp (by omega) hfit).mono ?_
        rintro r w' ⟨h1, h2, h3, h4⟩
        refine ⟨h1, ⟨_, ?_, ?_, fun x hx => .inl hx⟩, h4.mono (fun x hx _ => by simpa [Value.ownBlock] using hx)⟩
        · show IsSt w' p { s.t with deeds := answer s.t.deeds e.ret e.val n } _ 1
          rw [hans]; exact h2
        · show OwnD w' B _ (answer s.t.deeds e.ret e.val n)
          rw [hans]; exact h3
      · cases hm
  · refine ⟨129, #[], rfl, fun args W => cf_of Tryz.func129 (by kernel_rfl) rfl args W, ?_⟩
    have hs : s' = ⟨{ s.t with try_ := n, status := 2 }, 3⟩ := by simpa [move, hk] using hm.symm
    subst hs
    refine (try_any p e.f n s.t dv s.stand w hS).mono ?_
    rintro r w' ⟨h1, h2, h3⟩
    exact ⟨h1, hO1 _ _ _ h2 rfl h3⟩
  · refine ⟨130, #[], rfl, fun args W => cf_of Tryz.func130 (by kernel_rfl) rfl args W, ?_⟩
    have hs : s' = ⟨s.t, 4⟩ := by simpa [move, hk] using hm.symm
    subst hs
    refine (cancel_any p e.f n s.t dv s.stand w hS).mono ?_
    rintro r w' ⟨h1, h2, h3⟩
    exact ⟨h1, hO1 _ _ _ h2 rfl h3⟩
  · refine ⟨125, #[.pointer (some ⟨b, 0, none⟩)], rfl, fun args W => cf_of Tryz.func125 (by kernel_rfl) rfl args W, ?_⟩
    have hs : s' = ⟨{ s.t with status := 3, end_ := n }, 5⟩ := by simpa [move, hk] using hm.symm
    subst hs
    have hbp : b ≠ p := by
      intro h; subst h
      rw [hS.c 1 (by decide)] at hb1; cases hb1
    refine (end_any p b 3 e.f n s.t dv s.stand w hS hb hbp).mono ?_
    rintro r w' ⟨h1, h2, h3⟩
    exact ⟨h1, hO1 _ _ _ h2 rfl h3⟩
  · refine ⟨125, #[.pointer (some ⟨b, 0, none⟩)], rfl, fun args W => cf_of Tryz.func125 (by kernel_rfl) rfl args W, ?_⟩
    have hs : s' = ⟨{ s.t with status := 4, end_ := n }, 5⟩ := by simpa [move, hk] using hm.symm
    subst hs
    have hbp : b ≠ p := by
      intro h; subst h
      rw [hS.c 1 (by decide)] at hb1; cases hb1
    refine (end_any p b 4 e.f n s.t dv s.stand w hS hb hbp).mono ?_
    rintro r w' ⟨h1, h2, h3⟩
    exact ⟨h1, hO1 _ _ _ h2 rfl h3⟩
end Go.Proofs.YtbogjkggfdhckaaGreatDoor

/-
  shape: slices.Clone of objects; shape.New.
-/
namespace Go.Proofs.YtbogjkggfdhckaaGreatDoor
open Go.RowKit Go.Um

abbrev tOb : Nat := 136
theorem info_ob : (Tryz.prog.info? tOb).map (fun i => (i.zero, i.size, i.bytes)) = some (some (.agg #[.int .i64 0, .int .i64 0]), 2, 16) := by kernel_rfl
/-- What is owned may be read. -/
theorem own_rd {w : World} {B e sz n : Nat} {v : Value} {xs : List Value} (h : w.ownsRow B e sz v n xs) : Rd w w.heap.size v n xs := by
  rcases h.2 with ⟨rfl, rfl⟩ | ⟨g, cap, cur, rfl, _, hg, _⟩
  · exact ⟨none, 0, rfl, fun h => by omega⟩
  · have hl := (Array.getElem?_eq_some_iff.1 hg).1
    refine ⟨_, _, rfl, fun _ => ⟨g, 0, rfl, hl, hl, fun j u hj => ?_⟩⟩
    have := h.cells (g := g) rfl j u hj
    have hadd : (⟨g, 0, none⟩ : Addr).add j = ⟨g, 0 + j, none⟩ := by unfold Addr.add; split <;> simp_all
    rwa [hadd] at this

set_option maxRecDepth 100000 in
set_option maxHeartbeats 1000000 in
theorem clone_some (objs : List Ob) (v : Value) (B : Nat) (w : World) (h : Rd w B v objs.length (flatO objs)) (hn : 0 < objs.length) (hm : objs.length ≤ 1000000) :
    Calls Tryz.prog 101 #[v] w fun e w' => (∃ v', e = .returned v' ∧ w'.ownsRow w.heap.size tOb 2 v' objs.length (flatO objs)) ∧ Kp [] w w' := by
  obtain ⟨a, c, rfl, h⟩ := h
  obtain ⟨b, o, rfl, hb, hbl, hc⟩ := h hn
  have HC := Lib.hid hc
  have hfl : (flatO objs).length = objs.length * 2 := flat_len Ob.cells 2 (fun _ => rfl) objs
  have hone : ∀ u ∈ flatO objs, u.oneCell' = true := by
    intro u hu
    simp [flatO, Ob.cells] at hu
    obtain ⟨x, _, rfl | rfl⟩ := hu <;> rfl
  clear hc h
  obtain ⟨i0, hi, hz0, hz1, hz2⟩ := info_parts info_ob
  have hnil := Lib.run_eql_slice_nil (P := Tryz.prog) w 28 136 (some ⟨b, o, none⟩) objs.length c 0 0 Tryz.underlying28
  go_enter Tryz.func101, Tryz.ntmps101
  go_wp2_with (at_builtin; refine wpList_append_own _ rfl _ _ 28 rfl w.heap.size tOb i0 _ 2 16 Tryz.underlying28 hi hz0 hz1 hz2 rfl (by decide) _ _ _ rfl (own_of_block (n := 0) (heap_alloc_new w _) rfl (by decide) (Nat.le_refl _)) ⟨b, o, none⟩ objs.length c (flatO objs) rfl hfl ?c1 hone ?c3 ?c4 ?c5 ?_)
  case c1 => intro j u hj; rw [show ((⟨b, o, none⟩ : Addr).add j) = ⟨b, o + j, none⟩ from (by unfold Addr.add; split <;> simp_all), World.cell?_alloc_past _ _ _ hbl]; exact HC.out j u hj
  case c3 => simp only [maxLen]; omega
  case c4 => omega
  case c5 => simp
  intro v' w1 hown hgrow _
  go_wp2
  go_ret
  refine ⟨⟨v', rfl, by simpa using hown⟩, ?_⟩
  exact ((Kp.refl _ _).alloc _).trans (Kp.of_grown hgrow) (fun x hx hl => by simp [Value.ownBlock] at hx; omega)
/-- A history that may be. -/
theorem histValid_ok (E : Nat → Addr) (objs : List Ob) (evs : List Ev) (vo ve : Value) (B : Nat) (w : World) (hG : Gl E w) (ho : Rd w B vo objs.length (flatO objs)) (he : Rd w B ve evs.length (flatE evs)) (hr : histRes objs evs = none) (h64o : Obs64 objs) (h64e : Evs64 evs) (hB : B ≤ w.heap.size) :
    Calls Tryz.prog 65 #[.agg #[vo, ve]] w fun r w' => r = .returned .nilIface ∧ Kp [] w w' := by
  have h8 : objs.length ≤ 8 ∧ evs.length ≤ 400 := by
    unfold histRes at hr
    split at hr
    · cases hr
    · omega
  refine (histValid_few E objs evs vo ve B w hG ho he h8.1 h8.2 h64o h64e hB).mono ?_
  rintro e w' ⟨⟨v, rfl, hv⟩, hk⟩
  rw [hr] at hv
  exact ⟨by rw [show v = .nilIface from hv], hk⟩

set_option maxRecDepth 100000 in
set_option maxHeartbeats 2000000 in
theorem new_any (E : Nat → Addr) (objs : List Ob) (v : Value) (B : Nat) (w : World) (hG : Gl E w) (h : Rd w B v objs.length (flatO objs)) (hn : 0 < objs.length) (hr : histRes objs [] = none) (h64 : Obs64 objs) (hB : B ≤ w.heap.size) :
    Calls Tryz.prog 66 #[v] w fun e w' => (∃ ba vo ry rz ρ, e = .returned (.tuple #[.pointer (some ⟨ba, 0, none⟩), .nilIface]) ∧ AutoAt w' ba w.heap.size objs vo [] 0 (.slice none 0 0) ry rz [] [] ρ) ∧ Kp [] w w' := by
  have hm : objs.length ≤ 8 := by
    unfold histRes at hr
    split at hr
    · cases hr
    · omega
  have hmm := @run_makeMap Tryz.prog
  have H := Lib.hid h
  have HG := Lib.hid hG
  have HR := Lib.hid hr
  have H6 := Lib.hid h64
  obtain ⟨a, c, rfl, _⟩ := h
  clear hG hr h64
  go_enter Tryz.func66, Tryz.ntmps66
  go_wp2_with (first
    | (go_at_call 65; refine (histValid_ok E objs [] _ _ B _ HG.out H.out (Rd.nil _ _ _ _ _) HR.out H6.out (by intro e he; simp at he) hB).mono ?_; rintro e1 w1 ⟨rfl, hk1⟩; have H1 := Lib.hid (H.out.kp hk1 (by simp)))
    | (go_at_call 101; refine (clone_some objs _ B _ H1.out hn (by omega)).mono ?_; rintro e2 w2 ⟨⟨vo, rfl, ho⟩, hk2⟩; obtain ⟨og, ocap, rfl, hog, hogl⟩ := own_shape ho hn; replace ho := Lib.hid ho))
  refine bodyPost_ret (v := .tuple #[.pointer (some ⟨w2.heap.size + 2, 0, none⟩), .nilIface]) ?_ rfl ?_
  · simp [results, Tryz.results66, go_sem]
  · refine ⟨⟨w2.heap.size + 2, .slice (some ⟨og, 0, none⟩) objs.length ocap, w2.heap.size, w2.heap.size + 1, fun x => if x = w2.heap.size + 2 then 0 else if x = w2.heap.size then 1 else if x = w2.heap.size + 1 then 2 else 4, rfl, ?_⟩, ?_⟩
    · have hs1 := hk1.size
      have hs2 := hk2.size
      refine { lt := by simp [go_sem], fz := fun j => by simp [go_sem], c0 := by simp [go_sem], c1 := by simp [go_sem], c2 := by simp [go_sem], c3 := by simp [go_sem], c4 := by simp [go_sem], ln := by simp, uq := by simp, wt := by simp, dn := by simp, lp := rfl, ld := rfl, oo := ?_, own := World.ownsRow_nil _ _ _ _, by_ := ⟨[], 0, by simp [go_sem], by simp, by simp [lk]⟩, bz := ⟨[], 0, by simp [go_sem], by simp, by simp, by simp [lk]⟩, st := by simp, base := by omega, k0 := by simp, k1 := by simp, k2 := by simp, k3 := by simp [Value.ownBlock], ko := ?_, k4 := by simp, k5 := by simp }
      · exact own_base (((ho.out.alloc _).alloc _).alloc _) (by omega)
      · intro g hg
        simp [Value.ownBlock] at hg
        subst hg
        rw [if_neg (by omega), if_neg (by omega), if_neg (by omega)]
    · exact (((hk1.trans hk2 (by simp)).alloc _).alloc _).alloc _
end Go.Proofs.YtbogjkggfdhckaaGreatDoor

/-
  shape: the automaton behind a begin, in memory.
-/
namespace Go.Proofs.YtbogjkggfdhckaaGreatDoor
open Go.RowKit Go.Um

theorem lk_snoc (k a : Int) (v : Value) (c : Nat) : ∀ (m : List ME), lk k (m ++ [⟨a, v, c⟩]) = (lk k m).or (if k = a then some v else none)
  | [] => by by_cases h : k = a <;> simp [lk, h]
  | x :: m => by
    have ih := lk_snoc k a v c m
    by_cases h : k = x.key <;> simp [lk, h, ih]
/-- A key's place in a list that grew. -/
theorem find_snoc {p : St → Bool} {l : List St} {s : St} {ps : List Nat} {b : Nat} (hlen : ps.length = l.length) :
    ((l ++ [s]).findIdx? p).bind (fun i => ((ps ++ [b])[i]?).map ptrV) = ((l.findIdx? p).bind (fun i => (ps[i]?).map ptrV)).or (if p s then some (ptrV b) else none) := by
  rw [List.findIdx?_append]
  cases hf : l.findIdx? p with
  | none =>
    by_cases hp : p s = true
    · simp [hp, ← hlen]
    · simp [hp]
  | some i =>
    have hi : i < ps.length := by
      rw [hlen]
      exact (List.findIdx?_eq_some_iff_findIdx_eq.1 hf).1
    simp [hi, List.getElem?_append_left]
theorem lk_none_notin {k : Int} : ∀ {m : List ME}, lk k m = none → k ∉ m.map ME.key
  | [], _ => by simp
  | x :: m, h => by
    by_cases hk : k = x.key
    · simp [lk, hk] at h
    · simp only [lk, if_neg hk] at h
      simp [hk]
      have := lk_none_notin h
      simpa using this
theorem AutoAt.begun {w w' : World} {ba B : Nat} {objs : List Ob} {vo : Value} {l : List St} {n : Nat} {vt : Value} {ry rz : Nat} {ps : List Nat} {ds : List Value} {ρ : Nat → Nat}
    (h : AutoAt w ba B objs vo l n vt ry rz ps ds ρ) (e : Ev) (b g cap : Nat) (m m2 : List ME) (c c2 : Nat)
    (hm : w.imap? ry = some (m, c)) (hmb : ∀ x ∈ m, x.born < c) (hml : ∀ k, lk k m = (l.findIdx? (St.has k)).bind (fun i => (ps[i]?).map ptrV))
    (hm2 : w.imap? rz = some (m2, c2)) (hnd : (m2.map ME.key).Nodup) (hl2 : lk e.thread m2 = none) (hfb : l.findIdx? (St.busy e.thread) = none) (hmb2 : ∀ x ∈ m2, x.born < c2) (hml2 : ∀ k, lk k m2 = (l.findIdx? (St.busy k)).bind (fun i => (ps[i]?).map ptrV))
    (hk : Kp (ba :: ry :: rz :: vt.ownBlock.toList) w w') (hb : w.heap.size ≤ b) (hg : vt.ownBlock = some g ∨ w.heap.size ≤ g) (hgb : g ≠ b) (hB : B ≤ w.heap.size)
    (hfz : ∀ j, w'.frozen? ⟨ba, j, none⟩ = false) (h0 : w'.cell? ⟨ba, 0, none⟩ = some vo) (h1 : w'.cell? ⟨ba, 1, none⟩ = some (.int .i64 (n + 1 : Nat))) (h2 : w'.cell? ⟨ba, 2, none⟩ = some (.slice (some ⟨g, 0, none⟩) (l.length + 1) cap))
    (h3 : w'.cell? ⟨ba, 3, none⟩ = some (.map (some ry))) (h4 : w'.cell? ⟨ba, 4, none⟩ = some (.map (some rz)))
    (ho : w'.ownsRow B tStP 1 (.slice (some ⟨g, 0, none⟩) (l.length + 1) cap) (l.length + 1) (ps.map ptrV ++ [ptrV b]))
    (hy : w'.imap? ry = some (m ++ [⟨e.tx, ptrV b, c⟩], c + 1)) (hz : w'.imap? rz = some (m2 ++ [⟨e.thread, ptrV b, c2⟩], c2 + 1))
    (hs : IsSt w' b ⟨e.tx, e.thread, 1, n, -1, -1, []⟩ (.slice none 0 0) 1) :
    AutoAt w' ba B objs vo (l ++ [⟨⟨e.tx, e.thread, 1, n, -1, -1, []⟩, 1⟩]) (n + 1) (.slice (some ⟨g, 0, none⟩) (l.length + 1) cap) ry rz (ps ++ [b]) (ds ++ [.slice none 0 0]) (fun x => if x = b then 10 + 2 * l.length else if x = g then 3 else ρ x) := by
  have hcol : ∀ x, x < w.heap.size → ρ x ≠ 3 → (if x = b then 10 + 2 * l.length else if x = g then 3 else ρ x) = ρ x := by
    intro x hx h3
    have hxb : x ≠ b := by omega
    have hxg : x ≠ g := by
      intro e; subst e
      rcases hg with hg | hg
      · exact h3 (h.k3 x hg)
      · omega
    simp [hxb, hxg]
  have hne : ∀ x, x < w.heap.size → ρ x ≠ 0 → ρ x ≠ 1 → ρ x ≠ 2 → ρ x ≠ 3 → x ∉ ba :: ry :: rz :: vt.ownBlock.toList := by
    intro x _ q0 q1 q2 q3 hx
    simp at hx
    rcases hx with rfl | rfl | rfl | hx
    · exact q0 h.k0
    · exact q1 h.k1
    · exact q2 h.k2
    · exact q3 (h.k3 x hx)
  refine { lt := Nat.lt_of_lt_of_le h.lt hk.size, fz := hfz, c0 := h0, c1 := h1, c2 := h2, c3 := h3, c4 := h4, ln := by have := h.ln; simp; omega, uq := ?uq, wt := ?wt, dn := ?dn, lp := by simp [h.lp], ld := by simp [h.ld], oo := ?_, own := by simpa using ho, by_ := ⟨_, _, hy, ?_, ?_⟩, bz := ⟨_, _, hz, ?nd, ?_, ?_⟩, st := ?_, base := h.base, k0 := ?_, k1 := ?_, k2 := ?_, k3 := ?_, ko := ?_, k4 := ?_, k5 := ?_ }
  case nd =>
    rw [List.map_append, List.nodup_append]
    refine ⟨hnd, by simp, ?_⟩
    intro a ha b hb e0
    simp at hb
    subst hb e0
    exact lk_none_notin hl2 ha
  case dn =>
    intro s hs2
    rcases List.mem_append.1 hs2 with hs2 | hs2
    · have := h.dn s hs2; omega
    · simp at hs2; subst hs2; simp
  case wt =>
    intro s hs2 h2'
    rcases List.mem_append.1 hs2 with hs2 | hs2
    · exact h.wt s hs2 h2'
    · simp at hs2; subst hs2; simp at h2'
  case uq =>
    have hnb : ∀ (i : Nat) s, l[i]? = some s → s.stand ≠ 5 → s.t.thread ≠ e.thread := by
      intro i s hi h5 ht
      have := List.findIdx?_eq_none_iff.1 hfb s (List.mem_of_getElem? hi)
      simp [St.busy, ht, h5] at this
    intro i j s t hi hj h5 h6 ht
    by_cases hil : i < l.length
    · rw [List.getElem?_append_left hil] at hi
      by_cases hjl : j < l.length
      · rw [List.getElem?_append_left hjl] at hj
        exact h.uq i j s t hi hj h5 h6 ht
      · have hj2 : j = l.length := by have := (List.getElem?_eq_some_iff.1 hj).1; simp at this; omega
        subst hj2
        simp at hj
        subst hj
        exact absurd ht (hnb i s hi h5)
    · have hi2 : i = l.length := by have := (List.getElem?_eq_some_iff.1 hi).1; simp at this; omega
      subst hi2
      simp at hi
      subst hi
      by_cases hjl : j < l.length
      · rw [List.getElem?_append_left hjl] at hj
        exact absurd ht.symm (hnb j t hj h6)
      · have := (List.getElem?_eq_some_iff.1 hj).1; simp at this; omega
  · exact own_kp h.oo hk (fun x hx => by
      have hl := (h.oo.lt x hx).2
      have := h.ko x hx
      exact hne x hl (by omega) (by omega) (by omega) (by omega))
  · intro x hx
    rcases List.mem_append.1 hx with hx | hx
    · have := hmb x hx; omega
    · simp at hx; subst hx; simp
  · intro k
    rw [lk_snoc, hml, find_snoc h.lp]
    congr 1
    by_cases hkk : k = e.tx
    · subst hkk; simp [St.has]
    · have hkk' : ¬ e.tx = k := fun h => hkk h.symm
      simp [St.has, hkk, hkk']
  · intro x hx
    rcases List.mem_append.1 hx with hx | hx
    · have := hmb2 x hx; omega
    · simp at hx; subst hx; simp
  · intro k
    rw [lk_snoc, hml2, find_snoc h.lp]
    congr 1
    by_cases hkk : k = e.thread
    · subst hkk; simp [St.busy]
    · have hkk' : ¬ e.thread = k := fun h => hkk h.symm
      simp [St.busy, hkk, hkk']
  · intro i s p d hs1 hp hd
    by_cases hi : i < l.length
    · rw [List.getElem?_append_left hi] at hs1
      rw [List.getElem?_append_left (by rw [h.lp]; exact hi)] at hp
      rw [List.getElem?_append_left (by rw [h.ld]; exact hi)] at hd
      obtain ⟨a1, a2, a3⟩ := h.st i s p d hs1 hp hd
      refine ⟨a1.kp hk ?_, own_kp a2 hk (fun x hx => ?_), a3⟩
      · have := h.k4 i p hp
        exact hne p a1.lt (by omega) (by omega) (by omega) (by omega)
      · have := h.k5 i d x hd hx
        exact hne x (a2.lt x hx).2 (by omega) (by omega) (by omega) (by omega)
    · have hl : i < (l ++ [(⟨⟨e.tx, e.thread, 1, n, -1, -1, []⟩, 1⟩ : St)]).length := (List.getElem?_eq_some_iff.1 hs1).1
      have hil : i = l.length := by simp at hl; omega
      subst hil
      simp at hs1
      rw [← h.lp] at hp
      simp at hp
      rw [← h.ld] at hd
      simp at hd
      subst hs1 hp hd
      exact ⟨hs, World.ownsRow_nil _ _ _ _, by omega⟩
  · have := h.k0; rw [hcol ba h.lt (by omega)]; exact h.k0
  · have := h.k1; rw [hcol ry (imap_lt hm) (by omega)]; exact h.k1
  · have := h.k2; rw [hcol rz (imap_lt hm2) (by omega)]; exact h.k2
  · intro x hx
    simp [Value.ownBlock] at hx
    subst hx
    simp [hgb]
  · intro x hx
    have := h.ko x hx
    rw [hcol x (h.oo.lt x hx).2 (by omega)]; exact this
  · intro i p hp
    by_cases hi : i < ps.length
    · rw [List.getElem?_append_left hi] at hp
      have h5 := h.k4 i p hp
      obtain ⟨s, hs1⟩ : ∃ s, l[i]? = some s := ⟨l[i]'(by rw [← h.lp]; exact hi), by simp [← h.lp, hi]⟩
      obtain ⟨d, hd⟩ : ∃ d, ds[i]? = some d := ⟨ds[i]'(by rw [h.ld, ← h.lp]; exact hi), by simp [h.ld, ← h.lp, hi]⟩
      rw [hcol p (h.st i s p d hs1 hp hd).1.lt (by omega)]; exact h5
    · have hl : i < (ps ++ [b]).length := (List.getElem?_eq_some_iff.1 hp).1
      have hil : i = ps.length := by simp at hl; omega
      subst hil
      simp at hp
      subst hp
      simp [h.lp]
  · intro i d x hd hx
    by_cases hi : i < ds.length
    · rw [List.getElem?_append_left hi] at hd
      have h5 := h.k5 i d x hd hx
      obtain ⟨s, hs1⟩ : ∃ s, l[i]? = some s := ⟨l[i]'(by rw [← h.ld]; exact hi), by simp [← h.ld, hi]⟩
      obtain ⟨p, hp⟩ : ∃ p, ps[i]? = some p := ⟨ps[i]'(by rw [h.lp, ← h.ld]; exact hi), by simp [h.lp, ← h.ld, hi]⟩
      rw [hcol x ((h.st i s p d hs1 hp hd).2.1.lt x hx).2 (by omega)]; exact h5
    · have hl : i < (ds ++ [Value.slice none 0 0]).length := (List.getElem?_eq_some_iff.1 hd).1
      have hil : i = ds.length := by simp at hl; omega
      subst hil
      simp at hd
      subst hd
      simp [Value.ownBlock] at hx
end Go.Proofs.YtbogjkggfdhckaaGreatDoor

/-
  Lemmas on the way to Rr1: Dr2, Dr3, Dr4, Tx, Tb, La1.
-/
import Derived.Test.YtbogjkggfdhckaaGreatDoorMA18
import Derived.Test.YtbogjkggfdhckaaGreatDoorMA7
import Derived.Test.YtbogjkggfdhckaaGreatDoorMA8
import Derived.Test.YtbogjkggfdhckaaGreatDoorMA10
import Derived.Deep.RegionLaw
import Derived.Test.YtbogjkggfdhckaaGreatDoorMA9
/-
  drive: Step.
-/
namespace Go.Proofs.YtbogjkggfdhckaaGreatDoor
open Go.RowKit Go.Um

theorem eql_step_nil (w : World) : (binOp .eql 128 .nilFunc .nilFunc).run Tryz.prog w = .ok (.bool true) w := by kernel_rfl
theorem eql_step_some (f : Fn) (a c : Array Value) (w : World) : (binOp .eql 128 (.func f a c) .nilFunc).run Tryz.prog w = .ok (.bool false) w := by kernel_rfl
attribute [local go_sem] eql_step_nil eql_step_some
/-- What a thread's step leaves for the store. -/
structure Put (w : World) (bt gn n cn : Nat) (i : Nat) : Prop where
  c3 : w.cell? ⟨bt, 3, none⟩ = some (.slice (some ⟨gn, 0, none⟩) n cn)
  old : ∃ u, w.cell? ⟨gn, i, none⟩ = some u
  fz : w.frozen? ⟨gn, i, none⟩ = false
theorem cf_goOn (args : Array Value) (w : World) : (callFunc 108 args).run Tryz.prog w = .ok (.enter 108 args) w := cf_of Tryz.func108 (by kernel_rfl) rfl args w

set_option maxRecDepth 100000 in
set_option maxHeartbeats 2000000 in
theorem step_fnil {w : World} {bt bw gn n cn i : Nat} {fn : Nat} {caps : Array Value} {R : World → Prop} (hw : w.cell? ⟨bt, 2, none⟩ = some (.pointer (some ⟨bw, 0, none⟩))) (h3 : w.cell? ⟨bt, 3, none⟩ = some (.slice (some ⟨gn, 0, none⟩) n cn)) (hi : i < n) (hv : w.cell? ⟨gn, i, none⟩ = some (.func (.func fn) #[] caps)) (hcf : ∀ (args : Array Value) (W : World), (callFunc fn args).run Tryz.prog W = .ok (.enter fn args) W)
    (hD : Calls Tryz.prog 76 #[.pointer (some ⟨bw, 0, none⟩), .int .i64 i] w fun e w' => e = .returned (.bool false) ∧ ∃ m, w' = w.drewN m)
    (hdo : ∀ W, Kp [] w W → Calls Tryz.prog fn caps W fun r w' => r = .returned .nilFunc ∧ R w' ∧ Put w' bt gn n cn i) :
    Calls Tryz.prog 49 #[.pointer (some ⟨bt, 0, none⟩), .int .i64 i] w fun r w' => r = .returned (.bool true) ∧ ∃ W, R W ∧ Put W bt gn n cn i ∧ w' = W.setCell ⟨gn, i, none⟩ .nilFunc := by
  have l1 := World.block_lt_of_cell? w _ hw
  have l2 := World.block_lt_of_cell? w _ hv
  dsimp only at l1 l2
  have i0 : (0 : Int) ≤ i := by omega
  have i1 : (i : Int) < n := by omega
  have HD := Lib.hid hD
  have HDO := Lib.hid hdo
  clear hD hdo
  go_enter Tryz.func49, Tryz.ntmps49
  go_upto_region 6 with (go_at_call 76; refine (HD.out).mono ?_; rintro r w1 ⟨rfl, m, rfl⟩)
  refine wp_gen fun W hW => ?_
  have hkW : Kp [] w W := by rw [hW]; exact (Kp.refl _ _).drewN _
  replace h3 := (hkW.cellAt h3 (by simp)).1
  have l3 := (hkW.blk bt l1 (by simp)).1
  have HKW := Lib.hid hkW
  clear hW hkW hw hv l2
  go_region_with (first | ((with_reducible refine (HDO.out _ HKW.out.drew).mono ?_); rintro r w4 ⟨rfl, hq, hp⟩; have p3 := hp.c3; have l4 := World.block_lt_of_cell? w4 _ p3; (dsimp only at l4); obtain ⟨u, pu⟩ := hp.old; have l5 := World.block_lt_of_cell? w4 _ pu; (dsimp only at l5); have pf := hp.fz; have HQ := Lib.hid hq; have HPt := Lib.hid hp; clear hq hp))
  all_goals go_wp2
  all_goals go_ret
  all_goals exact ⟨rfl, ⟨w4, HQ.out, HPt.out, rfl⟩⟩

set_option maxRecDepth 100000 in
set_option maxHeartbeats 2000000 in
theorem step_gnil {w : World} {bt bw gn n cn i : Nat} {R : World → Prop} (hw : w.cell? ⟨bt, 2, none⟩ = some (.pointer (some ⟨bw, 0, none⟩))) (h3 : w.cell? ⟨bt, 3, none⟩ = some (.slice (some ⟨gn, 0, none⟩) n cn)) (hi : i < n) (hv : w.cell? ⟨gn, i, none⟩ = some .nilFunc)
    (hD : Calls Tryz.prog 76 #[.pointer (some ⟨bw, 0, none⟩), .int .i64 i] w fun e w' => e = .returned (.bool false) ∧ ∃ m, w' = w.drewN m)
    (hdo : ∀ W b1 b2, Kp [] w W → W.cell? ⟨b1, 0, none⟩ = some (.pointer (some ⟨bt, 0, none⟩)) → W.cell? ⟨b2, 0, none⟩ = some (.int .i64 i) → w.heap.size ≤ b1 ∧ w.heap.size ≤ b2 → Calls Tryz.prog 108 #[.pointer (some ⟨b1, 0, none⟩), .pointer (some ⟨b2, 0, none⟩)] W fun r w' => r = .returned .nilFunc ∧ R w' ∧ Put w' bt gn n cn i) :
    Calls Tryz.prog 49 #[.pointer (some ⟨bt, 0, none⟩), .int .i64 i] w fun r w' => r = .returned (.bool true) ∧ ∃ W, R W ∧ Put W bt gn n cn i ∧ w' = W.setCell ⟨gn, i, none⟩ .nilFunc := by
  have l1 := World.block_lt_of_cell? w _ hw
  have l2 := World.block_lt_of_cell? w _ hv
  dsimp only at l1 l2
  have i0 : (0 : Int) ≤ i := by omega
  have i1 : (i : Int) < n := by omega
  have HD := Lib.hid hD
  have HDO := Lib.hid hdo
  clear hD hdo
  have hcf := cf_goOn
  go_enter Tryz.func49, Tryz.ntmps49
  go_upto_region 6 with (first | (go_at_call 76; refine (HD.out).mono ?_; rintro r w1 ⟨rfl, m, rfl⟩) | (go_at_call 77; refine (goOn_any bt i _).mono ?_; rintro r w1 ⟨⟨b1, b2, rfl, g1, g2, g3⟩, hkg⟩; have G1 := Lib.hid g1; have G2 := Lib.hid g2; have G3 := Lib.hid (show w.heap.size ≤ b1 ∧ w.heap.size ≤ b2 from g3); have HKG := Lib.hid (((Kp.refl [] w).drewN m).trans hkg (by simp)); clear g1 g2 g3 hkg))
  refine wp_gen fun W hW => ?_
  have hkW : Kp [] w W := by rw [hW]; exact HKG.out
  replace h3 := (hkW.cellAt h3 (by simp)).1
  have l3 := (hkW.blk bt l1 (by simp)).1
  have HKW := Lib.hid hkW
  have K1 : RowKit.Hid (W.drew.cell? ⟨b1, 0, none⟩ = some (.pointer (some ⟨bt, 0, none⟩))) := Lib.hid (by rw [hW]; exact G1.out)
  have K2 : RowKit.Hid (W.drew.cell? ⟨b2, 0, none⟩ = some (.int .i64 i)) := Lib.hid (by rw [hW]; exact G2.out)
  clear hW hkW hw hv l2
  go_region_with (first | ((with_reducible refine (HDO.out _ b1 b2 HKW.out.drew K1.out K2.out G3.out).mono ?_); rintro r w4 ⟨rfl, hq, hp⟩; have p3 := hp.c3; have l4 := World.block_lt_of_cell? w4 _ p3; (dsimp only at l4); obtain ⟨u, pu⟩ := hp.old; have l5 := World.block_lt_of_cell? w4 _ pu; (dsimp only at l5); have pf := hp.fz; have HQ := Lib.hid hq; have HPt := Lib.hid hp; clear hq hp))
  all_goals go_wp2
  all_goals go_ret
  all_goals exact ⟨rfl, ⟨w4, HQ.out, HPt.out, rfl⟩⟩

set_option maxRecDepth 100000 in
set_option maxHeartbeats 2000000 in
theorem step_ffn {w : World} {bt bw gn n cn i : Nat} {fn : Nat} {caps : Array Value} {R : Nat → Array Value → World → Prop} (hw : w.cell? ⟨bt, 2, none⟩ = some (.pointer (some ⟨bw, 0, none⟩))) (h3 : w.cell? ⟨bt, 3, none⟩ = some (.slice (some ⟨gn, 0, none⟩) n cn)) (hi : i < n) (hv : w.cell? ⟨gn, i, none⟩ = some (.func (.func fn) #[] caps)) (hcf : ∀ (args : Array Value) (W : World), (callFunc fn args).run Tryz.prog W = .ok (.enter fn args) W)
    (hD : Calls Tryz.prog 76 #[.pointer (some ⟨bw, 0, none⟩), .int .i64 i] w fun e w' => e = .returned (.bool false) ∧ ∃ m, w' = w.drewN m)
    (hdo : ∀ W, Kp [] w W → Calls Tryz.prog fn caps W fun r w' => ∃ f c, r = .returned (.func (.func f) #[] c) ∧ R f c w' ∧ Put w' bt gn n cn i) :
    Calls Tryz.prog 49 #[.pointer (some ⟨bt, 0, none⟩), .int .i64 i] w fun r w' => r = .returned (.bool true) ∧ ∃ f c W, R f c W ∧ Put W bt gn n cn i ∧ w' = W.setCell ⟨gn, i, none⟩ (.func (.func f) #[] c) := by
  have l1 := World.block_lt_of_cell? w _ hw
  have l2 := World.block_lt_of_cell? w _ hv
  dsimp only at l1 l2
  have i0 : (0 : Int) ≤ i := by omega
  have i1 : (i : Int) < n := by omega
  have HD := Lib.hid hD
  have HDO := Lib.hid hdo
  clear hD hdo
  go_enter Tryz.func49, Tryz.ntmps49
  go_upto_region 6 with (go_at_call 76; refine (HD.out).mono ?_; rintro r w1 ⟨rfl, m, rfl⟩)
  refine wp_gen fun W hW => ?_
  have hkW : Kp [] w W := by rw [hW]; exact (Kp.refl _ _).drewN _
  replace h3 := (hkW.cellAt h3 (by simp)).1
  have l3 := (hkW.blk bt l1 (by simp)).1
  have HKW := Lib.hid hkW
  clear hW hkW hw hv l2
  go_region_with (first | ((with_reducible refine (HDO.out _ HKW.out.drew).mono ?_); rintro r w4 ⟨f2, k2, rfl, hq, hp⟩; have p3 := hp.c3; have l4 := World.block_lt_of_cell? w4 _ p3; (dsimp only at l4); obtain ⟨u, pu⟩ := hp.old; have l5 := World.block_lt_of_cell? w4 _ pu; (dsimp only at l5); have pf := hp.fz; have HQ := Lib.hid hq; have HPt := Lib.hid hp; clear hq hp))
  all_goals go_wp2
  all_goals go_ret
  all_goals exact ⟨rfl, ⟨f2, k2, w4, HQ.out, HPt.out, rfl⟩⟩

set_option maxRecDepth 100000 in
set_option maxHeartbeats 2000000 in
theorem step_gfn {w : World} {bt bw gn n cn i : Nat} {R : Nat → Array Value → World → Prop} (hw : w.cell? ⟨bt, 2, none⟩ = some (.pointer (some ⟨bw, 0, none⟩))) (h3 : w.cell? ⟨bt, 3, none⟩ = some (.slice (some ⟨gn, 0, none⟩) n cn)) (hi : i < n) (hv : w.cell? ⟨gn, i, none⟩ = some .nilFunc)
    (hD : Calls Tryz.prog 76 #[.pointer (some ⟨bw, 0, none⟩), .int .i64 i] w fun e w' => e = .returned (.bool false) ∧ ∃ m, w' = w.drewN m)
    (hdo : ∀ W b1 b2, Kp [] w W → W.cell? ⟨b1, 0, none⟩ = some (.pointer (some ⟨bt, 0, none⟩)) → W.cell? ⟨b2, 0, none⟩ = some (.int .i64 i) → w.heap.size ≤ b1 ∧ w.heap.size ≤ b2 → Calls Tryz.prog 108 #[.pointer (some ⟨b1, 0, none⟩), .pointer (some ⟨b2, 0, none⟩)] W fun r w' => ∃ f c, r = .returned (.func (.func f) #[] c) ∧ R f c w' ∧ Put w' bt gn n cn i) :
    Calls Tryz.prog 49 #[.pointer (some ⟨bt, 0, none⟩), .int .i64 i] w fun r w' => r = .returned (.bool true) ∧ ∃ f c W, R f c W ∧ Put W bt gn n cn i ∧ w' = W.setCell ⟨gn, i, none⟩ (.func (.func f) #[] c) := by
  have l1 := World.block_lt_of_cell? w _ hw
  have l2 := World.block_lt_of_cell? w _ hv
  dsimp only at l1 l2
  have i0 : (0 : Int) ≤ i := by omega
  have i1 : (i : Int) < n := by omega
  have HD := Lib.hid hD
  have HDO := Lib.hid hdo
  clear hD hdo
  have hcf := cf_goOn
  go_enter Tryz.func49, Tryz.ntmps49
  go_upto_region 6 with (first | (go_at_call 76; refine (HD.out).mono ?_; rintro r w1 ⟨rfl, m, rfl⟩) | (go_at_call 77; refine (goOn_any bt i _).mono ?_; rintro r w1 ⟨⟨b1, b2, rfl, g1, g2, g3⟩, hkg⟩; have G1 := Lib.hid g1; have G2 := Lib.hid g2; have G3 := Lib.hid (show w.heap.size ≤ b1 ∧ w.heap.size ≤ b2 from g3); have HKG := Lib.hid (((Kp.refl [] w).drewN m).trans hkg (by simp)); clear g1 g2 g3 hkg))
  refine wp_gen fun W hW => ?_
  have hkW : Kp [] w W := by rw [hW]; exact HKG.out
  replace h3 := (hkW.cellAt h3 (by simp)).1
  have l3 := (hkW.blk bt l1 (by simp)).1
  have HKW := Lib.hid hkW
  have K1 : RowKit.Hid (W.drew.cell? ⟨b1, 0, none⟩ = some (.pointer (some ⟨bt, 0, none⟩))) := Lib.hid (by rw [hW]; exact G1.out)
  have K2 : RowKit.Hid (W.drew.cell? ⟨b2, 0, none⟩ = some (.int .i64 i)) := Lib.hid (by rw [hW]; exact G2.out)
  clear hW hkW hw hv l2
  go_region_with (first | ((with_reducible refine (HDO.out _ b1 b2 HKW.out.drew K1.out K2.out G3.out).mono ?_); rintro r w4 ⟨f2, k2, rfl, hq, hp⟩; have p3 := hp.c3; have l4 := World.block_lt_of_cell? w4 _ p3; (dsimp only at l4); obtain ⟨u, pu⟩ := hp.old; have l5 := World.block_lt_of_cell? w4 _ pu; (dsimp only at l5); have pf := hp.fz; have HQ := Lib.hid hq; have HPt := Lib.hid hp; clear hq hp))
  all_goals go_wp2
  all_goals go_ret
  all_goals exact ⟨rfl, ⟨f2, k2, w4, HQ.out, HPt.out, rfl⟩⟩

end Go.Proofs.YtbogjkggfdhckaaGreatDoor

/-
  drive: a step of a thread that is done; Done.
-/
namespace Go.Proofs.YtbogjkggfdhckaaGreatDoor
open Go.RowKit Go.Um

def moreB (p : Pg) (ths : List Th) (i : Nat) : Bool := match ths[i]?, p.ths[i]? with
  | some t, some txs => decide (t.tx < txs.length)
  | _, _ => false
theorem moreB_iff (p : Pg) (ths : List Th) (i : Nat) : moreB p ths i = true ↔ moreI p ths i := by
  unfold moreB moreI
  constructor
  · intro h
    split at h
    · rename_i t txs h1 h2
      exact ⟨i, t, txs, rfl, h1, h2, by simpa using h⟩
    · cases h
  · rintro ⟨k, t, txs, hk, h1, h2, h3⟩
    obtain rfl : i = k := by omega
    rw [h1, h2]
    simpa using h3
def doneB (p : Pg) (ths : List Th) : Bool := (List.range p.ths.length).all (fun i => !(moreB p ths i))
set_option maxRecDepth 100000 in
theorem step_no {w : World} {bt bw : Nat} {i : Int} (hw : w.cell? ⟨bt, 2, none⟩ = some (.pointer (some ⟨bw, 0, none⟩))) (hD : Calls Tryz.prog 76 #[.pointer (some ⟨bw, 0, none⟩), .int .i64 i] w fun e w' => e = .returned (.bool true) ∧ ∃ m, w' = w.drewN m) :
    Calls Tryz.prog 49 #[.pointer (some ⟨bt, 0, none⟩), .int .i64 i] w fun r w' => r = .returned (.bool false) ∧ ∃ m, w' = w.drewN m := by
  have l1 := World.block_lt_of_cell? w _ hw
  dsimp only at l1
  have HD := Lib.hid hD
  clear hD
  go_enter Tryz.func49, Tryz.ntmps49
  go_wp2_with (go_at_call 76; refine (HD.out).mono ?_; rintro r w1 ⟨rfl, m, rfl⟩)
  go_ret
  exact ⟨rfl, _, rfl⟩

set_option maxRecDepth 100000 in
set_option maxHeartbeats 1000000 in
theorem th_done {w : World} {bt : Nat} {a : Option Addr} {c : Nat} {bw B : Nat} {P : Nat → Prop} {p : Pg} {vc vt : Value} {ths : List Th} {gt ct : Nat} {evs : List Ev} {ve : Value} (h1 : w.cell? ⟨bt, 1, none⟩ = some (.slice a p.ths.length c)) (hw : w.cell? ⟨bt, 2, none⟩ = some (.pointer (some ⟨bw, 0, none⟩))) (h : WalkAt w bw B P p vc vt ths gt ct evs ve) (hle : ∀ (k : Nat) t txs, ths[k]? = some t → p.ths[k]? = some txs → t.tx ≤ txs.length) (h4 : p.ths.length ≤ 4) :
    Calls Tryz.prog 60 #[.pointer (some ⟨bt, 0, none⟩)] w fun r w' => r = .returned (.bool (doneB p ths)) ∧ Kp [] w w' := by
  have l1 := World.block_lt_of_cell? w _ hw
  dsimp only at l1
  have H := Lib.hid h
  have HLE := Lib.hid hle
  clear h hle
  go_enter Tryz.func60, Tryz.ntmps60
  go_wp2
  go_loopw [10] (fun i wr => ∃ k : Nat, k ≤ p.ths.length ∧ i = .int .i64 k ∧ Kp [] w wr ∧ ∀ j, j < k → moreB p ths j = false) (fun i _ => p.ths.length + 1 - (intOf i).toNat)
  case atStart => exact ⟨0, by omega, rfl, Kp.refl _ _, by intro j hj; omega⟩
  case round =>
    obtain ⟨k, hk, rfl, hkr, hno⟩ := hrel
    have hw' := (hkr.cellAt hw (by simp)).1
    have l1' := (hkr.blk bt l1 (by simp)).1
    by_cases hlt : k < p.ths.length
    · have HNO := Lib.hid hno
      have HKR := Lib.hid hkr
      have HW := Lib.hid (H.out.kp0 hkr)
      clear hno hkr
      cases hm : moreB p ths k with
      | true =>
        have HM := Lib.hid ((moreB_iff p ths k).1 hm)
        have HB := Lib.hid hm
        clear hm
        go_wp2_with (go_at_call 76; refine (done_no HW.out HM.out).mono ?_; rintro r w1 ⟨rfl, m, rfl⟩)
        go_ret
        refine ⟨ret_congr ?_, HKR.out.drewN _⟩
        have : doneB p ths = false := by
          unfold doneB
          rw [List.all_eq_false]
          exact ⟨k, List.mem_range.2 hlt, by rw [HB.out]; simp⟩
        rw [this]; rfl
      | false =>
        have HM := Lib.hid (show ¬ moreI p ths k from fun h => by rw [(moreB_iff p ths k).2 h] at hm; cases hm)
        have HB := Lib.hid hm
        clear hm
        go_wp2_with (go_at_call 76; refine (done_yes HW.out HLE.out HM.out).mono ?_; rintro r w1 ⟨rfl, m, rfl⟩)
        go_roundw
        case rel => exact ⟨k + 1, by omega, by go_num, HKR.out.drewN _, fun j hj => by
          rcases Nat.lt_succ_iff_lt_or_eq.1 hj with hj | rfl
          · exact HNO.out j hj
          · exact HB.out⟩
        case measure => simp [intOf]; omega
    · obtain rfl : k = p.ths.length := by omega
      have HNO := Lib.hid hno
      have HKR := Lib.hid hkr
      clear hno hkr
      go_wp2
      go_ret
      refine ⟨ret_congr ?_, HKR.out⟩
      have : doneB p ths = true := by
        unfold doneB
        rw [List.all_eq_true]
        intro j hj
        rw [HNO.out j (List.mem_range.1 hj)]; rfl
      rw [this]; rfl
end Go.Proofs.YtbogjkggfdhckaaGreatDoor

/-
  drive: History.
-/
namespace Go.Proofs.YtbogjkggfdhckaaGreatDoor
open Go.RowKit Go.Um

theorem events_any {w : World} {bw B : Nat} {P : Nat → Prop} {p : Pg} {vc vt : Value} {ths : List Th} {gt ct : Nat} {evs : List Ev} {ve : Value} (h : WalkAt w bw B P p vc vt ths gt ct evs ve) (hl : evs.length < 1000000) :
    Calls Tryz.prog 80 #[.pointer (some ⟨bw, 0, none⟩)] w fun r w' => (∃ a c, r = .returned (.slice a evs.length c) ∧ w'.ownsRow w.heap.size tEve 8 (.slice a evs.length c) evs.length (flatE evs)) ∧ Kp [] w w' := by
  cases evs with
  | nil =>
    refine (events_none h).mono ?_
    rintro r w' ⟨⟨v, rfl, ho⟩, hk⟩
    obtain ⟨a, c, rfl⟩ := own_len0 ho
    exact ⟨⟨a, c, rfl, ho⟩, hk⟩
  | cons e l =>
    refine (events_some h (by simp) hl).mono ?_
    rintro r w' ⟨⟨v, rfl, ho⟩, hk⟩
    obtain ⟨a, c, rfl⟩ := own_len0 ho
    exact ⟨⟨a, c, rfl, ho⟩, hk⟩

set_option maxRecDepth 100000 in
set_option maxHeartbeats 2000000 in
theorem history_any {w : World} {bt : Nat} {vcd : Value} {Q : Nat → Prop} {bw B : Nat} {P : Nat → Prop} {p : Pg} {vc vt : Value} {ths : List Th} {gt ct : Nat} {evs : List Ev} {ve : Value} (h0 : w.cell? ⟨bt, 0, none⟩ = some vcd) (hcd : RdP w Q vcd p.cells.length (flatI p.cells)) (hw : w.cell? ⟨bt, 2, none⟩ = some (.pointer (some ⟨bw, 0, none⟩))) (h : WalkAt w bw B P p vc vt ths gt ct evs ve) (hl : evs.length < 1000000) (hc1 : 1 ≤ p.cells.length) (hc4 : p.cells.length ≤ 4) :
    Calls Tryz.prog 53 #[.pointer (some ⟨bt, 0, none⟩)] w fun r w' => (∃ vo vev, r = .returned (.agg #[vo, vev]) ∧ RdP w' (fun x => w.heap.size ≤ x) vo p.cells.length (flatO (objsOf p)) ∧ RdP w' (fun x => w.heap.size ≤ x) vev evs.length (flatE evs)) ∧ Kp [] w w' := by
  have l1 := World.block_lt_of_cell? w _ hw
  dsimp only at l1
  have hE : ∀ W, Kp [] w W → _ := fun W hW => events_any (h.kp0 hW) hl
  have HE := Lib.hid hE
  obtain ⟨ac, cc, rfl, hcd⟩ := hcd
  obtain ⟨bc, oc, rfl, _, hbc, hcell⟩ := hcd (by omega)
  have HC := Lib.hid hcell
  obtain ⟨i0, hi', hz0, hz1, hz2⟩ := info_parts info_ob
  clear hE h hcd hcell
  go_enter Tryz.func53, Tryz.ntmps53
  go_upto_region 2 with (go_at_call 80; refine (HE.out _ ((Kp.refl _ _).alloc _)).mono ?_; rintro r w1 ⟨⟨ae, ce, rfl, hoe⟩, hk1⟩; have HOE := Lib.hid hoe; obtain ⟨lb, cb, fb⟩ := hk1.blk w.heap.size (by simp) (by simp); have HK1 := Lib.hid (((Kp.refl [] w).alloc _).trans hk1 (by simp)); have HS1 := Lib.hid hk1.size; clear hoe hk1)
  have r0 : w1.cell? ⟨w.heap.size, 0, none⟩ = some (.slice none 0 0) := by rw [cb]; simp
  have r1 : w1.cell? ⟨w.heap.size, 1, none⟩ = some (.slice none 0 0) := by rw [cb]; simp
  have rf : ∀ j, w1.frozen? ⟨w.heap.size, j, none⟩ = false := fun j => by rw [fb]; simp
  have RR := Lib.hid (show w1.cell? ⟨w.heap.size, 0, none⟩ = some (.slice none 0 0) ∧ w1.cell? ⟨w.heap.size, 1, none⟩ = some (.slice none 0 0) ∧ ∀ j, w1.frozen? ⟨w.heap.size, j, none⟩ = false from ⟨r0, r1, rf⟩)
  refine wp_gen fun W hW => ?_
  have hkW : Kp [] w1 W := by rw [hW]; exact (Kp.refl _ _).alloc _
  have d0 : W.cell? ⟨w1.heap.size, 0, none⟩ = some (.slice none 0 0) := by rw [hW]; simp [go_sem]
  have d1 : W.cell? ⟨w1.heap.size, 1, none⟩ = some (.slice ae evs.length ce) := by rw [hW]; simp [go_sem]
  have df : ∀ j, W.frozen? ⟨w1.heap.size, j, none⟩ = false := by intro j; rw [hW]; simp [go_sem]
  have hs3 : w1.heap.size < W.heap.size := by rw [hW]; simp
  obtain ⟨b3, hb3⟩ : ∃ x, x = w1.heap.size := ⟨_, rfl⟩
  obtain ⟨br, hbr⟩ : ∃ x, x = w.heap.size := ⟨_, rfl⟩
  rw [← hb3] at d0 d1 df hs3 ⊢
  rw [← hbr]
  have D0 := Lib.hid d0
  have D1 := Lib.hid d1
  have DF := Lib.hid df
  have HKW := Lib.hid hkW
  have HB3 := Lib.hid hb3
  have HBR := Lib.hid hbr
  have e0 := ((HK1.out.trans hkW (by simp)).cellAt h0 (by simp)).1
  have le := ((HK1.out.trans hkW (by simp)).blk bt l1 (by simp)).1
  clear hW hkW hb3 hbr d0 d1 df r0 r1 rf cb fb lb
  go_wp2
  go_loopw [18] (fun i wr => ∃ (k : Nat) (vo : Value), k ≤ p.cells.length ∧ i = .int .i64 k ∧ Kp [] w1 wr ∧ b3 < wr.heap.size ∧ wr.cell? ⟨b3, 0, none⟩ = some vo ∧ wr.cell? ⟨b3, 1, none⟩ = some (.slice ae evs.length ce) ∧ (∀ j, wr.frozen? ⟨b3, j, none⟩ = false) ∧ wr.ownsRow b3 tOb 2 vo k (flatO ((objsOf p).take k)) ∧ vo.ownBlock ≠ some b3) (fun i _ => p.cells.length + 1 - (intOf i).toNat)
  case atStart => exact ⟨0, .slice none 0 0, by omega, rfl, HKW.out, hs3, D0.out, D1.out, DF.out, by simpa [flatO] using World.ownsRow_nil _ _ _ _, by simp [Value.ownBlock]⟩
  case round =>
    rename World => wq
    obtain ⟨k, vo, hk, rfl, hkq, hb3q, g0, g1, gf, hown, hvb⟩ := hrel
    by_cases hlt : k < p.cells.length
    · obtain ⟨x, hx⟩ : ∃ x, p.cells[k]? = some x := ⟨p.cells[k], by simp [hlt]⟩
      have hcx := ((HK1.out.trans hkq (by simp)).cellAt (HC.out k (.int .i64 x) (by simp [flatI, hx])) (by simp)).1
      have hbcq := ((HK1.out.trans hkq (by simp)).blk bc hbc (by simp)).1
      have hvb' : b3 ∉ vo.ownBlock.toList := fun h => hvb (by simpa using h)
      have hmx : k + 1 ≤ maxLen := by simp only [maxLen]; omega
      have hby : (k + 1) * 16 ≤ 140737488355328 := by omega
      have HX := Lib.hid hx
      have HKQ := Lib.hid hkq
      have HOWN := Lib.hid hown
      have G1 := Lib.hid g1
      clear hx hkq hown g1
      go_wp2_with (at_builtin; refine wpList_append_lies (w := _) (hgd := by rfl) (s := .tmp 23) (x := .tmp 26) (t := 28) (ho := by rfl) (base := b3) (e := tOb) (i := i0) (z := .agg #[.int .i64 0, .int .i64 0]) (size := 2) (bytes := 16) (ht := Tryz.underlying28) (hi := hi') (hz := hz0) (hsize := hz1) (hby := hz2) (hzs := by rfl) (hsz := by decide) (v := vo) (n := k) (xs := flatO ((objsOf p).take k)) (hs := by rfl) (hown := by exact own_kp HOWN.out ((Kp.refl [] _).alloc _) (by simp)) (ad := ⟨wq.heap.size, 0, none⟩) (m := 1) (c := 1) (news := [.int .i64 1, .int .i64 x]) (hx := by rfl) (hl := by rfl) (hnews := by exact news_of (heap_alloc_new wq _)) (h1 := by intro u hu; simp at hu; rcases hu with rfl | rfl <;> rfl) (hm := by decide) (h63 := hmx) (hbytes := hby) (hbase := by simp; omega) (H := _) (hH := by rfl) ?_; intro g cap w5 hown5 hgr5 hat5 hlt5; have hk5 := Kp.of_grown hgr5; obtain ⟨lb5, cb5, fb5⟩ := hk5.blk b3 (by simp; omega) hvb')
      have HK5 := Lib.hid hk5
      have HOWN5 := Lib.hid hown5
      have hgb : g ≠ b3 := by
        rcases hat5 with h | h
        · intro e0; subst e0; exact hvb h
        · simp at h; omega
      have c50 : w5.cell? ⟨b3, 0, none⟩ = some vo := (cb5 0).trans ((World.cell?_alloc_past _ _ _ hb3q).trans g0)
      have c51 : w5.cell? ⟨b3, 1, none⟩ = some (.slice ae evs.length ce) := (cb5 1).trans ((World.cell?_alloc_past _ _ _ hb3q).trans G1.out)
      have f5 : ∀ j, w5.frozen? ⟨b3, j, none⟩ = false := fun j => (fb5 j).trans ((((Kp.refl [] wq).alloc _).frozen hb3q (by simp)).trans (gf j))
      go_roundw
      case rel =>
        have hks : Kp [b3] w5 (w5.setCell ⟨b3, 0, none⟩ (.slice (some ⟨g, 0, none⟩) (k + 1) cap)) := (Kp.refl _ _).setCell _ _ (fun _ => by simp)
        have hb31 : w1.heap.size ≤ b3 := by have := HB3.out; omega
        have hk6 : Kp [] w1 w5 := (HKQ.out.alloc _).trans HK5.out (fun x hx hl => by have := (HOWN.out.lt x (by simpa using hx)).1; omega)
        refine ⟨k + 1, .slice (some ⟨g, 0, none⟩) (k + 1) cap, by omega, by go_num, hk6.setCell _ _ (fun h => absurd h (by simp; omega)), by rw [World.size_setCell]; exact lb5, ?_, ?_, ?_, ?_, ?_⟩
        · rw [World.cell?_setCell_same' _ _ _ (by rw [c50]; rfl)]
        · rw [World.cell?_setCell_other _ _ _ _ (by simp)]; exact c51
        · intro j; rw [World.frozen?_setCell]; exact f5 j
        · have hob : (objsOf p)[k]? = some ⟨1, x⟩ := by simp [objsOf, HX.out]
          have e1 : flatO ((objsOf p).take (k + 1)) = flatO ((objsOf p).take k) ++ [.int .i64 1, .int .i64 x] := by
            rw [List.take_add_one, hob]; simp [flatO, Ob.cells]
          rw [e1]
          exact own_kp HOWN5.out hks (fun y hy => by simp [Value.ownBlock] at hy; subst hy; simpa using hgb)
        · simp [Value.ownBlock]; exact hgb
      case measure => simp [intOf]; omega
    · obtain rfl : k = p.cells.length := by omega
      have HKQ := Lib.hid hkq
      have HOWN := Lib.hid hown
      clear hkq hown
      obtain ⟨a7, c7, rfl⟩ := own_len0 HOWN.out
      have q0 := (HKQ.out.cellAt RR.out.1 (by simp)).1
      have q1 := (HKQ.out.cellAt RR.out.2.1 (by simp)).1
      have qf : ∀ j, wq.frozen? ⟨w.heap.size, j, none⟩ = false := fun j => (HKQ.out.frozen (World.block_lt_of_cell? w1 _ RR.out.1) (by simp)).trans (RR.out.2.2 j)
      rw [← HBR.out] at q0 q1 qf
      go_wp2
      have hbrw := HBR.out
      have hb3w := HB3.out
      have hs1 : w.heap.size + 1 ≤ w1.heap.size := by have := HS1.out; simpa using this
      have hfin : ∀ w', Kp [br] wq w' → (RdP w' (fun x => w.heap.size ≤ x) (.slice a7 p.cells.length c7) p.cells.length (flatO (objsOf p)) ∧ RdP w' (fun x => w.heap.size ≤ x) (.slice ae evs.length ce) evs.length (flatE evs)) ∧ Kp [] w w' := by
        intro w' hk'
        refine ⟨⟨?_, ?_⟩, (HK1.out.trans HKQ.out (by simp)).trans hk' (fun x hx hl => by simp at hx; omega)⟩
        · have h1 := own_rdP (P := fun x => b3 ≤ x) HOWN.out (fun x hx => (HOWN.out.lt x hx).1)
          rw [List.take_of_length_le (by simp [objsOf])] at h1
          exact (h1.kp hk' (fun x hx hp => by simp at hx; omega)).mono (fun x _ h => by omega)
        · have h1 := own_rdP (P := fun x => w.heap.size + 1 ≤ x) HOE.out (fun x hx => by have := (HOE.out.lt x hx).1; simpa using this)
          exact ((h1.kp HKQ.out (by simp)).kp hk' (fun x hx hp => by simp at hx; omega)).mono (fun x _ h => by omega)
      refine bodyPost_ret (v := .agg #[.slice a7 p.cells.length c7, .slice ae evs.length ce]) ?_ rfl ?_
      · simp [results, Tryz.results53, go_sem, q0, q1]
      · have h1 := hfin ((wq.setCell ⟨br, 0, none⟩ (.slice a7 p.cells.length c7)).setCell ⟨br, 1, none⟩ (.slice ae evs.length ce)) (by repeat (first | (with_reducible exact Kp.refl _ _) | refine Kp.setCell ?_ _ _ (fun _ => by simp)))
        exact ⟨⟨_, _, rfl, h1.1⟩, h1.2⟩
end Go.Proofs.YtbogjkggfdhckaaGreatDoor

/-
  shape: Txs: a copy of the transactions.
-/
namespace Go.Proofs.YtbogjkggfdhckaaGreatDoor
open Go.RowKit Go.Um

abbrev tTx : Nat := 41
def txRow (t : Tx) (vd : Value) : List Value := [.int .i64 t.id, .int .i64 t.thread, .int .i64 t.status, .int .i64 t.begin_, .int .i64 t.end_, .int .i64 t.try_, vd]
def txRows : List Tx → List Value → List Value
  | [], _ => []
  | _ :: _, [] => []
  | t :: l, v :: vs => txRow t v ++ txRows l vs
theorem txRows_snoc : ∀ {l : List Tx} {vs : List Value} {t : Tx} {v : Value}, vs.length = l.length → txRows (l ++ [t]) (vs ++ [v]) = txRows l vs ++ txRow t v
  | [], [], _, _, _ => by simp [txRows]
  | [], _ :: _, _, _, h => by simp at h
  | _ :: _, [], _, _, h => by simp at h
  | x :: l, y :: vs, t, v, h => by
    have ih := txRows_snoc (l := l) (vs := vs) (t := t) (v := v) (by simpa using h)
    simp [txRows, ih]
theorem txRows_len : ∀ {l : List Tx} {vs : List Value}, vs.length = l.length → (txRows l vs).length = l.length * 7
  | [], _, _ => by simp [txRows]
  | _ :: _, [], h => by simp at h
  | x :: l, y :: vs, h => by
    have ih := txRows_len (l := l) (vs := vs) (by simpa using h)
    simp [txRows, txRow, ih]; omega
theorem txRows_get : ∀ {l : List Tx} {vs : List Value} {i : Nat} {t : Tx} {v : Value}, l[i]? = some t → vs[i]? = some v → ∀ j, j < 7 → (txRows l vs)[i * 7 + j]? = (txRow t v)[j]?
  | [], _, _, _, _, h, _, _, _ => by simp at h
  | _ :: _, [], _, _, _, _, h, _, _ => by simp at h
  | x :: l, y :: vs, 0, t, v, h, h2, j, hj => by
    simp at h h2; subst h h2
    rw [txRows, List.getElem?_append_left (by simp [txRow]; omega)]
    simp
  | x :: l, y :: vs, i + 1, t, v, h, h2, j, hj => by
    have ih := txRows_get (l := l) (vs := vs) (i := i) (by simpa using h) (by simpa using h2) j hj
    have hl : (txRow x y).length = 7 := rfl
    rw [txRows, List.getElem?_append_right (by rw [hl]; omega), hl, ← ih]
    congr 1
    omega
theorem txRow_ne (t : Tx) (u v : Value) {j : Nat} (h : j ≠ 6) : (txRow t u)[j]? = (txRow t v)[j]? := by
  match j, h with
  | 0, _ => rfl
  | 1, _ => rfl
  | 2, _ => rfl
  | 3, _ => rfl
  | 4, _ => rfl
  | 5, _ => rfl
  | j + 7, _ => simp [txRow]
/-- A table of transactions that may be read. -/
def TabAt (w : World) (P : Nat → Prop) (v : Value) (l : List Tx) : Prop :=
  ∃ vs, vs.length = l.length ∧ RdP w P v l.length (txRows l vs) ∧ ∀ (i : Nat) t u, l[i]? = some t → vs[i]? = some u → RdP w P u t.deeds.length (flatD t.deeds)
theorem info_tx : (Tryz.prog.info? tTx).map (fun i => (i.zero, i.size, i.bytes)) = some (some (.agg #[.int .i64 0, .int .i64 0, .int .i64 0, .int .i64 0, .int .i64 0, .int .i64 0, .slice none 0 0]), 7, 72) := by kernel_rfl
abbrev zDeed : Array Value := #[.int .i64 0, .int .i64 0, .int .i64 0, .int .i64 0, .int .i64 0, .int .i64 0, .int .i64 0, .int .i64 0]

set_option maxRecDepth 100000 in
set_option maxHeartbeats 2000000 in
theorem txs_any (ba B : Nat) (objs : List Ob) (vo : Value) (l : List St) (n : Nat) (vt : Value) (ry rz : Nat) (ps : List Nat) (ds : List Value) (ρ : Nat → Nat) (w : World) (hA : AutoAt w ba B objs vo l n vt ry rz ps ds ρ) (hn : n ≤ 400) :
    Calls Tryz.prog 46 #[.pointer (some ⟨ba, 0, none⟩)] w fun r w' => (∃ v, r = .returned v ∧ TabAt w' (fun x => w.heap.size ≤ x) v (l.map St.t)) ∧ Kp [] w w' := by
  have hbl := hA.lt
  have c2 := hA.c2
  have hln : l.length ≤ 400 := Nat.le_trans hA.ln hn
  obtain ⟨i0, hi', hz0, hz1, hz2⟩ := info_parts info_tx
  obtain ⟨i1, hj', hy0, hy1, hy2⟩ := info_parts info_deed
  have HA := Lib.hid hA
  obtain ⟨at_, ct, rfl⟩ := own_len0 hA.own
  clear hA
  go_enter Tryz.func46, Tryz.ntmps46
  go_wp2_with (at_make; refine wpList_make_own _ rfl _ _ 36 rfl w.heap.size tTx i0 _ 7 Tryz.underlying36 hi' hz0 hz1 .i64 .i64 _ l.length rfl rfl rfl (by rw [hz2]; omega) (by simp only [maxLen]; omega) (Nat.le_refl _) ?_; intro w1 hown1 hgr1; have hk1 := Kp.of_grown hgr1; obtain ⟨lb1, cb1, fb1⟩ := hk1.blk ba hbl (by simp))
  have HK1 := Lib.hid hk1
  have HO1 := Lib.hid hown1
  clear hk1 hown1 hgr1 cb1 fb1
  go_loopw [3, 18] (fun s3 i wr => ∃ (k : Nat) (vs : List Value), k ≤ l.length ∧ i = .int .i64 k ∧ s3 = .slice (some ⟨w.heap.size, 0, none⟩) k l.length ∧ Kp [] w wr ∧ vs.length = k ∧ wr.ownsRow w.heap.size tTx 7 (.slice (some ⟨w.heap.size, 0, none⟩) k l.length) k (txRows ((l.map St.t).take k) vs) ∧
    ∀ (j : Nat) t u, (l.map St.t)[j]? = some t → vs[j]? = some u → RdP wr (fun x => w.heap.size < x) u t.deeds.length (flatD t.deeds)) (fun _ i _ => l.length + 1 - (intOf i).toNat)
  case atStart => exact ⟨0, [], by omega, rfl, rfl, HK1.out, rfl, by simpa [txRows] using HO1.out, by simp⟩
  case round =>
    rename World => wq
    obtain ⟨k, vs, hk, rfl, rfl, hkq, hvs, hown, hall⟩ := hrel
    by_cases hlt : k < l.length
    · obtain ⟨s, hs⟩ : ∃ s, l[k]? = some s := ⟨l[k], by simp [hlt]⟩
      have hAq := HA.out.kp0 hkq
      obtain ⟨p, hp⟩ : ∃ p, ps[k]? = some p := ⟨ps[k]'(by rw [hAq.lp]; exact hlt), by simp [hAq.lp, hlt]⟩
      obtain ⟨d, hd⟩ : ∃ d, ds[k]? = some d := ⟨ds[k]'(by rw [hAq.ld]; exact hlt), by simp [hAq.ld, hlt]⟩
      obtain ⟨hS, hO, _⟩ := hAq.st k s p d hs hp hd
      have hrow := own_rdP (P := fun _ => True) hAq.own (fun _ _ => trivial)
      obtain ⟨_, _, hv9, hr1⟩ := hrow
      obtain ⟨bt, ot, hat, _, hbt, hr2⟩ := hr1 (by omega)
      have hptr : wq.cell? ⟨bt, ot + k, none⟩ = some (.pointer (some ⟨p, 0, none⟩)) := hr2 k (ptrV p) (by simp [hp])
      simp at hv9
      obtain ⟨rfl, rfl⟩ := hv9
      subst hat
      have t0 := hS.c 0 (by decide)
      have t1 := hS.c 1 (by decide)
      have t2 := hS.c 2 (by decide)
      have t3 := hS.c 3 (by decide)
      have t4 := hS.c 4 (by decide)
      have t5 := hS.c 5 (by decide)
      have t6 := hS.c 6 (by decide)
      simp only [stF] at t0 t1 t2 t3 t4 t5 t6
      have hpl := hS.lt
      have hdn := HA.out.dn s (List.mem_of_getElem? hs)
      have HS := Lib.hid hs
      have HOD := Lib.hid hO
      have HKQ := Lib.hid hkq
      have HOWN := Lib.hid hown
      have HALL := Lib.hid hall
      obtain ⟨ad, cd, rfl⟩ := own_len0 hO
      clear hs hAq hS hO hkq hown hall hr1 hr2
      go_upto_region 6 with fail
      refine wp_gen fun W hW => ?_
      obtain ⟨be, hbe⟩ : ∃ x, x = wq.heap.size := ⟨_, rfl⟩
      have hkW : Kp [] wq W := by rw [hW]; exact (Kp.refl _ _).alloc _
      have x0 : ∀ j, W.cell? ⟨be, j, none⟩ = (txRow s.t (.slice ad s.t.deeds.length cd))[j]? := fun j => by rw [hW, hbe, World.cell?_alloc_new]; simp [txRow]
      have xf : ∀ j, W.frozen? ⟨be, j, none⟩ = false := fun j => by rw [hW, hbe, World.frozen?_alloc_new]
      have hbs : be + 1 = W.heap.size := by rw [hW, hbe]; simp
      have x6 : W.cell? ⟨be, 6, none⟩ = some (.slice ad s.t.deeds.length cd) := x0 6
      rw [← hbe]
      have HBE := Lib.hid hbe
      have HKW := Lib.hid hkW
      have X0 := Lib.hid x0
      have XF := Lib.hid xf
      have hbl2 : be < W.heap.size := by omega
      clear hW hbe hkW x0 t0 t1 t2 t3 t4 t5 t6
      have hrdw := own_rdP (P := fun _ => True) HOD.out (fun _ _ => trivial)
      have HRDW := Lib.hid hrdw
      clear hrdw
      go_cut [] (fun wx => ∃ u, Kp [be] W wx ∧ wx.cell? ⟨be, 6, none⟩ = some u ∧ (∃ a c, u = .slice a s.t.deeds.length c) ∧ (∀ j, j ≠ 6 → wx.cell? ⟨be, j, none⟩ = (txRow s.t u)[j]?) ∧ RdP wx (fun x => W.heap.size ≤ x) u s.t.deeds.length (flatD s.t.deeds))
      case first =>
        by_cases hd0 : s.t.deeds.length = 0
        · have hmk : ∀ V : World, (Instr.makeSlice 39 (.int .i64 0) (.int .i64 0)).run Tryz.prog V = .ok (.slice (some ⟨V.heap.size, 0, none⟩) 0 0) (V.alloc (.cells (madeCells (Value.agg zDeed).cells 0) tDeed)) := fun V => by
            have := run_makeSlice (P := Tryz.prog) (w := V) 39 tDeed i1 _ Tryz.underlying39 hj' hy0 .i64 .i64 0 0 (by decide) (by omega) (by rw [hy1]; simp) (by rw [hy2]; omega) (by omega)
            rw [this, hy1]
            rfl
          rw [hd0] at x6
          have HD0 := Lib.hid hd0
          have hor : ad = none ∨ ∃ a', ad = some a' := by cases ad with
            | none => exact .inl rfl
            | some a => exact .inr ⟨a, rfl⟩
          have hfl0 : flatD s.t.deeds = [] := by rw [List.length_eq_zero_iff.1 hd0]; rfl
          clear hd0
          rcases hor with rfl | ⟨a', rfl⟩
          all_goals
            go_region_law (first | fail)
            all_goals go_wp2_with fail
            all_goals go_meet
            all_goals
              have k1 : Kp [] (W.setCell ⟨be, 6, none⟩ (.slice (some ⟨W.heap.size, 0, none⟩) 0 0)) (((W.setCell ⟨be, 6, none⟩ (.slice (some ⟨W.heap.size, 0, none⟩) 0 0)).alloc (.cells (madeCells zDeed 0) tDeed)).drew) := ((Kp.refl _ _).alloc _).drew
              refine ⟨.slice (some ⟨W.heap.size, 0, none⟩) 0 0, (((Kp.refl [be] W).setCell _ _ (fun _ => by simp)).alloc _).drew, (k1.cellAt (World.cell?_setCell_same' _ _ _ (by rw [x6]; rfl)) (by simp)).1, ⟨_, 0, by rw [HD0.out]⟩, fun j hj => ?_, ?_⟩
              · rw [k1.cell (by rw [World.size_setCell]; exact hbl2) (by simp), World.cell?_setCell_other _ _ _ _ (by simp <;> omega)]
                exact (X0.out j).trans (txRow_ne _ _ _ hj)
              · rw [HD0.out, hfl0]
                exact ⟨_, _, rfl, fun h => by omega⟩
        · have hdl : 0 < s.t.deeds.length := by omega
          obtain ⟨_, _, hv1, hcc⟩ := HRDW.out
          obtain ⟨bd, od, had, _, hbd, hcell⟩ := hcc hdl
          simp at hv1
          obtain ⟨rfl, rfl⟩ := hv1
          subst had
          have hmk : ∀ V : World, (Instr.makeSlice 39 (.int .i64 0) (.int .i64 s.t.deeds.length)).run Tryz.prog V = .ok (.slice (some ⟨V.heap.size, 0, none⟩) 0 s.t.deeds.length) (V.alloc (.cells (madeCells (Value.agg zDeed).cells (s.t.deeds.length * 8)) tDeed)) := fun V => by
            have := run_makeSlice (P := Tryz.prog) (w := V) 39 tDeed i1 _ Tryz.underlying39 hj' hy0 .i64 .i64 0 s.t.deeds.length (by decide) (by omega) (by rw [hy1]; simp; omega) (by rw [hy2]; omega) (by omega)
            rw [this, hy1]
            simp only [Int.toNat_zero, Int.toNat_natCast]
          have hone : ∀ u ∈ flatD s.t.deeds, u.oneCell' = true := by
            intro u hu
            simp [flatD, Dd.cells] at hu
            obtain ⟨x, _, hx⟩ := hu
            rcases hx with rfl | rfl | rfl | rfl | rfl | rfl | rfl | rfl <;> rfl
          have hfl : (flatD s.t.deeds).length = s.t.deeds.length * 8 := flat_len Dd.cells 8 (fun _ => rfl) _
          have hmx : 0 + s.t.deeds.length ≤ maxLen := by simp only [maxLen]; omega
          have hml : s.t.deeds.length ≤ maxLen := by simp only [maxLen]; omega
          have hby : (0 + s.t.deeds.length) * 64 ≤ 140737488355328 := by omega
          have d1 : W.drew.cell? ⟨be, 6, none⟩ = some (.slice (some ⟨bd, od, none⟩) s.t.deeds.length cd) := x6
          have d2 : ∀ o, (W.alloc o).drew.cell? ⟨be, 6, none⟩ = some (.slice (some ⟨bd, od, none⟩) s.t.deeds.length cd) := fun o => (World.cell?_alloc_past _ _ _ hbl2).trans x6
          have hlz : be < (W.alloc (.cells (madeCells zDeed (s.t.deeds.length * 8)) tDeed)).drew.heap.size := by simp; omega
          have hown0 : (W.alloc (.cells (madeCells zDeed (s.t.deeds.length * 8)) tDeed)).drew.ownsRow W.heap.size tDeed 8 (.slice (some ⟨W.heap.size, 0, none⟩) 0 s.t.deeds.length) 0 [] := World.ownsRow_made W _ s.t.deeds.length (Nat.le_refl _) hml (size_madeCells _ _)
          have hnews0 : ∀ j u, (flatD s.t.deeds)[j]? = some u → (W.alloc (.cells (madeCells zDeed (s.t.deeds.length * 8)) tDeed)).drew.cell? ((⟨bd, od, none⟩ : Addr).add j) = some u := fun j u h => by
            rw [add_at]
            exact (((HKW.out.alloc _).drew).cellAt (hcell j u h) (by simp)).1
          have HNEW := Lib.hid hnews0
          have HFZ := Lib.hid xf
          clear hcell hcc hnews0
          go_region_law (first | ((refine step_append_lies (w := (W.alloc (.cells (madeCells zDeed (s.t.deeds.length * 8)) tDeed)).drew) (hgd := by rfl) (s := .tmp 29) (x := .tmp 31) (t := 39) (ho := by rfl) (base := W.heap.size) (e := tDeed) (i := i1) (z := .agg zDeed) (size := 8) (bytes := 64) (ht := Tryz.underlying39) (hi := hj') (hz := hy0) (hsize := hy1) (hby := hy2) (hzs := by rfl) (hsz := by decide) (v := .slice (some ⟨W.heap.size, 0, none⟩) 0 s.t.deeds.length) (n := 0) (xs := []) (hs := by rfl) (hown := by exact hown0) (ad := ⟨bd, od, none⟩) (m := s.t.deeds.length) (c := cd) (news := flatD s.t.deeds) (hx := by rfl) (hl := hfl) (hnews := HNEW.out) (h1 := hone) (hm := hdl) (h63 := hmx) (hbytes := hby) (hbase := by simp) (H := _) (hH := by rfl) ?_; intro g2 cap2 w2 hown hgrow hat hlt; have hkp := Kp.of_grown hgrow; have s1 : w2.cell? ⟨be, 6, none⟩ = some (.slice (some ⟨bd, od, none⟩) s.t.deeds.length cd) := ((hkp.cell hlz (by simp [Value.ownBlock]; omega)).trans (d2 _)); have s2 : ∀ j, w2.frozen? ⟨be, j, none⟩ = false := fun j => ((hkp.frozen hlz (by simp [Value.ownBlock]; omega)).trans ((((Kp.refl [] W).alloc _).drew.frozen hbl2 (by simp)).trans (XF.out j))))))
          all_goals go_wp2_with fail
          all_goals go_meet
          all_goals
            have hown1 : w2.ownsRow W.heap.size tDeed 8 (.slice (some ⟨g2, 0, none⟩) s.t.deeds.length cap2) s.t.deeds.length (flatD s.t.deeds) := by simpa using hown
            have hks : Kp [be] w2 (w2.setCell ⟨be, 6, none⟩ (.slice (some ⟨g2, 0, none⟩) s.t.deeds.length cap2)) := (Kp.refl _ _).setCell _ _ (fun _ => by simp)
            refine ⟨.slice (some ⟨g2, 0, none⟩) s.t.deeds.length cap2, ?_, ?_, ⟨_, _, rfl⟩, fun j hj => ?_, (own_rdP (P := fun x => W.heap.size ≤ x) hown1 (fun x hx => (hown1.lt x hx).1)).kp hks (fun x hx => by simp at hx; omega)⟩
            · exact ((((Kp.refl [be] W).alloc _).drew).trans hkp (fun x hx hl => by simp [Value.ownBlock] at hx; omega)).setCell _ _ (fun _ => by simp)
            · rw [World.cell?_setCell_same' _ _ _ (by rw [s1]; rfl)]
            · rw [World.cell?_setCell_other _ _ _ _ (by simp <;> omega), hkp.cell hlz (by simp [Value.ownBlock]; omega)]
              exact ((((Kp.refl [] W).alloc _).drew.cell hbl2 (by simp)).trans (X0.out j)).trans (txRow_ne _ _ _ hj)
      case rest =>
      obtain ⟨u, hku, u6, ⟨au, cu, rfl⟩, hur, hrd⟩ := hcut
      have z : ∀ j, wc.cell? ⟨be, j, none⟩ = (txRow s.t (.slice au s.t.deeds.length cu))[j]? := fun j => by
        by_cases hj : j = 6
        · subst hj; exact u6
        · exact hur j hj
      have z0 : wc.cell? ⟨be, 0, none⟩ = some (.int .i64 s.t.id) := z 0
      have z1 : wc.cell? ⟨be, 1, none⟩ = some (.int .i64 s.t.thread) := z 1
      have z2 : wc.cell? ⟨be, 2, none⟩ = some (.int .i64 s.t.status) := z 2
      have z3 : wc.cell? ⟨be, 3, none⟩ = some (.int .i64 s.t.begin_) := z 3
      have z4 : wc.cell? ⟨be, 4, none⟩ = some (.int .i64 s.t.end_) := z 4
      have z5 : wc.cell? ⟨be, 5, none⟩ = some (.int .i64 s.t.try_) := z 5
      have hwq : w.heap.size ≤ wq.heap.size := HKQ.out.size
      have hgq : w.heap.size < wq.heap.size := (HOWN.out.lt w.heap.size rfl).2
      have hkc : Kp [] wq wc := HKW.out.trans hku (fun x hx hl => by have := HBE.out; simp at hx; omega)
      have HRD := Lib.hid hrd
      have HKC := Lib.hid hkc
      clear z hur hrd hku hkc
      go_wp2_with (at_builtin; refine wpList_append_fits _ rfl (.tmp 34) (.tmp 36) 36 rfl w.heap.size tTx i0 7 Tryz.underlying36 hi' hz1 w.heap.size k l.length (txRows ((l.map St.t).take k) vs) rfl (own_kp HOWN.out (HKC.out.alloc _) (by simp)) ⟨wc.heap.size, 0, none⟩ 1 1 (txRow s.t (.slice au s.t.deeds.length cu)) rfl rfl (news_of (heap_alloc_new wc _)) (by intro v hv; simp [txRow] at hv; rcases hv with rfl | rfl | rfl | rfl | rfl | rfl | rfl <;> rfl) (by omega) ?_; intro w4 hown4 hgr4; have hk4 := Kp.of_grown hgr4)
      have hk5 : Kp [w.heap.size] wc w4 := (((Kp.refl [] wc).alloc _).mono (T := [w.heap.size]) (fun x hx _ => by simp at hx)).trans hk4 (fun x hx _ => hx)
      have hmap : (l.map St.t)[k]? = some s.t := by simp [HS.out]
      go_roundw
      case rel => exact ⟨k + 1, vs ++ [.slice au s.t.deeds.length cu], by omega, by go_num, rfl, (HKQ.out.trans HKC.out (by simp)).trans hk5 (fun x hx hl => by simp at hx; omega), by simp [hvs], by
          rw [List.take_add_one, hmap]
          simp only [Option.toList_some]
          rw [txRows_snoc (by simp [hvs]; omega)]
          exact hown4, fun j t u hj hu => by
          by_cases hjl : j < vs.length
          · rw [List.getElem?_append_left hjl] at hu
            exact ((HALL.out j t u hj hu).kp HKC.out (by simp)).kp hk5 (fun x hx hl => by simp at hx; omega)
          · have : j = vs.length := by have := (List.getElem?_eq_some_iff.1 hu).1; simp at this; omega
            subst this
            simp at hu
            subst hu
            rw [hvs, hmap] at hj
            cases hj
            exact ((HRD.out.mono (Q := fun x => w.heap.size < x) (fun x _ h => by have : W.heap.size ≤ x := h; have := HKW.out.size; omega)).kp hk5 (fun x hx hl => by simp at hx; omega))⟩
      case measure => simp [intOf]; omega
    · obtain rfl : k = l.length := by omega
      have HKQ := Lib.hid hkq
      have HOWN := Lib.hid hown
      have HALL := Lib.hid hall
      clear hkq hown hall
      go_wp2
      go_ret
      refine ⟨⟨_, rfl, vs, by simp [hvs], ?_, fun i t u ht hu => (HALL.out i t u ht hu).mono (fun x _ h => Nat.le_of_lt h)⟩, HKQ.out⟩
      have h1 := own_rdP (P := fun x => w.heap.size ≤ x) HOWN.out (fun x hx => by simp [Value.ownBlock] at hx; omega)
      rw [List.take_of_length_le (by simp)] at h1
      simpa using h1
end Go.Proofs.YtbogjkggfdhckaaGreatDoor

/-
  shape: Table, Find.
-/
namespace Go.Proofs.YtbogjkggfdhckaaGreatDoor
open Go.RowKit Go.Um

theorem RdP.ofRd {w : World} {B n : Nat} {v : Value} {xs : List Value} (h : Rd w B v n xs) : RdP w (fun x => x < B) v n xs := h
theorem TabAt.kp {w w' : World} {P : Nat → Prop} {v : Value} {l : List Tx} {S : List Nat} (h : TabAt w P v l) (hk : Kp S w w') (hS : ∀ x ∈ S, ¬ P x) : TabAt w' P v l := by
  obtain ⟨vs, h1, h2, h3⟩ := h
  exact ⟨vs, h1, h2.kp hk hS, fun i t u ht hu => (h3 i t u ht hu).kp hk hS⟩
theorem TabAt.mono {w : World} {P Q : Nat → Prop} {v : Value} {l : List Tx} (h : TabAt w P v l) (hPQ : ∀ x, x < w.heap.size → P x → Q x) : TabAt w Q v l := by
  obtain ⟨vs, h1, h2, h3⟩ := h
  exact ⟨vs, h1, h2.mono hPQ, fun i t u ht hu => (h3 i t u ht hu).mono hPQ⟩
/-- One transaction of a table. -/
theorem TabAt.row {w : World} {P : Nat → Prop} {v : Value} {l : List Tx} (h : TabAt w P v l) {i : Nat} {t : Tx} (hi : l[i]? = some t) :
    ∃ b o c u, v = .slice (some ⟨b, o, none⟩) l.length c ∧ b < w.heap.size ∧ (∀ j, j < 7 → w.cell? ⟨b, o + i * 7 + j, none⟩ = (txRow t u)[j]?) ∧ RdP w P u t.deeds.length (flatD t.deeds) := by
  obtain ⟨vs, h1, ⟨a, c, rfl, h2⟩, h3⟩ := h
  obtain ⟨u, hu⟩ := get_of_len h1 hi
  obtain ⟨b, o, rfl, _, hb, hc⟩ := h2 (by have := (List.getElem?_eq_some_iff.1 hi).1; omega)
  refine ⟨b, o, c, u, rfl, hb, fun j hj => ?_, h3 i t u hi hu⟩
  have h4 := txRows_get hi hu j hj
  obtain ⟨x, hx⟩ : ∃ x, (txRow t u)[j]? = some x := ⟨(txRow t u)[j]'(by simpa [txRow] using hj), by simp [txRow, hj]⟩
  rw [hx] at h4 ⊢
  rw [Nat.add_assoc]
  exact hc _ _ h4

set_option maxRecDepth 100000 in
set_option maxHeartbeats 1000000 in
theorem table_ok (E : Nat → Addr) (objs : List Ob) (evs : List Ev) (l : List St) (vo ve : Value) (B : Nat) (w : World) (hG : Gl E w) (ho : Rd w B vo objs.length (flatO objs)) (he : Rd w B ve evs.length (flatE evs)) (hn : 0 < objs.length) (hr : histRes objs evs = none) (hr0 : histRes objs [] = none) (h64o : Obs64 objs) (h64e : Evs64 evs) (hB : B ≤ w.heap.size) (hf : Fed objs evs l) :
    Calls Tryz.prog 13 #[.agg #[vo, ve]] w fun r w' => (∃ v, r = .returned (.tuple #[v, .nilIface]) ∧ TabAt w' (fun x => w.heap.size ≤ x) v (l.map St.t)) ∧ Kp [] w w' := by
  have hlen : evs.length ≤ 400 := by
    unfold histRes at hr
    split at hr
    · cases hr
    · omega
  have hT : ∀ W, Kp [] w W → _ := fun W hW => taken_ok E objs evs l vo ve B W (hG.kp0 hW) (ho.kp hW (by simp)) (he.kp hW (by simp)) hn hr hr0 h64o h64e (Nat.le_trans hB hW.size) hf
  have HT := Lib.hid hT
  obtain ⟨ao, co, rfl, _⟩ := ho
  obtain ⟨ae, ce, rfl, _⟩ := he
  clear hG hr hr0 h64o h64e hf hT
  go_enter Tryz.func13, Tryz.ntmps13
  go_wp2_with (first
    | (go_at_call 45; refine (HT.out _ ((Kp.refl _ _).alloc _)).mono ?_; rintro e1 w1 ⟨⟨ba, B', vo', vt, ry, rz, ps, ds, ρ, rfl, hB', hA⟩, hk1⟩; have HA := Lib.hid hA; have HK1 := Lib.hid (((Kp.refl [] w).alloc _).trans hk1 (by simp)); clear hA hk1)
    | (go_at_call 46; refine (txs_any ba B' objs vo' l evs.length vt ry rz ps ds ρ _ HA.out hlen).mono ?_; rintro e2 w2 ⟨⟨v, rfl, hTab⟩, hk2⟩; have HTab := Lib.hid hTab; have HK2 := Lib.hid hk2; clear hTab hk2))
  refine bodyPost_ret (v := .tuple #[v, .nilIface]) ?_ rfl ⟨⟨v, rfl, HTab.out.mono (fun x _ h => Nat.le_trans HK1.out.size h)⟩, HK1.out.trans HK2.out (by simp)⟩
  simp [results, Tryz.results13, go_sem]

/-- The place of a transaction. -/
def findTx (l : List Tx) (id : Int) : Option Nat := l.findIdx? (fun t => t.id == id)
set_option maxRecDepth 100000 in
set_option maxHeartbeats 1000000 in
theorem find_any (P : Nat → Prop) (l : List Tx) (id : Int) (v : Value) (w : World) (h : TabAt w P v l) (hl : l.length ≤ 1000000) :
    Calls Tryz.prog 14 #[v, .int .i64 id] w fun r w' => r = .returned (.tuple #[.int .i64 ((findTx l id).getD 0), .bool (findTx l id).isSome]) ∧ Kp [] w w' := by
  have H := Lib.hid h
  obtain ⟨vs, _, ⟨a, c, rfl, _⟩, _⟩ := h
  go_enter Tryz.func14, Tryz.ntmps14
  go_wp2
  go_loopw [10] (fun i wr => ∃ k : Nat, k ≤ l.length ∧ i = .int .i64 k ∧ Kp [] w wr ∧ ∀ (j : Nat) t, j < k → l[j]? = some t → t.id ≠ id) (fun i _ => l.length + 1 - (intOf i).toNat)
  case atStart => exact ⟨0, by omega, rfl, Kp.refl _ _, by intro j t hj; omega⟩
  case round =>
    obtain ⟨k, hk, rfl, hkr, hno⟩ := hrel
    by_cases hlt : k < l.length
    · obtain ⟨t, ht⟩ : ∃ t, l[k]? = some t := ⟨l[k], by simp [hlt]⟩
      obtain ⟨b, o, c', u, hv, hb, hc, hR⟩ := H.out.row ht
      obtain ⟨rfl, rfl⟩ : a = some ⟨b, o, none⟩ ∧ c = c' := by simpa using hv
      have q : ∀ j, j < 7 → wr.cell? ⟨b, o + k * 7 + j, none⟩ = (txRow t u)[j]? := fun j hj => (hkr.cell hb (by simp)).trans (hc j hj)
      have q0 : wr.cell? ⟨b, o + k * 7, none⟩ = some (.int .i64 t.id) := q 0 (by decide)
      have q1 : wr.cell? ⟨b, o + k * 7 + 1, none⟩ = some (.int .i64 t.thread) := q 1 (by decide)
      have q2 : wr.cell? ⟨b, o + k * 7 + 2, none⟩ = some (.int .i64 t.status) := q 2 (by decide)
      have q3 : wr.cell? ⟨b, o + k * 7 + 3, none⟩ = some (.int .i64 t.begin_) := q 3 (by decide)
      have q4 : wr.cell? ⟨b, o + k * 7 + 4, none⟩ = some (.int .i64 t.end_) := q 4 (by decide)
      have q5 : wr.cell? ⟨b, o + k * 7 + 5, none⟩ = some (.int .i64 t.try_) := q 5 (by decide)
      have q6 : wr.cell? ⟨b, o + k * 7 + 6, none⟩ = some u := q 6 (by decide)
      obtain ⟨au, cu, rfl, _⟩ := hR
      have HT := Lib.hid ht
      have HNO := Lib.hid hno
      have HKR := Lib.hid hkr
      clear ht hno hkr hc q hv
      by_cases hid : t.id = id
      · have hb1 : (t.id == id) = true := by simpa using hid
        have HID := Lib.hid hid
        clear hid
        go_wp2
        refine bodyPost_ret (v := .tuple #[.int .i64 k, .bool true]) ?_ rfl ?_
        · simp [results, Tryz.results14, go_sem]
        · have hf : findTx l id = some k := by
            unfold findTx
            rw [List.findIdx?_eq_some_iff_getElem]
            refine ⟨hlt, ?_, fun j hj => ?_⟩
            · have := HT.out
              simp [List.getElem?_eq_getElem hlt] at this
              rw [this]; simpa using HID.out
            · have := HNO.out j l[j] hj (by simp)
              simpa using this
          rw [hf]
          exact ⟨rfl, HKR.out.alloc _⟩
      · have hb1 : (t.id == id) = false := by simpa using hid
        have HID := Lib.hid hid
        clear hid
        go_wp2
        go_roundw
        case rel => exact ⟨k + 1, by omega, by go_num, HKR.out.alloc _, fun j t' hj ht' => by
          rcases Nat.lt_succ_iff_lt_or_eq.1 hj with hj | rfl
          · exact HNO.out j t' hj ht'
          · rw [HT.out] at ht'; cases ht'; exact HID.out⟩
        case measure => simp [intOf]; omega
    · obtain rfl : k = l.length := by omega
      have HNO := Lib.hid hno
      have HKR := Lib.hid hkr
      clear hno hkr
      go_wp2
      refine bodyPost_ret (v := .tuple #[.int .i64 0, .bool false]) ?_ rfl ?_
      · simp [results, Tryz.results14, go_sem]
      · have hf : findTx l id = none := by
          unfold findTx
          rw [List.findIdx?_eq_none_iff]
          intro t ht
          obtain ⟨j, hj⟩ := List.mem_iff_getElem?.1 ht
          have := HNO.out j t (List.getElem?_eq_some_iff.1 hj).1 hj
          simpa using this
        rw [hf]
        exact ⟨rfl, HKR.out⟩
end Go.Proofs.YtbogjkggfdhckaaGreatDoor

/-
  late in memory: the machine.
-/
namespace Go.Proofs.YtbogjkggfdhckaaGreatDoor
open Go.RowKit Go.Um

abbrev tStep : Nat := 128
abbrev tCell : Nat := 88
abbrev tWorker : Nat := 131
/-- Of the blocks that were there only those of these colours may change. -/
def Cl (S : List Nat) (w : World) (ρ : Nat → Nat) (C : List Nat) : Prop := ∀ x ∈ S, x < w.heap.size → ρ x ∈ C
theorem Cl.out {S C : List Nat} {w : World} {ρ : Nat → Nat} (h : Cl S w ρ C) {b : Nat} (hb : b < w.heap.size) (hc : ρ b ∉ C) : b ∉ S := fun hx => hc (h b hx hb)
/-- A cell of a block that is only read. -/
theorem cell_ro {S C : List Nat} {w w' : World} {ρ : Nat → Nat} (hk : Kp S w w') (hC : Cl S w ρ C) (h0 : 0 ∉ C) {b o : Nat} {v : Value} (hb : ρ b = 0) (hc : w.cell? ⟨b, o, none⟩ = some v) : w'.cell? ⟨b, o, none⟩ = some v :=
  (hk.cellAt hc (hC.out (World.block_lt_of_cell? w _ hc) (by rw [hb]; exact h0))).1
/-- A map from cells to numbers. -/
def AsAt (w : World) (r : Nat) (a : As) : Prop := ∃ l c, w.imap? r = some (l, c) ∧ l.map (fun e => (e.key, e.val)) = a.map (fun x => (x.1, Value.int .i64 x.2)) ∧ (∀ e ∈ l, e.born < c) ∧ (l.map (·.born)).Nodup
theorem AsAt.kp {S : List Nat} {w w' : World} {r : Nat} {a : As} (h : AsAt w r a) (hk : Kp S w w') (hr : r ∉ S) : AsAt w' r a := by
  obtain ⟨l, c, h1, h2⟩ := h
  exact ⟨l, c, (hk.imapAt h1 hr).1, h2⟩
theorem AsAt.lt {w : World} {r : Nat} {a : As} (h : AsAt w r a) : r < w.heap.size := by
  obtain ⟨l, c, h1, _⟩ := h
  exact imap_lt h1
theorem lk_as : ∀ {l : List ME} {a : As}, l.map (fun e => (e.key, e.val)) = a.map (fun x => (x.1, Value.int .i64 x.2)) → ∀ k, lk k l = (alk k a).map (Value.int .i64)
  | [], [], _, _ => rfl
  | [], _ :: _, h, _ => by simp at h
  | _ :: _, [], h, _ => by simp at h
  | e :: l, x :: a, h, k => by
    simp only [List.map_cons, List.cons.injEq, Prod.mk.injEq] at h
    have ih := lk_as h.2 k
    by_cases hk : k = x.1
    · simp [lk, alk, h.1.1, h.1.2, hk]
    · simp [lk, alk, h.1.1, hk, ih]
theorem AsAt.look {w : World} {r : Nat} {a : As} (h : AsAt w r a) : ∃ l c, w.imap? r = some (l, c) ∧ ∀ k, lk k l = (alk k a).map (Value.int .i64) := by
  obtain ⟨l, c, h1, h2, _⟩ := h
  exact ⟨l, c, h1, lk_as h2⟩
def MapV (w : World) (ρ : Nat → Nat) (c : Nat) (v : Value) (a : As) : Prop := (v = .map none ∧ a = []) ∨ ∃ r, v = .map (some r) ∧ ρ r = c ∧ AsAt w r a
theorem MapV.fr {S C : List Nat} {w w' : World} {ρ ρ' : Nat → Nat} {c : Nat} {v : Value} {a : As} (h : MapV w ρ c v a) (hk : Kp S w w') (hC : Cl S w ρ C) (hc : c ∉ C) (hρ : ∀ x, x < w.heap.size → ρ' x = ρ x) : MapV w' ρ' c v a := by
  rcases h with h | ⟨r, h1, h2, h3⟩
  · exact .inl h
  · exact .inr ⟨r, h1, by rw [hρ r h3.lt, h2], h3.kp hk (hC.out h3.lt (by rw [h2]; exact hc))⟩
/-- What a thread does next, as a value. -/
def StpAt (w : World) (ρ : Nat → Nat) (bm i : Nat) (x : Stp) (v : Value) : Prop :=
  match x with
  | .nil => v = .nilFunc
  | .abort => ∃ b1 b2, v = .func (.func 70) #[] #[.pointer (some ⟨b1, 0, none⟩), .pointer (some ⟨b2, 0, none⟩)] ∧ ρ b1 = 0 ∧ ρ b2 = 0 ∧ w.cell? ⟨b1, 0, none⟩ = some (.pointer (some ⟨bm, 0, none⟩)) ∧ w.cell? ⟨b2, 0, none⟩ = some (.int .i64 i)
  | .look => ∃ b1 b2, v = .func (.func 72) #[] #[.pointer (some ⟨b1, 0, none⟩), .pointer (some ⟨b2, 0, none⟩)] ∧ ρ b1 = 0 ∧ ρ b2 = 0 ∧ w.cell? ⟨b1, 0, none⟩ = some (.pointer (some ⟨bm, 0, none⟩)) ∧ w.cell? ⟨b2, 0, none⟩ = some (.int .i64 i)
  | .commit => ∃ b1 b2, v = .func (.func 106) #[] #[.pointer (some ⟨b1, 0, none⟩), .pointer (some ⟨b2, 0, none⟩)] ∧ ρ b1 = 0 ∧ ρ b2 = 0 ∧ w.cell? ⟨b1, 0, none⟩ = some (.pointer (some ⟨bm, 0, none⟩)) ∧ w.cell? ⟨b2, 0, none⟩ = some (.int .i64 i)
  | .ans e => ∃ b1 b2 b3, v = .func (.func 74) #[] #[.pointer (some ⟨b1, 0, none⟩), .pointer (some ⟨b2, 0, none⟩), .pointer (some ⟨b3, 0, none⟩)] ∧ ρ b1 = 0 ∧ ρ b2 = 0 ∧ ρ b3 = 0 ∧ w.cell? ⟨b1, 0, none⟩ = some (.pointer (some ⟨bm, 0, none⟩)) ∧ w.cell? ⟨b2, 0, none⟩ = some (.int .i64 i) ∧ ∀ j, j < 8 → w.cell? ⟨b3, j, none⟩ = (Ev.cells e)[j]?
theorem StpAt.fr {S C : List Nat} {w w' : World} {ρ ρ' : Nat → Nat} {bm i : Nat} {x : Stp} {v : Value} (h : StpAt w ρ bm i x v) (hk : Kp S w w') (hC : Cl S w ρ C) (h0 : 0 ∉ C) (hρ : ∀ x, x < w.heap.size → ρ' x = ρ x) : StpAt w' ρ' bm i x v := by
  have two : ∀ b1 b2, ρ b1 = 0 ∧ ρ b2 = 0 ∧ w.cell? ⟨b1, 0, none⟩ = some (.pointer (some ⟨bm, 0, none⟩)) ∧ w.cell? ⟨b2, 0, none⟩ = some (.int .i64 i) → ρ' b1 = 0 ∧ ρ' b2 = 0 ∧ w'.cell? ⟨b1, 0, none⟩ = some (.pointer (some ⟨bm, 0, none⟩)) ∧ w'.cell? ⟨b2, 0, none⟩ = some (.int .i64 i) := by
    rintro b1 b2 ⟨h1, h2, h3, h4⟩
    exact ⟨by rw [hρ b1 (World.block_lt_of_cell? w _ h3), h1], by rw [hρ b2 (World.block_lt_of_cell? w _ h4), h2], cell_ro hk hC h0 h1 h3, cell_ro hk hC h0 h2 h4⟩
  cases x with
  | nil => exact h
  | abort => obtain ⟨b1, b2, hv, h⟩ := h; exact ⟨b1, b2, hv, two b1 b2 h⟩
  | look => obtain ⟨b1, b2, hv, h⟩ := h; exact ⟨b1, b2, hv, two b1 b2 h⟩
  | commit => obtain ⟨b1, b2, hv, h⟩ := h; exact ⟨b1, b2, hv, two b1 b2 h⟩
  | ans e =>
    obtain ⟨b1, b2, b3, hv, h1, h2, h3, h4, h5, h6⟩ := h
    obtain ⟨g1, g2, g3, g4⟩ := two b1 b2 ⟨h1, h2, h4, h5⟩
    have h60 : w.cell? ⟨b3, 0, none⟩ = some (.int .i64 e.kind) := h6 0 (by decide)
    have hl := World.block_lt_of_cell? w _ h60
    refine ⟨b1, b2, b3, hv, g1, g2, by rw [hρ b3 hl, h3], g3, g4, fun j hj => ?_⟩
    rw [hk.cell hl (hC.out hl (by rw [h3]; exact h0))]
    exact h6 j hj
def flatC (l : List (Int × Int)) : List Value := l.flatMap (fun c => [.int .i64 c.1, .int .i64 c.2])
def flatW (l : List (Value × Value)) : List Value := l.flatMap (fun c => [c.1, c.2])
/-- Where a machine lies. -/
structure Lay where
  bm : Nat
  bt : Nat
  bw : Nat
  B : Nat
  gt : Nat
  ct : Nat
  gn : Nat
  cn : Nat
  ve : Value
  vc : Value
  vt : Value
  vcd : Value
  vtd : Value
  vce : Value
  vwk : Value
  P : Nat → Prop
  Q : Nat → Prop
  ρ : Nat → Nat
structure MachAt (w : World) (p : Pg) (L : Lay) (m : Mc) (nv : List Value) (wv : List (Value × Value)) : Prop where
  wk : WalkAt w L.bw L.B L.P p L.vc L.vt m.ths L.gt L.ct m.evs L.ve
  t0 : w.cell? ⟨L.bt, 0, none⟩ = some L.vcd
  t1 : w.cell? ⟨L.bt, 1, none⟩ = some L.vtd
  t2 : w.cell? ⟨L.bt, 2, none⟩ = some (.pointer (some ⟨L.bw, 0, none⟩))
  t3 : w.cell? ⟨L.bt, 3, none⟩ = some (.slice (some ⟨L.gn, 0, none⟩) p.ths.length L.cn)
  t4 : w.cell? ⟨L.bt, 4, none⟩ = some (.func (.func 48) #[.pointer (some ⟨L.bm, 0, none⟩)] #[])
  pg : PgAt w L.Q L.vcd L.vtd p
  q0 : ∀ x, L.Q x → x < w.heap.size ∧ L.ρ x = 0
  p0 : ∀ x, L.P x → L.ρ x = 0
  nx : w.ownsRow L.B tStep 1 (.slice (some ⟨L.gn, 0, none⟩) p.ths.length L.cn) p.ths.length nv
  st : ∀ (i : Nat) x v, m.nx[i]? = some x → nv[i]? = some v → StpAt w L.ρ L.bm i x v
  m0 : w.cell? ⟨L.bm, 0, none⟩ = some (.pointer (some ⟨L.bt, 0, none⟩))
  m1 : w.cell? ⟨L.bm, 1, none⟩ = some L.vce
  m2 : w.cell? ⟨L.bm, 2, none⟩ = some L.vwk
  ce : w.ownsRow L.B tCell 2 L.vce m.cells.length (flatC m.cells)
  wo : w.ownsRow L.B tWorker 2 L.vwk m.ws.length (flatW wv)
  wl : wv.length = m.ws.length
  wm : ∀ (i : Nat) q v, m.ws[i]? = some q → wv[i]? = some v → MapV w L.ρ (10 + 2 * i) v.1 q.1 ∧ MapV w L.ρ (11 + 2 * i) v.2 q.2
  bg : ∀ (i : Nat) t v, m.ths[i]? = some t → t.begun = true → wv[i]? = some v → ∃ r1 r2, v = (.map (some r1), .map (some r2))
  k1 : L.ρ L.bw = 1
  k2 : L.ρ L.gt = 2
  k3 : ∀ g, L.ve.ownBlock = some g → L.ρ g = 3
  k4 : L.ρ L.gn = 4
  k5 : ∀ g, L.vce.ownBlock = some g → L.ρ g = 5
  k6 : ∀ g, L.vwk.ownBlock = some g → L.ρ g = 6
  kt : L.ρ L.bt = 0
  km : L.ρ L.bm = 0
  mb : ∀ (i : Nat) (v : Value × Value) r, wv[i]? = some v → v.1 = .map (some r) ∨ v.2 = .map (some r) → L.B ≤ r
  base : L.B ≤ L.bw ∧ L.B ≤ L.gt ∧ L.B ≤ L.gn
/-- The walk goes on; all else stays. -/
theorem MachAt.walk {w w' : World} {p : Pg} {L : Lay} {m : Mc} {nv : List Value} {wv : List (Value × Value)} (h : MachAt w p L m nv wv) {S : List Nat} (hk : Kp S w w') (hC : Cl S w L.ρ [1, 2, 3]) {ths' : List Th} {evs' : List Ev} {ve' : Value} (hw : WalkAt w' L.bw L.B L.P p L.vc L.vt ths' L.gt L.ct evs' ve') (hve : ∀ g, ve'.ownBlock = some g → L.ve.ownBlock = some g ∨ w.heap.size ≤ g)
    (hbg : ∀ (i : Nat) t v, ths'[i]? = some t → t.begun = true → wv[i]? = some v → ∃ r1 r2, v = (.map (some r1), .map (some r2))) :
    MachAt w' p { L with ve := ve', ρ := fun x => if ve'.ownBlock = some x then 3 else L.ρ x } { m with ths := ths', evs := evs' } nv wv := by
  have hρ : ∀ x, x < w.heap.size → (if ve'.ownBlock = some x then 3 else L.ρ x) = L.ρ x := by
    intro x hx
    split
    · rename_i he
      rcases hve x he with h1 | h1
      · exact (h.k3 x h1).symm
      · omega
    · rfl
  have ro : ∀ {b o : Nat} {v : Value}, L.ρ b = 0 → w.cell? ⟨b, o, none⟩ = some v → w'.cell? ⟨b, o, none⟩ = some v := fun hb hc => cell_ro hk hC (by simp) hb hc
  have hlt := fun {b o : Nat} {v : Value} (hc : w.cell? ⟨b, o, none⟩ = some v) => World.block_lt_of_cell? w _ hc
  have hown : ∀ {e sz n : Nat} {v : Value} {xs : List Value}, w.ownsRow L.B e sz v n xs → (∀ g, v.ownBlock = some g → L.ρ g ∉ [1, 2, 3]) → w'.ownsRow L.B e sz v n xs := fun ho hc => own_kp ho hk (fun g hg => hC.out (ho.lt g hg).2 (hc g hg))
  exact {
    wk := hw, t0 := ro h.kt h.t0, t1 := ro h.kt h.t1, t2 := ro h.kt h.t2, t3 := ro h.kt h.t3, t4 := ro h.kt h.t4
    pg := h.pg.kp hk (fun x hx hq => by
      obtain ⟨q1, q2⟩ := h.q0 x hq
      exact hC.out q1 (by rw [q2]; simp) hx)
    q0 := fun x hx => ⟨Nat.lt_of_lt_of_le (h.q0 x hx).1 hk.size, by show (if _ then _ else _) = 0; rw [hρ x (h.q0 x hx).1]; exact (h.q0 x hx).2⟩
    p0 := fun x hx => by show (if _ then _ else _) = 0; rw [hρ x (h.wk.p0 x hx)]; exact h.p0 x hx
    nx := hown h.nx (fun g hg => by simp [Value.ownBlock] at hg; subst hg; rw [h.k4]; simp)
    st := fun i x v hx hv => (h.st i x v hx hv).fr hk hC (by simp) hρ
    m0 := ro h.km h.m0, m1 := ro h.km h.m1, m2 := ro h.km h.m2
    ce := hown h.ce (fun g hg => by rw [h.k5 g hg]; simp)
    wo := hown h.wo (fun g hg => by rw [h.k6 g hg]; simp)
    wl := h.wl
    wm := fun i q v hq hv => ⟨(h.wm i q v hq hv).1.fr hk hC (by simp; omega) hρ, (h.wm i q v hq hv).2.fr hk hC (by simp; omega) hρ⟩
    bg := hbg
    k1 := by show (if _ then _ else _) = 1; rw [hρ _ h.wk.lt]; exact h.k1
    k2 := by show (if _ then _ else _) = 2; rw [hρ _ (h.wk.ow.lt _ rfl).2]; exact h.k2
    k3 := fun g hg => by show (if _ then _ else _) = 3; rw [if_pos hg]
    k4 := by show (if _ then _ else _) = 4; rw [hρ _ (h.nx.lt _ rfl).2]; exact h.k4
    k5 := fun g hg => by show (if _ then _ else _) = 5; rw [hρ _ (h.ce.lt g hg).2]; exact h.k5 g hg
    k6 := fun g hg => by show (if _ then _ else _) = 6; rw [hρ _ (h.wo.lt g hg).2]; exact h.k6 g hg
    kt := by show (if _ then _ else _) = 0; rw [hρ _ (hlt h.t0)]; exact h.kt
    km := by show (if _ then _ else _) = 0; rw [hρ _ (hlt h.m0)]; exact h.km
    mb := h.mb
    base := h.base }
end Go.Proofs.YtbogjkggfdhckaaGreatDoor

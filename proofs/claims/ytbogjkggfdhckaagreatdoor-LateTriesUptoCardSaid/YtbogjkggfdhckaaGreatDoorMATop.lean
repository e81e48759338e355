/-
  LateTries holds, for every program and every schedule that read as data of bulk at most the row's bound: nothing aborts but behind a try or a cancel, and a call is always answered. Conditions: the row's own (the listed variables hold what the program's text lays).
-/
import Derived.Test.YtbogjkggfdhckaaGreatDoorCards
import Derived.Test.YtbogjkggfdhckaaGreatDoorTie
import Derived.Test.YtbogjkggfdhckaaGreatDoorMA28
import Derived.Test.YtbogjkggfdhckaaGreatDoorMA27
import Derived.WalkKit
namespace Go.Proofs.YtbogjkggfdhckaaGreatDoor.lateTries
open Go.ChangeShapes Go.WideShapes Go.ChangeAt Go.RowKit Go.Um

theorem plainList : Rows.lateTriesUptoRow.laid.all (fun x => x.2.handleName?.isNone) = true := by decide +kernel
theorem needList : ∀ x ∈ needS, x ∈ Rows.lateTriesUptoRow.laid := by
  intro x hx
  simp only [needS, List.mem_cons, List.not_mem_nil, or_false] at hx
  rcases hx with rfl | rfl | rfl | rfl | rfl | rfl | rfl | rfl | rfl | rfl | rfl | rfl | rfl | rfl <;> simp [Rows.lateTriesUptoRow]
noncomputable def laidWorld (os : Os) : World := World.laidAll Tryz.prog os Rows.lateTriesUptoRow.laid
theorem laid_met (os : Os) (args : Array Value) : laidMet Tryz.prog Rows.lateTriesUptoRow.laid ((laidWorld os).forCall (fun _ _ => 0) ⟨#[], args, []⟩).memory := laidMet_laidAll _ (by kernel_rfl) (by kernel_rfl)
theorem reads (os : Os) {H : Type} (enc : TypeId × Value → H) : ∃ places, DataW.whole enc Tryz.prog ((laidWorld os).forCall (fun _ _ => 0) ⟨#[], #[.agg #[.slice none 0 0, .slice none 0 0], .slice none 0 0], []⟩).memory Tryz.f4.params.toList Rows.lateTriesSpec.vars false #[Value.agg #[.slice none 0 0, .slice none 0 0], .slice none 0 0].toList 8 = some ([.agg [.nil, .nil], .nil], [], places) :=
  ⟨[], by kernel_rfl⟩

set_option maxRecDepth 100000 in
theorem liftedUpto (os : Os) (started : os.Started) (H : Type) (enc : TypeId × Value → H) (F : Stop.Interp) :
    ReturnsInHanded {} Tryz.checked os 4 .any ((Rows.OpenSpec.upto Rows.lateTriesSpec).preRow enc Tryz.prog Tryz.f4 Rows.lateTriesUptoRow.domain false Rows.lateTriesUptoRow.laid) (((Rows.OpenSpec.upto Rows.lateTriesSpec).at F).post enc Tryz.prog Tryz.f4 false true false false) := by
  obtain ⟨places, hx⟩ := reads os enc
  refine returnsInHanded_of_row (C := Tryz.checked) (s := Rows.OpenSpec.upto Rows.lateTriesSpec) own started (by kernel_rfl) Tryz.func4
    (witness_row_atRef (enc := enc) (C := Tryz.checked) false (laidWorld os) #[.agg #[.slice none 0 0, .slice none 0 0], .slice none 0 0] (World.laidAll_os _ _ _) (by kernel_rfl) (by kernel_rfl) (by kernel_rfl)
      (OpenSpec.preRow_of_cond 8 hx (by kernel_rfl) (fun k hk => by cases hk; kernel_rfl) (by kernel_rfl) (laid_met os _))) ?_
  intro W base args ds gs before hval hW _ _ _ hL _ _
  exact post2 (s := Rows.lateTriesSpec) Tryz.params4 rfl rfl (fun _ _ => rfl) plainList needList hval hW hL (fun E P PS p vc vt vs sched hG hp hs => lateTries_any E P PS p vc vt vs sched W hG hp hs)

theorem saidUpto : Rows.LateTriesUptoSaid :=
  OpenClaim.holds_of_cond 4 Tryz.f4 rfl rfl rfl rfl rfl rfl rfl ⟨rfl, rfl, rfl, rfl, rfl⟩ rfl rfl rfl rfl rfl (by kernel_rfl) Tryz.func4 (by kernel_rfl)
    (of_decide_eq_true (by kernel_rfl)) (by unfold Func.isWrapper; first | (rw [if_pos (by decide +kernel)]; kernel_rfl) | (rw [if_neg (by decide +kernel)]; exact ⟨rfl, rfl⟩))
    (fun os started H enc _ F => by rw [OpenClaim.pre_eq_preRow]; exact liftedUpto os started H enc F)

theorem plain (f : FuncId) (fn : Func) (hf : Tryz.pinned.checked.prog.funcNamed "umpire/umpirelaw21.LateTries" = some f) (hfn : Tryz.pinned.checked.prog.funcs[f]? = some fn) :
    false = Tryz.pinned.checked.prog.looks [] ∧ ∀ (j : Nat) t, fn.params[j]? = some t → Tryz.pinned.checked.prog.wantsStandIn t = false := by
  obtain rfl : f = 4 := Option.some.inj ((show Tryz.prog.funcNamed "umpire/umpirelaw21.LateTries" = some 4 by kernel_rfl).symm.trans hf) |>.symm
  obtain rfl : fn = Tryz.f4 := (Option.some.inj (Tryz.func4.symm.trans hfn)).symm
  refine ⟨by kernel_rfl, fun j t ht => ?_⟩
  rw [Tryz.params4] at ht
  have : t = 25 ∨ t = 22 := by simpa using Array.mem_of_getElem? ht
  rcases this with rfl | rfl
  · exact (show Tryz.prog.wantsStandIn 25 = false by kernel_rfl)
  · exact (show Tryz.prog.wantsStandIn 22 = false by kernel_rfl)
/-- The card. -/
theorem cardUpto : Rows.LateTriesUptoCardSaid :=
  Claim7.holds_tied_plain_at .later [] _ _ _ _ saidUpto (fun _ h => by cases h) (by kernel_rfl) (fun _ h => by cases h) lateTriesUpto_row_tie rfl ⟨rfl, rfl⟩ (by kernel_rfl) rfl plain (by kernel_rfl)
#print axioms cardUpto
end Go.Proofs.YtbogjkggfdhckaaGreatDoor.lateTries

/-
  Lemmas on the way to Rr1: Rw3.
-/
import Derived.Test.YtbogjkggfdhckaaGreatDoorMA16
import Derived.Test.YtbogjkggfdhckaaGreatDoorMA12
import Derived.Carry
import Derived.ProofKit
import Derived.Deep.DeepHandedRow
import Derived.Deep.DeepWitnessRowRef
import Derived.Lay
/-
  The rows: a law of a program and a schedule, from its walk to its statement's post.
-/
namespace Go.Proofs.YtbogjkggfdhckaaGreatDoor
open Go.ChangeShapes Go.WideShapes Go.ChangeAt Go.RowKit Go.Um

theorem laidOut : laidOutB Tryz.prog = true := by kernel_rfl
theorem own : ownKnob Tryz.prog.godebug = none := by kernel_rfl
theorem below_kp {W W' : World} (h : Kp [] W W') : Below W.heap.size W W' := ⟨h.os, h.tape, h.output, h.size, fun k hk => h.block k hk (by simp)⟩
set_option maxRecDepth 100000 in
/-- From the walk to the post: two arguments, only read. -/
theorem post2 {fn : Func} {s : ChangeSpec} {walk : Nat} {H : Type} {enc : TypeId × Value → H} {W : World} {base : Nat} {args : Array Value} {ds gs : List (DataW H)} {before : List MemPlace} {laid : List (String × DataW Unit)}
    (hpar : fn.params = #[25, 22]) (hres : fn.resultTypes = #[4]) (hvars : s.vars = []) (hfn : ∀ (d1 d2 : DataW H), s.fn H [d1, d2] = { results := [.lit (.bool true)], args := [d1, d2] })
    (hplain : laid.all (fun x => x.2.handleName?.isNone) = true) (hneed : ∀ x ∈ needS, x ∈ laid)
    (hval : ∀ (j : Nat) t v, fn.params[j]? = some t → args[j]? = some v → Value.okWide Tryz.prog W .any base t v)
    (hW : DataW.Whole enc Tryz.prog fn.params.toList s.vars false W args.toList ds gs before) (hL : laidMetH Tryz.prog laid W)
    (hwalk : ∀ (E : Nat → Addr) (P PS : Nat → Prop) (p : Pg) (vc vt vs : Value) (sched : List Int), Gl E W → PgAt W P vc vt p → RdP W PS vs sched.length (flatI sched) → Calls Tryz.prog walk #[.agg #[vc, vt], vs] W fun r w' => r = .returned (.bool true) ∧ Kp [] W w') :
    Calls Tryz.prog walk args W fun e W' => ∃ v, e = .returned v ∧ s.post enc Tryz.prog fn false true false false W args v W' := by
  have hW' := hW
  obtain ⟨p, q, hA0, hV, rfl, hfz, hnd⟩ := hW
  have hA : DataW.TrodAll enc Tryz.prog W 0 (fun _ => true) true fn.params.toList args.toList ds p := hA0
  rw [hpar] at hA hval
  obtain ⟨v0, vs0, d0, ds0, p0, q0, hargs, rfl, rfl, h0, r0⟩ := trodAll_cons hA
  obtain ⟨v1, vs1, d1, ds1, p1, q1, hargs1, rfl, rfl, h1, r1⟩ := trodAll_cons r0
  obtain ⟨rfl, rfl, rfl⟩ := trodAll_nil r1
  rw [hvars] at hV
  obtain ⟨rfl, rfl⟩ := trodVars_none hV
  subst hargs1
  obtain rfl : args = #[v0, v1] := by cases args; simp_all
  have ok0 : Value.okWide Tryz.prog W .any base 25 v0 := hval 0 _ v0 rfl rfl
  obtain ⟨E, hG⟩ := gl_of (by rwa [MakeChecks.laidMetH_plain _ _ _ hplain] at hL) hneed
  obtain ⟨cs, rfl⟩ : ∃ cs, v0 = .agg cs := by
    unfold Value.okWide at ok0
    rw [Tryz.underlying25] at ok0
    obtain ⟨cs, hc, _⟩ := ok0
    exact ⟨cs, hc⟩
  obtain ⟨fuel0, g0⟩ := h0
  obtain ⟨fuel1, g1⟩ := h1
  obtain ⟨vc, vt, pg, hcs, hpg⟩ := prog_of g0
  have hcs2 : cs = #[vc, vt] := by
    simp only [Value.cells] at hcs
    cases cs; simp_all
  subst hcs2
  obtain ⟨vs, zs, hvs, hzs⟩ := ints_of g1
  have hv1 : v1 = vs := by
    have ok1 : Value.okWide Tryz.prog W .any base 22 v1 := hval 1 _ v1 rfl rfl
    unfold Value.okWide at ok1
    rw [Tryz.underlying22] at ok1
    dsimp only at ok1
    unfold Cell.okWide at ok1
    rw [Tryz.underlying22] at ok1
    cases v1 <;> simp [Value.cells, Cell.ok, Tryz.underlying22] at ok1 hvs
    exact hvs
  subst hv1
  refine (hwalk E _ _ pg vc vt v1 zs hG hpg hzs).mono fun e W' ⟨he, hk⟩ => ?_
  subst he
  have hb := below_kp hk
  have hlt : ∀ x ∈ p0 ++ p1, x.block < W.heap.size := fun x hx => hW'.lt x (by simp only [List.append_nil] at hx ⊢; simpa using hx)
  refine ⟨_, rfl, _, _, _, [], p0 ++ (p1 ++ []), [], hW', ?_, ?_, ?_, hb.frame _, fun h => by cases h⟩
  · rw [show (([d0, d1] : List (DataW H)) ++ []) = [d0, d1] from rfl, hfn, hres]
    exact trodAll_mk1 (shut_bool Tryz.underlying4 true)
  · rw [show (([d0, d1] : List (DataW H)) ++ []) = [d0, d1] from rfl, hfn, hpar]
    refine trodAll_cons_mk (Below.trod laidOut (by kernel_rfl) (of_decide_eq_true (by kernel_rfl)) ⟨fuel0, g0⟩ hb (fun x hx => hlt x (by simp [hx]))) (trodAll_cons_mk (Below.trod laidOut (by kernel_rfl) (of_decide_eq_true (by kernel_rfl)) ⟨fuel1, g1⟩ hb (fun x hx => hlt x (by simp [hx]))) trodAll_mk0)
  · rw [show (([d0, d1] : List (DataW H)) ++ []) = [d0, d1] from rfl, hfn, hvars]; rfl
end Go.Proofs.YtbogjkggfdhckaaGreatDoor

/-
  Lemmas on the way to Rr1: Rw1.
-/
import Derived.Test.YtbogjkggfdhckaaGreatDoorRows
import Derived.Test.YtbogjkggfdhckaaGreatDoorMA4
import Derived.Deep.Slices
import Derived.Deep.Strs
import Derived.ChangeSlices
import Derived.OpenShut
/-
  The rows: what a program and a schedule read as.
-/
namespace Go.Proofs.YtbogjkggfdhckaaGreatDoor
open Go.RowKit Go.Um Go.ChangeShapes Go.Deep

/-- A slice that reads: its cells. -/
theorem rdP_of_slice {H : Type} {enc : TypeId × Value → H} {w : World} {sp : Nat → Bool} {held : Bool} {t e c fuel : Nat} {cs : List Value} {x : DataW H × List MemPlace} (ht : Tryz.prog.underlying t = some (.slice e)) (hc : Tryz.prog.cellsOf e = c) (h0 : 0 < c) (h : DataW.trod enc Tryz.prog w 0 sp held fuel t cs = some x) :
    ∃ v n k, ∃ C : Nat → List Value, cs = [v] ∧ (∀ i, i < n → (C i).length = c ∧ ∃ y, DataW.trod enc Tryz.prog w 0 sp held k e (C i) = some y) ∧ RdP w (fun x => x < w.heap.size) v n ((List.range n).flatMap C) := by
  rcases open_slice ht h with ⟨rfl, _⟩ | ⟨a, len, cap, m, n, D, Pl, rfl, _, hl, _, hm, _, hx⟩
  · exact ⟨_, 0, 0, fun _ => [], rfl, fun i hi => by omega, _, _, rfl, fun hn => by omega⟩
  · have hlm : len ≤ m := by rw [hm]; split <;> omega
    obtain ⟨C, hC⟩ := choose_lt (α := List Value) (n := len) (p := fun i cs' => w.cells? 0 (a.add (i * Tryz.prog.cellsOf e)) (Tryz.prog.cellsOf e) = some cs' ∧ DataW.trod enc Tryz.prog w 0 sp held n e cs' = some (D i, Pl i)) (fun i hi => hx i (by omega))
    have hcell : ∀ i, i < len → (C i).length = c ∧ ∀ r, r < c → w.cell? (a.add (i * c + r)) = (C i)[r]? := by
      intro i hi
      obtain ⟨h1, _⟩ := hC i hi
      rw [hc] at h1
      obtain ⟨_, h3, h4⟩ := World.cells?_some h1
      refine ⟨h3, fun r hr => ?_⟩
      have := h4 r hr
      rw [add_add] at this
      exact this
    refine ⟨_, len, n, fun i => if i < len then C i else List.replicate c .nilFunc, rfl, fun i hi => ?_, _, _, rfl, fun hn => ?_⟩
    · simp only [if_pos hi]
      exact ⟨(hcell i hi).1, _, (hC i hi).2⟩
    · obtain ⟨hl0, hr0⟩ := hcell 0 hn
      have h00 := hr0 0 h0
      obtain ⟨v0, hv0⟩ : ∃ v, (C 0)[0]? = some v := ⟨(C 0)[0]'(by omega), by simp⟩
      rw [hv0] at h00
      simp only [Nat.zero_mul, Nat.zero_add] at h00
      have ha : a = ⟨a.block, a.off, none⟩ := by
        have e0 : a.add 0 = a := by unfold Addr.add; simp
        rw [e0] at h00
        unfold World.cell? at h00
        split at h00
        · split at h00
          · cases h00
          · rename_i hs
            cases a with
            | mk b o s => cases s with
              | none => rfl
              | some s => exact absurd rfl hs
        · cases h00
      obtain ⟨b, o, rfl⟩ : ∃ b o, a = ⟨b, o, none⟩ := ⟨_, _, ha⟩
      have hadd : ∀ j, ((⟨b, o, none⟩ : Addr).add j) = ⟨b, o + j, none⟩ := fun j => by unfold Addr.add; split <;> simp_all
      rw [hadd] at h00
      have hb := World.block_lt_of_cell? w _ h00
      refine ⟨b, o, rfl, hb, hb, fun j u hj => ?_⟩
      have hlen : ∀ i, (if i < len then C i else List.replicate c Value.nilFunc).length = c := fun i => by
        split
        · rename_i hi; exact (hcell i hi).1
        · simp
      have hjl : j < len * c := by
        have h1 := (List.getElem?_eq_some_iff.1 hj).1
        rw [flat_len _ c hlen] at h1
        simpa using h1
      have hi : j / c < len := Nat.div_lt_of_lt_mul (by rw [Nat.mul_comm]; exact hjl)
      have hr : j % c < c := Nat.mod_lt _ h0
      have hjj : j / c * c + j % c = j := by rw [Nat.mul_comm]; exact Nat.div_add_mod j c
      have h2 := flat_get _ c hlen (List.range len) (j / c) (j / c) (by simp [hi]) (j % c) hr
      rw [hjj, hj, if_pos hi] at h2
      have h3 := (hcell (j / c) hi).2 (j % c) hr
      rw [hjj, hadd, ← h2] at h3
      exact h3
theorem range_list {α β : Type} {n : Nat} {C : Nat → List β} {f : α → List β} {Q : α → Prop} (h : ∀ i, i < n → ∃ x, C i = f x ∧ Q x) : ∃ l : List α, l.length = n ∧ (List.range n).flatMap C = l.flatMap f ∧ ∀ x ∈ l, Q x := by
  obtain ⟨X, hX⟩ : ∃ l : List α, l.length = n ∧ (∀ (i : Nat) x, l[i]? = some x → C i = f x) ∧ ∀ x ∈ l, Q x := by
    induction n with
    | zero => exact ⟨[], rfl, by simp, by simp⟩
    | succ n ih =>
      obtain ⟨l, h1, h2, h3⟩ := ih (fun i hi => h i (by omega))
      obtain ⟨x, hx, hq⟩ := h n (by omega)
      refine ⟨l ++ [x], by simp [h1], fun i y hy => ?_, fun y hy => ?_⟩
      · by_cases hi : i < l.length
        · rw [List.getElem?_append_left hi] at hy
          exact h2 i y hy
        · have : i = l.length := by have := (List.getElem?_eq_some_iff.1 hy).1; simp at this; omega
          subst this
          simp at hy; subst hy
          rw [h1]; exact hx
      · rcases List.mem_append.1 hy with hy | hy
        · exact h3 y hy
        · simp at hy; subst hy; exact hq
  refine ⟨X, hX.1, ?_, hX.2.2⟩
  rw [← hX.1, List.flatMap_def, List.flatMap_def]
  congr 1
  apply List.ext_getElem?
  intro i
  simp only [List.getElem?_map]
  by_cases hi : i < X.length
  · simp [hi]
    exact hX.2.1 i X[i] (by simp)
  · simp [hi]
theorem flatI_flat : ∀ zs : List Int, zs.flatMap (fun z : Int => [Value.int .i64 z]) = flatI zs
  | [] => rfl
  | a :: l => by
    have := flatI_flat l
    unfold flatI at this ⊢
    rw [List.flatMap_cons, this]; rfl
theorem und_int : Tryz.prog.underlying 3 = some (.int .i64) := Tryz.underlying3
/-- A slice of numbers. -/
theorem ints_of {H : Type} {enc : TypeId × Value → H} {w : World} {sp : Nat → Bool} {held : Bool} {fuel : Nat} {cs : List Value} {x : DataW H × List MemPlace} (h : DataW.trod enc Tryz.prog w 0 sp held fuel 22 cs = some x) :
    ∃ v, ∃ zs : List Int, cs = [v] ∧ RdP w (fun x => x < w.heap.size) v zs.length (flatI zs) := by
  obtain ⟨v, n, k, C, rfl, hC, hR⟩ := rdP_of_slice (c := 1) Tryz.underlying22 (by kernel_rfl) (by decide) h
  obtain ⟨zs, h1, h2, _⟩ := range_list (n := n) (C := C) (f := fun z : Int => [Value.int .i64 z]) (Q := fun _ => True) (fun i hi => by
    obtain ⟨_, y, hy⟩ := hC i hi
    obtain ⟨z, hz, _⟩ := DataW.trod_int und_int hy
    exact ⟨z, hz, trivial⟩)
  refine ⟨v, zs, rfl, ?_⟩
  rw [h2, ← h1] at hR
  rw [flatI_flat] at hR
  exact hR
/-- A slice of acts. -/
theorem acts_of {H : Type} {enc : TypeId × Value → H} {w : World} {sp : Nat → Bool} {held : Bool} {fuel : Nat} {cs : List Value} {x : DataW H × List MemPlace} (h : DataW.trod enc Tryz.prog w 0 sp held fuel 67 cs = some x) :
    ∃ v, ∃ acts : List Ac, cs = [v] ∧ RdP w (fun x => x < w.heap.size) v acts.length (flatA acts) := by
  obtain ⟨v, n, k, C, rfl, hC, hR⟩ := rdP_of_slice (c := 3) Tryz.underlying67 (by kernel_rfl) (by decide) h
  obtain ⟨acts, h1, h2, _⟩ := range_list (n := n) (C := C) (f := Ac.cells) (Q := fun _ => True) (fun i hi => by
    obtain ⟨hl, y, hy⟩ := hC i hi
    obtain ⟨y0, y1, y2, m, _, _, g0, g1, g2⟩ := trod_struct3 Tryz.underlying70 hy
    obtain ⟨z0, hz0, _⟩ := DataW.trod_int und_int g0
    obtain ⟨z1, hz1, _⟩ := DataW.trod_int und_int g1
    obtain ⟨z2, hz2, _⟩ := DataW.trod_int und_int g2
    have c1 : Tryz.prog.cellsOf 3 = 1 := by kernel_rfl
    match hCi : C i, hl with
    | [a, b, c], _ =>
      rw [hCi] at hz0 hz1 hz2
      simp [c1] at hz0 hz1 hz2
      exact ⟨⟨z0, z1, z2⟩, by simp [Ac.cells, hz0, hz1, hz2], trivial⟩)
  refine ⟨v, acts, rfl, ?_⟩
  rw [h2, ← h1] at hR
  exact hR
theorem flat_fst {α β : Type} : ∀ l : List (α × β), l.flatMap (fun y => [y.1]) = l.map Prod.fst
  | [] => rfl
  | a :: l => by rw [List.flatMap_cons, flat_fst l]; rfl
theorem txs_of {H : Type} {enc : TypeId × Value → H} {w : World} {sp : Nat → Bool} {held : Bool} {fuel : Nat} {cs : List Value} {x : DataW H × List MemPlace} (h : DataW.trod enc Tryz.prog w 0 sp held fuel 68 cs = some x) :
    ∃ v, ∃ txs : List (List Ac), cs = [v] ∧ TxsAt w (fun x => x < w.heap.size) v txs := by
  obtain ⟨v, n, k, C, rfl, hC, hR⟩ := rdP_of_slice (c := 1) Tryz.underlying68 (by kernel_rfl) (by decide) h
  obtain ⟨l, h1, h2, h3⟩ := range_list (α := Value × List Ac) (n := n) (C := C) (f := fun y => [y.1]) (Q := fun y => RdP w (fun x => x < w.heap.size) y.1 y.2.length (flatA y.2)) (fun i hi => by
    obtain ⟨hl, y, hy⟩ := hC i hi
    obtain ⟨u, acts, hu, hq⟩ := acts_of hy
    exact ⟨(u, acts), hu, hq⟩)
  have e : l.flatMap (fun y => [y.1]) = l.map Prod.fst := flat_fst l
  rw [h2, ← h1, e] at hR
  refine ⟨v, l.map Prod.snd, rfl, l.map Prod.fst, by simp, by simpa using hR, fun k u acts hu ha => ?_⟩
  simp only [List.getElem?_map, Option.map_eq_some_iff] at hu ha
  obtain ⟨y, hy, rfl⟩ := hu
  obtain ⟨y', hy', rfl⟩ := ha
  rw [hy] at hy'; cases hy'
  exact h3 y (List.mem_of_getElem? hy)
set_option maxRecDepth 100000 in
/-- A program. -/
theorem prog_of {H : Type} {enc : TypeId × Value → H} {w : World} {sp : Nat → Bool} {held : Bool} {fuel : Nat} {cs : List Value} {x : DataW H × List MemPlace} (h : DataW.trod enc Tryz.prog w 0 sp held fuel 25 cs = some x) :
    ∃ vc vt, ∃ p : Pg, cs = [vc, vt] ∧ PgAt w (fun x => x < w.heap.size) vc vt p := by
  obtain ⟨y0, y1, m, _, hl, g0, g1⟩ := trod_struct2 Tryz.underlying25 h
  obtain ⟨vc, zs, hvc, hR0⟩ := ints_of g0
  obtain ⟨vt, n, k, C, hvt, hC, hR⟩ := rdP_of_slice (c := 1) Tryz.underlying23 (by kernel_rfl) (by decide) g1
  obtain ⟨l, h1, h2, h3⟩ := range_list (α := Value × List (List Ac)) (n := n) (C := C) (f := fun y => [y.1]) (Q := fun y => TxsAt w (fun x => x < w.heap.size) y.1 y.2) (fun i hi => by
    obtain ⟨hl, y, hy⟩ := hC i hi
    obtain ⟨u, txs, hu, hq⟩ := txs_of hy
    exact ⟨(u, txs), hu, hq⟩)
  have e : l.flatMap (fun y => [y.1]) = l.map Prod.fst := flat_fst l
  rw [h2, ← h1, e] at hR
  have c1 : Tryz.prog.cellsOf 22 = 1 := by kernel_rfl
  have c2 : Tryz.prog.cellsOf 23 = 1 := by kernel_rfl
  have c3 : Tryz.prog.cellsOf 25 = 2 := by kernel_rfl
  rw [c3] at hl
  match cs, hl with
  | [a, b], _ =>
    simp [c1] at hvc
    simp [c2] at hvt
    subst hvc hvt
    refine ⟨_, _, ⟨zs, l.map Prod.snd⟩, rfl, hR0, l.map Prod.fst, by simp, by simpa using hR, fun i u txs hu ha => ?_⟩
    simp only [List.getElem?_map, Option.map_eq_some_iff] at hu ha
    obtain ⟨y, hy, rfl⟩ := hu
    obtain ⟨y', hy', rfl⟩ := ha
    rw [hy] at hy'; cases hy'
    exact h3 y (List.mem_of_getElem? hy)
end Go.Proofs.YtbogjkggfdhckaaGreatDoor

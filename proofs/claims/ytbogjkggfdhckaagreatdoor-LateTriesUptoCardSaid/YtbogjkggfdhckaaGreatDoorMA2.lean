/-
  Lemmas on the way to Rr1: AO, AP, B1, Me, Rd, Pd.
-/
import Derived.Test.YtbogjkggfdhckaaGreatDoorMA1
import Derived.StillTail
/-
  A region that draws its order, op by op: each operation is walked once, in whatever world that the others may have left, on what the operations that it waits for have yielded.
-/
namespace Go.Um
open Go.RowKit

/-- x with v at i. -/
def put1 (x : Nat → Value) (i : Nat) (v : Value) : Nat → Value := fun j => if j = i then v else x j
/-- What is known of the operations that an operation waits for. -/
def aoDeps (φ : Nat → Value → World → Prop) (x : Nat → Value) (w : World) : List Edge → Prop
  | [] => True
  | e :: r => (Region.binds .any e = true → φ e.on (x e.on) w) ∧ aoDeps φ x w r
/-- What is asked behind an operation. -/
def aoPost (A : (Nat → Value) → Act) (K : World → Prop) (R : World → World → Prop) (φ : Nat → Value → World → Prop) (Q : Exit → Act → World → Prop) (x : Nat → Value) (w : World) (i : Nat) : Exit → Act → World → Prop
  | .normal, a', w' => ∃ v, a' = A (put1 x i v) ∧ K w' ∧ R w w' ∧ φ i v w'
  | e, a', w' => Q e a' w'
/-- The operations, one by one. -/
def aoAll (P : Program) (ops : Array Oper) (A : (Nat → Value) → Act) (K : World → Prop) (R : World → World → Prop) (φ : Nat → Value → World → Prop) (Q : Exit → Act → World → Prop) : List Oper → Nat → Prop
  | [], _ => True
  | o :: l, i => (∀ x w, K w → aoDeps φ x w o.after.toList → wpList P ops (aoPost A K R φ Q x w i) [o] (A x) w) ∧ aoAll P ops A K R φ Q l (i + 1)
/-- Each slot is written by its own operation alone. -/
def aoSlots (A : (Nat → Value) → Act) : List Oper → Nat → Prop
  | [], _ => True
  | o :: l, i => (∀ x v, (A x).put o.dst v = A (put1 x i v)) ∧ aoSlots A l (i + 1)

def ascB (md : Region.Mode) (ops : Array Oper) : Bool :=
  (List.range ops.size).all fun i => match ops[i]? with | some o => o.after.all (fun e => !Region.binds md e || decide (e.on < i)) | none => true
def headDone (ops : Array Oper) (n : Nat) : Array Bool := ((List.range ops.size).map fun i => decide (i < n)).toArray
def aoB (ops : Array Oper) (n : Nat) : Bool :=
  decide (n < ops.size) && Region.sinkB .any ops n && Region.chainB .any ops n && ascB .any ops && Region.seqB .any ops (ops.size - n) n (headDone ops n)

section
variable {P : Program} {ops : Array Oper} {A : (Nat → Value) → Act} {K : World → Prop} {R : World → World → Prop} {φ : Nat → Value → World → Prop} {Q : Exit → Act → World → Prop}

theorem aoAll_get : ∀ (l : List Oper) (k : Nat), aoAll P ops A K R φ Q l k → ∀ (j : Nat) (o : Oper), l[j]? = some o → ∀ x w, K w → aoDeps φ x w o.after.toList → wpList P ops (aoPost A K R φ Q x w (k + j)) [o] (A x) w
  | [], _, _, j, o, h => by simp at h
  | o' :: l, k, h, j, o, hj => by
    cases j with
    | zero => simp at hj; subst hj; exact h.1
    | succ j =>
      have := aoAll_get l (k + 1) h.2 j o (by simpa using hj)
      rwa [show k + (j + 1) = k + 1 + j by omega]
theorem aoSlots_get : ∀ (l : List Oper) (k : Nat), aoSlots A l k → ∀ (j : Nat) (o : Oper), l[j]? = some o → ∀ x v, (A x).put o.dst v = A (put1 x (k + j) v)
  | [], _, _, j, o, h => by simp at h
  | o' :: l, k, h, j, o, hj => by
    cases j with
    | zero => simp at hj; subst hj; exact h.1
    | succ j =>
      have := aoSlots_get l (k + 1) h.2 j o (by simpa using hj)
      rwa [show k + (j + 1) = k + 1 + j by omega]
theorem aoDeps_of {x : Nat → Value} {w : World} : ∀ (l : List Edge), (∀ e ∈ l, Region.binds .any e = true → φ e.on (x e.on) w) → aoDeps φ x w l
  | [], _ => trivial
  | e :: r, h => ⟨h e (by simp), aoDeps_of r (fun e' he' => h e' (by simp [he']))⟩

theorem Oper.wp_cases {o : Oper} {a : Act} {w : World} {N N' : Act → World → Prop} {E E' : Exit → Act → World → Prop} (h : o.wp P a w N E) (hN : ∀ a w, N a w → N' a w) (hE : ∀ c a w, E (.panic c) a w → E' (.panic c) a w) (hO : LetsOut E → LetsOut E') : o.wp P a w N' E' := by
  unfold Oper.wp at *
  generalize (execOp a.eval o).run P w = r at *
  cases r with
  | ok n w' =>
    cases n <;> simp only [Oper.upon] at h ⊢ <;>
      first
        | exact hN _ _ h
        | exact Calls.mono h (fun e w'' he => by cases e <;> first | exact hN _ _ he | exact hE _ _ _ he | exact hO he)
        | exact Rows.mono h (fun _ _ he => hN _ _ he)
  | halt y w' =>
    cases y <;> simp only [Oper.upon] at h ⊢
    exact hE _ _ _ h

theorem wpOp_of_aoPost {x : Nat → Value} {w w0 : World} {i : Nat} {o : Oper} {a : Act} (ho : ops[i]? = some o) (h : wpList P ops (aoPost A K R φ Q x w0 i) [o] a w) :
    wpOp P ops Q i (fun a' w' => ∃ v, a' = A (put1 x i v) ∧ K w' ∧ R w0 w' ∧ φ i v w') a w := by
  unfold wpOp
  simp only [ho]
  unfold wpList at h
  split at h
  · rename_i hw
    rw [if_pos hw]
    have hO : LetsOut (aoPost A K R φ Q x w0 i) → LetsOut Q := fun ⟨a, w, h⟩ => ⟨a, w, h⟩
    rcases h with h | ⟨h1, h2⟩
    · exact .inl (Oper.wp_cases h (fun a w h => by simpa [wpList, aoPost] using h) (fun c a w h => h) hO)
    · exact .inr ⟨h1, hO h2⟩
  · rename_i hw
    rw [if_neg hw]
    simpa [wpList, aoPost] using h

theorem headDone_eq {n : Nat} {listed : Array Bool} (inv : HeadInv .any ops n listed) (hall : ∀ i, i < n → listed.getD i false = true) : listed = headDone ops n := by
  apply Array.ext
  · simp [headDone, inv.size]
  · intro i h1 h2
    have hi : i < ops.size := by rw [← inv.size]; exact h1
    simp only [headDone, List.getElem_toArray, List.getElem_map, List.getElem_range]
    by_cases hn : i < n
    · have := hall i hn
      simp [h1] at this
      simp [hn, this]
    · have := inv.tail i (by omega) hi
      simp [h1] at this
      simp [hn, this]

theorem ao_head {l : List Oper} {n : Nat} (hl : ops = l.toArray) (hn : n < ops.size) (hs : Region.sinkB .any ops n = true) (hc : Region.chainB .any ops n = true) (hasc : ascB .any ops = true)
    (hseq : Region.seqB .any ops (ops.size - n) n (headDone ops n) = true)
    (hstab : ∀ i v w w', φ i v w → R w w' → φ i v w')
    (_hslots : aoSlots A (l.take n) 0) (hop : aoAll P ops A K R φ Q (l.take n) 0)
    (hend : ∀ x w, K w → (∀ i, i < n → φ i (x i) w) → wpList P ops Q (l.drop n) (A x) w) :
    ∀ (f : Nat) (listed : Array Bool) (x : Nat → Value) (w : World), HeadInv .any ops n listed → ((List.range n).filter (fun i => !listed.getD i false)).length = f → K w → (∀ i, i < n → listed.getD i false = true → φ i (x i) w) →
      wpAny P .any ops Q (f + (ops.size - n)) listed (A x) w := by
  intro f
  induction f with
  | zero =>
    intro listed x w inv hf hK hφ
    have hall : ∀ i, i < n → listed.getD i false = true := by
      intro i hi
      have h0 := List.length_eq_zero_iff.1 hf
      have := List.filter_eq_nil_iff.1 h0 i (List.mem_range.2 hi)
      simpa using this
    have hld := headDone_eq inv hall
    subst hld
    rw [Nat.zero_add]
    have hd : (l.drop n).length = ops.size - n := by subst hl; simp
    have := wpAny_of_seq (P := P) (md := .any) (Q' := Q) (l.drop n) n (headDone ops n) (A x) w (fun j => by subst hl; simp [List.getElem?_drop]) (by rw [hd]; exact hseq) (hend x w hK (fun i hi => hφ i hi (hall i hi)))
    rwa [hd] at this
  | succ f ih =>
    intro listed x w inv hf hK hφ
    -- there is a head that is not listed
    have hex : ∃ i, i < n ∧ listed.getD i false = false ∧ ∀ j, j < i → listed.getD j false = true := by
      have hne : (List.range n).filter (fun i => !listed.getD i false) ≠ [] := by intro h; rw [h] at hf; cases hf
      obtain ⟨i0, hi0⟩ := List.exists_mem_of_ne_nil _ hne
      have hi0' := List.mem_filter.1 hi0
      have : ∃ i, (i < n ∧ listed.getD i false = false) ∧ ∀ j, j < i → ¬ (j < n ∧ listed.getD j false = false) := by
        have hp : ∃ i, i < n ∧ listed.getD i false = false := ⟨i0, List.mem_range.1 hi0'.1, by simpa using hi0'.2⟩
        obtain ⟨i, hi⟩ := hp
        induction i using Nat.strongRecOn with
        | _ i ihs =>
          by_cases h : ∃ j, j < i ∧ (j < n ∧ listed.getD j false = false)
          · obtain ⟨j, hj, hj2⟩ := h
            exact ihs j hj hj2
          · exact ⟨i, hi, fun j hj hj2 => h ⟨j, hj, hj2⟩⟩
      obtain ⟨i, ⟨h1, h2⟩, h3⟩ := this
      refine ⟨i, h1, h2, fun j hj => ?_⟩
      have := h3 j hj
      cases hv : listed.getD j false with
      | true => rfl
      | false => exact absurd ⟨by omega, hv⟩ this
    obtain ⟨i, hin, hun, hlow⟩ := hex
    have hisz : i < listed.size := by rw [inv.size]; omega
    have hunT : listed.getD i true = false := getD_in hisz hun
    have hready : i ∈ Region.ready .any ops listed := by
      obtain ⟨o, ho⟩ : ∃ o, ops[i]? = some o := ⟨ops[i], Array.getElem?_eq_getElem (by omega)⟩
      refine mem_ready.2 ⟨hunT, o, ho, fun e he hb => hlow e.on ?_⟩
      have h1 := List.all_eq_true.1 hasc i (List.mem_range.2 (by omega))
      rw [ho] at h1
      have h2 := Array.all_eq_true_iff_forall_mem.1 h1 e he
      simpa [hb] using h2
    rw [show f + 1 + (ops.size - n) = (f + (ops.size - n)) + 1 by omega]
    refine ⟨fun h0 => (by rw [h0] at hready; cases hready), fun j hj => ?_⟩
    have hjn : j < n := by
      rcases Nat.lt_or_ge j n with h | h
      · exact h
      · exact absurd hj (tail_waits hs hc hn inv (n - i) i rfl hin hunT j h)
    obtain ⟨hjun, o, ho, hdeps⟩ := mem_ready.1 hj
    have hjl : (l.take n)[j]? = some o := by
      subst hl
      simp only [List.getElem?_toArray] at ho
      simp [hjn, ho]
    have h1 := aoAll_get (l.take n) 0 hop j o hjl x w hK (aoDeps_of _ (fun e he hb => by
      have hea : e ∈ o.after := Array.mem_toList_iff.1 he
      have hlt : e.on < j := by
        have h1 := List.all_eq_true.1 hasc j (List.mem_range.2 (by omega))
        rw [ho] at h1
        have h2 := Array.all_eq_true_iff_forall_mem.1 h1 e hea
        simpa [hb] using h2
      exact hφ e.on (by omega) (hdeps e hea hb)))
    rw [Nat.zero_add] at h1
    refine wpOp_mono ?_ (wpOp_of_aoPost ho h1)
    rintro a' w' ⟨v, rfl, hK', hR, hv⟩
    refine ih (listed.setIfInBounds j true) (put1 x j v) w' (inv.set hj hjn) ?_ hK' ?_
    · -- one less
      have hjr : j ∈ (List.range n).filter (fun i => !listed.getD i false) := List.mem_filter.2 ⟨List.mem_range.2 hjn, by rw [getD_both hjun]; rfl⟩
      have hsame : (List.range n).filter (fun i => !(listed.setIfInBounds j true).getD i false) = ((List.range n).filter (fun i => !listed.getD i false)).filter (fun i => i != j) := by
        rw [List.filter_filter]
        apply List.filter_congr
        intro k hk
        by_cases hkj : k = j
        · subst hkj
          have hks : k < listed.size := by rw [inv.size]; omega
          simp [hks]
        · rw [getD_set_ne false (Ne.symm hkj)]
          simp [hkj]
      rw [hsame]
      have hnd : ((List.range n).filter (fun i => !listed.getD i false)).Nodup := List.Pairwise.filter _ List.nodup_range
      have hlen := List.length_erase_of_mem hjr
      rw [List.Nodup.erase_eq_filter hnd] at hlen
      rw [hlen, hf]
      rfl
    · intro k hk hkl
      by_cases hkj : k = j
      · subst hkj
        simpa [put1] using hv
      · rw [getD_set_ne false (Ne.symm hkj)] at hkl
        simp only [put1, hkj, if_false]
        exact hstab _ _ _ _ (hφ k hk hkl) hR

/-- **The rule.** -/
theorem wp_region_ao {id : Nat} {l : List Oper} (n : Nat) (A : (Nat → Value) → Act) (K : World → Prop) (R : World → World → Prop) (φ : Nat → Value → World → Prop) (x0 : Nat → Value) {a : Act} {w : World}
    (hm : P.follows .mixedOrders = true) (hB : aoB l.toArray n = true) (ha : a = A x0) (hK : K w.drew)
    (hstab : ∀ i v w w', φ i v w → R w w' → φ i v w')
    (hop : aoAll P l.toArray A K R φ Q (l.take n) 0)
    (hslots : aoSlots A (l.take n) 0)
    (hend : ∀ x w, K w → (∀ i, i < n → φ i (x i) w) → wpList P l.toArray Q (l.drop n) (A x) w) :
    (Code.region id l.toArray true).wp P Q a w := by
  simp only [aoB, Bool.and_eq_true, decide_eq_true_eq] at hB
  obtain ⟨⟨⟨⟨hn, hs⟩, hc⟩, hasc⟩, hseq⟩ := hB
  subst ha
  refine wp_region_any hm ?_
  have inv0 : HeadInv .any l.toArray n (Array.replicate l.toArray.size false) :=
    ⟨by simp, fun j oj _ hl => (by rw [getD_replicate_false] at hl; cases hl), fun t _ ht => getD_in (by simpa using ht) (getD_replicate_false _ _)⟩
  have hlen : ((List.range n).filter (fun i => !(Array.replicate l.toArray.size false).getD i false)).length = n := by
    have : (List.range n).filter (fun i => !(Array.replicate l.toArray.size false).getD i false) = List.range n := by
      apply List.filter_eq_self.2
      intro i _
      rw [getD_replicate_false]; rfl
    rw [this, List.length_range]
  have H := ao_head (P := P) (K := K) (R := R) (φ := φ) (Q := Q) rfl hn hs hc hasc hseq hstab hslots hop hend n _ x0 w.drew inv0 hlen hK (fun i _ h => by rw [getD_replicate_false] at h; cases h)
  rwa [show n + (l.toArray.size - n) = l.toArray.size by omega] at H

/-- The frame with the yields of the operations in their slots. -/
def aoSet : List Oper → Nat → (Nat → Value) → Act → Act
  | [], _, _, a => a
  | o :: l, i, x, a => aoSet l (i + 1) x (a.put o.dst (x i))
/-- What stands in the operations' slots ahead of them. -/
def aoOld (l : List Oper) (a : Act) : Nat → Value := fun i => match (l[i]?).bind (·.dst) with | some d => a.tmps.getD d undef | none => undef

def aoDst : List Oper → Bool
  | [] => true
  | o :: l => (match o.dst with | some d => l.all (fun q => q.dst != some d) | none => true) && aoDst l
theorem Act.put_same (a : Act) (d : Option Tmp) (v u : Value) : (a.put d v).put d u = a.put d u := by
  cases d with
  | none => rfl
  | some d => simp [Act.put]
theorem Act.put_old (a : Act) (d : Tmp) : a.put (some d) (a.tmps.getD d undef) = a := by
  cases a with
  | mk tmps defers =>
    simp only [Act.put, Act.mk.injEq, and_true]
    apply Array.ext_getElem?
    intro i
    by_cases hi : d = i
    · subst hi
      by_cases hd : d < tmps.size
      · simp [hd]
      · simp [hd]
    · rw [Array.getElem?_setIfInBounds_ne hi]
theorem aoSet_comm (d : Option Tmp) (v : Value) : ∀ (l : List Oper) (i : Nat) (x : Nat → Value) (a : Act), (∀ o ∈ l, ∀ t, o.dst = some t → d ≠ some t) → (aoSet l i x a).put d v = aoSet l i x (a.put d v)
  | [], _, _, _, _ => rfl
  | o :: l, i, x, a, h => by
    simp only [aoSet]
    rw [aoSet_comm d v l (i + 1) x _ (fun q hq => h q (by simp [hq])), Act.put_comm a (x i) v (h o (by simp))]
theorem aoSet_congr : ∀ (l : List Oper) (i : Nat) (x y : Nat → Value) (a : Act), (∀ j, i ≤ j → x j = y j) → aoSet l i x a = aoSet l i y a
  | [], _, _, _, _, _ => rfl
  | o :: l, i, x, y, a, h => by
    simp only [aoSet]
    rw [h i (Nat.le_refl _), aoSet_congr l (i + 1) x y _ (fun j hj => h j (by omega))]
theorem aoSet_slots (a : Act) : ∀ (l m : List Oper) (k : Nat), aoDst l = true → (∀ (j : Nat) (o : Oper), m[j]? = some o → l[k + j]? = some o) → aoSlots (fun x => aoSet l 0 x a) m k := by
  have key : ∀ (l : List Oper) (i : Nat) (x : Nat → Value) (b : Act) (j : Nat) (o : Oper) (v : Value), aoDst l = true → l[j]? = some o → (aoSet l i x b).put o.dst v = aoSet l i (put1 x (i + j) v) b := by
    intro l
    induction l with
    | nil => intro i x b j o v _ h; simp at h
    | cons q l ih =>
      intro i x b j o v hd hj
      simp only [aoDst, Bool.and_eq_true] at hd
      cases j with
      | zero =>
        simp at hj; subst hj
        simp only [aoSet, Nat.add_zero]
        rw [aoSet_comm _ _ l (i + 1) x _ (fun p hp t ht e => by
          have h1 := hd.1
          rw [e] at h1
          have := List.all_eq_true.1 h1 p hp
          simp [ht] at this), Act.put_same]
        have h0 : put1 x i v i = v := by simp [put1]
        rw [h0]
        exact aoSet_congr l (i + 1) _ _ _ (fun m hm => by simp [put1]; omega)
      | succ j =>
        simp only [aoSet]
        rw [ih (i + 1) x _ j o v hd.2 (by simpa using hj), show i + 1 + j = i + (j + 1) by omega]
        have h0 : put1 x (i + (j + 1)) v i = x i := by simp [put1]
        rw [h0]
  intro l m
  induction m with
  | nil => intro k _ _; trivial
  | cons o m ih =>
    intro k hd h
    refine ⟨fun x v => ?_, ih (k + 1) hd (fun j q hq => by have := h (j + 1) q (by simpa using hq); rwa [show k + 1 + j = k + (j + 1) by omega])⟩
    have := key l 0 x a k o v hd (by simpa using h 0 o (by simp))
    rwa [Nat.zero_add] at this
theorem aoSet_old : ∀ (l : List Oper) (i : Nat) (x : Nat → Value) (a : Act), (∀ (j : Nat) (o : Oper) d, l[j]? = some o → o.dst = some d → x (i + j) = a.tmps.getD d undef) → aoSet l i x a = a
  | [], _, _, _, _ => rfl
  | o :: l, i, x, a, h => by
    simp only [aoSet]
    have h1 : a.put o.dst (x i) = a := by
      cases hd : o.dst with
      | none => rfl
      | some d =>
        have := h 0 o d (by simp) hd
        rw [Nat.add_zero] at this
        rw [this]; exact Act.put_old a d
    rw [h1]
    exact aoSet_old l (i + 1) x a (fun j q d hq hd => by have := h (j + 1) q d (by simpa using hq) hd; rwa [show i + 1 + j = i + (j + 1) by omega])

/-- The rule, the frame left to Lean. -/
theorem wp_region_ao2 {id : Nat} {l : List Oper} (n : Nat) (K : World → Prop) (R : World → World → Prop) (φ : Nat → Value → World → Prop) {a : Act} {w : World}
    (hm : P.follows .mixedOrders = true) (hB : aoB l.toArray n = true) (hD : aoDst (l.take n) = true) (hK : K w.drew)
    (hstab : ∀ i v w w', φ i v w → R w w' → φ i v w')
    (hop : aoAll P l.toArray (fun x => aoSet (l.take n) 0 x a) K R φ Q (l.take n) 0)
    (hend : ∀ x w, K w → (∀ i, i < n → φ i (x i) w) → wpList P l.toArray Q (l.drop n) (aoSet (l.take n) 0 x a) w) :
    (Code.region id l.toArray true).wp P Q a w :=
  wp_region_ao n (fun x => aoSet (l.take n) 0 x a) K R φ (aoOld (l.take n) a) hm hB
    (aoSet_old (l.take n) 0 _ a (fun j o d hj hd => by simp only [aoOld, Nat.zero_add, hj, Option.bind_some, hd])).symm hK hstab hop
    (aoSet_slots a (l.take n) (l.take n) 0 hD (fun j o h => by rw [Nat.zero_add]; exact h)) hend
end
end Go.Um

/-
  A region that draws its order, op by op, where one operation (j) is known to run once: what holds of the world ahead of it (K false), behind it (K true).
-/
namespace Go.Um
open Go.RowKit

def aoPost3 (A : (Nat → Value) → Act) (K : Bool → World → Prop) (R1 R2 : World → World → Prop) (φ : Nat → Value → World → Prop) (Q : Exit → Act → World → Prop) (j : Nat) (c : Bool) (x : Nat → Value) (w : World) (i : Nat) : Exit → Act → World → Prop
  | .normal, a', w' => ∃ v, a' = A (put1 x i v) ∧ K (c || decide (i = j)) w' ∧ (if i = j then R2 w w' else R1 w w') ∧ φ i v w'
  | e, a', w' => Q e a' w'
def aoAll3 (P : Program) (ops : Array Oper) (A : (Nat → Value) → Act) (K : Bool → World → Prop) (R1 R2 : World → World → Prop) (φ : Nat → Value → World → Prop) (Q : Exit → Act → World → Prop) (j : Nat) : List Oper → Nat → Prop
  | [], _ => True
  | o :: l, i => (∀ c x w, (i = j → c = false) → K c w → aoDeps φ x w o.after.toList → wpList P ops (aoPost3 A K R1 R2 φ Q j c x w i) [o] (A x) w) ∧ aoAll3 P ops A K R1 R2 φ Q j l (i + 1)

section
variable {P : Program} {ops : Array Oper} {A : (Nat → Value) → Act} {K : Bool → World → Prop} {R1 R2 : World → World → Prop} {φ : Nat → Value → World → Prop} {Q : Exit → Act → World → Prop} {jx : Nat}

theorem aoAll3_get : ∀ (l : List Oper) (k : Nat), aoAll3 P ops A K R1 R2 φ Q jx l k → ∀ (j : Nat) (o : Oper), l[j]? = some o → ∀ c x w, (k + j = jx → c = false) → K c w → aoDeps φ x w o.after.toList → wpList P ops (aoPost3 A K R1 R2 φ Q jx c x w (k + j)) [o] (A x) w
  | [], _, _, j, o, h => by simp at h
  | o' :: l, k, h, j, o, hj => by
    cases j with
    | zero => simp at hj; subst hj; exact h.1
    | succ j =>
      have := aoAll3_get l (k + 1) h.2 j o (by simpa using hj)
      rwa [show k + (j + 1) = k + 1 + j by omega]
theorem wpOp_of_aoPost3 {c : Bool} {x : Nat → Value} {w w0 : World} {i : Nat} {o : Oper} {a : Act} (ho : ops[i]? = some o) (h : wpList P ops (aoPost3 A K R1 R2 φ Q jx c x w0 i) [o] a w) :
    wpOp P ops Q i (fun a' w' => ∃ v, a' = A (put1 x i v) ∧ K (c || decide (i = jx)) w' ∧ (if i = jx then R2 w0 w' else R1 w0 w') ∧ φ i v w') a w := by
  unfold wpOp
  simp only [ho]
  unfold wpList at h
  split at h
  · rename_i hw
    rw [if_pos hw]
    have hO : LetsOut (aoPost3 A K R1 R2 φ Q jx c x w0 i) → LetsOut Q := fun ⟨a, w, h⟩ => ⟨a, w, h⟩
    rcases h with h | ⟨h1, h2⟩
    · exact .inl (Oper.wp_cases h (fun a w h => by simpa [wpList, aoPost3] using h) (fun c a w h => h) hO)
    · exact .inr ⟨h1, hO h2⟩
  · rename_i hw
    rw [if_neg hw]
    simpa [wpList, aoPost3] using h

theorem ao_head3 {l : List Oper} {n : Nat} (hl : ops = l.toArray) (hn : n < ops.size) (hs : Region.sinkB .any ops n = true) (hc : Region.chainB .any ops n = true) (hasc : ascB .any ops = true)
    (hseq : Region.seqB .any ops (ops.size - n) n (headDone ops n) = true)
    (hst1 : ∀ i v w w', φ i v w → R1 w w' → φ i v w') (hst2 : ∀ i v w w', i ≠ jx → φ i v w → R2 w w' → φ i v w')
    (_hslots : aoSlots A (l.take n) 0) (hop : aoAll3 P ops A K R1 R2 φ Q jx (l.take n) 0)
    (hend : ∀ c x w, K c w → (∀ i, i < n → φ i (x i) w) → wpList P ops Q (l.drop n) (A x) w) :
    ∀ (f : Nat) (listed : Array Bool) (x : Nat → Value) (w : World), HeadInv .any ops n listed → ((List.range n).filter (fun i => !listed.getD i false)).length = f → K (listed.getD jx false) w → (∀ i, i < n → listed.getD i false = true → φ i (x i) w) →
      wpAny P .any ops Q (f + (ops.size - n)) listed (A x) w := by
  intro f
  induction f with
  | zero =>
    intro listed x w inv hf hK hφ
    have hall : ∀ i, i < n → listed.getD i false = true := by
      intro i hi
      have h0 := List.length_eq_zero_iff.1 hf
      have := List.filter_eq_nil_iff.1 h0 i (List.mem_range.2 hi)
      simpa using this
    have hld := headDone_eq inv hall
    subst hld
    rw [Nat.zero_add]
    have hd : (l.drop n).length = ops.size - n := by subst hl; simp
    have := wpAny_of_seq (P := P) (md := .any) (Q' := Q) (l.drop n) n (headDone ops n) (A x) w (fun j => by subst hl; simp [List.getElem?_drop]) (by rw [hd]; exact hseq) (hend _ x w hK (fun i hi => hφ i hi (hall i hi)))
    rwa [hd] at this
  | succ f ih =>
    intro listed x w inv hf hK hφ
    -- there is a head that is not listed
    have hex : ∃ i, i < n ∧ listed.getD i false = false ∧ ∀ j, j < i → listed.getD j false = true := by
      have hne : (List.range n).filter (fun i => !listed.getD i false) ≠ [] := by intro h; rw [h] at hf; cases hf
      obtain ⟨i0, hi0⟩ := List.exists_mem_of_ne_nil _ hne
      have hi0' := List.mem_filter.1 hi0
      have : ∃ i, (i < n ∧ listed.getD i false = false) ∧ ∀ j, j < i → ¬ (j < n ∧ listed.getD j false = false) := by
        have hp : ∃ i, i < n ∧ listed.getD i false = false := ⟨i0, List.mem_range.1 hi0'.1, by simpa using hi0'.2⟩
        obtain ⟨i, hi⟩ := hp
        induction i using Nat.strongRecOn with
        | _ i ihs =>
          by_cases h : ∃ j, j < i ∧ (j < n ∧ listed.getD j false = false)
          · obtain ⟨j, hj, hj2⟩ := h
            exact ihs j hj hj2
          · exact ⟨i, hi, fun j hj hj2 => h ⟨j, hj, hj2⟩⟩
      obtain ⟨i, ⟨h1, h2⟩, h3⟩ := this
      refine ⟨i, h1, h2, fun j hj => ?_⟩
      have := h3 j hj
      cases hv : listed.getD j false with
      | true => rfl
      | false => exact absurd ⟨by omega, hv⟩ this
    obtain ⟨i, hin, hun, hlow⟩ := hex
    have hisz : i < listed.size := by rw [inv.size]; omega
    have hunT : listed.getD i true = false := getD_in hisz hun
    have hready : i ∈ Region.ready .any ops listed := by
      obtain ⟨o, ho⟩ : ∃ o, ops[i]? = some o := ⟨ops[i], Array.getElem?_eq_getElem (by omega)⟩
      refine mem_ready.2 ⟨hunT, o, ho, fun e he hb => hlow e.on ?_⟩
      have h1 := List.all_eq_true.1 hasc i (List.mem_range.2 (by omega))
      rw [ho] at h1
      have h2 := Array.all_eq_true_iff_forall_mem.1 h1 e he
      simpa [hb] using h2
    rw [show f + 1 + (ops.size - n) = (f + (ops.size - n)) + 1 by omega]
    refine ⟨fun h0 => (by rw [h0] at hready; cases hready), fun j hj => ?_⟩
    have hjn : j < n := by
      rcases Nat.lt_or_ge j n with h | h
      · exact h
      · exact absurd hj (tail_waits hs hc hn inv (n - i) i rfl hin hunT j h)
    obtain ⟨hjun, o, ho, hdeps⟩ := mem_ready.1 hj
    have hjl : (l.take n)[j]? = some o := by
      subst hl
      simp only [List.getElem?_toArray] at ho
      simp [hjn, ho]
    have h1 := aoAll3_get (l.take n) 0 hop j o hjl (listed.getD jx false) x w (fun he => by rw [Nat.zero_add] at he; subst he; exact getD_both hjun) hK (aoDeps_of _ (fun e he hb => by
      have hea : e ∈ o.after := Array.mem_toList_iff.1 he
      have hlt : e.on < j := by
        have h1 := List.all_eq_true.1 hasc j (List.mem_range.2 (by omega))
        rw [ho] at h1
        have h2 := Array.all_eq_true_iff_forall_mem.1 h1 e hea
        simpa [hb] using h2
      exact hφ e.on (by omega) (hdeps e hea hb)))
    rw [Nat.zero_add] at h1
    refine wpOp_mono ?_ (wpOp_of_aoPost3 ho h1)
    rintro a' w' ⟨v, rfl, hK', hR, hv⟩
    have hKn : K ((listed.setIfInBounds j true).getD jx false) w' := by
      by_cases he : j = jx
      · subst he
        have hjs : j < listed.size := by rw [inv.size]; omega
        simpa [hjs] using hK'
      · rw [getD_set_ne false he]
        simpa [he] using hK'
    refine ih (listed.setIfInBounds j true) (put1 x j v) w' (inv.set hj hjn) ?_ hKn ?_
    · -- one less
      have hjr : j ∈ (List.range n).filter (fun i => !listed.getD i false) := List.mem_filter.2 ⟨List.mem_range.2 hjn, by rw [getD_both hjun]; rfl⟩
      have hsame : (List.range n).filter (fun i => !(listed.setIfInBounds j true).getD i false) = ((List.range n).filter (fun i => !listed.getD i false)).filter (fun i => i != j) := by
        rw [List.filter_filter]
        apply List.filter_congr
        intro k hk
        by_cases hkj : k = j
        · subst hkj
          have hks : k < listed.size := by rw [inv.size]; omega
          simp [hks]
        · rw [getD_set_ne false (Ne.symm hkj)]
          simp [hkj]
      rw [hsame]
      have hnd : ((List.range n).filter (fun i => !listed.getD i false)).Nodup := List.Pairwise.filter _ List.nodup_range
      have hlen := List.length_erase_of_mem hjr
      rw [List.Nodup.erase_eq_filter hnd] at hlen
      rw [hlen, hf]
      rfl
    · intro k hk hkl
      by_cases hkj : k = j
      · subst hkj
        simpa [put1] using hv
      · rw [getD_set_ne false (Ne.symm hkj)] at hkl
        simp only [put1, hkj, if_false]
        by_cases he : j = jx
        · rw [if_pos he] at hR
          refine hst2 _ _ _ _ (fun hkx => ?_) (hφ k hk hkl) hR
          exact hkj (hkx.trans he.symm)
        · rw [if_neg he] at hR
          exact hst1 _ _ _ _ (hφ k hk hkl) hR

/-- **The rule.** -/
theorem wp_region_ao30 {id : Nat} {l : List Oper} (n : Nat) (A : (Nat → Value) → Act) (jx : Nat) (K : Bool → World → Prop) (R1 R2 : World → World → Prop) (φ : Nat → Value → World → Prop) (x0 : Nat → Value) {a : Act} {w : World}
    (hm : P.follows .mixedOrders = true) (hB : aoB l.toArray n = true) (ha : a = A x0) (hK : K false w.drew)
    (hst1 : ∀ i v w w', φ i v w → R1 w w' → φ i v w') (hst2 : ∀ i v w w', i ≠ jx → φ i v w → R2 w w' → φ i v w')
    (hop : aoAll3 P l.toArray A K R1 R2 φ Q jx (l.take n) 0)
    (hslots : aoSlots A (l.take n) 0)
    (hend : ∀ c x w, K c w → (∀ i, i < n → φ i (x i) w) → wpList P l.toArray Q (l.drop n) (A x) w) :
    (Code.region id l.toArray true).wp P Q a w := by
  simp only [aoB, Bool.and_eq_true, decide_eq_true_eq] at hB
  obtain ⟨⟨⟨⟨hn, hs⟩, hc⟩, hasc⟩, hseq⟩ := hB
  subst ha
  refine wp_region_any hm ?_
  have inv0 : HeadInv .any l.toArray n (Array.replicate l.toArray.size false) :=
    ⟨by simp, fun j oj _ hl => (by rw [getD_replicate_false] at hl; cases hl), fun t _ ht => getD_in (by simpa using ht) (getD_replicate_false _ _)⟩
  have hlen : ((List.range n).filter (fun i => !(Array.replicate l.toArray.size false).getD i false)).length = n := by
    have : (List.range n).filter (fun i => !(Array.replicate l.toArray.size false).getD i false) = List.range n := by
      apply List.filter_eq_self.2
      intro i _
      rw [getD_replicate_false]; rfl
    rw [this, List.length_range]
  have H := ao_head3 (P := P) (K := K) (R1 := R1) (R2 := R2) (φ := φ) (Q := Q) (jx := jx) rfl hn hs hc hasc hseq hst1 hst2 hslots hop hend n _ x0 w.drew inv0 hlen (by rw [getD_replicate_false]; exact hK) (fun i _ h => by rw [getD_replicate_false] at h; cases h)
  rwa [show n + (l.toArray.size - n) = l.toArray.size by omega] at H

/-- The rule, the frame left to Lean. -/
theorem wp_region_ao3 {id : Nat} {l : List Oper} (n : Nat) (jx : Nat) (K : Bool → World → Prop) (R1 R2 : World → World → Prop) (φ : Nat → Value → World → Prop) {a : Act} {w : World}
    (hm : P.follows .mixedOrders = true) (hB : aoB l.toArray n = true) (hD : aoDst (l.take n) = true) (hK : K false w.drew)
    (hst1 : ∀ i v w w', φ i v w → R1 w w' → φ i v w') (hst2 : ∀ i v w w', i ≠ jx → φ i v w → R2 w w' → φ i v w')
    (hop : aoAll3 P l.toArray (fun x => aoSet (l.take n) 0 x a) K R1 R2 φ Q jx (l.take n) 0)
    (hend : ∀ c x w, K c w → (∀ i, i < n → φ i (x i) w) → wpList P l.toArray Q (l.drop n) (aoSet (l.take n) 0 x a) w) :
    (Code.region id l.toArray true).wp P Q a w :=
  wp_region_ao30 n (fun x => aoSet (l.take n) 0 x a) jx K R1 R2 φ (aoOld (l.take n) a) hm hB
    (aoSet_old (l.take n) 0 _ a (fun j o d hj hd => by simp only [aoOld, Nat.zero_add, hj, Option.bind_some, hd])).symm hK hst1 hst2 hop
    (aoSet_slots a (l.take n) (l.take n) 0 hD (fun j o h => by rw [Nat.zero_add]; exact h)) hend
end
end Go.Um

/-
  More words for walks: a call of a named function; the world under a name; a run of cells behind a store.
-/
namespace Go.Um
open Go.RowKit

/-- A call of a function that has a body is entered. -/
theorem cf_of {P : Program} {f : Nat} {fn : Func} (hf : P.funcs[f]? = some fn) (hn : (fn.name == "runtime.NumGoroutine") = false) (hb : fn.body.isNone = false) (args : Array Value) (w : World) : (callFunc f args).run P w = .ok (.enter f args) w := by
  simp only [callFunc, Sem.run_bind, program, Sem.run, Result.andThen, hf, hn, hb, Bool.false_eq_true, if_false, Sem.run_pure]
/-- The world under a name. -/
theorem wp_gen {P : Program} {c : Code} {Q : Exit → Act → World → Prop} {a : Act} {w : World} (h : ∀ W, W = w → c.wp P Q a W) : c.wp P Q a w := h w rfl
theorem cells_setCell {w : World} {b n t : Nat} {r : Nat → Value} (h : ∀ j, j < n → w.cell? ⟨b, j, none⟩ = some (r j)) (v : Value) : ∀ j, j < n → (w.setCell ⟨b, t, none⟩ v).cell? ⟨b, j, none⟩ = some (if j = t then v else r j) := by
  intro j hj
  by_cases hjt : j = t
  · subst hjt
    rw [if_pos rfl, World.cell?_setCell_same' _ _ _ (by rw [h j hj]; rfl)]
  · rw [if_neg hjt, World.cell?_setCell_other _ _ _ _ (fun e => hjt (by simpa using e.symm)), h j hj]
end Go.Um

/-
  Maps: the entry of a key that is not there; the store through it.
-/
namespace Go.Um
open Go.RowKit

theorem setIM_comm {w : World} {r s : Nat} (h : r ≠ s) (l l' : List ME) (c c' : Nat) : (w.setIM s l' c').setIM r l c = (w.setIM r l c).setIM s l' c' := by
  have hr := setIM_heap_other (w := w) (r := s) (l := l') (c := c') (k := r) h
  have hs := setIM_heap_other (w := w) (r := r) (l := l) (c := c) (k := s) (fun e => h e.symm)
  unfold World.setIM at hr hs ⊢
  rw [hr, hs]
  have hcm : (w.heap.setIfInBounds s (.map (encM l') c')).setIfInBounds r (.map (encM l) c) = (w.heap.setIfInBounds r (.map (encM l) c)).setIfInBounds s (.map (encM l') c') := Array.setIfInBounds_comm _ _ (fun e => h e.symm)
  split <;> split <;> simp_all
section
variable {P : Program} {w : World} {r : Nat} {T K E : TypeId} {k : Int}

theorem run_mapEntry_new (ht : P.underlying T = some (.map K E)) (hK : P.underlying K = some (.int .i64)) {z : Value} (hz : ∀ W : World, (zeroValue E).run P W = .ok z W) {l : List ME} {c : Nat} (hx : w.imap? r = some (l, c)) (hn : lk k l = none) :
    (Instr.mapEntry T (.map (some r)) (.int .i64 k)).run P w = .ok (.tuple #[z, .int .i64 c]) (w.setIM r (l ++ [⟨k, z, c⟩]) (c + 1)) := by
  have hb := imap_heap hx
  obtain ⟨j, hf, _⟩ := run_find_im (k := k) hK l w
  rw [hn] at hf
  unfold Instr.mapEntry
  simp only [Sem.run_bind, run_underlying ht, Result.andThen, MapKept.run_getObj_map hb, Sem.run_pure, run_check_im hK, hf, Option.map_none, hz, MapKept.run_setObj_map _ hb, World.setIM, hb, goInt]
  simp [encM, ME.enc]

theorem findIdx_born {l : List ME} {k : Int} {z : Value} {c : Nat} (hb : ∀ e ∈ l, e.born < c) : (encM (l ++ [⟨k, z, c⟩])).findIdx? (fun e => ((e.born : Nat) : Int) == (c : Int)) = some l.length := by
  have : (encM (l ++ [⟨k, z, c⟩])).findIdx? (fun e => ((e.born : Nat) : Int) == (c : Int)) = (List.map ME.enc (l ++ [⟨k, z, c⟩])).findIdx? (fun e => ((e.born : Nat) : Int) == (c : Int)) := by
    simp [encM]
  rw [this]
  clear this
  induction l with
  | nil => simp [ME.enc, List.findIdx?_cons]
  | cons a l ih =>
    have h0 := hb a (by simp)
    have : ((a.enc.born : Nat) : Int) ≠ (c : Int) := by simp [ME.enc]; omega
    simp only [List.cons_append, List.map_cons, List.findIdx?_cons]
    rw [if_neg (by simpa using this), ih (fun e he => hb e (by simp [he]))]
    simp

theorem run_entryStore_new {l : List ME} {c c' : Nat} {z v : Value} (hx : w.imap? r = some (l ++ [⟨k, z, c⟩], c')) (hb : ∀ e ∈ l, e.born < c) :
    (Instr.entryStore T (.map (some r)) (.int .i64 c) v).run P w = .ok () (w.setIM r (l ++ [⟨k, v, c⟩]) c') := by
  have hh := imap_heap hx
  have hj := findIdx_born (k := k) (z := z) hb
  unfold Instr.entryStore
  simp only [Sem.run_bind, Result.andThen, MapKept.run_getObj_map hh, asInt, asIntOf, Sem.run_pure]
  rw [hj]
  simp only [MapKept.run_setObj_map _ hh, World.setIM, hh]
  congr 4
  apply Array.toList_inj.1
  simp only [encM, Array.toList_modify, List.map_append, List.map_cons, List.map_nil]
  have : l.length = (l.map ME.enc).length := by simp
  rw [this]
  generalize l.map ME.enc = m
  induction m with
  | nil => simp [ME.enc]
  | cons a m ih => simpa using ih
end
end Go.Um

/-
  The program's data as plain Lean data; slices of structs that are only read.
-/
namespace Go.Um
open Go.RowKit

theorem Kp.drewN {S : List Nat} {a b : World} (h : Kp S a b) (n : Nat) : Kp S a (b.drewN n) := ⟨h.os, h.tape, h.output, h.size, h.block⟩
structure Ev where
  kind : Int
  tx : Int
  thread : Int
  obj : Int
  op : Int
  key : Int
  val : Int
  ret : Int
structure Ob where
  kind : Int
  init : Int
structure Dd where
  obj : Int
  op : Int
  key : Int
  val : Int
  ret : Int
  got : Int
  at_ : Int
  back : Int
structure Tx where
  id : Int
  thread : Int
  status : Int
  begin_ : Int
  end_ : Int
  try_ : Int
  deeds : List Dd
structure Hi where
  objs : List Ob
  evs : List Ev
instance : DecidableEq Ev := fun a b =>
  if h : a.kind = b.kind ∧ a.tx = b.tx ∧ a.thread = b.thread ∧ a.obj = b.obj ∧ a.op = b.op ∧ a.key = b.key ∧ a.val = b.val ∧ a.ret = b.ret then
    isTrue (by cases a; cases b; simp at h; simp [h]) else isFalse (fun e => h (by subst e; simp))
instance : DecidableEq Ob := fun a b =>
  if h : a.kind = b.kind ∧ a.init = b.init then isTrue (by cases a; cases b; simp at h; simp [h]) else isFalse (fun e => h (by subst e; simp))
instance : DecidableEq Dd := fun a b =>
  if h : a.obj = b.obj ∧ a.op = b.op ∧ a.key = b.key ∧ a.val = b.val ∧ a.ret = b.ret ∧ a.got = b.got ∧ a.at_ = b.at_ ∧ a.back = b.back then
    isTrue (by cases a; cases b; simp at h; simp [h]) else isFalse (fun e => h (by subst e; simp))
/-- An event by its fields' places. -/
def Ev.f (e : Ev) : Nat → Int
  | 0 => e.kind
  | 1 => e.tx
  | 2 => e.thread
  | 3 => e.obj
  | 4 => e.op
  | 5 => e.key
  | 6 => e.val
  | _ => e.ret
def I (n : Int) : Value := .int .i64 n
def Ev.cells (e : Ev) : List Value := [.int .i64 e.kind, .int .i64 e.tx, .int .i64 e.thread, .int .i64 e.obj, .int .i64 e.op, .int .i64 e.key, .int .i64 e.val, .int .i64 e.ret]
def Ob.cells (o : Ob) : List Value := [.int .i64 o.kind, .int .i64 o.init]
def Dd.cells (d : Dd) : List Value := [.int .i64 d.obj, .int .i64 d.op, .int .i64 d.key, .int .i64 d.val, .int .i64 d.ret, .int .i64 d.got, .int .i64 d.at_, .int .i64 d.back]
def flatE (l : List Ev) : List Value := l.flatMap Ev.cells
def flatO (l : List Ob) : List Value := l.flatMap Ob.cells
def flatD (l : List Dd) : List Value := l.flatMap Dd.cells
def flatI (l : List Int) : List Value := l.map (Value.int .i64)
/-- Whole numbers of 64 bits. -/
def in64 (n : Int) : Prop := -9223372036854775808 ≤ n ∧ n ≤ 9223372036854775807

theorem flat_get {α : Type} (c : α → List Value) (sz : Nat) (hc : ∀ a, (c a).length = sz) : ∀ (l : List α) (k : Nat) (a : α), l[k]? = some a → ∀ j, j < sz → (l.flatMap c)[k * sz + j]? = (c a)[j]?
  | [], k, a, h, _, _ => by simp at h
  | x :: l, 0, a, h, j, hj => by
    simp at h; subst h
    rw [List.flatMap_cons, List.getElem?_append_left (by rw [hc]; omega)]
    simp
  | x :: l, k + 1, a, h, j, hj => by
    have := flat_get c sz hc l k a (by simpa using h) j hj
    have e : (k + 1) * sz + j = sz + (k * sz + j) := by rw [Nat.succ_mul]; omega
    rw [List.flatMap_cons, e, List.getElem?_append_right (by rw [hc]; omega), hc, Nat.add_sub_cancel_left, this]
theorem flat_len {α : Type} (c : α → List Value) (sz : Nat) (hc : ∀ a, (c a).length = sz) : ∀ (l : List α), (l.flatMap c).length = l.length * sz
  | [] => by simp
  | x :: l => by rw [List.flatMap_cons, List.length_append, hc, flat_len c sz hc l, List.length_cons, Nat.succ_mul]; omega

/-- v is a slice of n elements; its cells, one behind the other, are xs; they lie below block B. -/
def Rd (w : World) (B : Nat) (v : Value) (n : Nat) (xs : List Value) : Prop :=
  ∃ a c, v = .slice a n c ∧ (0 < n → ∃ b o, a = some ⟨b, o, none⟩ ∧ b < B ∧ b < w.heap.size ∧ ∀ j u, xs[j]? = some u → w.cell? ⟨b, o + j, none⟩ = some u)
theorem Rd.kp {w w' : World} {B n : Nat} {v : Value} {xs : List Value} {S : List Nat} (h : Rd w B v n xs) (hk : Kp S w w') (hS : ∀ x ∈ S, B ≤ x) : Rd w' B v n xs := by
  obtain ⟨a, c, rfl, h⟩ := h
  refine ⟨a, c, rfl, fun hn => ?_⟩
  obtain ⟨b, o, rfl, hb, hl, hc⟩ := h hn
  exact ⟨b, o, rfl, hb, Nat.lt_of_lt_of_le hl hk.size, fun j u hj => (hk.cellAt (hc j u hj) (fun hx => by have := hS b hx; omega)).1⟩
theorem Rd.mono {w : World} {B C n : Nat} {v : Value} {xs : List Value} (h : Rd w B v n xs) (hC : B ≤ C) : Rd w C v n xs := by
  obtain ⟨a, c, rfl, h⟩ := h
  refine ⟨a, c, rfl, fun hn => ?_⟩
  obtain ⟨b, o, rfl, hb, hl, hc⟩ := h hn
  exact ⟨b, o, rfl, by omega, hl, hc⟩
theorem Rd.nil (w : World) (B : Nat) (xs : List Value) (a : Option Addr) (c : Nat) : Rd w B (.slice a 0 c) 0 xs := ⟨a, c, rfl, fun h => by omega⟩
/-- One element's cells. -/
theorem Rd.at {α : Type} {c : α → List Value} {sz : Nat} (hc : ∀ a, (c a).length = sz) {w : World} {b o : Nat} {l : List α} (h : ∀ j u, (l.flatMap c)[j]? = some u → w.cell? ⟨b, o + j, none⟩ = some u) {k : Nat} {x : α} (hk : l[k]? = some x) :
    ∀ j, j < sz → w.cell? ⟨b, o + k * sz + j, none⟩ = (c x)[j]? := by
  intro j hj
  have h1 := flat_get c sz hc l k x hk j hj
  obtain ⟨u, hu⟩ : ∃ u, (c x)[j]? = some u := ⟨(c x)[j]'(by rw [hc]; exact hj), by simp [hc, hj]⟩
  rw [hu] at h1 ⊢
  rw [Nat.add_assoc]
  exact h _ _ h1
end Go.Um

/-
  The engines' programs as plain data; how far a thread is; the events that it makes.
-/
namespace Go.Um
structure Ac where
  k : Int
  c : Int
  v : Int
structure Pg where
  cells : List Int
  ths : List (List (List Ac))
/-- How far a thread is. -/
structure Th where
  tx : Nat
  act : Nat
  begun : Bool
  adding : Bool
  read : Int
  waits : Int
def actOk (n : Nat) (last : Bool) (a : Ac) : Bool :=
  if a.k = 1 then decide (a.v = 0) && decide (0 ≤ a.c) && decide (a.c < n)
  else if a.k = 2 ∨ a.k = 3 then decide (0 ≤ a.c) && decide (a.c < n) && decide (-1000 ≤ a.v) && decide (a.v ≤ 1000)
  else a.k == 4 && last && a.c == 0 && a.v == 0
def actsOk (n : Nat) : List Ac → Bool
  | [] => true
  | a :: l => actOk n l.isEmpty a && actsOk n l
def txOk (n : Nat) (l : List Ac) : Bool := decide (1 ≤ l.length) && decide (l.length ≤ 6) && actsOk n l
def thOk (n : Nat) (t : List (List Ac)) : Bool := decide (t.length ≤ 3) && t.all (txOk n)
def cellOk (c : Int) : Bool := decide (-1000000 ≤ c) && decide (c ≤ 1000000)
def Pg.ok (p : Pg) : Bool := decide (1 ≤ p.cells.length) && decide (p.cells.length ≤ 4) && decide (1 ≤ p.ths.length) && decide (p.ths.length ≤ 4) && p.cells.all cellOk && p.ths.all (thOk p.cells.length)
theorem actsOk_at {n : Nat} : ∀ {l : List Ac} {j : Nat} {a : Ac}, actsOk n l = true → l[j]? = some a → actOk n (decide (j + 1 = l.length)) a = true
  | [], _, _, _, h => by simp at h
  | x :: l, 0, a, h, ha => by
    simp at ha; subst ha
    simp only [actsOk, Bool.and_eq_true] at h
    cases l with
    | nil => simpa using h.1
    | cons y l => simpa using h.1
  | x :: l, j + 1, a, h, ha => by
    simp only [actsOk, Bool.and_eq_true] at h
    have := actsOk_at (j := j) (a := a) h.2 (by simpa using ha)
    simpa using this
structure PgOk (p : Pg) : Prop where
  c1 : 1 ≤ p.cells.length
  c4 : p.cells.length ≤ 4
  t1 : 1 ≤ p.ths.length
  t4 : p.ths.length ≤ 4
  ce : ∀ n ∈ p.cells, -1000000 ≤ n ∧ n ≤ 1000000
  tx : ∀ (i : Nat) txs, p.ths[i]? = some txs → txs.length ≤ 3
  ac : ∀ (i k : Nat) txs acts, p.ths[i]? = some txs → txs[k]? = some acts → 1 ≤ acts.length ∧ acts.length ≤ 6
  a : ∀ (i k j : Nat) txs acts a, p.ths[i]? = some txs → txs[k]? = some acts → acts[j]? = some a → actOk p.cells.length (decide (j + 1 = acts.length)) a = true
theorem Pg.ok.all {p : Pg} (h : p.ok = true) : PgOk p := by
  simp only [Pg.ok, Bool.and_eq_true, decide_eq_true_eq, List.all_eq_true] at h
  obtain ⟨⟨⟨⟨⟨a1, a2⟩, a3⟩, a4⟩, a5⟩, a6⟩ := h
  have h1 : ∀ (i : Nat) txs, p.ths[i]? = some txs → txs.length ≤ 3 ∧ ∀ x ∈ txs, txOk p.cells.length x = true := by
    intro i txs hi
    have := a6 txs (List.mem_of_getElem? hi)
    simpa only [thOk, Bool.and_eq_true, decide_eq_true_eq, List.all_eq_true] using this
  have h2 : ∀ (i k : Nat) txs acts, p.ths[i]? = some txs → txs[k]? = some acts → (1 ≤ acts.length ∧ acts.length ≤ 6) ∧ actsOk p.cells.length acts = true := by
    intro i k txs acts hi hk
    have := (h1 i txs hi).2 acts (List.mem_of_getElem? hk)
    simpa only [txOk, Bool.and_eq_true, decide_eq_true_eq] using this
  refine ⟨a1, a2, a3, a4, ?_, fun i txs hi => (h1 i txs hi).1, fun i k txs acts hi hk => (h2 i k txs acts hi hk).1, fun i k j txs acts a hi hk hj => actsOk_at (h2 i k txs acts hi hk).2 hj⟩
  intro n hn
  have := a5 n hn
  simpa only [cellOk, Bool.and_eq_true, decide_eq_true_eq] using this

def idOf (i k : Nat) : Int := 3 * (i : Int) + k + 1
def isRead (t : Th) (a : Ac) : Bool := a.k == 1 || (a.k == 3 && !t.adding)
def askE (i : Nat) (t : Th) (a : Ac) : Ev :=
  if isRead t a then ⟨2, idOf i t.tx, 0, a.c, 1, 0, 0, 0⟩ else ⟨2, idOf i t.tx, 0, a.c, 2, 0, if a.k = 3 then a.v + t.read else a.v, 0⟩
def nextE (i : Nat) (t : Th) (acts : List Ac) : Ev := match acts[t.act]? with
  | none => ⟨4, idOf i t.tx, 0, 0, 0, 0, 0, 0⟩
  | some a => if a.k = 4 then ⟨7, idOf i t.tx, 0, 0, 0, 0, 0, 0⟩ else askE i t a
def beginE (i : Nat) (t : Th) : Ev := ⟨1, idOf i t.tx, i, 0, 0, 0, 0, 0⟩
def endE (i : Nat) (t : Th) (kind : Int) : Ev := ⟨kind, idOf i t.tx, 0, 0, 0, 0, 0, 0⟩
def retE (i : Nat) (t : Th) (a : Ac) (val : Int) : Ev := if isRead t a then ⟨3, idOf i t.tx, 0, 0, 0, 0, val, 3⟩ else ⟨3, idOf i t.tx, 0, 0, 0, 0, 0, 1⟩
def retT (t : Th) (a : Ac) (val : Int) : Th :=
  if isRead t a then (if a.k = 3 then { t with waits := 0, adding := true, read := val } else { t with waits := 0, act := t.act + 1 })
  else { t with waits := 0, adding := false, act := t.act + 1 }
def newT (t : Th) : Th := ⟨t.tx + 1, 0, false, false, 0, 0⟩

end Go.Um

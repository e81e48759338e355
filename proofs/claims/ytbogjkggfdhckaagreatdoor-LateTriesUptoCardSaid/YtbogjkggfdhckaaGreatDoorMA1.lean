/-
  Lemmas on the way to Rr1: B0.
-/
import Derived.WalkKit
import Derived.WalkLawsBesides
import Derived.WalkSpells
import Derived.Laws.EntriesVeiled
import Derived.Deep.QuietTactic
import Derived.BigQuiet
import Derived.Deep.RegionWith
import Derived.Lib.Hide
/-
  General words on worlds: what a call keeps (Kp); a map with int keys (imap?, setIM) and how Go's operations on it run.
-/
namespace Go.Um
open Go.RowKit

/-- Of the blocks that were there all but those of S are as they were. -/
structure Kp (S : List Nat) (w w' : World) : Prop where
  os : w'.os = w.os
  tape : w'.tape = w.tape
  output : w'.output = w.output
  size : w.heap.size ≤ w'.heap.size
  block : ∀ k, k < w.heap.size → k ∉ S → w'.heap[k]? = w.heap[k]?

theorem Kp.refl (S : List Nat) (w : World) : Kp S w w := ⟨rfl, rfl, rfl, Nat.le_refl _, fun _ _ _ => rfl⟩
theorem Kp.trans {S T : List Nat} {a b c : World} (h : Kp S a b) (k : Kp T b c) (hT : ∀ x ∈ T, x < a.heap.size → x ∈ S) : Kp S a c :=
  ⟨k.os.trans h.os, k.tape.trans h.tape, k.output.trans h.output, Nat.le_trans h.size k.size, fun i hi hS =>
    (k.block i (Nat.lt_of_lt_of_le hi h.size) (fun hx => hS (hT i hx hi))).trans (h.block i hi hS)⟩
theorem Kp.mono {S T : List Nat} {a b : World} (h : Kp S a b) (hST : ∀ x ∈ S, x < a.heap.size → x ∈ T) : Kp T a b :=
  ⟨h.os, h.tape, h.output, h.size, fun i hi hT => h.block i hi (fun hx => hT (hST i hx hi))⟩
theorem Kp.drew {S : List Nat} {a b : World} (h : Kp S a b) : Kp S a b.drew := ⟨h.os, h.tape, h.output, h.size, h.block⟩
theorem Kp.alloc {S : List Nat} {a b : World} (h : Kp S a b) (o : Obj) : Kp S a (b.alloc o) :=
  ⟨h.os, h.tape, h.output, by have := h.size; simp; omega, fun i hi hS => by
    have := h.size
    rw [Below.heap_alloc _ _ _ (by omega)]; exact h.block i hi hS⟩
theorem Kp.setCell {S : List Nat} {a b : World} (h : Kp S a b) (p : Addr) (v : Value) (hp : p.block < a.heap.size → p.block ∈ S) : Kp S a (b.setCell p v) :=
  ⟨h.os, h.tape, h.output, by simpa using h.size, fun i hi hS => by
    rw [Below.heap_setCell _ _ _ _ (fun e => hS (by subst e; exact hp hi))]; exact h.block i hi hS⟩
theorem Kp.below {S : List Nat} {a b : World} {B : Nat} (h : Kp S a b) (hB : B ≤ a.heap.size) (hS : ∀ x ∈ S, B ≤ x) : Below B a b :=
  ⟨h.os, h.tape, h.output, h.size, fun k hk => h.block k (by omega) (fun hx => by have := hS k hx; omega)⟩
theorem Kp.of_below {a b : World} (h : Below a.heap.size a b) (S : List Nat) : Kp S a b :=
  ⟨h.os, h.tape, h.output, h.size, fun k hk _ => h.block k hk⟩
theorem Kp.of_grown {a b : World} {row : Option Nat} (h : a.grownBy b row) : Kp row.toList a b :=
  ⟨h.os, h.tape, h.output, h.size, fun k hk hS => h.block k hk (fun e => hS (by subst e; simp))⟩
theorem Kp.cell {S : List Nat} {a b : World} (h : Kp S a b) {k o : Nat} (hk : k < a.heap.size) (hS : k ∉ S) : b.cell? ⟨k, o, none⟩ = a.cell? ⟨k, o, none⟩ :=
  World.cell?_of_block (h.block k hk hS)
theorem Kp.frozen {S : List Nat} {a b : World} (h : Kp S a b) {k o : Nat} (hk : k < a.heap.size) (hS : k ∉ S) : b.frozen? ⟨k, o, none⟩ = a.frozen? ⟨k, o, none⟩ :=
  World.frozen?_of_block (h.block k hk hS)

/-! ### Maps with int keys -/
structure ME where
  key : Int
  val : Value
  born : Nat
def ME.enc (e : ME) : MapEntry := { key := .int .i64 e.key, val := e.val, born := e.born }
def encM (l : List ME) : Array MapEntry := (l.map ME.enc).toArray
def decE (e : MapEntry) : Option ME := match e.key with | .int .i64 k => some ⟨k, e.val, e.born⟩ | _ => none
def decEs : List MapEntry → Option (List ME)
  | [] => some []
  | e :: l => match decE e, decEs l with | some x, some r => some (x :: r) | _, _ => none
theorem decEs_enc (l : List ME) : decEs (l.map ME.enc) = some l := by
  induction l with
  | nil => rfl
  | cons x l ih => simp [decEs, decE, ME.enc, ih]
theorem enc_of_decE {e : MapEntry} {x : ME} (h : decE e = some x) : x.enc = e := by
  cases e with
  | mk k v b =>
    unfold decE at h
    split at h
    · rename_i h1
      simp at h h1
      subst h
      simp [ME.enc, h1]
    · cases h
theorem enc_of_decEs : ∀ (es : List MapEntry) (l : List ME), decEs es = some l → l.map ME.enc = es
  | [], l, h => by simp [decEs] at h; subst h; rfl
  | e :: es, l, h => by
    unfold decEs at h
    split at h
    · rename_i x r hx hr
      simp at h; subst h
      simp [enc_of_decE hx, enc_of_decEs es r hr]
    · cases h

/-- The map of block r, if its keys are ints: its entries, its clock. -/
def _root_.Go.World.imap? (w : World) (r : Nat) : Option (List ME × Nat) :=
  match w.heap[r]? with
  | some (.map es c) => (decEs es.toList).map (·, c)
  | _ => none
theorem imap_heap {w : World} {r : Nat} {l : List ME} {c : Nat} (h : w.imap? r = some (l, c)) : w.heap[r]? = some (.map (encM l) c) := by
  unfold World.imap? at h
  split at h
  · rename_i es c' hb
    cases hd : decEs es.toList with
    | none => simp [hd] at h
    | some l' =>
      simp [hd] at h
      obtain ⟨rfl, rfl⟩ := h
      rw [hb, encM, enc_of_decEs _ _ hd]
  · cases h
theorem imap_of_heap {w : World} {r : Nat} {l : List ME} {c : Nat} (h : w.heap[r]? = some (.map (encM l) c)) : w.imap? r = some (l, c) := by
  simp [World.imap?, h, encM, decEs_enc]
theorem imap_lt {w : World} {r : Nat} {x : List ME × Nat} (h : w.imap? r = some x) : r < w.heap.size := by
  have := imap_heap (l := x.1) (c := x.2) h
  exact (Array.getElem?_eq_some_iff.1 this).1
/-- The entries. -/
def _root_.Go.World.imapL (w : World) (r : Nat) : List ME := ((w.imap? r).map Prod.fst).getD []
def _root_.Go.World.imapC (w : World) (r : Nat) : Nat := ((w.imap? r).map Prod.snd).getD 0
/-- Block r, if it is a map, holds these entries now. -/
def _root_.Go.World.setIM (w : World) (r : Nat) (l : List ME) (c : Nat) : World :=
  match w.heap[r]? with
  | some (.map _ _) => { w with heap := w.heap.setIfInBounds r (.map (encM l) c) }
  | _ => w

section
variable (w : World) (r : Nat) (l : List ME) (c : Nat)
theorem setIM_heap_other {k : Nat} (h : k ≠ r) : (w.setIM r l c).heap[k]? = w.heap[k]? := by
  unfold World.setIM
  split
  · simp [Array.getElem?_setIfInBounds_ne (Ne.symm h)]
  · rfl
theorem size_setIM : (w.setIM r l c).heap.size = w.heap.size := by
  unfold World.setIM
  split <;> simp
theorem setIM_heap_same {es : Array MapEntry} {c0 : Nat} (h : w.heap[r]? = some (.map es c0)) : (w.setIM r l c).heap[r]? = some (.map (encM l) c) := by
  have := (Array.getElem?_eq_some_iff.1 h).1
  unfold World.setIM
  rw [h]
  dsimp only
  rw [Array.getElem?_setIfInBounds_self_of_lt this]
theorem cell?_setIM (a : Addr) : (w.setIM r l c).cell? a = w.cell? a := by
  by_cases h : a.block = r
  · subst h
    unfold World.setIM
    split
    · rename_i es c0 hb
      have := (Array.getElem?_eq_some_iff.1 hb).1
      unfold World.cell?
      dsimp only
      rw [Array.getElem?_setIfInBounds_self_of_lt this, hb]
    · rfl
  · simp [World.cell?, setIM_heap_other w r l c h]
theorem frozen?_setIM (a : Addr) : (w.setIM r l c).frozen? a = w.frozen? a := by
  by_cases h : a.block = r
  · subst h
    unfold World.setIM
    split
    · rename_i es c0 hb
      have := (Array.getElem?_eq_some_iff.1 hb).1
      unfold World.frozen?
      dsimp only
      rw [Array.getElem?_setIfInBounds_self_of_lt this, hb]
    · rfl
  · simp [World.frozen?, setIM_heap_other w r l c h]
theorem tape_setIM : (w.setIM r l c).tape = w.tape := by unfold World.setIM; split <;> rfl
theorem drawn_setIM : (w.setIM r l c).drawn = w.drawn := by unfold World.setIM; split <;> rfl
theorem os_setIM : (w.setIM r l c).os = w.os := by unfold World.setIM; split <;> rfl
theorem output_setIM : (w.setIM r l c).output = w.output := by unfold World.setIM; split <;> rfl
theorem imap?_setIM_same (h : (w.imap? r).isSome = true) : (w.setIM r l c).imap? r = some (l, c) := by
  obtain ⟨x, hx⟩ := Option.isSome_iff_exists.1 h
  exact imap_of_heap (setIM_heap_same w r l c (imap_heap (l := x.1) (c := x.2) hx))
theorem imap?_setIM_other {k : Nat} (h : k ≠ r) : (w.setIM r l c).imap? k = w.imap? k := by
  simp [World.imap?, setIM_heap_other w r l c h]
theorem imap?_alloc_past (o : Obj) {k : Nat} (h : k < w.heap.size) : (w.alloc o).imap? k = w.imap? k := by
  simp [World.imap?, Below.heap_alloc _ _ _ h]
theorem imap?_alloc_new (k : Nat) (hk : k = w.heap.size) : (w.alloc (.map #[] 0)).imap? k = some ([], 0) := by
  subst hk
  apply imap_of_heap
  rw [heap_alloc_new]; rfl
theorem imap?_alloc_newM (k : Nat) (hk : k = w.heap.size) : (w.alloc (.map (encM l) c)).imap? k = some (l, c) := by
  subst hk
  apply imap_of_heap
  rw [heap_alloc_new]
theorem imap?_setCell (a : Addr) (v : Value) (k : Nat) : (w.setCell a v).imap? k = w.imap? k := by
  by_cases h : k = a.block
  · subst h
    simp only [World.imap?, World.setCell, Array.getElem?_modify, if_true]
    cases w.heap[a.block]? with
    | none => rfl
    | some o => cases o <;> rfl
  · simp [World.imap?, Below.heap_setCell _ _ _ _ h]
theorem imap?_drew (k : Nat) : w.drew.imap? k = w.imap? k := rfl
theorem setIM_drew : w.drew.setIM r l c = (w.setIM r l c).drew := by
  unfold World.setIM World.drew
  dsimp only
  split <;> rfl
theorem setIM_alloc_past (o : Obj) (h : r < w.heap.size) : (w.alloc o).setIM r l c = (w.setIM r l c).alloc o := by
  unfold World.setIM
  rw [Below.heap_alloc _ _ _ h]
  split
  · unfold World.alloc
    simp only [World.mk.injEq, and_true]
    apply Array.ext_getElem?
    intro i
    simp only [Array.getElem?_setIfInBounds, Array.getElem?_push, Array.size_push, Array.size_setIfInBounds]
    by_cases hi : r = i
    · subst hi; simp [h, Nat.ne_of_lt h]; omega
    · by_cases h2 : i = w.heap.size
      · simp [h2]; omega
      · simp [hi, h2]
  · rfl
theorem setIM_alloc_at (es : Array MapEntry) (c0 : Nat) (k : Nat) (hk : k = w.heap.size) : (w.alloc (.map es c0)).setIM k l c = w.alloc (.map (encM l) c) := by
  subst hk
  unfold World.setIM
  rw [heap_alloc_new]
  unfold World.alloc
  simp only [World.mk.injEq, and_true]
  apply Array.toList_inj.1
  simp
theorem setIM_setCell (a : Addr) (v : Value) : (w.setCell a v).setIM r l c = (w.setIM r l c).setCell a v := by
  by_cases h : r = a.block
  · subst h
    cases hb : w.heap[a.block]? with
    | none =>
      have e1 : (w.setCell a v).heap[a.block]? = none := by simp [World.setCell, Array.getElem?_modify, hb]
      simp [World.setIM, hb, e1]
    | some o =>
      cases o with
      | map es c0 =>
        have hlt := (Array.getElem?_eq_some_iff.1 hb).1
        have e1 : (w.setCell a v).heap[a.block]? = some (.map es c0) := by simp [World.setCell, Array.getElem?_modify, hb]
        have e2 : w.setCell a v = w := by
          unfold World.setCell
          cases w with
          | mk heap tape drawn os output =>
            simp only [World.mk.injEq, and_true]
            apply Array.ext_getElem?
            intro i
            simp only [Array.getElem?_modify]
            by_cases hi : a.block = i
            · subst hi; simp only [if_true]; dsimp only at hb; rw [hb]; rfl
            · simp [hi]
        have e3 : (w.setIM a.block l c).setCell a v = w.setIM a.block l c := by
          have hs := setIM_heap_same w a.block l c hb
          generalize w.setIM a.block l c = u at hs ⊢
          unfold World.setCell
          cases u with
          | mk heap tape drawn os output =>
            simp only [World.mk.injEq, and_true]
            apply Array.ext_getElem?
            intro i
            simp only [Array.getElem?_modify]
            by_cases hi : a.block = i
            · subst hi; simp only [if_true]; dsimp only at hs; rw [hs]; rfl
            · simp [hi]
        rw [e2, e3]
      | cells x t f =>
        have e1 : ∃ y, (w.setCell a v).heap[a.block]? = some (.cells y t f) := ⟨_, by simp only [World.setCell, Array.getElem?_modify, if_true, hb, Option.map_some]; rfl⟩
        obtain ⟨y, e1⟩ := e1
        simp [World.setIM, hb, e1]
      | _ =>
        have e1 : (w.setCell a v).heap[a.block]? = w.heap[a.block]? := by simp only [World.setCell, Array.getElem?_modify, if_true, hb, Option.map_some]
        rw [hb] at e1
        simp [World.setIM, hb, e1]
  · have e1 : (w.setCell a v).heap[r]? = w.heap[r]? := Below.heap_setCell _ _ _ _ h
    unfold World.setIM
    rw [e1]
    split
    · unfold World.setCell
      simp only [World.mk.injEq, and_true]
      apply Array.ext_getElem?
      intro i
      simp only [Array.getElem?_setIfInBounds, Array.getElem?_modify, Array.size_modify]
      by_cases hi : r = i
      · subst hi; simp only [if_true]; split <;> simp [Ne.symm h]
      · simp [hi]
    · rfl
theorem setIM_setIM (l' : List ME) (c' : Nat) : (w.setIM r l c).setIM r l' c' = w.setIM r l' c' := by
  cases hb : w.heap[r]? with
  | none => simp [World.setIM, hb]
  | some o =>
    cases o with
    | map es c0 =>
      have h1 := setIM_heap_same w r l c hb
      have h2 : (w.setIM r l c).heap = w.heap.setIfInBounds r (.map (encM l) c) := by unfold World.setIM; rw [hb]
      unfold World.setIM at h1 ⊢
      rw [hb] at h1 ⊢
      dsimp only at h1 ⊢
      rw [h1]
      dsimp only
      simp
    | _ => simp [World.setIM, hb]
end

theorem Kp.setIM {S : List Nat} {a b : World} (h : Kp S a b) (r : Nat) (l : List ME) (c : Nat) (hp : r < a.heap.size → r ∈ S) : Kp S a (b.setIM r l c) :=
  ⟨(os_setIM ..).trans h.os, (tape_setIM ..).trans h.tape, (output_setIM ..).trans h.output, by rw [size_setIM]; exact h.size, fun i hi hS => by
    rw [setIM_heap_other _ _ _ _ (fun e => hS (by subst e; exact hp hi))]; exact h.block i hi hS⟩
theorem Kp.imap {S : List Nat} {a b : World} (h : Kp S a b) {k : Nat} (hk : k < a.heap.size) (hS : k ∉ S) : b.imap? k = a.imap? k := by
  simp [World.imap?, h.block k hk hS]

/-! ### Go's operations on such a map -/
/-- What the key has. -/
def lk (k : Int) : List ME → Option Value
  | [] => none
  | e :: l => if k = e.key then some e.val else lk k l
/-- The list behind m[k] = v. -/
def upd (k : Int) (v : Value) (c : Nat) : List ME → List ME
  | [] => [⟨k, v, c⟩]
  | e :: l => if k = e.key then { e with val := v } :: l else e :: upd k v c l
def updC (k : Int) (c : Nat) (l : List ME) : Nat := if (lk k l).isSome then c else c + 1
/-- The list behind delete(m, k). -/
def del (k : Int) : List ME → List ME
  | [] => []
  | e :: l => if k = e.key then l else e :: del k l

section
variable {P : Program} {w : World} {T K E r : Nat} {k : Int}
theorem findNow_enc (k : Int) : ∀ (l : List ME) (i : Nat), ∃ j, Instr.findNow (.int .i64) (.int .i64 k) (l.map ME.enc) i = some ((lk k l).map (fun v => (j, v))) ∧ (∀ v, lk k l = some v → i ≤ j ∧ j < i + l.length ∧ upd k v 0 l = l ∧ (∀ u c, (upd k u c l).map ME.enc = (l.map ME.enc).modify (j - i) (fun e => { e with key := .int .i64 k, val := u })) ∧ ((l.map ME.enc).eraseIdx (j - i)) = (del k l).map ME.enc ∧ ((l.map ME.enc)[j - i]?).map (·.key) = some (.int .i64 k))
  | [], i => ⟨0, rfl, fun v h => by cases h⟩
  | e :: l, i => by
    obtain ⟨j, hj, hv⟩ := findNow_enc k l (i + 1)
    by_cases h : k = e.key
    · refine ⟨i, ?_, ?_⟩
      · simp [Instr.findNow, ME.enc, Instr.sameNow, lk, h]
      · intro v h1
        simp [lk, h] at h1
        subst h1
        refine ⟨Nat.le_refl _, by simp, by simp [upd, h], ?_, by simp [del, h], by simp [ME.enc, h]⟩
        intro u c
        simp [upd, h, ME.enc]
    · refine ⟨j, ?_, ?_⟩
      · have hne : (k == e.key) = false := by simpa using h
        simp [Instr.findNow, ME.enc, Instr.sameNow, lk, h, hne]
        exact hj
      · intro v h1
        have h1' : lk k l = some v := by simpa [lk, h] using h1
        obtain ⟨a1, a2, a3, a4, a5, a6⟩ := hv v h1'
        have e1 : j - i = (j - (i + 1)) + 1 := by omega
        refine ⟨by omega, by simp; omega, by simp [upd, h, a3], ?_, ?_, ?_⟩
        · intro u c
          have := a4 u c
          rw [e1]
          simp only [upd, h, if_false, List.map_cons, this, List.modify_succ_cons]
        · rw [e1]
          simp [del, h, a5]
        · rw [e1]
          simpa using a6

theorem lk_none_of_findNow {k : Int} {l : List ME} (h : lk k l = none) : del k l = l ∧ ∀ v c, upd k v c l = l ++ [⟨k, v, c⟩] := by
  induction l with
  | nil => exact ⟨rfl, fun _ _ => rfl⟩
  | cons e l ih =>
    by_cases he : k = e.key
    · simp [lk, he] at h
    · obtain ⟨a, b⟩ := ih (by simpa [lk, he] using h)
      exact ⟨by simp [del, he, a], fun v c => by simp [upd, he, b]⟩
theorem upd_clock {k : Int} {l : List ME} {v0 : Value} (h : lk k l = some v0) (v : Value) (c c' : Nat) : upd k v c l = upd k v c' l := by
  induction l with
  | nil => cases h
  | cons e l ih =>
    by_cases he : k = e.key
    · simp [upd, he]
    · simp [upd, he, ih (by simpa [lk, he] using h)]

theorem imapL_eq {w : World} {r : Nat} {l : List ME} {c : Nat} (h : w.imap? r = some (l, c)) : w.imapL r = l ∧ w.imapC r = c := by
  simp [World.imapL, World.imapC, h]

theorem run_find_im (hK : P.underlying K = some (.int .i64)) (l : List ME) (W : World) : ∃ j, (Instr.findKey K (.int .i64 k) (encM l).toList).run P W = .ok ((lk k l).map (fun v => (j, v))) W ∧ (∀ v, lk k l = some v → (∀ u c, encM (upd k u c l) = (encM l).modify j (fun e => { e with key := .int .i64 k, val := u })) ∧ (encM l).eraseIdxIfInBounds j = encM (del k l) ∧ (((encM l)[j]?).map (·.key)).getD (.int .i64 k) = .int .i64 k) := by
  obtain ⟨j, hj, hv⟩ := findNow_enc k l 0
  refine ⟨j, ?_, ?_⟩
  · exact MapKept.run_findKey hK (by simpa [encM] using hj)
  · intro v h
    obtain ⟨_, a2, _, a4, a5, a6⟩ := hv v h
    simp only [Nat.sub_zero] at a4 a5 a6
    refine ⟨?_, ?_, ?_⟩
    · intro u c
      apply Array.toList_inj.1
      simp only [encM, Array.toList_modify]
      exact a4 u c
    · have : j < (encM l).size := by simp [encM]; omega
      rw [Array.eraseIdxIfInBounds, dif_pos this]
      apply Array.toList_inj.1
      simp only [encM, Array.toList_eraseIdx]
      exact a5
    · have : (encM l)[j]? = (l.map ME.enc)[j]? := by simp [encM]
      rw [this, a6]; rfl

theorem run_check_im (hK : P.underlying K = some (.int .i64)) (b : Bool) (n : Nat) (W : World) : (Instr.checkKey b (n + 1) K (.int .i64 k)).run P W = .ok () W := by
  simp [Instr.checkKey, run_underlying hK]

theorem run_lookup_im (ht : P.underlying T = some (.map K E)) (hK : P.underlying K = some (.int .i64)) {z : Value} (hz : ∀ W : World, (zeroValue E).run P W = .ok z W) (h : (w.imap? r).isSome = true) (ok : Bool) :
    (Instr.lookup T (.map (some r)) (.int .i64 k) ok).run P w = .ok (if ok then .tuple #[(lk k (w.imapL r)).getD z, .bool (lk k (w.imapL r)).isSome] else (lk k (w.imapL r)).getD z) w := by
  obtain ⟨⟨l, c⟩, hx⟩ := Option.isSome_iff_exists.1 h
  obtain ⟨e1, _⟩ := imapL_eq hx
  have hb := imap_heap hx
  obtain ⟨j, hf, _⟩ := run_find_im (k := k) hK l w
  rw [e1]
  unfold Instr.lookup
  simp only [Sem.run_bind, run_underlying ht, Result.andThen, MapKept.run_getObj_map hb, Sem.run_pure, run_check_im hK, hf]
  cases hl : lk k l with
  | none => simp [hz, Result.andThen]
  | some v => simp

theorem run_mapUpdate_im (ht : P.underlying T = some (.map K E)) (hK : P.underlying K = some (.int .i64)) (h : (w.imap? r).isSome = true) (v : Value) :
    (Instr.mapUpdate T (.map (some r)) (.int .i64 k) v).run P w = .ok () (w.setIM r (upd k v (w.imapC r) (w.imapL r)) (updC k (w.imapC r) (w.imapL r))) := by
  obtain ⟨⟨l, c⟩, hx⟩ := Option.isSome_iff_exists.1 h
  obtain ⟨e1, e2⟩ := imapL_eq hx
  have hb := imap_heap hx
  obtain ⟨j, hf, hv⟩ := run_find_im (k := k) hK l w
  rw [e1, e2]
  unfold Instr.mapUpdate
  simp only [Sem.run_bind, run_underlying ht, Result.andThen, MapKept.run_getObj_map hb, run_check_im hK, hf]
  cases hl : lk k l with
  | none =>
    simp only [Option.map_none, MapKept.run_setObj_map _ hb, World.setIM, hb, updC, hl, Option.isSome_none, Bool.false_eq_true, if_false, (lk_none_of_findNow hl).2]
    simp [encM, ME.enc]
  | some u =>
    obtain ⟨a1, _, a3⟩ := hv u hl
    have hs : Instr.sameBits 10000 (.int .i64 k) (.int .i64 k) = true := by simp [Instr.sameBits]
    simp only [Option.map_some, a3, Instr.keyThatStays, hs, if_true, Sem.run_bind, Sem.run_pure, Result.andThen, MapKept.run_setObj_map _ hb, World.setIM, hb, updC, hl, Option.isSome_some, a1]

theorem run_delete_im (ht : P.underlying T = some (.map K E)) (hK : P.underlying K = some (.int .i64)) (h : (w.imap? r).isSome = true) (ts : Array TypeId) (hts : ts[0]? = some T) (ty : TypeId) :
    (Builtin.delete_ ts ty #[.map (some r), .int .i64 k]).run P w = .ok (.tuple #[]) (w.setIM r (del k (w.imapL r)) (w.imapC r)) := by
  obtain ⟨⟨l, c⟩, hx⟩ := Option.isSome_iff_exists.1 h
  obtain ⟨e1, e2⟩ := imapL_eq hx
  have hb := imap_heap hx
  obtain ⟨j, hf, hv⟩ := run_find_im (k := k) hK l w
  rw [e1, e2]
  unfold Builtin.delete_
  simp only [hts]
  simp only [List.getElem?_toArray, List.getElem?_cons_zero, List.getElem?_cons_succ, Sem.run_bind, run_underlying ht, Result.andThen, MapKept.run_getObj_map hb, run_check_im hK, hf]
  cases hl : lk k l with
  | none => simp only [Option.map_none, MapKept.run_setObj_map _ hb, World.setIM, hb, (lk_none_of_findNow hl).1, Sem.run_pure, Sem.run_bind, Result.andThen]
  | some u =>
    obtain ⟨_, a2, _⟩ := hv u hl
    simp only [Option.map_some, MapKept.run_setObj_map _ hb, World.setIM, hb, a2, Sem.run_pure, Sem.run_bind, Result.andThen]

theorem run_len_im (ht : P.underlying T = some (.map K E)) (h : (w.imap? r).isSome = true) (ts : Array TypeId) (hts : ts[0]? = some T) (ty : TypeId) :
    (Builtin.len_ ts ty #[.map (some r)]).run P w = .ok (.int .i64 (w.imapL r).length) w := by
  obtain ⟨⟨l, c⟩, hx⟩ := Option.isSome_iff_exists.1 h
  obtain ⟨e1, _⟩ := imapL_eq hx
  have hb := imap_heap hx
  rw [e1]
  unfold Builtin.len_
  simp only [hts]
  simp only [List.getElem?_toArray, List.getElem?_cons_zero, Sem.run_bind, run_underlying ht, Result.andThen, MapKept.run_getObj_map hb, Sem.run_pure]
  simp [goInt, encM]
end

/-- What a call that keeps all but the blocks of S leaves for the walk. -/
theorem kfacts {S : List Nat} {W w1 : World} (h : Kp S W w1) : (∀ b o, b < W.heap.size → b ∉ S → w1.cell? ⟨b, o, none⟩ = W.cell? ⟨b, o, none⟩) ∧ (∀ b o, b < W.heap.size → b ∉ S → w1.frozen? ⟨b, o, none⟩ = W.frozen? ⟨b, o, none⟩) ∧ (∀ b, b < W.heap.size → b ∉ S → w1.imap? b = W.imap? b) ∧ (∀ b, b < W.heap.size → b < w1.heap.size) :=
  ⟨fun _ _ hb hS => h.cell hb hS, fun _ _ hb hS => h.frozen hb hS, fun _ hb hS => h.imap hb hS, fun _ hb => Nat.lt_of_lt_of_le hb h.size⟩
/-- The same where nothing was written. -/
theorem kfacts0 {W w1 : World} (h : Kp [] W w1) : (∀ b o, b < W.heap.size → w1.cell? ⟨b, o, none⟩ = W.cell? ⟨b, o, none⟩) ∧ (∀ b o, b < W.heap.size → w1.frozen? ⟨b, o, none⟩ = W.frozen? ⟨b, o, none⟩) ∧ (∀ b, b < W.heap.size → w1.imap? b = W.imap? b) ∧ (∀ b, b < W.heap.size → b < w1.heap.size) :=
  ⟨fun _ _ hb => h.cell hb (by simp), fun _ _ hb => h.frozen hb (by simp), fun _ hb => h.imap hb (by simp), fun _ hb => Nat.lt_of_lt_of_le hb h.size⟩

theorem Kp.imapAt {S : List Nat} {a b : World} {k : Nat} {x : List ME × Nat} (h : Kp S a b) (hx : a.imap? k = some x) (hS : k ∉ S) : b.imap? k = some x ∧ k < b.heap.size :=
  ⟨(h.imap (imap_lt hx) hS).trans hx, Nat.lt_of_lt_of_le (imap_lt hx) h.size⟩
theorem Kp.cellAt {S : List Nat} {a b : World} {k o : Nat} {v : Value} (h : Kp S a b) (hx : a.cell? ⟨k, o, none⟩ = some v) (hS : k ∉ S) : b.cell? ⟨k, o, none⟩ = some v ∧ k < b.heap.size :=
  have hl : k < a.heap.size := World.block_lt_of_cell? a ⟨k, o, none⟩ hx
  ⟨(h.cell hl hS).trans hx, Nat.lt_of_lt_of_le hl h.size⟩
theorem Kp.freeAt {S : List Nat} {a b : World} {k o : Nat} (h : Kp S a b) (hl : k < a.heap.size) (hx : a.frozen? ⟨k, o, none⟩ = false) (hS : k ∉ S) : b.frozen? ⟨k, o, none⟩ = false :=
  (h.frozen hl hS).trans hx

theorem own_shape {w : World} {B e sz n : Nat} {v : Value} {xs : List Value} (h : w.ownsRow B e sz v n xs) (hn : 0 < n) : ∃ g cap, v = .slice (some ⟨g, 0, none⟩) n cap ∧ B ≤ g ∧ g < w.heap.size := by
  rcases h.2 with ⟨_, h0⟩ | ⟨g, cap, cur, rfl, hb, hg, _⟩
  · omega
  · exact ⟨g, cap, rfl, hb, (Array.getElem?_eq_some_iff.1 hg).1⟩
/-- One block that was kept: rules without conditions for the walk. -/
theorem Kp.blk {S : List Nat} {a b : World} (h : Kp S a b) (k : Nat) (hk : k < a.heap.size) (hS : k ∉ S) : k < b.heap.size ∧ (∀ o, b.cell? ⟨k, o, none⟩ = a.cell? ⟨k, o, none⟩) ∧ (∀ o, b.frozen? ⟨k, o, none⟩ = a.frozen? ⟨k, o, none⟩) :=
  ⟨Nat.lt_of_lt_of_le hk h.size, fun _ => h.cell hk hS, fun _ => h.frozen hk hS⟩
theorem Kp.mblk {S : List Nat} {a b : World} (h : Kp S a b) (k : Nat) (hk : k < a.heap.size) (hS : k ∉ S) : k < b.heap.size ∧ b.imap? k = a.imap? k :=
  ⟨Nat.lt_of_lt_of_le hk h.size, h.imap hk hS⟩
/-- A row that was built and kept is owned. -/
theorem own_of_block {w : World} {g : Nat} {cs : Array Value} {e sz n B : Nat} (h : w.heap[g]? = some (.cells cs e (0, 0))) (hs : cs.size = n * sz) (hn : n ≤ maxLen) (hB : B ≤ g) :
    w.ownsRow B e sz (.slice (some ⟨g, 0, none⟩) n n) n cs.toList :=
  ⟨by simpa using hs, .inr ⟨g, n, cs, rfl, hB, h, Nat.le_refl _, hn, hs, by rw [← hs, ← Array.length_toList, List.take_length]⟩⟩
theorem own_built {W w1 : World} {cs : Array Value} {e sz n B : Nat} (hk : Kp [] (W.alloc (.cells cs e)) w1) (hs : cs.size = n * sz) (hn : n ≤ maxLen) (hB : B ≤ W.heap.size) :
    w1.ownsRow B e sz (.slice (some ⟨W.heap.size, 0, none⟩) n n) n cs.toList :=
  own_of_block ((hk.block W.heap.size (by simp) (by simp)).trans (heap_alloc_new W _)) hs hn hB
theorem own_base {w : World} {B C e sz n : Nat} {v : Value} {xs : List Value} (h : w.ownsRow B e sz v n xs) (hC : C ≤ B) : w.ownsRow C e sz v n xs := by
  refine ⟨h.1, ?_⟩
  rcases h.2 with hn | ⟨g, cap, cur, rfl, hb, rest⟩
  · exact .inl hn
  · exact .inr ⟨g, cap, cur, rfl, Nat.le_trans hC hb, rest⟩
theorem own_kp {S : List Nat} {w w' : World} {B e sz n : Nat} {v : Value} {xs : List Value} (h : w.ownsRow B e sz v n xs) (hk : Kp S w w') (hv : ∀ g, v.ownBlock = some g → g ∉ S) : w'.ownsRow B e sz v n xs := by
  refine ⟨h.1, ?_⟩
  rcases h.2 with hn | ⟨g, cap, cur, rfl, hb, hgg, rest⟩
  · exact .inl hn
  · exact .inr ⟨g, cap, cur, rfl, hb, by rw [hk.block g (Array.getElem?_eq_some_iff.1 hgg).1 (hv g rfl)]; exact hgg, rest⟩
/-- The cells of a list, one behind the other, from an address on. -/
theorem news_of {w : World} {g : Nat} {cs : Array Value} {e : Nat} (h : w.heap[g]? = some (.cells cs e (0, 0))) : ∀ j u, cs.toList[j]? = some u → w.cell? ((⟨g, 0, none⟩ : Addr).add j) = some u := by
  intro j u hj
  have hadd : (⟨g, 0, none⟩ : Addr).add j = ⟨g, j, none⟩ := by unfold Addr.add; split <;> simp_all
  rw [hadd]
  simp only [World.cell?, h]
  simpa using hj

attribute [go_sem] cell?_setIM frozen?_setIM size_setIM imap?_setIM_same imap?_setIM_other imap?_alloc_past imap?_alloc_new imap?_alloc_newM imap?_setCell imap?_drew setIM_drew setIM_alloc_past setIM_alloc_at setIM_setCell setIM_setIM World.imapL World.imapC tape_setIM drawn_setIM
end Go.Um

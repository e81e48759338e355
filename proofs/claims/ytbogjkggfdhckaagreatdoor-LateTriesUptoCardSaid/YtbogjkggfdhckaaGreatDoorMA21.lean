/-
  Lemmas on the way to Rr1: La4, La5, La6, La7, La8.
-/
import Derived.Test.YtbogjkggfdhckaaGreatDoorMA20
import Derived.Maps.RangeRun
import Derived.Maps.Range
import Derived.Deep.DeepCutAuto
import Derived.Deep.CutBlock
import Derived.Deep.RegionLaw
/-
  late in memory: maps from cells to numbers; ranges over them.
-/
namespace Go.Proofs.YtbogjkggfdhckaaGreatDoor
open Go.RowKit Go.Um
open Go.ChangeMaps (setBlock)

abbrev tMi : Nat := 129
theorem flat2 {α : Type} (f g : α → Value) : ∀ (l : List α) (i : Nat) x, l[i]? = some x → (l.flatMap (fun c => [f c, g c]))[2 * i]? = some (f x) ∧ (l.flatMap (fun c => [f c, g c]))[2 * i + 1]? = some (g x)
  | [], i, x, h => by simp at h
  | a :: l, 0, x, h => by simp at h; subst h; simp
  | a :: l, i + 1, x, h => by
    have := flat2 f g l i x (by simpa using h)
    have e : 2 * (i + 1) = 2 * i + 1 + 1 := by omega
    rw [e]
    simpa using this
theorem flat2_set {α : Type} (f g : α → Value) : ∀ (l : List α) (i : Nat) x, ((l.set i x).flatMap (fun c => [f c, g c])) = ((l.flatMap (fun c => [f c, g c])).set (2 * i) (f x)).set (2 * i + 1) (g x)
  | [], i, x => by simp
  | a :: l, 0, x => by simp
  | a :: l, i + 1, x => by
    have := flat2_set f g l i x
    have e : 2 * (i + 1) = 2 * i + 1 + 1 := by omega
    rw [e]
    simpa using this
/-- The run of m[k]. -/
theorem AsAt.get {w : World} {r : Nat} {a : As} (h : AsAt w r a) (k : Int) : (Instr.lookup tMi (.map (some r)) (.int .i64 k) true).run Tryz.prog w = .ok (.tuple #[.int .i64 ((alk k a).getD 0), .bool (alk k a).isSome]) w := by
  obtain ⟨l, c, h1, h2⟩ := h.look
  have := run_lookup_im (P := Tryz.prog) (w := w) (r := r) (k := k) (T := tMi) Tryz.underlying129 Tryz.underlying3 (z := .int .i64 0) Tryz.zeroValue3 (by rw [h1]; rfl) true
  rw [this, (imapL_eq h1).1, h2]
  cases alk k a <;> rfl
theorem upd_as {k v : Int} {c : Nat} : ∀ {l : List ME} {a : As}, l.map (fun e => (e.key, e.val)) = a.map (fun x => (x.1, Value.int .i64 x.2)) → (upd k (.int .i64 v) c l).map (fun e => (e.key, e.val)) = (aupd k v a).map (fun x => (x.1, Value.int .i64 x.2))
  | [], [], _ => by simp [upd, aupd]
  | [], _ :: _, h => by simp at h
  | _ :: _, [], h => by simp at h
  | e :: l, x :: a, h => by
    simp only [List.map_cons, List.cons.injEq, Prod.mk.injEq] at h
    have ih := upd_as (k := k) (v := v) (c := c) h.2
    by_cases hk : k = x.1
    · simp [upd, aupd, h.1.1, hk, h.2]
    · simp [upd, aupd, h.1.1, h.1.2, hk, ih]
theorem upd_born {k : Int} {v : Value} {c : Nat} : ∀ {l : List ME}, (∀ e ∈ l, e.born < c) → (l.map (·.born)).Nodup → (∀ e ∈ upd k v c l, e.born < updC k c l) ∧ ((upd k v c l).map (·.born)).Nodup := by
  intro l
  have key : ∀ l : List ME, (lk k l).isSome = true → (upd k v c l).map (·.born) = l.map (·.born) := by
    intro l
    induction l with
    | nil => intro h; simp [lk] at h
    | cons e l ih =>
      intro h
      by_cases hk : k = e.key
      · simp [upd, hk]
      · simp only [upd, hk, if_false, List.map_cons]
        rw [ih (by simpa [lk, hk] using h)]
  intro h1 h2
  cases hl : lk k l with
  | some u =>
    have hm := key l (by rw [hl]; rfl)
    have hu : updC k c l = c := by simp [updC, hl]
    refine ⟨fun e he => ?_, by rw [hm]; exact h2⟩
    rw [hu]
    have : e.born ∈ l.map (·.born) := by rw [← hm]; exact List.mem_map.2 ⟨e, he, rfl⟩
    obtain ⟨e', he', hb⟩ := List.mem_map.1 this
    rw [← hb]; exact h1 e' he'
  | none =>
    have hu : updC k c l = c + 1 := by simp [updC, hl]
    rw [(lk_none_of_findNow hl).2, hu]
    refine ⟨fun e he => ?_, ?_⟩
    · rcases List.mem_append.1 he with he | he
      · exact Nat.lt_succ_of_lt (h1 e he)
      · simp at he; subst he; simp
    · rw [List.map_append, List.nodup_append]
      refine ⟨h2, by simp, fun a ha b hb => ?_⟩
      simp at hb; subst hb
      obtain ⟨e, he, rfl⟩ := List.mem_map.1 ha
      have := h1 e he
      omega
/-- The run of m[k] = v. -/
theorem AsAt.set {w : World} {r : Nat} {a : As} (h : AsAt w r a) (k v : Int) : ∃ w', (Instr.mapUpdate tMi (.map (some r)) (.int .i64 k) (.int .i64 v)).run Tryz.prog w = .ok () w' ∧ AsAt w' r (aupd k v a) ∧ Kp [r] w w' ∧ ∀ x, w'.cell? x = w.cell? x := by
  obtain ⟨l, c, h1, h2, h3, h4⟩ := h
  obtain ⟨e1, e2⟩ := imapL_eq h1
  have hs : (w.imap? r).isSome = true := by rw [h1]; rfl
  refine ⟨_, run_mapUpdate_im (P := Tryz.prog) (T := tMi) Tryz.underlying129 Tryz.underlying3 hs (.int .i64 v), ?_, (Kp.refl _ _).setIM _ _ _ (fun _ => by simp), fun x => cell?_setIM _ _ _ _ x⟩
  rw [e1, e2]
  obtain ⟨b1, b2⟩ := upd_born (k := k) (v := .int .i64 v) h3 h4
  exact ⟨_, _, imap?_setIM_same _ _ _ _ hs, upd_as h2, b1, b2⟩
theorem AsAt.made (w : World) : AsAt (w.alloc (.map #[] 0)) w.heap.size [] := ⟨[], 0, imap?_alloc_new _ _ rfl, rfl, by simp, by simp⟩

/-! ### 'for k, v := range m' -/
def leftL (l : List ME) (seen : Array Nat) : List ME := l.filter (fun e => !seen.contains e.born)
/-- A range under way: what is still to come. -/
def RngAt (w : World) (r rm : Nat) (a todo : As) : Prop :=
  ∃ l c since seen c0, w.imap? rm = some (l, c) ∧ l.map (fun e => (e.key, e.val)) = a.map (fun x => (x.1, Value.int .i64 x.2)) ∧ (l.map (·.born)).Nodup ∧ (∀ e ∈ l, e.born < since) ∧ since ≤ c0 ∧ since ≤ c ∧ w.heap[r]? = some (.mapIter (some rm) since seen c0) ∧ (leftL l seen).map (fun e => (e.key, e.val)) = todo.map (fun x => (x.1, Value.int .i64 x.2))
theorem RngAt.kp {S : List Nat} {w w' : World} {r rm : Nat} {a todo : As} (h : RngAt w r rm a todo) (hk : Kp S w w') (hr : r ∉ S) (hm : rm ∉ S) : RngAt w' r rm a todo := by
  obtain ⟨l, c, since, seen, c0, h1, h2, h3, h4, h5, h6, h7, h8⟩ := h
  exact ⟨l, c, since, seen, c0, (hk.imapAt h1 hm).1, h2, h3, h4, h5, h6, (hk.block r (Array.getElem?_eq_some_iff.1 h7).1 hr).trans h7, h8⟩
theorem RngAt.lt {w : World} {r rm : Nat} {a todo : As} (h : RngAt w r rm a todo) : r < w.heap.size := by
  obtain ⟨l, c, since, seen, c0, h1, h2, h3, h4, h5, h6, h7, h8⟩ := h
  exact (Array.getElem?_eq_some_iff.1 h7).1
theorem leftOf_enc (l : List ME) (seen : Array Nat) : (leftOf (encM l) seen).toList = (leftL l seen).map ME.enc := by
  unfold leftOf leftL encM
  simp [List.filter_map]
  rfl
theorem RngAt.left {w : World} {r rm : Nat} {a todo : As} (h : RngAt w r rm a todo) : w.rangeLeft rm r = todo.length := by
  obtain ⟨l, c, since, seen, c0, h1, h2, h3, h4, h5, h6, h7, h8⟩ := h
  simp only [World.rangeLeft, imap_heap h1, h7]
  have := congrArg List.length h8
  simp only [List.length_map] at this
  rw [← Array.length_toList, leftOf_enc, List.length_map, this]
theorem AsAt.range {w : World} {rm : Nat} {a : As} (h : AsAt w rm a) : ∃ w', (Instr.range tMi (.map (some rm))).run Tryz.prog w = .ok (.pointer (some ⟨w.heap.size, 0, none⟩)) w' ∧ RngAt w' w.heap.size rm a a ∧ Kp [] w w' ∧ w'.heap.size = w.heap.size + 1 := by
  have hl := h.lt
  obtain ⟨l, c, h1, h2, h3, h4⟩ := h
  refine ⟨_, run_range_map w tMi _ _ rm (encM l) c Tryz.underlying129 (imap_heap h1), ⟨l, c, c, #[], c, ?_, h2, h4, h3, Nat.le_refl _, Nat.le_refl _, Go.heap_alloc_new _ _, ?_⟩, (Kp.refl _ _).alloc _, by simp⟩
  · rw [imap?_alloc_past _ _ hl]; exact h1
  · have : leftL l #[] = l := by simp [leftL]
    rw [this]; exact h2
theorem as_nodup : ∀ {l : List ME} {a : As}, l.map (fun e => (e.key, e.val)) = a.map (fun x => (x.1, Value.int .i64 x.2)) → l.map (·.key) = a.map Prod.fst := by
  intro l a h
  have := congrArg (List.map Prod.fst) h
  simpa [List.map_map, Function.comp_def] using this
theorem left_push {l : List ME} (hn : (l.map (·.born)).Nodup) (hk : (l.map (·.key)).Nodup) {e : ME} (he : e ∈ l) (seen : Array Nat) : leftL l (seen.push e.born) = (leftL l seen).filter (fun x => !decide (x.key = e.key)) := by
  unfold leftL
  rw [List.filter_filter]
  apply List.filter_congr
  intro x hx
  have hb : x.born = e.born ↔ x.key = e.key := by
    constructor
    · intro hb
      have : x = e := by
        obtain ⟨i, hi, rfl⟩ := List.mem_iff_getElem.1 hx
        obtain ⟨j, hj, rfl⟩ := List.mem_iff_getElem.1 he
        have := (List.getElem_inj (h₀ := by simpa using hi) (h₁ := by simpa using hj) hn).1 (by simpa using hb)
        subst this; rfl
      rw [this]
    · intro hb
      have : x = e := by
        obtain ⟨i, hi, rfl⟩ := List.mem_iff_getElem.1 hx
        obtain ⟨j, hj, rfl⟩ := List.mem_iff_getElem.1 he
        have := (List.getElem_inj (h₀ := by simpa using hi) (h₁ := by simpa using hj) hk).1 (by simpa using hb)
        subst this; rfl
      rw [this]
  by_cases h1 : x.key = e.key
  · have h2 := hb.2 h1
    simp [h1, h2]
  · have h2 : ¬ x.born = e.born := fun h => h1 (hb.1 h)
    simp [h1, h2]
theorem filter_as {k : Int} : ∀ {l : List ME} {a : As}, l.map (fun e => (e.key, e.val)) = a.map (fun x => (x.1, Value.int .i64 x.2)) → (l.filter (fun x => !decide (x.key = k))).map (fun e => (e.key, e.val)) = (a.filter (fun x => !decide (x.1 = k))).map (fun x => (x.1, Value.int .i64 x.2))
  | [], [], _ => rfl
  | [], _ :: _, h => by simp at h
  | _ :: _, [], h => by simp at h
  | e :: l, x :: a, h => by
    simp only [List.map_cons, List.cons.injEq, Prod.mk.injEq] at h
    have ih := filter_as (k := k) h.2
    by_cases hk : x.1 = k
    · simp [h.1.1, hk, ih]
    · simp [h.1.1, h.1.2, hk, ih]
/-- The next round, if any. -/
theorem RngAt.next {w : World} {r rm : Nat} {a todo : As} (ty : TypeId) (h : RngAt w r rm a todo) (hka : (a.map Prod.fst).Nodup) :
    (todo = [] ∧ (Instr.next (.pointer (some ⟨r, 0, none⟩)) false ty).run Tryz.prog w = .ok (.tuple #[.bool false]) w) ∨
    ∃ x ∈ todo, ∃ w', (Instr.next (.pointer (some ⟨r, 0, none⟩)) false ty).run Tryz.prog w = .ok (.tuple #[.bool true, .int .i64 x.1, .int .i64 x.2]) w' ∧ (Instr.entry (.pointer (some ⟨r, 0, none⟩))).run Tryz.prog w' = .ok (.tuple #[.int .i64 x.1, .int .i64 x.2]) w' ∧ RngAt w' r rm a (todo.filter (fun y => !decide (y.1 = x.1))) ∧ Kp [r] w w' := by
  obtain ⟨l, c, since, seen, c0, h1, h2, h3, h4, h5, h6, h7, h8⟩ := h
  have hb := imap_heap h1
  have hold : ∀ x ∈ (encM l).toList, x.born < since := by
    intro x hx
    simp [encM] at hx
    obtain ⟨e, he, rfl⟩ := hx
    exact h4 e he
  have hkl : (l.map (·.key)).Nodup := by rw [as_nodup h2]; exact hka
  have hne : rm ≠ r := fun e => by rw [e, h7] at hb; cases hb
  have hll := leftOf_enc l seen
  rcases run_next_at (P := Tryz.prog) w ty r rm since c0 seen (encM l) c h7 hb hold h5 with ⟨hz, hrun⟩ | ⟨e, he, w1, hw1, hrun⟩
  · left
    refine ⟨?_, hrun⟩
    have h0 := congrArg List.length hll
    rw [Array.length_toList, hz, List.length_map] at h0
    have h9 := congrArg List.length h8
    simp only [List.length_map] at h9
    exact List.eq_nil_of_length_eq_zero (by omega)
  · right
    rw [hll] at he
    obtain ⟨y, hy, rfl⟩ := List.mem_map.1 he
    have hyl : y ∈ l := (List.mem_filter.1 hy).1
    obtain ⟨x, hx, hxy⟩ : ∃ x ∈ todo, (x.1, Value.int .i64 x.2) = (y.key, y.val) := by
      have : (y.key, y.val) ∈ (leftL l seen).map (fun e => (e.key, e.val)) := List.mem_map.2 ⟨y, hy, rfl⟩
      rw [h8] at this
      exact List.mem_map.1 this
    simp only [Prod.mk.injEq] at hxy
    have hrl : r < w.heap.size := (Array.getElem?_eq_some_iff.1 h7).1
    have h71 : w1.heap = w.heap := by rcases hw1 with rfl | rfl <;> rfl
    have hk1 : Kp [r] w w1 := by rcases hw1 with rfl | rfl; exact Kp.refl _ _; exact (Kp.refl _ _).drew
    have hk : Kp [r] w (setBlock w1 r (.mapIter (some rm) since (seen.push y.born) c)) := by
      refine ⟨hk1.os, hk1.tape, hk1.output, ?_, fun k hk hS => ?_⟩
      · simp [setBlock, h71]
      · simp at hS
        simp only [setBlock, h71]
        rw [Array.getElem?_setIfInBounds_ne (Ne.symm hS)]
    have hbr : (setBlock w1 r (.mapIter (some rm) since (seen.push y.born) c)).heap[r]? = some (.mapIter (some rm) since (seen.push y.born) c) := by
      simp only [setBlock, h71]
      rw [Array.getElem?_setIfInBounds_self_of_lt hrl]
    have him := (hk.imapAt h1 (by simpa using hne)).1
    refine ⟨x, hx, _, ?_, ?_, ⟨l, c, since, seen.push y.born, c, him, h2, h3, h4, h6, h6, hbr, ?_⟩, hk⟩
    · rw [hrun, hxy.1, hxy.2]; rfl
    · rw [hxy.1, hxy.2]
      exact run_entry_at (P := Tryz.prog) _ r rm since seen (encM l) c y.enc hbr (imap_heap him) (by simp [encM]; exact ⟨y, hyl, rfl⟩) (by
        have : (encM l).toList.map (·.born) = l.map (·.born) := by simp [encM, List.map_map, Function.comp_def, ME.enc]
        rw [this]; exact h3)
    · rw [left_push h3 hkl hyl, hxy.1]
      exact filter_as h8
end Go.Proofs.YtbogjkggfdhckaaGreatDoor

/-
  late in memory: answer.
-/
namespace Go.Proofs.YtbogjkggfdhckaaGreatDoor
open Go.RowKit Go.Um

/-- The maps of one thread change. -/
theorem MachAt.maps {w w' : World} {p : Pg} {L : Lay} {m : Mc} {nv : List Value} {wv : List (Value × Value)} (h : MachAt w p L m nv wv) {i : Nat} {q' : As × As} {v : Value × Value} (hv : wv[i]? = some v) {S : List Nat} (hk : Kp S w w') (hC : Cl S w L.ρ [10 + 2 * i, 11 + 2 * i]) (h1 : MapV w' L.ρ (10 + 2 * i) v.1 q'.1) (h2 : MapV w' L.ρ (11 + 2 * i) v.2 q'.2) :
    MachAt w' p L { m with ws := m.ws.set i q' } nv wv := by
  have ro : ∀ {b o : Nat} {v' : Value}, L.ρ b = 0 → w.cell? ⟨b, o, none⟩ = some v' → w'.cell? ⟨b, o, none⟩ = some v' := fun hb hc => cell_ro hk hC (by simp; omega) hb hc
  have hown : ∀ {e sz n : Nat} {u : Value} {xs : List Value}, w.ownsRow L.B e sz u n xs → (∀ g, u.ownBlock = some g → L.ρ g < 10) → w'.ownsRow L.B e sz u n xs := fun ho hc => own_kp ho hk (fun g hg => hC.out (ho.lt g hg).2 (by have := hc g hg; simp; omega))
  have hne : ∀ b, b < w.heap.size → L.ρ b < 10 → b ∉ S := fun b hb h4 => hC.out hb (by simp; omega)
  exact {
    wk := h.wk.kp hk (hne _ h.wk.lt (by rw [h.k1]; decide)) (hne _ (h.wk.ow.lt _ rfl).2 (by rw [h.k2]; decide)) (fun g hg => hne _ (h.wk.oe.lt g hg).2 (by rw [h.k3 g hg]; decide)) (fun y hy hP => hne y (h.wk.p0 y hP) (by rw [h.p0 _ hP]; decide) hy)
    t0 := ro h.kt h.t0, t1 := ro h.kt h.t1, t2 := ro h.kt h.t2, t3 := ro h.kt h.t3, t4 := ro h.kt h.t4
    pg := h.pg.kp hk (fun y hy hq => hne y (h.q0 y hq).1 (by rw [(h.q0 y hq).2]; decide) hy)
    q0 := fun y hy => ⟨Nat.lt_of_lt_of_le (h.q0 y hy).1 hk.size, (h.q0 y hy).2⟩
    p0 := h.p0
    nx := hown h.nx (fun g hg => by simp [Value.ownBlock] at hg; subst hg; rw [h.k4]; decide)
    st := fun j y u hy hu => (h.st j y u hy hu).fr hk hC (by simp; omega) (fun _ _ => rfl)
    m0 := ro h.km h.m0, m1 := ro h.km h.m1, m2 := ro h.km h.m2
    ce := hown h.ce (fun g hg => by rw [h.k5 g hg]; decide)
    wo := by simpa using hown h.wo (fun g hg => by rw [h.k6 g hg]; decide)
    wl := by simpa using h.wl
    wm := fun j q u hq hu => by
      rcases get_set hq with ⟨rfl, rfl⟩ | ⟨hji, hq⟩
      · rw [hv] at hu; cases hu
        exact ⟨h1, h2⟩
      · exact ⟨(h.wm j q u hq hu).1.fr hk hC (by simp; omega) (fun _ _ => rfl), (h.wm j q u hq hu).2.fr hk hC (by simp; omega) (fun _ _ => rfl)⟩
    bg := h.bg, k1 := h.k1, k2 := h.k2, k3 := h.k3, k4 := h.k4, k5 := h.k5, k6 := h.k6, kt := h.kt, km := h.km, mb := h.mb, base := h.base }
theorem Gone.behind {w w2 w' : World} {p : Pg} {L : Lay} {m' : Mc} {nv : List Value} {wv : List (Value × Value)} {S : List Nat} (h : Gone w2 w' p L m' nv wv) (hk : Kp S w w2) (hS : ∀ x ∈ S, Mine L w x) : Gone w w' p L m' nv wv := by
  obtain ⟨⟨ve', ρ', h1, h2⟩, T, h3, h4⟩ := h
  refine ⟨⟨ve', ρ', fun x hx => h1 x (Nat.lt_of_lt_of_le hx hk.size), h2⟩, S ++ T, ?_, fun x hx => ?_⟩
  · exact (hk.mono (T := S ++ T) (fun x hx _ => by simp [hx])).trans h3 (fun x hx _ => by simp [hx])
  · rcases List.mem_append.1 hx with hx | hx
    · exact hS x hx
    · exact ⟨(h4 x hx).1, fun hl => (h4 x hx).2 (Nat.lt_of_lt_of_le hl hk.size)⟩
/-- Where a thread's maps lie. -/
theorem MachAt.two {w : World} {p : Pg} {L : Lay} {m : Mc} {nv : List Value} {wv : List (Value × Value)} (h : MachAt w p L m nv wv) {i : Nat} {t : Th} {q : As × As} (hi : m.ths[i]? = some t) (hb : t.begun = true) (hq : m.ws[i]? = some q) :
    ∃ r1 r2, wv[i]? = some (.map (some r1), .map (some r2)) ∧ AsAt w r1 q.1 ∧ AsAt w r2 q.2 ∧ L.ρ r1 = 10 + 2 * i ∧ L.ρ r2 = 11 + 2 * i ∧ L.B ≤ r1 ∧ L.B ≤ r2 := by
  have hil : i < wv.length := by rw [h.wl]; exact (List.getElem?_eq_some_iff.1 hq).1
  have hv : wv[i]? = some wv[i] := by simp [hil]
  obtain ⟨r1, r2, he⟩ := h.bg i t _ hi hb hv
  rw [he] at hv
  obtain ⟨h1, h2⟩ := h.wm i q _ hq hv
  rcases h1 with ⟨h1, _⟩ | ⟨_, h1, c1, a1⟩
  · simp at h1
  rcases h2 with ⟨h2, _⟩ | ⟨_, h2, c2, a2⟩
  · simp at h2
  simp at h1 h2
  subst h1 h2
  exact ⟨r1, r2, hv, a1, a2, c1, c2, h.mb i _ r1 hv (.inl rfl), h.mb i _ r2 hv (.inr rfl)⟩
/-- The cells of a worker, of a cell. -/
theorem MachAt.wcell {w : World} {p : Pg} {L : Lay} {m : Mc} {nv : List Value} {wv : List (Value × Value)} (h : MachAt w p L m nv wv) {i : Nat} {v : Value × Value} (hv : wv[i]? = some v) :
    ∃ g c, L.vwk = .slice (some ⟨g, 0, none⟩) m.ws.length c ∧ g < w.heap.size ∧ w.cell? ⟨g, 2 * i, none⟩ = some v.1 ∧ w.cell? ⟨g, 2 * i + 1, none⟩ = some v.2 := by
  have hil := (List.getElem?_eq_some_iff.1 hv).1
  rw [h.wl] at hil
  obtain ⟨g, c, hg, _, hlt⟩ := own_shape h.wo (by omega)
  have ho := h.wo
  rw [hg] at ho
  obtain ⟨f1, f2⟩ := flat2 Prod.fst Prod.snd wv i v hv
  exact ⟨g, c, hg, hlt, by rw [ho.cellAt _ (by omega)]; exact f1, by rw [ho.cellAt _ (by omega)]; exact f2⟩
theorem MachAt.ccell {w : World} {p : Pg} {L : Lay} {m : Mc} {nv : List Value} {wv : List (Value × Value)} (h : MachAt w p L m nv wv) {i : Nat} {c : Int × Int} (hv : m.cells[i]? = some c) :
    ∃ g k, L.vce = .slice (some ⟨g, 0, none⟩) m.cells.length k ∧ g < w.heap.size ∧ w.cell? ⟨g, 2 * i, none⟩ = some (.int .i64 c.1) ∧ w.cell? ⟨g, 2 * i + 1, none⟩ = some (.int .i64 c.2) := by
  have hil := (List.getElem?_eq_some_iff.1 hv).1
  obtain ⟨g, k, hg, _, hlt⟩ := own_shape h.ce (by omega)
  have ho := h.ce
  rw [hg] at ho
  obtain ⟨f1, f2⟩ := flat2 (fun c : Int × Int => Value.int .i64 c.1) (fun c : Int × Int => Value.int .i64 c.2) m.cells i c hv
  exact ⟨g, k, hg, hlt, by rw [ho.cellAt _ (by omega)]; exact f1, by rw [ho.cellAt _ (by omega)]; exact f2⟩

set_option maxRecDepth 100000 in
set_option maxHeartbeats 2000000 in
/-- The walk: what is stored, what is told. -/
theorem answer_walk {w : World} {bm bt g1 k1 g2 k2 n1 n2 r1 r2 i : Nat} {e : Ev} {q : As × As} {c : Int × Int} {R : World → Prop} (m0 : w.cell? ⟨bm, 0, none⟩ = some (.pointer (some ⟨bt, 0, none⟩))) (m1 : w.cell? ⟨bm, 1, none⟩ = some (.slice (some ⟨g1, 0, none⟩) n1 k1)) (m2 : w.cell? ⟨bm, 2, none⟩ = some (.slice (some ⟨g2, 0, none⟩) n2 k2))
    (hi : i < n2) {k : Nat} (he0 : e.obj = k) (he : k < n1) (v1 : w.cell? ⟨g2, i * 2, none⟩ = some (.map (some r1))) (v2 : w.cell? ⟨g2, i * 2 + 1, none⟩ = some (.map (some r2))) (c1 : w.cell? ⟨g1, k * 2, none⟩ = some (.int .i64 c.1)) (c2 : w.cell? ⟨g1, k * 2 + 1, none⟩ = some (.int .i64 c.2)) (hne : r1 ≠ r2) (hr1 : AsAt w r1 q.1) (hr2 : AsAt w r2 q.2)
    (hA : ∀ W, (∃ S, Kp S w W ∧ (∀ x ∈ S, x = r1 ∨ x = r2)) → AsAt W r1 (ansW q.1 q.2 c e).1 → AsAt W r2 (ansW q.1 q.2 c e).2 → Calls Tryz.prog 105 #[.pointer (some ⟨bt, 0, none⟩), .int .i64 i, .int .i64 (ansVal q.2 c e), .bool false] W fun r w' => r = .returned (.tuple #[]) ∧ R w') :
    Calls Tryz.prog 75 #[.pointer (some ⟨bm, 0, none⟩), .int .i64 i, evV e.f] w fun r w' => r = .returned .nilFunc ∧ R w' := by
  have l1 := World.block_lt_of_cell? w _ m0
  have l2 := World.block_lt_of_cell? w _ v1
  have l3 := World.block_lt_of_cell? w _ c1
  dsimp only at l1 l2 l3
  have HR1 := Lib.hid hr1
  have HR2 := Lib.hid hr2
  have HA := Lib.hid hA
  have i0 : (0 : Int) ≤ i := by omega
  have i1 : (i : Int) < n2 := by omega
  have j0 : (0 : Int) ≤ k := by omega
  have j1 : (k : Int) < n1 := by omega
  unfold evV
  simp only [Ev.f, he0]
  have HE := Lib.hid he0
  clear hr1 he0 hr2 hA
  go_enter Tryz.func75, Tryz.ntmps75
  go_upto_region 1 with fail
  refine wp_gen fun W hW => ?_
  have hkW : Kp [] w W := by rw [hW]; exact (Kp.refl _ _).alloc _
  obtain ⟨be, hbe⟩ : ∃ x, x = w.heap.size := ⟨_, rfl⟩
  have hbc : ∀ j, W.cell? ⟨be, j, none⟩ = #[Value.int .i64 e.kind, .int .i64 e.tx, .int .i64 e.thread, .int .i64 k, .int .i64 e.op, .int .i64 e.key, .int .i64 e.val, .int .i64 e.ret][j]? := fun j => by
    rw [hW, hbe]; exact World.cell?_alloc_new w _ _ _
  have b3 : W.cell? ⟨be, 3, none⟩ = some (.int .i64 k) := hbc 3
  have b4 : W.cell? ⟨be, 4, none⟩ = some (.int .i64 e.op) := hbc 4
  have b6 : W.cell? ⟨be, 6, none⟩ = some (.int .i64 e.val) := hbc 6
  have l4 := World.block_lt_of_cell? W _ b3
  dsimp only at l4
  rw [← hbe]
  replace m0 := (hkW.cellAt m0 (by simp)).1
  replace m1 := (hkW.cellAt m1 (by simp)).1
  replace m2 := (hkW.cellAt m2 (by simp)).1
  replace v1 := (hkW.cellAt v1 (by simp)).1
  replace v2 := (hkW.cellAt v2 (by simp)).1
  replace c1 := (hkW.cellAt c1 (by simp)).1
  replace c2 := (hkW.cellAt c2 (by simp)).1
  replace l1 := (hkW.blk bm l1 (by simp)).1
  replace l2 := (hkW.blk g2 l2 (by simp)).1
  replace l3 := (hkW.blk g1 l3 (by simp)).1
  have HKW := Lib.hid hkW
  clear hW hbc hbe hkW
  go_cut [7, 8] (fun s7 s8 wx => ∃ b7 b8, s7 = .pointer (some ⟨b7, 0, none⟩) ∧ s8 = .pointer (some ⟨b8, 0, none⟩) ∧ Kp [] W wx ∧ wx.cell? ⟨b7, 0, none⟩ = some (.map (some r1)) ∧ wx.cell? ⟨b7, 1, none⟩ = some (.map (some r2)) ∧ wx.cell? ⟨b8, 0, none⟩ = some (.int .i64 c.1) ∧ wx.cell? ⟨b8, 1, none⟩ = some (.int .i64 c.2))
  case first =>
    go_region
    all_goals go_wp2_with fail
    all_goals go_meet
    all_goals exact ⟨_, _, rfl, rfl, by repeat (first | (with_reducible exact Kp.refl _ _) | refine Kp.setCell ?_ _ _ (fun h => absurd h (by simp)) | refine Kp.alloc ?_ _ | refine Kp.drew ?_), by simp [go_sem], by simp [go_sem], by simp [go_sem], by simp [go_sem]⟩
  case rest =>
  obtain ⟨b7, b8, rfl, rfl, hkc, d1, d2, d3, d4⟩ := hcut
  replace m0 := (hkc.cellAt m0 (by simp)).1
  replace b3 := (hkc.cellAt b3 (by simp)).1
  replace b4 := (hkc.cellAt b4 (by simp)).1
  replace b6 := (hkc.cellAt b6 (by simp)).1
  have l5 := World.block_lt_of_cell? wc _ d1
  have l6 := World.block_lt_of_cell? wc _ d3
  replace l1 := (hkc.blk bm l1 (by simp)).1
  replace l4 := (hkc.blk be l4 (by simp)).1
  dsimp only at l5 l6
  have hkw := HKW.out.trans hkc (by simp)
  have hq1 := HR1.out.kp hkw (by simp)
  have hq2 := HR2.out.kp hkw (by simp)
  have g2 := hq2.get k
  have g1 := hq1.get k
  have HQ1 := Lib.hid hq1
  have HQ2 := Lib.hid hq2
  have HKC := Lib.hid hkw
  clear m1 m2 v1 v2 c1 c2 l2 l3 hkc hkw hq1 hq2 HKW HR1 HR2
  by_cases ho : e.op = 2
  · simp only [ho] at b4
    obtain ⟨w2, hmu, hq, hk2, hc2⟩ := HQ2.out.set k e.val
    have m0' : w2.cell? ⟨bm, 0, none⟩ = _ := (hc2 _).trans m0
    have l1' : bm < w2.heap.size := Nat.lt_of_lt_of_le l1 hk2.size
    have hcall := HA.out w2 ⟨[r2], (HKC.out.mono (T := [r2]) (fun x hx _ => by simp at hx)).trans hk2 (fun x hx _ => hx), by simp⟩ (by
      simp only [ansW, ho, if_true]
      exact HQ1.out.kp hk2 (by simpa using hne)) (by
      simp only [ansW, ho, if_true, HE.out]
      exact hq)
    simp only [ansVal, ho, if_true] at hcall
    have HCALL := Lib.hid hcall
    have HO := Lib.hid ho
    clear hcall hq hk2 hc2 ho
    go_wp2_with (go_at_call 105; refine (HCALL.out).mono ?_; rintro r w1 ⟨rfl, hr⟩; have HR := Lib.hid hr; clear hr)
    go_ret
    exact ⟨rfl, HR.out⟩
  · have hob : (e.op == 2) = false := by simpa using ho
    have HO := Lib.hid ho
    clear ho
    cases hw : alk (k : Int) q.2 with
    | some v =>
      simp only [hw, Option.getD_some, Option.isSome_some] at g2
      have hcall := HA.out wc ⟨[], HKC.out, by simp⟩ (by
        simp only [ansW, HO.out, if_false, HE.out, hw, Option.isSome_some, if_true]
        exact HQ1.out) (by
        simp only [ansW, HO.out, if_false, HE.out, hw, Option.isSome_some, if_true]
        exact HQ2.out)
      simp only [ansVal, HO.out, if_false, HE.out, hw, Option.getD_some] at hcall
      have HCALL := Lib.hid hcall
      clear hcall hw
      go_wp2_with (go_at_call 105; refine (HCALL.out).mono ?_; rintro r w1 ⟨rfl, hr⟩; have HR := Lib.hid hr; clear hr)
      go_ret
      exact ⟨rfl, HR.out⟩
    | none =>
      simp only [hw, Option.getD_none, Option.isSome_none] at g2
      cases hr : alk (k : Int) q.1 with
      | some v =>
        simp only [hr, Option.getD_some, Option.isSome_some] at g1
        have hcall := HA.out wc.drew ⟨[], HKC.out.drew, by simp⟩ (by
          simp only [ansW, HO.out, if_false, HE.out, hw, hr, Option.isSome_none, Option.isSome_some, Bool.false_eq_true, if_true]
          exact HQ1.out.kp (Kp.refl [] wc).drew (by simp)) (by
          simp only [ansW, HO.out, if_false, HE.out, hw, hr, Option.isSome_none, Option.isSome_some, Bool.false_eq_true, if_true]
          exact HQ2.out.kp (Kp.refl [] wc).drew (by simp))
        simp only [ansVal, HO.out, if_false, HE.out, hw, Option.getD_none] at hcall
        have HCALL := Lib.hid hcall
        clear hcall hw hr
        go_wp2_with fail
        go_region_with (first | (go_at_call 105; refine (HCALL.out).mono ?_; rintro r w1 ⟨rfl, hr⟩; have HR := Lib.hid hr; clear hr))
        all_goals go_wp2_with fail
        all_goals go_ret
        all_goals exact ⟨rfl, HR.out⟩
      | none =>
        simp only [hr, Option.getD_none, Option.isSome_none] at g1
        obtain ⟨w2, hmu, hq, hk2, hc2⟩ := HQ1.out.set k c.2
        have m0' : w2.cell? ⟨bm, 0, none⟩ = _ := (hc2 _).trans m0
        have d3' : w2.cell? ⟨b8, 0, none⟩ = _ := (hc2 _).trans d3
        have l1' : bm < w2.heap.size := Nat.lt_of_lt_of_le l1 hk2.size
        have l6' : b8 < w2.heap.size := Nat.lt_of_lt_of_le l6 hk2.size
        have hcall := HA.out w2.drew ⟨[r1], ((HKC.out.mono (T := [r1]) (fun x hx _ => by simp at hx)).trans hk2 (fun x hx _ => hx)).drew, by simp⟩ (by
          simp only [ansW, HO.out, if_false, HE.out, hw, hr, Option.isSome_none, Bool.false_eq_true]
          exact hq.kp (Kp.refl [] w2).drew (by simp)) (by
          simp only [ansW, HO.out, if_false, HE.out, hw, hr, Option.isSome_none, Bool.false_eq_true]
          exact HQ2.out.kp hk2.drew (by simpa using fun h => hne h.symm))
        simp only [ansVal, HO.out, if_false, HE.out, hw, Option.getD_none] at hcall
        have HCALL := Lib.hid hcall
        clear hcall hw hr hq hk2 hc2
        go_wp2_with fail
        go_region_with (first | (go_at_call 105; refine (HCALL.out).mono ?_; rintro r w1 ⟨rfl, hr⟩; have HR := Lib.hid hr; clear hr))
        all_goals go_wp2_with fail
        all_goals go_ret
        all_goals exact ⟨rfl, HR.out⟩
end Go.Proofs.YtbogjkggfdhckaaGreatDoor

/-
  late in memory: the step that answers a call.
-/
namespace Go.Proofs.YtbogjkggfdhckaaGreatDoor
open Go.RowKit Go.Um

theorem MachAt.sz {w : World} {p : Pg} {L : Lay} {m : Mc} {nv : List Value} {wv : List (Value × Value)} (h : MachAt w p L m nv wv) : L.B ≤ w.heap.size := Nat.le_trans h.base.1 (Nat.le_of_lt h.wk.lt)
theorem hv_small {n : Nat} {v x : Int} (hn : n ≤ 324) (h : small n v) (hx : -1000 ≤ x ∧ x ≤ 1000) : (-1000000000 ≤ v ∧ v ≤ 1000000000) ∧ -1000000000 ≤ v + x ∧ v + x ≤ 1000000000 := by
  unfold small at h; omega
theorem ansVal_small {p : Pg} {m : Mc} {l : List St} (h : Inv p m l) {i : Nat} {t : Th} {x : Stp} {r w : As} (hi : m.ths[i]? = some t) (hx : m.nx[i]? = some x) (hw : m.ws[i]? = some (r, w)) {c : Int × Int} {e : Ev} (hc : c ∈ m.cells) : small m.evs.length (ansVal w c e) := by
  have T := h.th i t x r w hi hx hw
  unfold ansVal
  split
  · unfold small; omega
  · cases hl : alk e.obj w with
    | none => simpa using h.cv c hc
    | some v => simpa using T.sw _ (alk_mem hl)
theorem step_ans {w : World} {p : Pg} {L : Lay} {m : Mc} {nv : List Value} {wv : List (Value × Value)} {l : List St} (hp : PgOk p) (hI : Inv p m l) (h : MachAt w p L m nv wv) {i : Nat} {t : Th} {e : Ev} {txs : List (List Ac)} {acts : List Ac} {a : Ac} {q c : _} (hi : m.ths[i]? = some t) (ht : p.ths[i]? = some txs) (hac : txs[t.tx]? = some acts) (ha : acts[t.act]? = some a) (hq : m.ws[i]? = some q) (hc : m.cells[e.obj.toNat]? = some c) (hx : m.nx[i]? = some (.ans e)) :
    Calls Tryz.prog 17 #[.pointer (some ⟨L.bm, 0, none⟩), .int .i64 i] w fun r w' => r = .returned (.bool true) ∧ Stepped w w' p L (m.put i (retT t a (ansVal q.2 c e)) (retE i t a (ansVal q.2 c e)) .nil (ansW q.1 q.2 c e)) := by
  have hil := (List.getElem?_eq_some_iff.1 ht).1
  have hn := (List.getElem?_eq_some_iff.1 hac).1
  have hal := (List.getElem?_eq_some_iff.1 ha).1
  have T := hI.th i t _ q.1 q.2 hi hx hq
  obtain ⟨hwt, hb, txs1, acts1, a1, b1, b2, b3, h4, hea⟩ := T.nx
  rw [ht] at b1; cases b1
  rw [hac] at b2; cases b2
  rw [ha] at b3; cases b3
  have hfew := hI.sim.few hp
  have h3 := hp.tx i txs ht
  have hi4 : i < 4 := by have := hp.t4; omega
  have ha6 := hp.ac i t.tx txs acts ht hac
  obtain ⟨q1, q2, q3⟩ := actOk_cases (hp.a i t.tx t.act txs acts a ht hac ha) h4
  have hobj : e.obj = a.c := by rw [hea]; exact (askE_parts i t a).2.2.1
  have hval := ansVal_small hI hi hx hq (e := e) (List.mem_of_getElem? hc)
  obtain ⟨v, hv, hcell⟩ := nv_cell h hil
  obtain ⟨b1, b2, b3, rfl, _, _, _, c1, c2, c3⟩ := h.st i (.ans e) v hx hv
  obtain ⟨r1, r2, hwv, a1, a2, k1, k2, B1, B2⟩ := h.two hi hb hq
  refine step_end h (nv' := nv) (wv' := wv) (m' := { m with ws := m.ws.set i (ansW q.1 q.2 c e), ths := m.ths.set i (retT t a (ansVal q.2 c e)), evs := m.evs ++ [retE i t a (ansVal q.2 c e)] }) ⟨i, t, txs, rfl, hi, ht, hn⟩ hil hcell cf_ans (fun W hW => ?_)
  refine ansLate (hW.cellAt c1 (by simp)).1 (hW.cellAt c2 (by simp)).1 (e := e) (fun j hj => ?_) ?_
  · have h60 : w.cell? ⟨b3, 0, none⟩ = some (.int .i64 e.kind) := c3 0 (by decide)
    have hl := World.block_lt_of_cell? w _ h60
    rw [hW.cell hl (by simp)]
    exact c3 j hj
  · have hM := h.kp0 hW
    obtain ⟨g2, k2', hg2, hl2, d1, d2⟩ := hM.wcell hwv
    obtain ⟨g1, k1', hg1, hl1, d3, d4⟩ := hM.ccell hc
    have hm1 := hM.m1
    have hm2 := hM.m2
    rw [hg1] at hm1
    rw [hg2] at hm2
    have hne : r1 ≠ r2 := fun he => by rw [he, k2] at k1; omega
    have hkc := (List.getElem?_eq_some_iff.1 hc).1
    refine answer_walk hM.m0 hm1 hm2 (i := i) (k := e.obj.toNat) (e := e) (q := q) (c := c) (R := fun w' => Gone w w' p L { m with ws := m.ws.set i (ansW q.1 q.2 c e), ths := m.ths.set i (retT t a (ansVal q.2 c e)), evs := m.evs ++ [retE i t a (ansVal q.2 c e)] } nv wv) (List.getElem?_eq_some_iff.1 hq).1 (by omega) (by omega) (by rw [Nat.mul_comm]; exact d1) (by rw [Nat.mul_comm]; exact d2) (by rw [Nat.mul_comm]; exact d3) (by rw [Nat.mul_comm]; exact d4) hne (a1.kp hW (by simp)) (a2.kp hW (by simp)) (fun W' ⟨S, hk', hS⟩ e1 e2 => ?_)
    have hM' := hM.maps (q' := ansW q.1 q.2 c e) hwv hk' (fun x hx hl => by
      rcases hS x hx with rfl | rfl
      · rw [k1]; simp
      · rw [k2]; simp) (.inr ⟨r1, rfl, k1, e1⟩) (.inr ⟨r2, rfl, k2, e2⟩)
    refine thAnswer hM'.t2 ?_
    refine (answer_ret hM'.wk hi ht hac ha hi4 (by omega) hwt q2 (ansVal q.2 c e) (fun _ => ⟨(hv_small hfew hval q3).1, fun _ => (hv_small hfew hval q3).2⟩) (by omega) (by show m.evs.length < _; omega) hM'.sz).mono ?_
    rintro r w' ⟨rfl, hq', hk⟩
    have hsum : Kp S w W' := (hW.mono (T := S) (fun x hx _ => by simp at hx)).trans hk' (fun x hx _ => hx)
    have hbg := bg_set (m := m) (t' := retT t a (ansVal q.2 c e)) hi (.inl hb) h.bg
    exact ⟨⟨_, rfl⟩, (hM'.gone (Kp.refl [] W') hq' hk hbg).behind hsum (fun x hx => by
      rcases hS x hx with rfl | rfl
      · exact ⟨B1, fun _ => by rw [k1]; omega⟩
      · exact ⟨B2, fun _ => by rw [k2]; omega⟩)⟩
end Go.Proofs.YtbogjkggfdhckaaGreatDoor

/-
  late in memory: look.
-/
namespace Go.Proofs.YtbogjkggfdhckaaGreatDoor
open Go.RowKit Go.Um

/-! ### What a loop over a map has done -/
def cut (k : Int) (l : As) : As := l.filter (fun y => !decide (y.1 = k))
theorem alk_cut (k a : Int) : ∀ l : As, alk k (cut a l) = if k = a then none else alk k l
  | [] => by simp [cut, alk]
  | x :: l => by
    have ih := alk_cut k a l
    unfold cut at ih ⊢
    by_cases hx : x.1 = a
    · simp only [List.filter_cons, hx, decide_true, Bool.not_true, Bool.false_eq_true, if_false, ih, alk]
      by_cases hk : k = a <;> simp [hk]
    · simp only [List.filter_cons, hx, decide_false, Bool.not_false, if_true, alk, ih]
      by_cases hk : k = a
      · have : ¬ k = x.1 := fun h => hx (by rw [← h, hk])
        simp [hk, Ne.symm (show x.1 ≠ a from hx)]
      · simp [hk]
theorem alk_of_mem : ∀ {l : As} {x : Int × Int}, (l.map Prod.fst).Nodup → x ∈ l → alk x.1 l = some x.2
  | [], x, _, h => by simp at h
  | y :: l, x, hn, h => by
    simp only [List.map_cons, List.nodup_cons] at hn
    rcases List.mem_cons.1 h with rfl | h
    · simp [alk]
    · have : ¬ x.1 = y.1 := fun e => hn.1 (List.mem_map.2 ⟨x, h, e⟩)
      simp [alk, this, alk_of_mem hn.2 h]
theorem cut_nodup {k : Int} {l : As} (h : (l.map Prod.fst).Nodup) : ((cut k l).map Prod.fst).Nodup := (List.filter_sublist.map _).nodup h
theorem cut_sub {k : Int} {l : As} {x : Int × Int} (h : x ∈ cut k l) : x ∈ l := (List.mem_filter.1 h).1
theorem cut_len {l : As} {x : Int × Int} (h : x ∈ l) : (cut x.1 l).length < l.length := by
  unfold cut
  have := List.length_filter_lt_length_iff_exists (p := fun y : Int × Int => !decide (y.1 = x.1)) (l := l)
  exact this.2 ⟨x, h, by simp⟩
def okAt (cells : List (Int × Int)) (x : Int × Int) : Bool := match cells[x.1.toNat]? with | some c => c.2 == x.2 | none => true
theorem fresh_eq (r : As) (cells : List (Int × Int)) : fresh r cells = r.all (okAt cells) := rfl
theorem fresh_cut {todo : As} {cells : List (Int × Int)} {x : Int × Int} (hn : (todo.map Prod.fst).Nodup) (hx : x ∈ todo) (hok : okAt cells x = true) : fresh todo cells = fresh (cut x.1 todo) cells := by
  rw [fresh_eq, fresh_eq, Bool.eq_iff_iff, List.all_eq_true, List.all_eq_true]
  constructor
  · exact fun h y hy => h y (cut_sub hy)
  · intro h y hy
    by_cases he : y.1 = x.1
    · have h1 := alk_of_mem hn hy
      have h2 := alk_of_mem hn hx
      rw [he, h2] at h1
      have : y = x := by
        cases y; cases x; simp at he h1; simp [he, h1]
      rw [this]; exact hok
    · exact h y (List.mem_filter.2 ⟨hy, by simpa using he⟩)
theorem fresh_no {todo : As} {cells : List (Int × Int)} {x : Int × Int} (hx : x ∈ todo) (hok : okAt cells x = false) : fresh todo cells = false := by
  rw [fresh_eq, List.all_eq_false]
  exact ⟨x, hx, by simp [hok]⟩
/-- The cells while a loop writes: those still to come are as they were. -/
def part (w todo : As) (cells : List (Int × Int)) : List (Int × Int) := cells.mapIdx (fun k c => if (alk k todo).isSome then c else match alk k w with | some v => (v, c.2 + 1) | none => c)
theorem part_all (w : As) (cells : List (Int × Int)) : part w w cells = cells := by
  apply List.ext_getElem?
  intro k
  simp only [part, List.getElem?_mapIdx]
  cases hc : cells[k]? with
  | none => rfl
  | some c =>
    simp only [Option.map_some]
    cases h : alk (k : Int) w <;> simp
theorem part_nil (w : As) (cells : List (Int × Int)) : part w [] cells = wrote w cells := by
  unfold part wrote
  apply congrArg (fun f => List.mapIdx f cells)
  funext k c
  simp only [alk, Option.isSome_none, Bool.false_eq_true, if_false]
  cases alk (k : Int) w <;> rfl
theorem part_at {w todo : As} {cells : List (Int × Int)} {k : Nat} {c : Int × Int} (hc : cells[k]? = some c) {v : Int} (ht : alk k todo = some v) : (part w todo cells)[k]? = some c := by
  simp [part, List.getElem?_mapIdx, hc, ht]
theorem part_set {w todo : As} {cells : List (Int × Int)} {k : Nat} {c : Int × Int} {v : Int} (hc : cells[k]? = some c) (ht : alk k todo = some v) (hw : alk k w = some v) : part w (cut k todo) cells = (part w todo cells).set k (v, c.2 + 1) := by
  have hl := (List.getElem?_eq_some_iff.1 hc).1
  apply List.ext_getElem?
  intro j
  by_cases hj : j = k
  · subst hj
    rw [List.getElem?_set_self (by simpa [part] using hl)]
    simp [part, List.getElem?_mapIdx, hc, alk_cut, hw]
  · rw [List.getElem?_set_ne (Ne.symm hj)]
    have : ¬ (j : Int) = k := by omega
    simp [part, List.getElem?_mapIdx, alk_cut, this]
theorem part_len (w todo : As) (cells : List (Int × Int)) : (part w todo cells).length = cells.length := by simp [part]
theorem flatC_set (l : List (Int × Int)) (i : Nat) (x : Int × Int) : flatC (l.set i x) = ((flatC l).set (i * 2) (.int .i64 x.1)).set (i * 2 + 1) (.int .i64 x.2) := by
  have := flat2_set (fun c : Int × Int => Value.int .i64 c.1) (fun c : Int × Int => Value.int .i64 c.2) l i x
  rw [Nat.mul_comm] at this
  exact this
theorem flatC_at {l : List (Int × Int)} {i : Nat} {x : Int × Int} (h : l[i]? = some x) : (flatC l)[i * 2]? = some (.int .i64 x.1) ∧ (flatC l)[i * 2 + 1]? = some (.int .i64 x.2) := by
  have := flat2 (fun c : Int × Int => Value.int .i64 c.1) (fun c : Int × Int => Value.int .i64 c.2) l i x h
  rw [Nat.mul_comm] at this
  exact this
theorem flatC_len (l : List (Int × Int)) : (flatC l).length = l.length * 2 := by
  induction l with
  | nil => rfl
  | cons a l ih => simp [flatC] at ih ⊢; omega

set_option maxRecDepth 100000 in
set_option maxHeartbeats 4000000 in
theorem look_walk {w : World} {bm g1 k1 g2 k2 n2 r1 r2 i B : Nat} {q : As × As} {cells : List (Int × Int)} {R : World → Prop} (m1 : w.cell? ⟨bm, 1, none⟩ = some (.slice (some ⟨g1, 0, none⟩) cells.length k1)) (m2 : w.cell? ⟨bm, 2, none⟩ = some (.slice (some ⟨g2, 0, none⟩) n2 k2))
    (hi : i < n2) (v1 : w.cell? ⟨g2, i * 2, none⟩ = some (.map (some r1))) (v2 : w.cell? ⟨g2, i * 2 + 1, none⟩ = some (.map (some r2))) (hrow : w.ownsRow B tCell 2 (.slice (some ⟨g1, 0, none⟩) cells.length k1) cells.length (flatC cells)) (hne : r2 ≠ g1) (hng : bm ≠ g1) (hr1 : AsAt w r1 q.1) (hr2 : AsAt w r2 q.2)
    (hK1 : KeysIn cells.length q.1) (hK2 : KeysIn cells.length q.2) (hver : ∀ c ∈ cells, 0 ≤ c.2 ∧ c.2 ≤ 1000000)
    (hA : ∀ W, Kp [] w W → Calls Tryz.prog 71 #[.pointer (some ⟨bm, 0, none⟩), .int .i64 i, .bool true] W fun r w' => r = .returned .nilFunc ∧ R w') :
    Calls Tryz.prog 73 #[.pointer (some ⟨bm, 0, none⟩), .int .i64 i] w fun r w' => (fresh q.1 cells = false ∧ r = .returned .nilFunc ∧ R w') ∨ (fresh q.1 cells = true ∧ (∃ b1 b2, r = .returned (.func (.func 106) #[] #[.pointer (some ⟨b1, 0, none⟩), .pointer (some ⟨b2, 0, none⟩)]) ∧ w'.cell? ⟨b1, 0, none⟩ = some (.pointer (some ⟨bm, 0, none⟩)) ∧ w'.cell? ⟨b2, 0, none⟩ = some (.int .i64 i) ∧ w.heap.size ≤ b1 ∧ w.heap.size ≤ b2) ∧ Kp [g1] w w' ∧ w'.ownsRow B tCell 2 (.slice (some ⟨g1, 0, none⟩) cells.length k1) cells.length (flatC (wrote q.2 cells))) := by
  have l1 := World.block_lt_of_cell? w _ m1
  have l2 := World.block_lt_of_cell? w _ v1
  have l3 : g1 < w.heap.size := (hrow.lt g1 rfl).2
  dsimp only at l1 l2
  have HR1 := Lib.hid hr1
  have HR2 := Lib.hid hr2
  have HA := Lib.hid hA
  have HROW := Lib.hid hrow
  have HK1 := Lib.hid hK1
  have HK2 := Lib.hid hK2
  have HV := Lib.hid hver
  have i0 : (0 : Int) ≤ i := by omega
  have i1 : (i : Int) < n2 := by omega
  clear hr1 hr2 hA hrow hK1 hK2 hver
  go_enter Tryz.func73, Tryz.ntmps73
  go_upto_region 1 with fail
  refine wp_gen fun W hW => ?_
  obtain ⟨b2, hb2⟩ : ∃ x, x = w.heap.size := ⟨_, rfl⟩
  obtain ⟨b3, hb3⟩ : ∃ x, x = w.heap.size + 1 := ⟨_, rfl⟩
  have hkW : Kp [] w W := by rw [hW]; exact ((Kp.refl _ _).alloc _).alloc _
  have e2 : W.cell? ⟨b2, 0, none⟩ = some (.pointer (some ⟨bm, 0, none⟩)) := by rw [hW, hb2]; simp [go_sem]
  have e3 : W.cell? ⟨b3, 0, none⟩ = some (.int .i64 i) := by rw [hW, hb3]; simp [go_sem]
  rw [← hb3, ← hb2]
  have m1' := m1
  replace m1 := (hkW.cellAt m1 (by simp)).1
  replace m2 := (hkW.cellAt m2 (by simp)).1
  replace v1 := (hkW.cellAt v1 (by simp)).1
  replace v2 := (hkW.cellAt v2 (by simp)).1
  replace l2 := (hkW.blk g2 l2 (by simp)).1
  have l1' := (hkW.blk bm l1 (by simp)).1
  have l4 := World.block_lt_of_cell? W _ e2
  have l5 := World.block_lt_of_cell? W _ e3
  dsimp only at l4 l5
  have HKW := Lib.hid hkW
  have HB2 := Lib.hid (show w.heap.size ≤ b2 ∧ w.heap.size ≤ b3 from ⟨by omega, by omega⟩)
  clear hW hkW hb2 hb3
  go_cut [5] (fun s5 wx => ∃ b5, s5 = .pointer (some ⟨b5, 0, none⟩) ∧ Kp [] W wx ∧ wx.cell? ⟨b5, 0, none⟩ = some (.map (some r1)) ∧ wx.cell? ⟨b5, 1, none⟩ = some (.map (some r2)))
  case first =>
    go_region
    all_goals go_wp2_with fail
    all_goals go_meet
    all_goals exact ⟨_, rfl, by repeat (first | (with_reducible exact Kp.refl _ _) | refine Kp.setCell ?_ _ _ (fun h => absurd h (by simp)) | refine Kp.alloc ?_ _ | refine Kp.drew ?_), by simp [go_sem], by simp [go_sem]⟩
  case rest =>
  obtain ⟨b5, rfl, hkc, d1, d2⟩ := hcut
  replace e2 := (hkc.cellAt e2 (by simp)).1
  replace e3 := (hkc.cellAt e3 (by simp)).1
  replace l4 := (hkc.blk b2 l4 (by simp)).1
  replace l5 := (hkc.blk b3 l5 (by simp)).1
  have l6 := World.block_lt_of_cell? wc _ d1
  dsimp only at l6
  have HKC := Lib.hid (HKW.out.trans hkc (by simp))
  clear m1 m2 v1 v2 l2 l1' hkc HKW
  obtain ⟨w3, hrg1, hR, hk3, hs3⟩ := (HR1.out.kp HKC.out (by simp)).range
  obtain ⟨it, hit⟩ : ∃ x, x = wc.heap.size := ⟨_, rfl⟩
  rw [← hit] at hrg1 hR
  have HIT := Lib.hid hit
  clear hit hs3
  have HR3 := Lib.hid hR
  have HK3 := Lib.hid hk3
  clear hR hk3
  go_wp2_with fail
  go_loopw [] (fun wr => ∃ todo : As, RngAt wr it r1 q.1 todo ∧ Kp [] wc wr ∧ (todo.map Prod.fst).Nodup ∧ (∀ x ∈ todo, x ∈ q.1) ∧ fresh q.1 cells = fresh todo cells) (fun wr => wr.rangeLeft r1 it)
  case atStart => exact ⟨q.1, HR3.out, HK3.out, HK1.out.1, fun x hx => hx, rfl⟩
  case round =>
    obtain ⟨todo, hR, hkr, hnd, hsub, hfr⟩ := hrel
    have f1 := (hkr.cellAt d1 (by simp)).1
    have f2 := (hkr.cellAt d2 (by simp)).1
    have f3 := (hkr.cellAt e2 (by simp)).1
    have f4 := (hkr.cellAt e3 (by simp)).1
    have p4 := (hkr.blk b2 l4 (by simp)).1
    have p5 := (hkr.blk b3 l5 (by simp)).1
    have p6 := (hkr.blk b5 l6 (by simp)).1
    have hleft := Lib.hid hR.left
    rcases hR.next 0 HK1.out.1 with ⟨rfl, hrun⟩ | ⟨⟨x1, x2⟩, hx, w5, hrun, hent, hR5, hk5⟩
    · have hnx : ∀ ty, (Instr.next (.pointer (some ⟨it, 0, none⟩)) false ty).run Tryz.prog wr = _ := fun _ => hrun
      have hfr : fresh q.1 cells = true := hfr
      have HFR := Lib.hid hfr
      have HKR := Lib.hid (HKC.out.trans hkr (by simp))
      obtain ⟨w6, hrg2, hR2, hk6, hs6⟩ := (HR2.out.kp HKR.out (by simp)).range
      obtain ⟨it2, hit2⟩ : ∃ x, x = wr.heap.size := ⟨_, rfl⟩
      rw [← hit2] at hrg2 hR2
      have HIT2 := Lib.hid hit2
      have HR6 := Lib.hid hR2
      have HIT3 := Lib.hid (show w.heap.size ≤ it2 ∧ b2 ≠ it2 ∧ b3 ≠ it2 ∧ bm ≠ it2 ∧ g1 ≠ it2 from by have := HKR.out.size; have := HIT2.out; omega)
      have hkq := HKR.out.trans hk6 (by simp)
      have h3 := (hk6.cellAt f3 (by simp)).1
      have h4 := (hk6.cellAt f4 (by simp)).1
      have o4 := (hk6.blk b2 p4 (by simp)).1
      have o5 := (hk6.blk b3 p5 (by simp)).1
      have b1 := (hkq.cellAt m1' (by simp)).1
      have pm := (hkq.blk bm l1 (by simp)).1
      have pg := (hkq.blk g1 l3 (by simp)).1
      have HROQ := Lib.hid (own_kp HROW.out hkq (by simp))
      have HKQ := Lib.hid hkq
      clear hit2 hs6 hR2 hk6 hkr hR hfr hnd hsub hrg1 hkq m1'
      rename World => wq
      go_wp2_with fail
      go_loopw [] (fun wr => ∃ todo : As, RngAt wr it2 r2 q.2 todo ∧ Kp [g1, it2] wq wr ∧ (todo.map Prod.fst).Nodup ∧ (∀ x ∈ todo, x ∈ q.2) ∧ wr.ownsRow B tCell 2 (.slice (some ⟨g1, 0, none⟩) cells.length k1) cells.length (flatC (part q.2 todo cells))) (fun wr => wr.rangeLeft r2 it2)
      case atStart => exact ⟨q.2, HR6.out, Kp.refl _ _, HK2.out.1, fun x hx => hx, by rw [part_all]; exact HROQ.out⟩
      case round =>
        obtain ⟨todo, hR, hkr, hnd, hsub, hrow⟩ := hrel
        have hleft := Lib.hid hR.left
        have hbg : bm ∉ [g1, it2] := by have := HIT3.out; simp; omega
        have hb2g : b2 ∉ [g1, it2] := by have := HB2.out; have := HIT3.out; simp; omega
        have hb3g : b3 ∉ [g1, it2] := by have := HB2.out; have := HIT3.out; simp; omega
        rcases hR.next 0 HK2.out.1 with ⟨rfl, hrun⟩ | ⟨⟨x1, x2⟩, hx, w5, hrun, hent, hR5, hk5⟩
        · have hnx : ∀ ty, (Instr.next (.pointer (some ⟨it2, 0, none⟩)) false ty).run Tryz.prog wr = _ := fun _ => hrun
          have HF3 := Lib.hid (hkr.cellAt h3 hb2g).1
          have HF4 := Lib.hid (hkr.cellAt h4 hb3g).1
          have HKF := Lib.hid (((HKQ.out.mono (T := [g1, it2]) (fun x hx _ => by simp at hx)).trans hkr (fun x hx _ => hx)).mono (T := [g1]) (fun x hx hl => by have := HIT3.out; simp at hx; simp; omega))
          rw [part_nil] at hrow
          have HRF := Lib.hid hrow
          clear hrow hR hkr hnd hsub h3 h4 b1 pm pg
          go_wp2_with fail
          go_ret
          exact .inr ⟨HFR.out, ⟨b2, b3, rfl, HF3.out, HF4.out, HB2.out.1, HB2.out.2⟩, HKF.out, HRF.out⟩
        · have hnx : ∀ ty, (Instr.next (.pointer (some ⟨it2, 0, none⟩)) false ty).run Tryz.prog wr = _ := fun _ => hrun
          obtain ⟨kx, hkx⟩ : ∃ n : Nat, x1 = (n : Int) := ⟨x1.toNat, by have := (HK2.out.2 _ (hsub _ hx)).1; omega⟩
          subst hkx
          have hkl : kx < cells.length := by have := (HK2.out.2 _ (hsub _ hx)).2; simpa using this
          obtain ⟨c, hc⟩ : ∃ c, cells[kx]? = some c := ⟨cells[kx], by simp [hkl]⟩
          have hgit : g1 ∉ [it2] := by have := HIT3.out; simp; omega
          have hrow5 := own_kp hrow hk5 (fun g hg => by simp [Value.ownBlock] at hg; subst hg; exact hgit)
          have hat := part_at (w := q.2) hc (alk_of_mem hnd hx)
          have HSET := Lib.hid (part_set hc (alk_of_mem hnd hx) (alk_of_mem HK2.out.1 (hsub _ hx)))
          have hk05 : Kp [g1, it2] wq w5 := hkr.trans (hk5.mono (T := [g1, it2]) (fun x hx _ => by simp at hx; simp [hx])) (fun x hx _ => hx)
          have c1 : w5.cell? ⟨g1, kx * 2, none⟩ = some (.int .i64 c.1) := by rw [hrow5.cellAt _ (by omega)]; exact (flatC_at hat).1
          have c2 : w5.cell? ⟨g1, kx * 2 + 1, none⟩ = some (.int .i64 c.2) := by rw [hrow5.cellAt _ (by omega)]; exact (flatC_at hat).2
          have z1 := hrow5.frozenAt
          have f1 := (hk05.cellAt b1 hbg).1
          replace f3 := (hk05.cellAt h3 hb2g).1
          replace f4 := (hk05.cellAt h4 hb3g).1
          replace p4 := (hk05.blk b2 o4 hb2g).1
          replace p5 := (hk05.blk b3 o5 hb3g).1
          replace pm := (hk05.blk bm pm hbg).1
          replace pg := (hrow5.lt g1 rfl).2
          have j0 : (0 : Int) ≤ kx := by omega
          have j1 : (kx : Int) < cells.length := by omega
          have hcv := Lib.hid (HV.out c (List.mem_of_getElem? hc))
          have HX := Lib.hid hx
          have HND := Lib.hid hnd
          have HSUB := Lib.hid hsub
          have HR5 := Lib.hid hR5
          have HK05 := Lib.hid hk05
          have HRO5 := Lib.hid hrow5
          have HLT := Lib.hid (show w5.rangeLeft r2 it2 < wr.rangeLeft r2 it2 by rw [hR5.left, hleft.out]; exact cut_len HX.out)
          have hb23 : b2 ≠ g1 ∧ b3 ≠ g1 ∧ bm ≠ g1 := by simp at hb2g hb3g hbg; omega
          obtain ⟨n1, n2', n3⟩ := hb23
          have n4 := n1.symm
          have n5 := n2'.symm
          have n6 := n3.symm
          clear hx hnd hsub hR5 hk05 hk5 hkr hR hrow hrow5 hkl hc hat h3 h4 b1 o4 o5 hgit
          go_wp2_with fail
          go_region
          all_goals go_wp2_with fail
          have hwr : wrap64 (c.2 + 1) = c.2 + 1 := by have := hcv.out; unfold wrap64; omega
          rw [hwr]
          have hst := (HRO5.out.stored (kx * 2) (.int .i64 x2)).1
          have hst2 := (hst.stored (kx * 2 + 1) (.int .i64 (c.2 + 1))).1
          have hks : Kp [g1] w5 ((w5.setCell ⟨g1, kx * 2, none⟩ (.int .i64 x2)).setCell ⟨g1, kx * 2 + 1, none⟩ (.int .i64 (c.2 + 1))).drew := (((Kp.refl _ _).setCell _ _ (fun _ => by simp)).setCell _ _ (fun _ => by simp)).drew
          have hrf := HR5.out.kp hks (by have := HIT3.out; simp; omega) (by simpa using hne)
          refine ⟨⟨_, hrf, HK05.out.trans hks (fun x hx _ => by simp at hx; simp [hx]), cut_nodup HND.out, fun x hx => HSUB.out x (cut_sub hx), ?_⟩, ?_⟩
          · have := HSET.out
            unfold cut at this
            rw [this, flatC_set]
            exact hst2
          · rw [hrf.left, hleft.out]
            exact cut_len HX.out
    · have hnx : ∀ ty, (Instr.next (.pointer (some ⟨it, 0, none⟩)) false ty).run Tryz.prog wr = _ := fun _ => hrun
      have hne5 : ∀ b, b < wc.heap.size → b ∉ [it] := fun b hb => by have := HIT.out; simp; omega
      have hk05 : Kp [] wc w5 := (hkr.mono (T := [it]) (fun x hx _ => by simp at hx)).trans hk5 (fun x hx _ => hx) |>.mono (fun x hx hl => absurd hx (hne5 x hl))
      obtain ⟨kx, hkx⟩ : ∃ n : Nat, x1 = (n : Int) := ⟨x1.toNat, by have := (HK1.out.2 _ (hsub _ hx)).1; omega⟩
      subst hkx
      have hkl : kx < cells.length := by have := (HK1.out.2 _ (hsub _ hx)).2; simpa using this
      obtain ⟨c, hc⟩ : ∃ c, cells[kx]? = some c := ⟨cells[kx], by simp [hkl]⟩
      have hrow5 := own_kp HROW.out (HKC.out.trans hk05 (by simp)) (by simp)
      have c2 : w5.cell? ⟨g1, kx * 2 + 1, none⟩ = some (.int .i64 c.2) := by rw [hrow5.cellAt _ (by omega)]; exact (flatC_at hc).2
      have a1 := ((HKC.out.trans hk05 (by simp)).cellAt m1' (by simp)).1
      replace f3 := (hk05.cellAt e2 (by simp)).1
      replace f4 := (hk05.cellAt e3 (by simp)).1
      replace p4 := (hk05.blk b2 l4 (by simp)).1
      replace p5 := (hk05.blk b3 l5 (by simp)).1
      have pg := (hrow5.lt g1 rfl).2
      have pm := ((HKC.out.trans hk05 (by simp)).blk bm l1 (by simp)).1
      have j0 : (0 : Int) ≤ kx := by omega
      have j1 : (kx : Int) < cells.length := by omega
      have HC := Lib.hid hc
      have HX := Lib.hid hx
      have HFR := Lib.hid hfr
      have HND := Lib.hid hnd
      have HSUB := Lib.hid hsub
      have HR5 := Lib.hid hR5
      have HK05 := Lib.hid hk05
      clear f1 f2 p6 hc hx hfr hnd hsub hR5 hk05 hk5 hkr hR hrow5 hkl hrg1 m1'
      by_cases hvr : c.2 = x2
      · have hvb : (c.2 == x2) = true := by simpa using hvr
        have HF := Lib.hid (fresh_cut HND.out HX.out (cells := cells) (by simp [okAt, HC.out, hvb]))
        have HVB := Lib.hid hvr
        subst hvr
        go_wp2_with fail
        go_roundw
        case rel => exact ⟨_, HR5.out, HK05.out, cut_nodup HND.out, fun x hx => HSUB.out x (cut_sub hx), HFR.out.trans HF.out⟩
        case measure =>
          rw [HR5.out.left, hleft.out]
          exact cut_len HX.out
      · have hvb : (c.2 == x2) = false := by simpa using hvr
        have HFF : fresh q.1 cells = false := by rw [HFR.out]; exact fresh_no HX.out (by simp [okAt, HC.out, hvb])
        have HF := Lib.hid HFF
        have hcall := HA.out w5 (HKC.out.trans HK05.out (by simp))
        have HCALL := Lib.hid hcall
        clear HFF hcall hvr
        go_wp2_with (go_at_call 71; refine (HCALL.out).mono ?_; rintro r w9 ⟨rfl, hr⟩; have HR := Lib.hid hr; clear hr)
        go_ret
        exact .inl ⟨HF.out, rfl, HR.out⟩
end Go.Proofs.YtbogjkggfdhckaaGreatDoor

/-
  late in memory: colours; the step that looks.
-/
namespace Go.Proofs.YtbogjkggfdhckaaGreatDoor
open Go.RowKit Go.Um

theorem MachAt.recolor {w : World} {p : Pg} {L : Lay} {m : Mc} {nv : List Value} {wv : List (Value × Value)} (h : MachAt w p L m nv wv) {ρ' : Nat → Nat} (hρ : ∀ x, x < w.heap.size → ρ' x = L.ρ x) : MachAt w p { L with ρ := ρ' } m nv wv := by
  have hC : Cl [] w L.ρ [] := fun x hx => by simp at hx
  have hlt := fun {b o : Nat} {v : Value} (hc : w.cell? ⟨b, o, none⟩ = some v) => World.block_lt_of_cell? w _ hc
  exact {
    wk := h.wk, t0 := h.t0, t1 := h.t1, t2 := h.t2, t3 := h.t3, t4 := h.t4, pg := h.pg
    q0 := fun x hx => ⟨(h.q0 x hx).1, by show ρ' x = 0; rw [hρ x (h.q0 x hx).1]; exact (h.q0 x hx).2⟩
    p0 := fun x hx => by show ρ' x = 0; rw [hρ x (h.wk.p0 x hx)]; exact h.p0 x hx
    nx := h.nx
    st := fun i x v hx hv => (h.st i x v hx hv).fr (Kp.refl [] w) hC (by simp) hρ
    m0 := h.m0, m1 := h.m1, m2 := h.m2, ce := h.ce, wo := h.wo, wl := h.wl
    wm := fun i q v hq hv => ⟨(h.wm i q v hq hv).1.fr (Kp.refl [] w) hC (by simp) hρ, (h.wm i q v hq hv).2.fr (Kp.refl [] w) hC (by simp) hρ⟩
    bg := h.bg
    k1 := by show ρ' _ = 1; rw [hρ _ h.wk.lt]; exact h.k1
    k2 := by show ρ' _ = 2; rw [hρ _ (h.wk.ow.lt _ rfl).2]; exact h.k2
    k3 := fun g hg => by show ρ' _ = 3; rw [hρ _ (h.wk.oe.lt g hg).2]; exact h.k3 g hg
    k4 := by show ρ' _ = 4; rw [hρ _ (h.nx.lt _ rfl).2]; exact h.k4
    k5 := fun g hg => by show ρ' _ = 5; rw [hρ _ (h.ce.lt g hg).2]; exact h.k5 g hg
    k6 := fun g hg => by show ρ' _ = 6; rw [hρ _ (h.wo.lt g hg).2]; exact h.k6 g hg
    kt := by show ρ' _ = 0; rw [hρ _ (hlt h.t0)]; exact h.kt
    km := by show ρ' _ = 0; rw [hρ _ (hlt h.m0)]; exact h.km
    mb := h.mb
    base := h.base }
/-- Blocks of a colour of their own change. -/
theorem MachAt.kp7 {S : List Nat} {w w' : World} {p : Pg} {L : Lay} {m : Mc} {nv : List Value} {wv : List (Value × Value)} (h : MachAt w p L m nv wv) (hk : Kp S w w') (hC : Cl S w L.ρ [7]) : MachAt w' p L m nv wv := by
  have ro : ∀ {b o : Nat} {v' : Value}, L.ρ b = 0 → w.cell? ⟨b, o, none⟩ = some v' → w'.cell? ⟨b, o, none⟩ = some v' := fun hb hc => cell_ro hk hC (by simp) hb hc
  have hown : ∀ {e sz n : Nat} {u : Value} {xs : List Value}, w.ownsRow L.B e sz u n xs → (∀ g, u.ownBlock = some g → L.ρ g ≠ 7) → w'.ownsRow L.B e sz u n xs := fun ho hc => own_kp ho hk (fun g hg => hC.out (ho.lt g hg).2 (by have := hc g hg; simp; omega))
  have hne : ∀ b, b < w.heap.size → L.ρ b ≠ 7 → b ∉ S := fun b hb h4 => hC.out hb (by simp; omega)
  exact {
    wk := h.wk.kp hk (hne _ h.wk.lt (by rw [h.k1]; decide)) (hne _ (h.wk.ow.lt _ rfl).2 (by rw [h.k2]; decide)) (fun g hg => hne _ (h.wk.oe.lt g hg).2 (by rw [h.k3 g hg]; decide)) (fun y hy hP => hne y (h.wk.p0 y hP) (by rw [h.p0 _ hP]; decide) hy)
    t0 := ro h.kt h.t0, t1 := ro h.kt h.t1, t2 := ro h.kt h.t2, t3 := ro h.kt h.t3, t4 := ro h.kt h.t4
    pg := h.pg.kp hk (fun y hy hq => hne y (h.q0 y hq).1 (by rw [(h.q0 y hq).2]; decide) hy)
    q0 := fun y hy => ⟨Nat.lt_of_lt_of_le (h.q0 y hy).1 hk.size, (h.q0 y hy).2⟩
    p0 := h.p0
    nx := hown h.nx (fun g hg => by simp [Value.ownBlock] at hg; subst hg; rw [h.k4]; decide)
    st := fun j y u hy hu => (h.st j y u hy hu).fr hk hC (by simp) (fun _ _ => rfl)
    m0 := ro h.km h.m0, m1 := ro h.km h.m1, m2 := ro h.km h.m2
    ce := hown h.ce (fun g hg => by rw [h.k5 g hg]; decide)
    wo := hown h.wo (fun g hg => by rw [h.k6 g hg]; decide)
    wl := h.wl
    wm := fun j q u hq hu => ⟨(h.wm j q u hq hu).1.fr hk hC (by simp; omega) (fun _ _ => rfl), (h.wm j q u hq hu).2.fr hk hC (by simp; omega) (fun _ _ => rfl)⟩
    bg := h.bg, k1 := h.k1, k2 := h.k2, k3 := h.k3, k4 := h.k4, k5 := h.k5, k6 := h.k6, kt := h.kt, km := h.km, mb := h.mb, base := h.base }
/-- The cells change. -/
theorem MachAt.cellsAt {w w' : World} {p : Pg} {L : Lay} {m : Mc} {nv : List Value} {wv : List (Value × Value)} (h : MachAt w p L m nv wv) {S : List Nat} (hk : Kp S w w') (hC : Cl S w L.ρ [5]) {cells' : List (Int × Int)} (hl : cells'.length = m.cells.length) (hce : w'.ownsRow L.B tCell 2 L.vce m.cells.length (flatC cells')) : MachAt w' p L { m with cells := cells' } nv wv := by
  have ro : ∀ {b o : Nat} {v' : Value}, L.ρ b = 0 → w.cell? ⟨b, o, none⟩ = some v' → w'.cell? ⟨b, o, none⟩ = some v' := fun hb hc => cell_ro hk hC (by simp) hb hc
  have hown : ∀ {e sz n : Nat} {u : Value} {xs : List Value}, w.ownsRow L.B e sz u n xs → (∀ g, u.ownBlock = some g → L.ρ g ≠ 5) → w'.ownsRow L.B e sz u n xs := fun ho hc => own_kp ho hk (fun g hg => hC.out (ho.lt g hg).2 (by have := hc g hg; simp; omega))
  have hne : ∀ b, b < w.heap.size → L.ρ b ≠ 5 → b ∉ S := fun b hb h4 => hC.out hb (by simp; omega)
  exact {
    wk := h.wk.kp hk (hne _ h.wk.lt (by rw [h.k1]; decide)) (hne _ (h.wk.ow.lt _ rfl).2 (by rw [h.k2]; decide)) (fun g hg => hne _ (h.wk.oe.lt g hg).2 (by rw [h.k3 g hg]; decide)) (fun y hy hP => hne y (h.wk.p0 y hP) (by rw [h.p0 _ hP]; decide) hy)
    t0 := ro h.kt h.t0, t1 := ro h.kt h.t1, t2 := ro h.kt h.t2, t3 := ro h.kt h.t3, t4 := ro h.kt h.t4
    pg := h.pg.kp hk (fun y hy hq => hne y (h.q0 y hq).1 (by rw [(h.q0 y hq).2]; decide) hy)
    q0 := fun y hy => ⟨Nat.lt_of_lt_of_le (h.q0 y hy).1 hk.size, (h.q0 y hy).2⟩
    p0 := h.p0
    nx := hown h.nx (fun g hg => by simp [Value.ownBlock] at hg; subst hg; rw [h.k4]; decide)
    st := fun j y u hy hu => (h.st j y u hy hu).fr hk hC (by simp) (fun _ _ => rfl)
    m0 := ro h.km h.m0, m1 := ro h.km h.m1, m2 := ro h.km h.m2
    ce := by rw [hl]; exact hce
    wo := hown h.wo (fun g hg => by rw [h.k6 g hg]; decide)
    wl := h.wl
    wm := fun j q u hq hu => ⟨(h.wm j q u hq hu).1.fr hk hC (by simp; omega) (fun _ _ => rfl), (h.wm j q u hq hu).2.fr hk hC (by simp; omega) (fun _ _ => rfl)⟩
    bg := h.bg, k1 := h.k1, k2 := h.k2, k3 := h.k3, k4 := h.k4, k5 := h.k5, k6 := h.k6, kt := h.kt, km := h.km, mb := h.mb, base := h.base }
/-- The machine behind a step, with what the thread is to do next. -/
def GoneS (w w' : World) (p : Pg) (L : Lay) (m' : Mc) (i : Nat) (x : Stp) (v : Value) : Prop :=
  (∃ L' nv wv, MachAt w' p L' m' nv wv ∧ StpAt w' L'.ρ L'.bm i x v ∧ L'.bm = L.bm ∧ L'.bt = L.bt ∧ L'.B = L.B ∧ L'.gn = L.gn ∧ L'.cn = L.cn ∧ ∀ x, x < w.heap.size → L'.ρ x = L.ρ x) ∧ ∃ S, Kp S w w' ∧ ∀ x ∈ S, Mine L w x
theorem GoneS.put {w w1 : World} {p : Pg} {L : Lay} {m' : Mc} {i : Nat} {x : Stp} {v : Value} (h : GoneS w w1 p L m' i x v) (hi : i < p.ths.length) : Put w1 L.bt L.gn p.ths.length L.cn i := by
  obtain ⟨⟨L', nv, wv, hM, _, e1, e2, e3, e4, e5, _⟩, _⟩ := h
  have := hM.put hi
  rw [e2, e4, e5] at this
  exact this
theorem GoneS.stepped {w w1 : World} {p : Pg} {L : Lay} {m' : Mc} {i : Nat} {x : Stp} {v : Value} (h : GoneS w w1 p L m' i x v) (hgn : Mine L w L.gn) : Stepped w (w1.setCell ⟨L.gn, i, none⟩ v) p L { m' with nx := m'.nx.set i x } := by
  obtain ⟨⟨L', nv, wv, hM, hx, e1, e2, e3, e4, e5, e6⟩, S, hk, hS⟩ := h
  have := hM.next hx
  rw [e4] at this
  refine ⟨⟨_, _, _, this, e1, e2, e3, e6⟩, L.gn :: S, ?_, fun x hx => ?_⟩
  · exact (hk.mono (T := L.gn :: S) (fun x hx _ => by simp [hx])).setCell _ _ (fun _ => by simp)
  · simp at hx
    rcases hx with rfl | hx
    · exact hgn
    · exact hS x hx
theorem Gone.toS {w w1 : World} {p : Pg} {L : Lay} {m' : Mc} {nv : List Value} {wv : List (Value × Value)} (h : Gone w w1 p L m' nv wv) (i : Nat) : GoneS w w1 p L m' i .nil .nilFunc := by
  obtain ⟨⟨ve', ρ', hρ, hM⟩, hS⟩ := h
  exact ⟨⟨_, _, _, hM, rfl, rfl, rfl, rfl, rfl, rfl, hρ⟩, hS⟩
theorem GoneS.behind {w w2 w' : World} {p : Pg} {L : Lay} {m' : Mc} {i : Nat} {x : Stp} {v : Value} {S : List Nat} (h : GoneS w2 w' p L m' i x v) (hk : Kp S w w2) (hS : ∀ x ∈ S, Mine L w x) : GoneS w w' p L m' i x v := by
  obtain ⟨⟨L', nv, wv, g1, g2, g3, g4, g5, g6, g7, g8⟩, T, h3, h4⟩ := h
  refine ⟨⟨L', nv, wv, g1, g2, g3, g4, g5, g6, g7, fun x hx => g8 x (Nat.lt_of_lt_of_le hx hk.size)⟩, S ++ T, ?_, fun x hx => ?_⟩
  · exact (hk.mono (T := S ++ T) (fun x hx _ => by simp [hx])).trans h3 (fun x hx _ => by simp [hx])
  · rcases List.mem_append.1 hx with hx | hx
    · exact hS x hx
    · exact ⟨(h4 x hx).1, fun hl => (h4 x hx).2 (Nat.lt_of_lt_of_le hl hk.size)⟩
/-- A closure over two new boxes. -/
theorem stp_new {w : World} {L : Lay} {p : Pg} {m : Mc} {nv : List Value} {wv : List (Value × Value)} (h : MachAt w p L m nv wv) {w' : World} (hk : Kp [] w w') (i : Nat) (x : Stp) (v : Value) (hx : StpAt w' (fun y => if y < w.heap.size then L.ρ y else 0) L.bm i x v) : GoneS w w' p L m i x v :=
  ⟨⟨{ L with ρ := fun y => if y < w.heap.size then L.ρ y else 0 }, nv, wv, (h.recolor (ρ' := fun y => if y < w.heap.size then L.ρ y else 0) (fun x hx => by simp [hx])).kp0 hk, hx, rfl, rfl, rfl, rfl, rfl, fun x hx => by show (if _ then _ else _) = _; rw [if_pos hx]⟩, [], hk, by simp⟩
theorem wrote_len (w : As) (cells : List (Int × Int)) : (wrote w cells).length = cells.length := by simp [wrote]
/-- look in memory. -/
theorem look_mach {w : World} {p : Pg} {L : Lay} {m : Mc} {nv : List Value} {wv : List (Value × Value)} {l : List St} (hp : PgOk p) (hI : Inv p m l) (h : MachAt w p L m nv wv) {i : Nat} {t : Th} {txs : List (List Ac)} {q : As × As} (hi : m.ths[i]? = some t) (ht : p.ths[i]? = some txs) (hn : t.tx < txs.length) (hq : m.ws[i]? = some q) (hx : m.nx[i]? = some .look) (hver : ∀ c ∈ m.cells, 0 ≤ c.2 ∧ c.2 ≤ 1000000) (W : World) (hW : Kp [] w W) :
    Calls Tryz.prog 73 #[.pointer (some ⟨L.bm, 0, none⟩), .int .i64 i] W fun r w' => (fresh q.1 m.cells = false ∧ r = .returned .nilFunc ∧ Gone w w' p L { m with ths := m.ths.set i (newT t), evs := m.evs ++ [endE i t 6] } nv wv) ∨ (fresh q.1 m.cells = true ∧ ∃ b1 b2, r = .returned (.func (.func 106) #[] #[.pointer (some ⟨b1, 0, none⟩), .pointer (some ⟨b2, 0, none⟩)]) ∧ GoneS w w' p L { m with cells := wrote q.2 m.cells } i .commit (.func (.func 106) #[] #[.pointer (some ⟨b1, 0, none⟩), .pointer (some ⟨b2, 0, none⟩)])) := by
  have T := hI.th i t _ q.1 q.2 hi hx hq
  obtain ⟨hw4, hb⟩ := T.nx
  have hM := h.kp0 hW
  obtain ⟨r1, r2, hwv, a1, a2, k1, k2, B1, B2⟩ := hM.two hi hb hq
  obtain ⟨g2, k2', hg2, hl2, d1, d2⟩ := hM.wcell hwv
  have hm1 := hM.m1
  have hm2 := hM.m2
  have hc1 := hp.c1
  have hcl := hI.cl
  obtain ⟨g1, k1', hg1, _, hl1⟩ := own_shape hM.ce (by omega)
  have hce := hM.ce
  rw [hg1] at hm1 hce
  rw [hg2] at hm2
  have k5 := hM.k5 g1 (by rw [hg1]; rfl)
  have hK1 := T.kr
  have hK2 := T.kw
  rw [← hcl] at hK1 hK2
  refine (look_walk hm1 hm2 (i := i) (q := q) (List.getElem?_eq_some_iff.1 hq).1 (by rw [Nat.mul_comm]; exact d1) (by rw [Nat.mul_comm]; exact d2) hce (fun he => by rw [he, k5] at k2; omega) (fun he => by have := hM.km; rw [he, k5] at this; omega) a1 a2 hK1 hK2 hver (R := fun w' => Gone w w' p L { m with ths := m.ths.set i (newT t), evs := m.evs ++ [endE i t 6] } nv wv) (fun W' hW' => (end_mach hp hI h hi ht hn h.sz W' (hW.trans hW' (by simp))).1 (by rw [hw4]; decide))).mono ?_
  rintro r w' (⟨hf, rfl, hg⟩ | ⟨hf, ⟨b1, b2, rfl, c1, c2, s1, s2⟩, hk, hrow⟩)
  · exact .inl ⟨hf, rfl, hg⟩
  · refine .inr ⟨hf, b1, b2, rfl, ?_⟩
    have hC : Cl [g1] W L.ρ [5] := fun x hx _ => by simp at hx; subst hx; rw [k5]; simp
    have hR := hM.recolor (ρ' := fun y => if y < W.heap.size then L.ρ y else 0) (fun x hx => by simp [hx])
    have hC' : Cl [g1] W (fun y => if y < W.heap.size then L.ρ y else 0) [5] := fun x hx hl => by simp [hl]; exact by simpa using hC x hx hl
    have hN := hR.cellsAt hk hC' (wrote_len q.2 m.cells) (by rw [show ({ L with ρ := fun y => if y < W.heap.size then L.ρ y else 0 } : Lay).vce = L.vce from rfl, hg1]; exact hrow)
    refine GoneS.behind (w2 := W) (S := []) ⟨⟨_, _, _, hN, ⟨b1, b2, rfl, ?_, ?_, c1, c2⟩, rfl, rfl, rfl, rfl, rfl, fun x hx => by show (if _ then _ else _) = _; rw [if_pos hx]⟩, [g1], hk, fun x hx => ?_⟩ hW (by simp)
    · show (if b1 < W.heap.size then L.ρ b1 else 0) = 0
      rw [if_neg (by omega)]
    · show (if b2 < W.heap.size then L.ρ b2 else 0) = 0
      rw [if_neg (by omega)]
    · simp at hx; subst hx
      exact ⟨(hce.lt _ rfl).1, fun _ => by rw [k5]; decide⟩
theorem step_look {w : World} {p : Pg} {L : Lay} {m : Mc} {nv : List Value} {wv : List (Value × Value)} {l : List St} (hp : PgOk p) (hI : Inv p m l) (h : MachAt w p L m nv wv) {i : Nat} {t : Th} {txs : List (List Ac)} {q : As × As} (hi : m.ths[i]? = some t) (ht : p.ths[i]? = some txs) (hn : t.tx < txs.length) (hq : m.ws[i]? = some q) (hx : m.nx[i]? = some .look) (hver : ∀ c ∈ m.cells, 0 ≤ c.2 ∧ c.2 ≤ 1000000) :
    Calls Tryz.prog 17 #[.pointer (some ⟨L.bm, 0, none⟩), .int .i64 i] w fun r w' => r = .returned (.bool true) ∧ Stepped w w' p L (if fresh q.1 m.cells then { m with cells := wrote q.2 m.cells, nx := m.nx.set i .commit } else m.put i (newT t) (endE i t 6) .nil q) := by
  have hil := (List.getElem?_eq_some_iff.1 ht).1
  obtain ⟨v, hv, hcell⟩ := nv_cell h hil
  obtain ⟨b1, b2, rfl, _, _, c1, c2⟩ := h.st i .look v hx hv
  cases hf : fresh q.1 m.cells with
  | false =>
    refine (step_end h (nv' := nv) (wv' := wv) (m' := { m with ths := m.ths.set i (newT t), evs := m.evs ++ [endE i t 6] }) ⟨i, t, txs, rfl, hi, ht, hn⟩ hil hcell cf_look (fun W hW => ?_)).mono ?_
    · refine (lookLate (R := fun v w' => v = .nilFunc ∧ Gone w w' p L { m with ths := m.ths.set i (newT t), evs := m.evs ++ [endE i t 6] } nv wv) (hW.cellAt c1 (by simp)).1 (hW.cellAt c2 (by simp)).1 ((look_mach hp hI h hi ht hn hq hx hver W hW).mono ?_)).mono ?_
      · rintro r w' (⟨_, rfl, hg⟩ | ⟨hf', _⟩)
        · exact ⟨_, rfl, rfl, hg⟩
        · rw [hf] at hf'; cases hf'
      · rintro r w' ⟨v, rfl, rfl, hg⟩
        exact ⟨rfl, hg⟩
    · rintro r w' ⟨h1, h2⟩
      refine ⟨h1, ?_⟩
      have e : m.put i (newT t) (endE i t 6) .nil q = { m with ths := m.ths.set i (newT t), evs := m.evs ++ [endE i t 6], nx := m.nx.set i .nil } := by simp [Mc.put, set_self' hq]
      simp only [Bool.false_eq_true, if_false]
      rw [e]; exact h2
  | true =>
    refine lateStep h.m0 ?_
    refine (step_ffn (R := fun f c w' => GoneS w w' p L { m with cells := wrote q.2 m.cells } i .commit (.func (.func f) #[] c)) h.t2 h.t3 hil hcell cf_look (done_no h.wk ⟨i, t, txs, rfl, hi, ht, hn⟩) (fun W hW => ?_)).mono ?_
    · refine (lookLate (R := fun v w' => ∃ f c, v = .func (.func f) #[] c ∧ GoneS w w' p L { m with cells := wrote q.2 m.cells } i .commit (.func (.func f) #[] c)) (hW.cellAt c1 (by simp)).1 (hW.cellAt c2 (by simp)).1 ((look_mach hp hI h hi ht hn hq hx hver W hW).mono ?_)).mono ?_
      · rintro r w' (⟨hf', _⟩ | ⟨_, b1, b2, rfl, hg⟩)
        · rw [hf] at hf'; cases hf'
        · exact ⟨_, rfl, _, _, rfl, hg⟩
      · rintro r w' ⟨v, rfl, f, c, rfl, hg⟩
        exact ⟨f, c, rfl, hg, hg.put hil⟩
    · rintro r w' ⟨rfl, f, c, W, hg, _, rfl⟩
      exact ⟨⟨_, rfl⟩, rfl, hg.stepped h.gnMine⟩
end Go.Proofs.YtbogjkggfdhckaaGreatDoor

/-
  Lemmas on the way to Rr1: Av, Sh8, Pm, Pn.
-/
import Derived.Test.YtbogjkggfdhckaaGreatDoorMA7
import Derived.BigRegion
import Derived.Test.YtbogjkggfdhckaaGreatDoorMA2
/-
  shape: the automaton behind another event, in memory.
-/
namespace Go.Proofs.YtbogjkggfdhckaaGreatDoor
open Go.RowKit Go.Um

theorem findIdx?_set_same {p : St → Bool} : ∀ {l : List St} {i : Nat} {s s' : St}, l[i]? = some s → p s' = p s → (l.set i s').findIdx? p = l.findIdx? p
  | [], _, _, _, h, _ => by simp at h
  | x :: l, 0, s, s', h, hp => by
    simp at h; subst h
    simp [List.findIdx?_cons, hp]
  | x :: l, i + 1, s, s', h, hp => by
    simp only [List.set_cons_succ, List.findIdx?_cons]
    rw [findIdx?_set_same (by simpa using h) hp]
theorem lk_del {k a : Int} : ∀ {m : List ME}, (m.map ME.key).Nodup → lk k (del a m) = if k = a then none else lk k m
  | [], _ => by simp [del, lk]
  | x :: m, h => by
    simp only [List.map_cons, List.nodup_cons] at h
    by_cases ha : a = x.key
    · simp only [del, if_pos ha]
      by_cases hk : k = a
      · simp only [if_pos hk]
        cases hl : lk k m with
        | none => rfl
        | some v =>
          exfalso
          have : ∀ (m : List ME), lk k m = some v → k ∈ m.map ME.key := by
            intro m
            induction m with
            | nil => intro h; simp [lk] at h
            | cons y m ih =>
              intro h
              by_cases hy : k = y.key
              · simp [hy]
              · simp only [lk, if_neg hy] at h
                simp [ih h]
          exact h.1 (by rw [← ha, ← hk]; exact this m hl)
      · have : ¬ k = x.key := fun e => hk (by rw [e, ha])
        simp [lk, hk, this]
    · simp only [del, if_neg ha, lk]
      rw [lk_del h.2]
      by_cases hk : k = x.key
      · have : ¬ k = a := fun e => ha (by rw [← e, hk])
        simp [hk]
        intro e; exact absurd e (by rw [← hk]; exact this)
      · simp [hk]
theorem del_sub {a : Int} : ∀ {m : List ME} {x : ME}, x ∈ del a m → x ∈ m
  | [], x, h => by simp [del] at h
  | y :: m, x, h => by
    by_cases ha : a = y.key
    · simp only [del, if_pos ha] at h; simp [h]
    · simp only [del, if_neg ha, List.mem_cons] at h
      rcases h with h | h
      · simp [h]
      · simp [del_sub h]
theorem del_nodup {a : Int} : ∀ {m : List ME}, (m.map ME.key).Nodup → ((del a m).map ME.key).Nodup
  | [], _ => by simp [del]
  | y :: m, h => by
    simp only [List.map_cons, List.nodup_cons] at h
    by_cases ha : a = y.key
    · simp only [del, if_pos ha]; exact h.2
    · simp only [del, if_neg ha, List.map_cons, List.nodup_cons]
      refine ⟨fun hm => h.1 ?_, del_nodup h.2⟩
      obtain ⟨x, hx, hk⟩ := List.mem_map.1 hm
      exact List.mem_map.2 ⟨x, del_sub hx, hk⟩
theorem get_set {α : Type} {l : List α} {i j : Nat} {a b : α} (h : (l.set i a)[j]? = some b) : (j = i ∧ b = a) ∨ (j ≠ i ∧ l[j]? = some b) := by
  rw [List.getElem?_set] at h
  by_cases hij : i = j
  · left
    rw [if_pos hij] at h
    split at h
    · simp at h; exact ⟨hij.symm, h.symm⟩
    · cases h
  · right
    rw [if_neg hij] at h
    exact ⟨fun e => hij e.symm, h⟩

theorem AutoAt.moved {w w' : World} {ba B : Nat} {objs : List Ob} {vo : Value} {l : List St} {n : Nat} {vt : Value} {ry rz : Nat} {ps : List Nat} {ds : List Value} {ρ : Nat → Nat}
    (h : AutoAt w ba B objs vo l n vt ry rz ps ds ρ) (i : Nat) (s s' : St) (p : Nat) (d d' : Value) (m : List ME) (c : Nat)
    (hi : l[i]? = some s) (hp : ps[i]? = some p) (hd : ds[i]? = some d) (hid : s'.t.id = s.t.id) (hth : s'.t.thread = s.t.thread) (h5 : s.stand ≠ 5) (hw2 : s'.stand = 2 → s'.t.deeds ≠ []) (hdn : s'.t.deeds.length ≤ n + 1)
    (hk : Kp (ba :: rz :: p :: d.ownBlock.toList) w w') (hd' : ∀ g, d'.ownBlock = some g → d.ownBlock = some g ∨ w.heap.size ≤ g)
    (hs : IsSt w' p s'.t d' s'.stand) (ho : OwnD w' B d' s'.t.deeds)
    (hfz : ∀ j, w'.frozen? ⟨ba, j, none⟩ = false) (h0 : w'.cell? ⟨ba, 0, none⟩ = some vo) (h1 : w'.cell? ⟨ba, 1, none⟩ = some (.int .i64 (n + 1 : Nat))) (h2 : w'.cell? ⟨ba, 2, none⟩ = some vt)
    (h3 : w'.cell? ⟨ba, 3, none⟩ = some (.map (some ry))) (h4 : w'.cell? ⟨ba, 4, none⟩ = some (.map (some rz)))
    (hm : w.imap? rz = some (m, c)) (hm' : w'.imap? rz = some (if s'.stand = 5 then del s.t.thread m else m, c)) :
    AutoAt w' ba B objs vo (l.set i s') (n + 1) vt ry rz ps (ds.set i d') (fun x => if d'.ownBlock = some x then 11 + 2 * i else ρ x) := by
  have hcol : ∀ x, x < w.heap.size → ρ x ≠ 11 + 2 * i → (if d'.ownBlock = some x then 11 + 2 * i else ρ x) = ρ x := by
    intro x hx h3
    rw [if_neg]
    intro e
    rcases hd' x e with hg | hg
    · exact h3 (h.k5 i d x hd hg)
    · omega
  have hne : ∀ x, x < w.heap.size → ρ x ≠ 0 → ρ x ≠ 2 → ρ x ≠ 10 + 2 * i → ρ x ≠ 11 + 2 * i → x ∉ ba :: rz :: p :: d.ownBlock.toList := by
    intro x _ q0 q1 q2 q3 hx
    simp at hx
    rcases hx with rfl | rfl | rfl | hx
    · exact q0 h.k0
    · exact q1 h.k2
    · exact q2 (h.k4 i x hp)
    · exact q3 (h.k5 i d x hd hx)
  have hold : ∀ (j : Nat) t, (l.set i s')[j]? = some t → t.stand ≠ 5 → ∃ t0, l[j]? = some t0 ∧ t0.stand ≠ 5 ∧ t0.t.thread = t.t.thread := by
    intro j t hj ht
    rcases get_set hj with ⟨rfl, rfl⟩ | ⟨_, hj⟩
    · exact ⟨s, hi, h5, hth.symm⟩
    · exact ⟨t, hj, ht, rfl⟩
  obtain ⟨m0, c0, hm0, hy⟩ := h.by_
  obtain ⟨m2, c2, hz0, hnd, hb2, hl2⟩ := h.bz
  rw [hm] at hz0
  simp only [Option.some.injEq, Prod.mk.injEq] at hz0
  obtain ⟨rfl, rfl⟩ := hz0
  have hny := h.k1
  refine { lt := Nat.lt_of_lt_of_le h.lt hk.size, fz := hfz, c0 := h0, c1 := h1, c2 := h2, c3 := h3, c4 := h4, ln := by have := h.ln; simp; omega, uq := ?uq, wt := ?wt, dn := ?dn, lp := by simp [h.lp], ld := by simp [h.ld], oo := ?oo, own := ?own, by_ := ⟨m0, c0, ?by1, hy.1, ?by2⟩, bz := ⟨_, _, hm', ?nd, ?bz1, ?bz2⟩, st := ?st, base := h.base, k0 := ?k0, k1 := ?k1, k2 := ?k2, k3 := ?k3, ko := ?ko, k4 := ?k4, k5 := ?k5 }
  case uq =>
    intro j k t u hj hk h6 h7 ht
    obtain ⟨t0, a1, a2, a3⟩ := hold j t hj h6
    obtain ⟨u0, b1, b2, b3⟩ := hold k u hk h7
    exact h.uq j k t0 u0 a1 b1 a2 b2 (by rw [a3, b3, ht])
  case wt =>
    intro t ht h2'
    obtain ⟨j, hj⟩ := List.mem_iff_getElem?.1 ht
    rcases get_set hj with ⟨rfl, rfl⟩ | ⟨_, hj⟩
    · exact hw2 h2'
    · exact h.wt t (List.mem_of_getElem? hj) h2'
  case dn =>
    intro t ht
    obtain ⟨j, hj⟩ := List.mem_iff_getElem?.1 ht
    rcases get_set hj with ⟨rfl, rfl⟩ | ⟨_, hj⟩
    · exact hdn
    · have := h.dn t (List.mem_of_getElem? hj); omega
  case oo =>
    exact own_kp h.oo hk (fun x hx => by
      have := h.ko x hx
      exact hne x (h.oo.lt x hx).2 (by omega) (by omega) (by omega) (by omega))
  case own =>
    simpa using own_kp h.own hk (fun x hx => by
      have := h.k3 x hx
      exact hne x (h.own.lt x hx).2 (by omega) (by omega) (by omega) (by omega))
  case by1 => exact (hk.imapAt hm0 (hne ry (imap_lt hm0) (by omega) (by omega) (by omega) (by omega))).1
  case by2 =>
    intro k
    rw [hy.2, findIdx?_set_same hi (by simp [St.has, hid])]
  case nd =>
    split
    · exact del_nodup hnd
    · exact hnd
  case bz1 =>
    intro x hx
    split at hx
    · exact hb2 x (del_sub hx)
    · exact hb2 x hx
  case bz2 =>
    intro k
    by_cases h6 : s'.stand = 5
    · rw [if_pos h6, lk_del hnd]
      by_cases hkt : k = s.t.thread
      · rw [if_pos hkt]
        have : (l.set i s').findIdx? (St.busy k) = none := by
          rw [List.findIdx?_eq_none_iff]
          intro t ht
          obtain ⟨j, hj⟩ := List.mem_iff_getElem?.1 ht
          by_cases ht5 : t.stand = 5
          · simp [St.busy, ht5]
          · obtain ⟨t0, a1, a2, a3⟩ := hold j t hj ht5
            by_cases htk : t.t.thread = k
            · exfalso
              have := h.uq j i t0 s a1 hi a2 h5 (by rw [a3, htk, hkt])
              subst this
              rcases get_set hj with ⟨_, rfl⟩ | ⟨hji, _⟩
              · exact ht5 h6
              · exact hji rfl
            · simp [St.busy, htk]
        rw [this]; rfl
      · rw [if_neg hkt, hl2, findIdx?_set_same hi]
        have e1 : ¬ s.t.thread = k := fun e => hkt e.symm
        have e2 : (s.t.thread == k) = false := by simpa using e1
        simp only [St.busy, hth, e2, Bool.false_and]
    · have e1 : (s.stand != 5) = true := by simpa using h5
      have e2 : (s'.stand != 5) = true := by simpa using h6
      rw [if_neg h6, hl2, findIdx?_set_same hi (by simp only [St.busy, hth, e1, e2])]
  case st =>
    intro j t q e hj hq he
    rcases get_set he with ⟨rfl, rfl⟩ | ⟨hji, he⟩
    · rcases get_set hj with ⟨_, rfl⟩ | ⟨hjj, _⟩
      · rw [hp] at hq
        cases hq
        exact ⟨hs, ho, (h.st j s p d hi hp hd).2.2⟩
      · exact absurd rfl hjj
    · rcases get_set hj with ⟨hjj, _⟩ | ⟨_, hj⟩
      · exact absurd hjj hji
      · obtain ⟨a1, a2, a3⟩ := h.st j t q e hj hq he
        refine ⟨a1.kp hk ?_, own_kp a2 hk (fun x hx => ?_), a3⟩
        · have := h.k4 j q hq
          exact hne q a1.lt (by omega) (by omega) (by omega) (by omega)
        · have := h.k5 j e x he hx
          exact hne x (a2.lt x hx).2 (by omega) (by omega) (by omega) (by omega)
  case k0 => have := h.k0; rw [hcol ba h.lt (by omega)]; exact h.k0
  case k1 => rw [hcol ry (imap_lt hm0) (by omega)]; exact h.k1
  case k2 => have := h.k2; rw [hcol rz (imap_lt hm) (by omega)]; exact h.k2
  case k3 =>
    intro x hx
    have := h.k3 x hx
    rw [hcol x (h.own.lt x hx).2 (by omega)]; exact this
  case ko =>
    intro x hx
    have := h.ko x hx
    rw [hcol x (h.oo.lt x hx).2 (by omega)]; exact this
  case k4 =>
    intro j q hq
    have h6 := h.k4 j q hq
    obtain ⟨t, ht⟩ : ∃ t, l[j]? = some t := ⟨l[j]'(by rw [← h.lp]; exact (List.getElem?_eq_some_iff.1 hq).1), by simp [← h.lp, (List.getElem?_eq_some_iff.1 hq).1]⟩
    obtain ⟨e, he⟩ : ∃ e, ds[j]? = some e := ⟨ds[j]'(by rw [h.ld, ← h.lp]; exact (List.getElem?_eq_some_iff.1 hq).1), by simp [h.ld, ← h.lp, (List.getElem?_eq_some_iff.1 hq).1]⟩
    rw [hcol q (h.st j t q e ht hq he).1.lt (by omega)]; exact h6
  case k5 =>
    intro j e x he hx
    rcases get_set he with ⟨rfl, rfl⟩ | ⟨hji, he⟩
    · rw [if_pos hx]
    · have h6 := h.k5 j e x he hx
      obtain ⟨t, ht⟩ : ∃ t, l[j]? = some t := ⟨l[j]'(by rw [← h.ld]; exact (List.getElem?_eq_some_iff.1 he).1), by simp [← h.ld, (List.getElem?_eq_some_iff.1 he).1]⟩
      obtain ⟨q, hq⟩ : ∃ q, ps[j]? = some q := ⟨ps[j]'(by rw [h.lp, ← h.ld]; exact (List.getElem?_eq_some_iff.1 he).1), by simp [h.lp, ← h.ld, (List.getElem?_eq_some_iff.1 he).1]⟩
      rw [hcol x ((h.st j t q e ht hq he).2.1.lt x hx).2 (by omega)]; exact h6
end Go.Proofs.YtbogjkggfdhckaaGreatDoor

/-
  shape: Feed at a begin.
-/
namespace Go.Proofs.YtbogjkggfdhckaaGreatDoor
open Go.RowKit Go.Um

abbrev tBy : Nat := 114
theorem lookup_by (W : World) (r : Nat) (k : Int) (m : List ME) (c : Nat) (ok : Bool) (h : W.imap? r = some (m, c)) :
    (Instr.lookup tBy (.map (some r)) (.int .i64 k) ok).run Tryz.prog W = .ok (if ok then .tuple #[(lk k m).getD (.pointer none), .bool (lk k m).isSome] else (lk k m).getD (.pointer none)) W := by
  have := run_lookup_im (P := Tryz.prog) (w := W) (r := r) (k := k) (T := tBy) Tryz.underlying114 Tryz.underlying3 (z := .pointer none) Tryz.zeroValue117 (by rw [h]; rfl) ok
  rw [this, (imapL_eq h).1]
theorem _root_.Go.World.ownsRow.kpN {w : World} {B e sz n : Nat} {v : Value} {xs : List Value} (h : w.ownsRow B e sz v n xs) (N : Nat) : (w.drewN N).ownsRow B e sz v n xs := h
theorem info_stp : (Tryz.prog.info? tStP).map (fun i => (i.zero, i.size, i.bytes)) = some (some (.pointer none), 1, 8) := by kernel_rfl

set_option maxRecDepth 100000 in
set_option maxHeartbeats 2000000 in
theorem feed_begin (E : Nat → Addr) (ba B : Nat) (objs : List Ob) (vo : Value) (l : List St) (n : Nat) (vt : Value) (ry rz : Nat) (ps : List Nat) (ds : List Value) (ρ : Nat → Nat) (e : Ev) (w : World)
    (hG : Gl E w) (hA : AutoAt w ba B objs vo l n vt ry rz ps ds ρ) (hn : n < 400) (hk : e.kind = 1) (hf : evFault objs e = none) (h1 : l.findIdx? (St.has e.tx) = none) (h2 : l.findIdx? (St.busy e.thread) = none) (h64 : Ev64 e) (hB : B ≤ w.heap.size) :
    Calls Tryz.prog 67 #[.pointer (some ⟨ba, 0, none⟩), evV e.f] w fun r w' => r = .returned .nilIface ∧
      (∃ vt' ps' ds' ρ', AutoAt w' ba B objs vo (l ++ [⟨⟨e.tx, e.thread, 1, n, -1, -1, []⟩, 1⟩]) (n + 1) vt' ry rz ps' ds' ρ') ∧ ∃ S, Kp S w w' ∧ ∀ x ∈ S, B ≤ x := by
  have hr : evRes E e.f = .nilIface := by
    unfold evFault at hf
    unfold evRes
    split at hf
    · rename_i h
      rw [if_pos h]
      split at hf
      · rename_i h'
        rw [if_pos h']
      · cases hf
    · cases hf
  obtain ⟨m, c, hm, hmb, hml⟩ := hA.by_
  obtain ⟨m2, c2, hm2, hnd2, hmb2, hml2⟩ := hA.bz
  have hND := Lib.hid hnd2
  have hH2 := Lib.hid h2
  have hl1 := hml e.tx
  rw [h1] at hl1
  have hl2 := hml2 e.thread
  rw [h2] at hl2
  simp only [Option.bind_none] at hl1 hl2
  have hV := Lib.hid (fun W (hG : Gl E W) => valid_any E e.f W hG (h64 7).1 (h64 7).2)
  rw [hr] at hV
  have HA := Lib.hid hA
  have HG := Lib.hid hG
  have hbl := hA.lt
  have hln := hA.ln
  have a1 := hA.c1
  have a2 := hA.c2
  have a3 := hA.c3
  have a4 := hA.c4
  have hnI : ((n : Int) == 400) = false := by simp; omega
  have HM := Lib.hid (show ((∀ x ∈ m, x.born < c) ∧ (∀ x ∈ m2, x.born < c2) ∧ (∀ k, lk k m = (l.findIdx? (St.has k)).bind (fun i => (ps[i]?).map ptrV)) ∧ (∀ k, lk k m2 = (l.findIdx? (St.busy k)).bind (fun i => (ps[i]?).map ptrV))) from ⟨hmb, hmb2, hml, hml2⟩)
  clear hA hG hnd2 hmb hmb2 hml hml2 h1 h2 hf hr
  unfold evV at hV ⊢
  simp only [Ev.f, hk] at hV ⊢
  go_enter Tryz.func67, Tryz.ntmps67
  go_wp2_with (go_at_call 99; refine (hV.out _ (HG.out.kp0 ((Kp.refl _ _).alloc _))).mono ?_; rintro e1 w1 ⟨rfl, hk1⟩; obtain ⟨lb, cb, fb⟩ := hk1.blk w.heap.size (by simp) (by simp); have hk0 := ((Kp.refl [] w).alloc _).trans hk1 (by simp); have hA1 := HA.out.kp0 hk0; obtain ⟨hm1, hl1'⟩ := hk0.imapAt hm (by simp); obtain ⟨hm21, hl2'⟩ := hk0.imapAt hm2 (by simp); have b1 := (hk0.cellAt a1 (by simp)).1; have b2 := (hk0.cellAt a2 (by simp)).1; have b3 := (hk0.cellAt a3 (by simp)).1; have b4 := (hk0.cellAt a4 (by simp)).1)
  have f0 : w1.cell? ⟨w.heap.size, 0, none⟩ = some (.int .i64 1) := by rw [cb]; simp
  have f1 : w1.cell? ⟨w.heap.size, 1, none⟩ = some (.int .i64 e.tx) := by rw [cb]; simp
  have f2 : w1.cell? ⟨w.heap.size, 2, none⟩ = some (.int .i64 e.thread) := by rw [cb]; simp
  obtain ⟨be, hbe⟩ : ∃ x, x = w.heap.size := ⟨_, rfl⟩
  rw [← hbe] at f0 f1 f2 lb ⊢
  replace hbe := Lib.hid hbe
  have hA1' := Lib.hid hA1
  have hk0' := Lib.hid hk0
  have HM1 := Lib.hid hm1
  have HM2 := Lib.hid hm21
  have hq1 : ∀ N, (Instr.lookup tBy (.map (some ry)) (.int .i64 e.tx) true).run Tryz.prog (w1.drewN N) = .ok (.tuple #[.pointer none, .bool false]) (w1.drewN N) := fun N => by
    rw [lookup_by (w1.drewN N) ry e.tx m c true HM1.out, hl1]; rfl
  have hq2 : ∀ N, (Instr.lookup tBy (.map (some rz)) (.int .i64 e.thread) false).run Tryz.prog (w1.drewN N) = .ok (.pointer none) (w1.drewN N) := fun N => by
    rw [lookup_by (w1.drewN N) rz e.thread m2 c2 false HM2.out, hl2]; rfl
  have hba : ba < w1.heap.size := hA1.lt
  have hba' : ∀ N, ba < (w1.drewN N).heap.size := fun N => hA1.lt
  obtain ⟨i0, hi, hz0, hz1, hz2⟩ := info_parts info_stp
  have hbn : ba ≠ w1.heap.size := by omega
  have hpa : ∀ N o i, ((w1.drewN N).alloc o).cell? ⟨ba, i, none⟩ = w1.cell? ⟨ba, i, none⟩ := fun N o i => World.cell?_alloc_past _ _ _ (by simpa using hba)
  clear cb fb hk1 hk0 hA1 a1 a2 a3 a4 hm hm2 hbl
  go_quiet (fail)
  go_wp2
  go_quiet (fail)
  go_wp2
  go_region
  go_wp2_with (at_builtin; refine wpList_append_lies (w := _) (hgd := by rfl) (s := .tmp 88) (x := .tmp 90) (t := 113) (ho := by rfl) (base := B) (e := tStP) (i := i0) (z := .pointer none) (size := 1) (bytes := 8) (ht := Tryz.underlying113) (hi := hi) (hz := hz0) (hsize := hz1) (hby := hz2) (hzs := by rfl) (hsz := by decide) (v := vt) (n := l.length) (xs := ps.map ptrV) (hs := by rfl) (hown := by exact ((hA1'.out.own.kpN _).alloc _).alloc _) (ad := ⟨w1.heap.size + 1, 0, none⟩) (m := 1) (c := 1) (news := [ptrV w1.heap.size]) (hx := by rfl) (hl := by rfl) (hnews := ?c1) (h1 := ?c2) (hm := by decide) (h63 := ?c3) (hbytes := ?c4) (hbase := ?c5) (H := _) (hH := by rfl) ?_)
  case c1 =>
    intro j u hj
    match j, hj with
    | 0, hj =>
      simp at hj; subst hj
      rw [show ((⟨w1.heap.size + 1, 0, none⟩ : Addr).add 0) = ⟨w1.heap.size + 1, 0, none⟩ from rfl]
      have hsz : ∀ N (o : Obj), ((w1.drewN N).alloc o).heap.size = w1.heap.size + 1 := fun N o => by simp
      rw [← hsz _ _, World.cell?_alloc_new]; rfl
    | _ + 1, hj => simp at hj
  case c2 => intro u hu; simp at hu; subst hu; rfl
  case c3 => simp only [maxLen]; omega
  case c4 => omega
  case c5 => have := hk0'.out.size; simp; omega
  intro g cap w3 hown hgrow hat hlt
  have hkg := Kp.of_grown hgrow
  have hA1 := hA1'.out
  have hvb : ba ∉ vt.ownBlock.toList := fun h => by
    have := hA1.k3 ba (by simpa using h)
    have := hA1.k0
    omega
  have hvy : ry ∉ vt.ownBlock.toList := fun h => by
    have := hA1.k3 ry (by simpa using h)
    have := hA1.k1
    omega
  have hvz : rz ∉ vt.ownBlock.toList := fun h => by
    have := hA1.k3 rz (by simpa using h)
    have := hA1.k2
    omega
  have hk3 : Kp vt.ownBlock.toList w1 w3 := (((Kp.refl _ _).drewN _).alloc _ |>.alloc _).trans hkg (fun x hx _ => hx)
  have hbe1 : be ∉ vt.ownBlock.toList := fun h => by
    have := (HA.out.own.lt be (by simpa using h)).2
    have := hbe.out
    omega
  obtain ⟨l3, c3, f3⟩ := hk3.blk ba hba hvb
  obtain ⟨l4, c4, f4⟩ := hk3.blk be lb hbe1
  have hm3 := (hk3.imapAt HM1.out hvy).1
  have hm4 := (hk3.imapAt HM2.out hvz).1
  have g0 := (c4 0).trans f0
  have g1 := (c4 1).trans f1
  have g2 := (c4 2).trans f2
  have d1 := (c3 1).trans b1
  have d0 := (c3 0).trans hA1.c0
  have d2 := (c3 2).trans b2
  have d3 := (c3 3).trans b3
  have d4 := (c3 4).trans b4
  have d5 : ∀ j, w3.frozen? ⟨ba, j, none⟩ = false := fun j => (f3 j).trans (hA1.fz j)
  replace hk3 := Lib.hid hk3
  replace hA1 := Lib.hid hA1
  have hgw := Lib.hid hgrow
  have hat' := Lib.hid hat
  have hown' := Lib.hid hown
  have HF2 := Lib.hid f2
  clear hgrow hkg hat hown c3 c4 f3 f4 f0 f1 f2 b1 b2 b3 b4 hpa hq1 hq2 hba' hvb hvy hvz hbe1
  go_wp2
  refine wp_gen fun W4 hW4 => ?_
  have hk4 : Kp [ba] w3 W4 := by rw [hW4]; exact (Kp.refl _ _).setCell _ _ (fun _ => by simp)
  have hyz : ry ≠ rz := fun h => by have := hA1.out.k1; have := hA1.out.k2; rw [h] at *; omega
  have hzy : rz ≠ ry := fun h => hyz h.symm
  have hby : ry ∉ [ba] := fun h => by simp at h; have := hA1.out.k1; have := hA1.out.k0; rw [h] at *; omega
  have hbz : rz ∉ [ba] := fun h => by simp at h; have := hA1.out.k2; have := hA1.out.k0; rw [h] at *; omega
  have nbe : be ∉ [ba] := fun h => by simp at h; have := hbe.out; have := HA.out.lt; omega
  have hm5 := (hk4.imapAt hm3 hby).1
  have hm6 := (hk4.imapAt hm4 hbz).1
  have r1 := (hk4.cellAt g1 nbe).1
  have r2 : W4.cell? ⟨be, 2, none⟩ = some (.int .i64 e.thread) := (hk4.cellAt ((hk3.out.cellAt (HF2.out) (fun h => by
    have := (HA.out.own.lt be (by simpa using h)).2
    have := hbe.out
    omega)).1) nbe).1
  have s1 : W4.cell? ⟨ba, 1, none⟩ = some (.int .i64 n) := by rw [hW4, World.cell?_setCell_other _ _ _ _ (by simp)]; exact d1
  have s0 : W4.cell? ⟨ba, 0, none⟩ = some vo := by rw [hW4, World.cell?_setCell_other _ _ _ _ (by simp)]; exact d0
  have s2 : W4.cell? ⟨ba, 2, none⟩ = some (.slice (some ⟨g, 0, none⟩) (l.length + 1) cap) := by rw [hW4, World.cell?_setCell_same' _ _ _ (by rw [d2]; rfl)]
  have s3 : W4.cell? ⟨ba, 3, none⟩ = some (.map (some ry)) := by rw [hW4, World.cell?_setCell_other _ _ _ _ (by simp)]; exact d3
  have s4 : W4.cell? ⟨ba, 4, none⟩ = some (.map (some rz)) := by rw [hW4, World.cell?_setCell_other _ _ _ _ (by simp)]; exact d4
  have s5 : ∀ j, W4.frozen? ⟨ba, j, none⟩ = false := fun j => by rw [hW4, World.frozen?_setCell]; exact d5 j
  have hb4 : ba < W4.heap.size := Nat.lt_of_lt_of_le l3 hk4.size
  have e1 := fun (W : World) (h : W.imap? ry = some (m, c)) => run_mapEntry_new (P := Tryz.prog) (k := e.tx) (T := tBy) Tryz.underlying114 Tryz.underlying3 Tryz.zeroValue117 h hl1
  have e2 := fun (W : World) (h : W.imap? rz = some (m2, c2)) => run_mapEntry_new (P := Tryz.prog) (k := e.thread) (T := tBy) Tryz.underlying114 Tryz.underlying3 Tryz.zeroValue117 h hl2
  have e3 := fun (W : World) (h : W.imap? ry = some (m ++ [⟨e.tx, .pointer none, c⟩], c + 1)) => run_entryStore_new (P := Tryz.prog) (T := tBy) (v := .pointer (some ⟨w1.heap.size, 0, none⟩)) h HM.out.1
  have e4 := fun (W : World) (h : W.imap? rz = some (m2 ++ [⟨e.thread, .pointer none, c2⟩], c2 + 1)) => run_entryStore_new (P := Tryz.prog) (T := tBy) (v := .pointer (some ⟨w1.heap.size, 0, none⟩)) h HM.out.2.1
  have i1 : ∀ x y, (W4.setIM ry x y).imap? rz = some (m2, c2) := fun x y => by rw [imap?_setIM_other _ _ _ _ hzy]; exact hm6
  have i2 : ∀ x y, (W4.setIM rz x y).imap? ry = some (m, c) := fun x y => by rw [imap?_setIM_other _ _ _ _ hyz]; exact hm5
  have i3 : ∀ x y x' y', ((W4.setIM ry x y).setIM rz x' y').imap? rz = some (x', y') := fun x y x' y' => imap?_setIM_same _ _ _ _ (by rw [i1]; rfl)
  have i4 : ∀ x y x' y', ((W4.setIM ry x y).setIM rz x' y').imap? ry = some (x, y) := fun x y x' y' => by rw [imap?_setIM_other _ _ _ _ hyz]; exact imap?_setIM_same _ _ _ _ (by rw [hm5]; rfl)
  have i5 : ∀ (W : World) x y x' y', (W.setIM rz x' y').setIM ry x y = (W.setIM ry x y).setIM rz x' y' := fun W x y x' y' => setIM_comm hyz _ _ _ _
  have HW4 := Lib.hid hW4
  have HK4 := Lib.hid hk4
  clear hW4 hk4 hm3 hm4 g0 g1 d1 d2 d3 d4 d5 hm1 hm21
  go_region
  go_wp2
  go_ret
  have hA := hA1.out
  have k0 := hk0'.out
  have hBw : B ≤ w1.heap.size := Nat.le_trans hB k0.size
  have hgb : g ≠ w1.heap.size := by
    rcases hat'.out with h | h
    · have := (hA.own.lt g h).2; omega
    · intro e0
      rw [e0] at h
      omega
  have hg : vt.ownBlock = some g ∨ w1.heap.size ≤ g := by
    rcases hat'.out with h | h
    · exact .inl h
    · right
      rw [h]
      omega
  have hkW : Kp (ba :: ry :: rz :: vt.ownBlock.toList) w1 W4 := (hk3.out.mono (T := ba :: ry :: rz :: vt.ownBlock.toList) (fun x hx _ => by simp at hx; simp [hx])).trans HK4.out (fun x hx _ => by simp at hx; simp [hx])
  have hkE := (((hkW.setIM ry (m ++ [⟨e.tx, ptrV w1.heap.size, c⟩]) (c + 1) (fun _ => by simp)).setIM rz (m2 ++ [⟨e.thread, ptrV w1.heap.size, c2⟩]) (c2 + 1) (fun _ => by simp)).setCell ⟨ba, 1, none⟩ (.int .i64 ((n : Int) + 1)) (fun _ => by simp)).drew
  have hin := HM.out
  have hk5 := ((((HK4.out.mono (T := [ba, ry, rz]) (fun x hx _ => by simp at hx; simp [hx])).setIM ry (m ++ [⟨e.tx, ptrV w1.heap.size, c⟩]) (c + 1) (fun _ => by simp)).setIM rz (m2 ++ [⟨e.thread, ptrV w1.heap.size, c2⟩]) (c2 + 1) (fun _ => by simp)).setCell ⟨ba, 1, none⟩ (.int .i64 ((n : Int) + 1)) (fun _ => by simp)).drew
  have hgS : g ∉ [ba, ry, rz] := by
    have q0 := hA.k0
    have q1 := hA.k1
    have q2 := hA.k2
    have t1 := imap_lt HM1.out
    have t2 := imap_lt HM2.out
    intro hx
    simp at hx
    rcases hg with h | h
    · have q3 := hA.k3 g h
      rcases hx with rfl | rfl | rfl <;> omega
    · rcases hx with rfl | rfl | rfl <;> omega
  refine ⟨ret_congr rfl, ⟨_, _, _, _, hA.begun e w1.heap.size g cap m m2 c c2 HM1.out hin.1 hin.2.2.1 HM2.out hND.out hl2 hH2.out hin.2.1 hin.2.2.2 hkE (Nat.le_refl _) hg hgb hBw ?_ ?_ ?_ ?_ ?_ ?_ ?_ ?_ ?_ ?_⟩, ?_⟩
  · intro j; simp [go_sem, s5]
  · simp [go_sem, s0]
  · simp [go_sem, s1]
  · simp [go_sem, s2]
  · simp [go_sem, s3]
  · simp [go_sem, s4]
  · exact own_kp hown'.out hk5 (fun x hx => by simp [Value.ownBlock] at hx; subst hx; exact hgS)
  · simp [go_sem, i4]; rfl
  · simp [go_sem, i3]; rfl
  · have hst0 : ∀ N, IsSt ((w1.drewN N).alloc (.cells #[.int .i64 e.tx, .int .i64 e.thread, .int .i64 1, .int .i64 n, .int .i64 (-1), .int .i64 (-1), .slice none 0 0, .int .i64 1] 119)) w1.heap.size ⟨e.tx, e.thread, 1, n, -1, -1, []⟩ (.slice none 0 0) 1 := fun N => by
      have hnew : (w1.drewN N).heap.size = w1.heap.size := rfl
      refine ⟨by simp, fun j => ?_, eight ?_ ?_ ?_ ?_ ?_ ?_ ?_ ?_⟩
      all_goals
        rw [← hnew]
        first
          | (rw [World.cell?_alloc_new]; rfl)
          | (clear hnew; generalize w1.drewN N = V; simp)
    refine (((hst0 _).alloc _).kp (Kp.of_grown hgw.out) (fun h => ?_)).kp hk5 (fun h => ?_)
    · have := (hA.own.lt w1.heap.size (by simpa using h)).2; omega
    · simp at h
      have t0 := hA.lt
      have t1 := imap_lt HM1.out
      have t2 := imap_lt HM2.out
      rcases h with h | h | h <;> omega
  · exact ⟨_, (k0.mono (T := ba :: ry :: rz :: vt.ownBlock.toList) (fun x hx _ => by simp at hx)).trans hkE (fun x hx _ => hx), fun x hx => by
      simp at hx
      have q := hA.base
      rcases hx with rfl | rfl | rfl | hx
      · exact q.1
      · exact q.2.1
      · exact q.2.2
      · exact (hA.own.lt x hx).1⟩
end Go.Proofs.YtbogjkggfdhckaaGreatDoor

/-
  The engines' programs, purely: how far a thread is, the events that it makes, and that the automaton takes them.
-/
namespace Go.Proofs.YtbogjkggfdhckaaGreatDoor
open Go.RowKit Go.Um

def objsOf (p : Pg) : List Ob := p.cells.map (fun n => ⟨1, n⟩)
/-- The automaton has taken these events. -/
inductive Fed (objs : List Ob) : List Ev → List St → Prop
  | nil : Fed objs [] []
  | snoc {evs l l' e} : Fed objs evs l → feed objs l evs.length e = .ok l' → Fed objs (evs ++ [e]) l'
def Answered (ds : List Dd) : Prop := ∀ d ∈ ds, 0 ≤ d.back
/-- Where a running transaction stands. -/
def Stands (acts : List Ac) (t : Th) (s : St) : Prop :=
  (t.waits = 0 ∧ s.stand = 1 ∧ Answered s.t.deeds) ∨ (t.waits = 4 ∧ s.stand = 3 ∧ Answered s.t.deeds) ∨ (t.waits = 7 ∧ s.stand = 4 ∧ Answered s.t.deeds) ∨
  (t.waits = 2 ∧ s.stand = 2 ∧ ∃ a d ds, acts[t.act]? = some a ∧ a.k ≠ 4 ∧ s.t.deeds = ds ++ [d] ∧ Answered ds ∧ d.obj = a.c ∧ d.op = (if isRead t a then 1 else 2))
def ThOk (p : Pg) (i : Nat) (t : Th) (l : List St) : Prop :=
  ∃ txs, p.ths[i]? = some txs ∧ t.tx ≤ txs.length ∧ ((t.begun = false ∧ t.act = 0 ∧ t.adding = false ∧ t.waits = 0) ∨
    (t.begun = true ∧ ∃ acts j s, txs[t.tx]? = some acts ∧ t.act ≤ acts.length ∧ (t.adding = true → ∃ a, acts[t.act]? = some a ∧ a.k = 3 ∧ -1000000000 ≤ a.v + t.read ∧ a.v + t.read ≤ 1000000000) ∧
      l.findIdx? (St.has (idOf i t.tx)) = some j ∧ l[j]? = some s ∧ s.t.thread = i ∧ s.t.id = idOf i t.tx ∧ Stands acts t s))
def bnd (t : Th) : Nat := 27 * t.tx + (if t.begun then 1 else 0) + 4 * t.act + (if t.adding then 2 else 0) + (if t.waits = 0 then 0 else 1)
structure Sim (p : Pg) (ths : List Th) (evs : List Ev) (l : List St) : Prop where
  fed : Fed (objsOf p) evs l
  len : ths.length = p.ths.length
  uq : ∀ (j k : Nat) s t, l[j]? = some s → l[k]? = some t → s.t.id = t.t.id → j = k
  own : ∀ (j : Nat) s, l[j]? = some s → ∃ (i k : Nat) (t : Th), ths[i]? = some t ∧ s.t.thread = i ∧ s.t.id = idOf i k ∧ k < 3 ∧ ((k < t.tx ∧ s.stand = 5) ∨ (k = t.tx ∧ t.begun = true))
  cur : ∀ (i : Nat) t, ths[i]? = some t → ThOk p i t l
  cnt : evs.length ≤ (ths.map bnd).sum

theorem sum_set (f : Th → Nat) : ∀ {l : List Th} {i : Nat} {t t' : Th}, l[i]? = some t → ((l.set i t').map f).sum + f t = (l.map f).sum + f t'
  | [], _, _, _, h => by simp at h
  | x :: l, 0, t, t', h => by
    simp at h; subst h
    simp; omega
  | x :: l, i + 1, t, t', h => by
    have := sum_set f (l := l) (i := i) (t := t) (t' := t') (by simpa using h)
    simp only [List.set_cons_succ, List.map_cons, List.sum_cons]; omega
theorem sum_le (f : Th → Nat) (m : Nat) : ∀ {l : List Th}, (∀ t ∈ l, f t ≤ m) → (l.map f).sum ≤ m * l.length
  | [], _ => by simp
  | x :: l, h => by
    have h1 := sum_le f m (l := l) (fun t ht => h t (by simp [ht]))
    have h2 := h x (by simp)
    simp [Nat.mul_succ]; omega
theorem ThOk.bndA {p : Pg} {i : Nat} {t : Th} {l : List St} (h : ThOk p i t l) (hp : PgOk p) : bnd t ≤ 81 := by
  obtain ⟨txs, h1, h2, h3⟩ := h
  have h4 := hp.tx i txs h1
  unfold bnd
  rcases h3 with ⟨b1, b2, b3, b4⟩ | ⟨b1, acts, j, s, c1, c2, c3, _⟩
  · simp [b1, b2, b3, b4]; omega
  · have h5 := (hp.ac i _ txs acts h1 c1).2
    have h6 := (List.getElem?_eq_some_iff.1 c1).1
    by_cases ha : t.adding = true
    · obtain ⟨a, ha1, _⟩ := c3 ha
      have := (List.getElem?_eq_some_iff.1 ha1).1
      simp [b1, ha]; split <;> omega
    · simp [b1, ha]; split <;> omega
theorem Sim.few {p : Pg} {ths : List Th} {evs : List Ev} {l : List St} (h : Sim p ths evs l) (hp : PgOk p) : evs.length ≤ 324 := by
  have h1 := sum_le bnd 81 (l := ths) (fun t ht => by
    obtain ⟨i, hi⟩ := List.mem_iff_getElem?.1 ht
    exact (h.cur i t hi).bndA hp)
  have h2 := h.cnt
  have h3 := h.len
  have h4 := hp.t4
  have : 81 * ths.length ≤ 81 * 4 := Nat.mul_le_mul_left _ (by omega)
  omega
theorem idOf_inj {i k i' k' : Nat} (h : idOf i k = idOf i' k') (hk : k < 3) (hk' : k' < 3) : i = i' ∧ k = k' := by
  unfold idOf at h; omega
theorem ThOk.other {p : Pg} {i : Nat} {t : Th} {l : List St} {j : Nat} {s s' : St} (h : ThOk p i t l) (hj : l[j]? = some s) (hth : s.t.thread ≠ i) (hid : s'.t.id = s.t.id) : ThOk p i t (l.set j s') := by
  obtain ⟨txs, h1, h2, h3⟩ := h
  refine ⟨txs, h1, h2, ?_⟩
  rcases h3 with b | ⟨b1, acts, k, u, c1, c2, c3, c4, c5, c6, c7⟩
  · exact .inl b
  · refine .inr ⟨b1, acts, k, u, c1, c2, c3, ?_, ?_, c6, c7⟩
    · rw [findIdx?_set_same hj (by simp [St.has, hid])]; exact c4
    · have : j ≠ k := by
        intro e; subst e
        rw [hj] at c5; cases c5
        exact hth c6
      rw [List.getElem?_set_ne this]; exact c5
theorem ThOk.snoc {p : Pg} {i : Nat} {t : Th} {l : List St} (h : ThOk p i t l) (x : St) : ThOk p i t (l ++ [x]) := by
  obtain ⟨txs, h1, h2, h3⟩ := h
  refine ⟨txs, h1, h2, ?_⟩
  rcases h3 with b | ⟨b1, acts, k, u, c1, c2, c3, c4, c5, c6, c7⟩
  · exact .inl b
  · refine .inr ⟨b1, acts, k, u, c1, c2, c3, ?_, ?_, c6, c7⟩
    · rw [List.findIdx?_append, c4]; rfl
    · rw [List.getElem?_append_left (List.getElem?_eq_some_iff.1 c5).1]; exact c5
/-- An event of a running transaction. -/
theorem Sim.mv {p : Pg} {ths : List Th} {evs : List Ev} {l : List St} (hp : PgOk p) (h : Sim p ths evs l) {i : Nat} {t t' : Th} (hi : ths[i]? = some t) {j : Nat} {s s' : St} (hj : l.findIdx? (St.has (idOf i t.tx)) = some j) (hs : l[j]? = some s) (hth : s.t.thread = i) (hid : s.t.id = idOf i t.tx)
    {e : Ev} (he1 : e.tx = idOf i t.tx) (hk1 : e.kind ≠ 1) (hf : evFault (objsOf p) e = none) (hst : s.stand ∈ froms e.kind) (hm : move s e evs.length = some s') (hsid : s'.t.id = s.t.id) (hsth : s'.t.thread = s.t.thread)
    (hT : ThOk p i t' (l.set j s')) (hnew : (t'.tx = t.tx ∧ t'.begun = true) ∨ (t'.tx = t.tx + 1 ∧ s'.stand = 5)) (hc : bnd t + 1 ≤ bnd t') :
    feed (objsOf p) l evs.length e = .ok (l.set j s') ∧ Sim p (ths.set i t') (evs ++ [e]) (l.set j s') := by
  have hn := h.few hp
  have hfeed : feed (objsOf p) l evs.length e = .ok (l.set j s') := by
    unfold feed
    rw [if_neg (by omega), hf]
    simp only [if_neg hk1, he1, hj, hs, if_pos hst, hm]
  have hil := (List.getElem?_eq_some_iff.1 hi).1
  refine ⟨hfeed, ⟨.snoc h.fed hfeed, by simp [h.len], ?_, ?_, ?_, ?_⟩⟩
  · have key : ∀ (a : Nat) x, (l.set j s')[a]? = some x → ∃ y, l[a]? = some y ∧ y.t.id = x.t.id := by
      intro a x ha
      rcases get_set ha with ⟨rfl, rfl⟩ | ⟨_, ha⟩
      · exact ⟨s, hs, hsid.symm⟩
      · exact ⟨x, ha, rfl⟩
    intro a b x y ha hb' hxy
    obtain ⟨x0, a1, a2⟩ := key a x ha
    obtain ⟨y0, b1, b2⟩ := key b y hb'
    exact h.uq a b x0 y0 a1 b1 (by rw [a2, b2, hxy])
  · intro a x ha
    have hset : (ths.set i t')[i]? = some t' := by simp [hil]
    rcases get_set ha with ⟨rfl, rfl⟩ | ⟨haj, ha⟩
    · obtain ⟨i0, k0, t0, d1, d2, d3, d4, d5⟩ := h.own a s hs
      have : i0 = i := by rw [hth] at d2; omega
      subst this
      rw [hi] at d1; cases d1
      have hk : k0 = t.tx := by rw [hid] at d3; unfold idOf at d3; omega
      refine ⟨i0, k0, t', hset, by rw [hsth, hth], by rw [hsid, d3], d4, ?_⟩
      rcases hnew with ⟨e1, e2⟩ | ⟨e1, e2⟩
      · exact .inr ⟨by omega, e2⟩
      · exact .inl ⟨by omega, e2⟩
    · obtain ⟨i0, k0, t0, d1, d2, d3, d4, d5⟩ := h.own a x ha
      by_cases hii : i0 = i
      · subst hii
        rw [hi] at d1; cases d1
        refine ⟨i0, k0, t', hset, d2, d3, d4, ?_⟩
        rcases d5 with ⟨e1, e2⟩ | ⟨e1, e2⟩
        · exact .inl ⟨by rcases hnew with ⟨f1, _⟩ | ⟨f1, _⟩ <;> omega, e2⟩
        · exfalso
          exact haj (h.uq a j x s ha hs (by rw [d3, hid, e1]))
      · refine ⟨i0, k0, t0, ?_, d2, d3, d4, d5⟩
        rw [List.getElem?_set_ne (fun e => hii e.symm)]; exact d1
  · intro a u ha
    rcases get_set ha with ⟨rfl, rfl⟩ | ⟨hai, ha⟩
    · exact hT
    · exact (h.cur a u ha).other hs (by rw [hth]; omega) hsid
  · have h1 := sum_set bnd (l := ths) (t' := t') hi
    have h2 := h.cnt
    simp only [List.length_append, List.length_cons, List.length_nil]
    omega
theorem ThOk.tx3 {p : Pg} {i : Nat} {t : Th} {l : List St} (h : ThOk p i t l) (hp : PgOk p) (hb : t.begun = true) : t.tx < 3 := by
  obtain ⟨txs, h1, h2, h3⟩ := h
  have h4 := hp.tx i txs h1
  rcases h3 with ⟨b1, _⟩ | ⟨_, acts, _, _, c1, _⟩
  · rw [b1] at hb; cases hb
  · have := (List.getElem?_eq_some_iff.1 c1).1; omega
theorem fault_begin {objs : List Ob} {i k : Nat} (hi : i < 4) (hk : k < 3) : evFault objs ⟨1, idOf i k, i, 0, 0, 0, 0, 0⟩ = none := by
  have h1 : 1 ≤ idOf i k ∧ idOf i k ≤ 1000 := by unfold idOf; omega
  have h2 : (i : Int) ≤ 7 := by omega
  simp [evFault, kindOk, evOk, evFs, Ev.f, inB, fTx, fThread, rest, h1, h2]
theorem fault_end {objs : List Ob} {i k : Nat} {c : Int} (hi : i < 4) (hk : k < 3) (hc : c = 4 ∨ c = 5 ∨ c = 6 ∨ c = 7) : evFault objs ⟨c, idOf i k, 0, 0, 0, 0, 0, 0⟩ = none := by
  have h1 : 1 ≤ idOf i k ∧ idOf i k ≤ 1000 := by unfold idOf; omega
  rcases hc with rfl | rfl | rfl | rfl <;> simp [evFault, kindOk, evOk, evFs, Ev.f, inB, fTx, rest, h1]
theorem fault_ok {objs : List Ob} {i k : Nat} (hi : i < 4) (hk : k < 3) : evFault objs ⟨3, idOf i k, 0, 0, 0, 0, 0, 1⟩ = none := by
  have h1 : 1 ≤ idOf i k ∧ idOf i k ≤ 1000 := by unfold idOf; omega
  simp [evFault, kindOk, evOk, evFs, retFs, Ev.f, inB, fTx, fRet, rest, h1]
theorem fault_val {objs : List Ob} {i k : Nat} {v : Int} (hi : i < 4) (hk : k < 3) (hv : -1000000000 ≤ v ∧ v ≤ 1000000000) : evFault objs ⟨3, idOf i k, 0, 0, 0, 0, v, 3⟩ = none := by
  have h1 : 1 ≤ idOf i k ∧ idOf i k ≤ 1000 := by unfold idOf; omega
  simp [evFault, kindOk, evOk, evFs, retFs, Ev.f, inB, fTx, fRet, fVal, rest, h1, hv]
theorem fault_read {p : Pg} (hp : PgOk p) {i k : Nat} {c : Int} (hi : i < 4) (hk : k < 3) (hc : 0 ≤ c ∧ c < p.cells.length) : evFault (objsOf p) ⟨2, idOf i k, 0, c, 1, 0, 0, 0⟩ = none := by
  have h1 : 1 ≤ idOf i k ∧ idOf i k ≤ 1000 := by unfold idOf; omega
  have h2 : c ≤ 7 := by have := hp.c4; omega
  simp [evFault, kindOk, evOk, evFs, callFs, keyed, valued, opKind, Ev.f, inB, fTx, fObj, fOp, rest, h1, h2, hc, objsOf]
theorem fault_write {p : Pg} (hp : PgOk p) {i k : Nat} {c v : Int} (hi : i < 4) (hk : k < 3) (hc : 0 ≤ c ∧ c < p.cells.length) (hv : -1000000000 ≤ v ∧ v ≤ 1000000000) : evFault (objsOf p) ⟨2, idOf i k, 0, c, 2, 0, v, 0⟩ = none := by
  have h1 : 1 ≤ idOf i k ∧ idOf i k ≤ 1000 := by unfold idOf; omega
  have h2 : c ≤ 7 := by have := hp.c4; omega
  simp [evFault, kindOk, evOk, evFs, callFs, keyed, valued, opKind, Ev.f, inB, fTx, fObj, fOp, fVal, rest, h1, h2, hc, hv, objsOf]
end Go.Proofs.YtbogjkggfdhckaaGreatDoor

/-
  The engines' programs, purely: the four ways a thread goes on.
-/
namespace Go.Proofs.YtbogjkggfdhckaaGreatDoor
open Go.RowKit Go.Um

theorem ThOk.bndB {p : Pg} {i : Nat} {t : Th} {l : List St} (h : ThOk p i t l) (hp : PgOk p) (hb : t.begun = true) : bnd t + 1 ≤ 27 * (t.tx + 1) := by
  obtain ⟨txs, h1, h2, h3⟩ := h
  unfold bnd
  rcases h3 with ⟨b1, b2, b3, b4⟩ | ⟨b1, acts, j, s, c1, c2, c3, _⟩
  · rw [b1] at hb; cases hb
  · have h5 := (hp.ac i _ txs acts h1 c1).2
    by_cases ha : t.adding = true
    · obtain ⟨a, ha1, _⟩ := c3 ha
      have := (List.getElem?_eq_some_iff.1 ha1).1
      simp [b1, ha]; split <;> omega
    · simp [b1, ha]; split <;> omega
/-- What a begin lays down. -/
def newS (i : Nat) (t : Th) (n : Nat) : St := ⟨⟨idOf i t.tx, i, 1, n, -1, -1, []⟩, 1⟩
theorem Sim.start {p : Pg} {ths : List Th} {evs : List Ev} {l : List St} (hp : PgOk p) (h : Sim p ths evs l) {i : Nat} {t : Th} {txs : List (List Ac)} (hi : ths[i]? = some t) (hb : t.begun = false) (htx : p.ths[i]? = some txs) (hlt : t.tx < txs.length) :
    l.findIdx? (St.has (idOf i t.tx)) = none ∧ l.findIdx? (St.busy i) = none ∧ feed (objsOf p) l evs.length (beginE i t) = .ok (l ++ [newS i t evs.length]) ∧ Sim p (ths.set i { t with begun := true }) (evs ++ [beginE i t]) (l ++ [newS i t evs.length]) := by
  have hn := h.few hp
  have hi4 : i < 4 := by have := (List.getElem?_eq_some_iff.1 hi).1; have := h.len; have := hp.t4; omega
  have hk3 : t.tx < 3 := by have := hp.tx i txs htx; omega
  have hil := (List.getElem?_eq_some_iff.1 hi).1
  have hown : ∀ (j : Nat) s, l[j]? = some s → s.t.thread = i → s.stand = 5 ∧ s.t.id ≠ idOf i t.tx := by
    intro j s hj hs
    obtain ⟨i0, k0, t0, d1, d2, d3, d4, d5⟩ := h.own j s hj
    have : i0 = i := by omega
    subst this
    rw [hi] at d1; cases d1
    rcases d5 with ⟨e1, e2⟩ | ⟨e1, e2⟩
    · exact ⟨e2, by rw [d3]; unfold idOf; omega⟩
    · rw [hb] at e2; cases e2
  have h1 : l.findIdx? (St.has (idOf i t.tx)) = none := by
    rw [List.findIdx?_eq_none_iff]
    intro s hs
    obtain ⟨j, hj⟩ := List.mem_iff_getElem?.1 hs
    obtain ⟨i0, k0, t0, d1, d2, d3, d4, d5⟩ := h.own j s hj
    by_cases he : s.t.id = idOf i t.tx
    · have := idOf_inj (d3.symm.trans he) d4 hk3
      exact absurd he (hown j s hj (by rw [d2, this.1])).2
    · simpa [St.has] using he
  have h2 : l.findIdx? (St.busy i) = none := by
    rw [List.findIdx?_eq_none_iff]
    intro s hs
    obtain ⟨j, hj⟩ := List.mem_iff_getElem?.1 hs
    by_cases he : s.t.thread = i
    · simp [St.busy, (hown j s hj he).1]
    · simp [St.busy, he]
  have hfeed : feed (objsOf p) l evs.length (beginE i t) = .ok (l ++ [newS i t evs.length]) := by
    unfold feed
    rw [if_neg (by omega), show evFault (objsOf p) (beginE i t) = none from fault_begin hi4 hk3]
    simp [beginE, h1, h2, newS]
  have hset : (ths.set i { t with begun := true })[i]? = some { t with begun := true } := by simp [hil]
  obtain ⟨txs', c1, c2, c3⟩ := h.cur i t hi
  rw [htx] at c1; cases c1
  have c3' : t.act = 0 ∧ t.adding = false ∧ t.waits = 0 := by
    rcases c3 with ⟨_, c⟩ | ⟨c, _⟩
    · exact c
    · rw [hb] at c; cases c
  refine ⟨h1, h2, hfeed, ⟨.snoc h.fed hfeed, by simp [h.len], ?_, ?_, ?_, ?_⟩⟩
  · have hno : ∀ (a : Nat) x, l[a]? = some x → x.t.id ≠ idOf i t.tx := by
      intro a x ha he
      have := List.findIdx?_eq_none_iff.1 h1 x (List.mem_of_getElem? ha)
      simp [St.has, he] at this
    have key : ∀ (a : Nat) x, (l ++ [newS i t evs.length])[a]? = some x → (l[a]? = some x) ∨ (a = l.length ∧ x = newS i t evs.length) := by
      intro a x ha
      by_cases hal : a < l.length
      · rw [List.getElem?_append_left hal] at ha; exact .inl ha
      · have : a = l.length := by have := (List.getElem?_eq_some_iff.1 ha).1; simp at this; omega
        subst this
        simp at ha
        exact .inr ⟨rfl, ha.symm⟩
    intro a b x y ha hb' hxy
    rcases key a x ha with ha | ⟨ha, rfl⟩
    · rcases key b y hb' with hb' | ⟨_, rfl⟩
      · exact h.uq a b x y ha hb' hxy
      · exact absurd hxy (hno a x ha)
    · rcases key b y hb' with hb' | ⟨hb', _⟩
      · exact absurd hxy.symm (hno b y hb')
      · omega
  · intro a x ha
    by_cases hal : a < l.length
    · rw [List.getElem?_append_left hal] at ha
      obtain ⟨i0, k0, t0, d1, d2, d3, d4, d5⟩ := h.own a x ha
      by_cases hii : i0 = i
      · subst hii
        rw [hi] at d1; cases d1
        exact ⟨i0, k0, _, hset, d2, d3, d4, by
          rcases d5 with d5 | ⟨_, e2⟩
          · exact .inl d5
          · rw [hb] at e2; cases e2⟩
      · exact ⟨i0, k0, t0, by rw [List.getElem?_set_ne (fun e => hii e.symm)]; exact d1, d2, d3, d4, d5⟩
    · have : a = l.length := by have := (List.getElem?_eq_some_iff.1 ha).1; simp at this; omega
      subst this
      simp at ha
      subst ha
      exact ⟨i, t.tx, _, hset, rfl, rfl, hk3, .inr ⟨rfl, rfl⟩⟩
  · intro a u ha
    rcases get_set ha with ⟨rfl, rfl⟩ | ⟨_, ha⟩
    · refine ⟨txs, htx, c2, .inr ⟨rfl, txs[t.tx], l.length, newS a t evs.length, by simp [hlt], by simp [c3'.1], by simp [c3'.2.1], ?_, by simp, rfl, rfl, .inl ⟨c3'.2.2, rfl, by simp [newS, Answered]⟩⟩⟩
      rw [List.findIdx?_append, h1]
      simp [newS, St.has]
    · exact (h.cur a u ha).snoc _
  · have h1 := sum_set bnd (l := ths) (t' := { t with begun := true }) hi
    have h2 := h.cnt
    have h3 : bnd t + 1 = bnd { t with begun := true } := by simp [bnd, hb, c3'.1, c3'.2.1, c3'.2.2]
    simp only [List.length_append, List.length_cons, List.length_nil]
    omega
/-- A running transaction: its acts, its state. -/
structure Cur (p : Pg) (i : Nat) (t : Th) (l : List St) (txs : List (List Ac)) (acts : List Ac) (j : Nat) (s : St) : Prop where
  ptx : p.ths[i]? = some txs
  pac : txs[t.tx]? = some acts
  le : t.act ≤ acts.length
  add : t.adding = true → ∃ a, acts[t.act]? = some a ∧ a.k = 3 ∧ -1000000000 ≤ a.v + t.read ∧ a.v + t.read ≤ 1000000000
  fd : l.findIdx? (St.has (idOf i t.tx)) = some j
  at_ : l[j]? = some s
  th : s.t.thread = i
  id : s.t.id = idOf i t.tx
  st : Stands acts t s
theorem Sim.get {p : Pg} {ths : List Th} {evs : List Ev} {l : List St} (h : Sim p ths evs l) {i : Nat} {t : Th} (hi : ths[i]? = some t) (hb : t.begun = true) : ∃ txs acts j s, Cur p i t l txs acts j s := by
  obtain ⟨txs, h1, h2, h3⟩ := h.cur i t hi
  rcases h3 with ⟨b, _⟩ | ⟨_, acts, j, s, c1, c2, c3, c4, c5, c6, c7, c8⟩
  · rw [b] at hb; cases hb
  · exact ⟨txs, acts, j, s, ⟨h1, c1, c2, c3, c4, c5, c6, c7, c8⟩⟩
/-- What a running transaction's state must be behind an event. -/
theorem Cur.ok {p : Pg} {i : Nat} {t t' : Th} {l : List St} {txs : List (List Ac)} {acts : List Ac} {j : Nat} {s s' : St} (h : Cur p i t l txs acts j s) (hid : s'.t.id = s.t.id) (hth : s'.t.thread = s.t.thread)
    (hx : t'.tx = t.tx) (hb : t'.begun = true) (hl : t'.act ≤ acts.length) (ha : t'.adding = true → ∃ a, acts[t'.act]? = some a ∧ a.k = 3 ∧ -1000000000 ≤ a.v + t'.read ∧ a.v + t'.read ≤ 1000000000) (hs : Stands acts t' s') : ThOk p i t' (l.set j s') := by
  have hjl := (List.getElem?_eq_some_iff.1 h.at_).1
  refine ⟨txs, h.ptx, by rw [hx]; exact Nat.le_of_lt (List.getElem?_eq_some_iff.1 h.pac).1, .inr ⟨hb, acts, j, s', by rw [hx]; exact h.pac, hl, ha, ?_, by simp [hjl], by rw [hth, h.th], by rw [hid, h.id, hx], hs⟩⟩
  rw [hx, findIdx?_set_same h.at_ (by simp [St.has, hid])]; exact h.fd
theorem Sim.i4 {p : Pg} {ths : List Th} {evs : List Ev} {l : List St} (h : Sim p ths evs l) (hp : PgOk p) {i : Nat} {t : Th} (hi : ths[i]? = some t) : i < 4 := by
  have := (List.getElem?_eq_some_iff.1 hi).1; have := h.len; have := hp.t4; omega
/-- What the next event does with the transaction's state. -/
def nextS (s : St) (e : Ev) (n : Nat) : St :=
  if e.kind = 2 then ⟨{ s.t with deeds := s.t.deeds ++ [⟨e.obj, e.op, 0, e.val, 0, 0, n, -1⟩] }, 2⟩
  else if e.kind = 4 then ⟨{ s.t with try_ := n, status := 2 }, 3⟩ else ⟨s.t, 4⟩
theorem Sim.next {p : Pg} {ths : List Th} {evs : List Ev} {l : List St} (hp : PgOk p) (h : Sim p ths evs l) {i : Nat} {t : Th} {txs : List (List Ac)} {acts : List Ac} {j : Nat} {s : St} (hi : ths[i]? = some t) (hb : t.begun = true) (hw : t.waits = 0) (hc : Cur p i t l txs acts j s) :
    feed (objsOf p) l evs.length (nextE i t acts) = .ok (l.set j (nextS s (nextE i t acts) evs.length)) ∧
      Sim p (ths.set i { t with waits := (nextE i t acts).kind }) (evs ++ [nextE i t acts]) (l.set j (nextS s (nextE i t acts) evs.length)) := by
  have hi4 := h.i4 hp hi
  have hk3 := (h.cur i t hi).tx3 hp hb
  have hst : s.stand = 1 ∧ Answered s.t.deeds := by
    rcases hc.st with ⟨_, h1, h2⟩ | ⟨h0, _⟩ | ⟨h0, _⟩ | ⟨h0, _⟩
    · exact ⟨h1, h2⟩
    all_goals rw [hw] at h0; simp at h0
  cases ha : acts[t.act]? with
  | none =>
    have he : nextE i t acts = ⟨4, idOf i t.tx, 0, 0, 0, 0, 0, 0⟩ := by simp [nextE, ha]
    rw [he]
    refine h.mv hp hi hc.fd hc.at_ hc.th hc.id rfl (by simp) (fault_end hi4 hk3 (.inl rfl)) (by simp [froms, hst.1]) (by simp [move, nextS]) (by simp [nextS]) (by simp [nextS]) (hc.ok (by simp [nextS]) (by simp [nextS]) rfl hb hc.le hc.add ?_) (.inl ⟨rfl, hb⟩) ?_
    · exact .inr (.inl ⟨rfl, by simp [nextS], by simpa [nextS] using hst.2⟩)
    · simp [bnd, hw]
  | some a =>
    have hak := hp.a i t.tx t.act txs acts a hc.ptx hc.pac ha
    by_cases h4 : a.k = 4
    · have he : nextE i t acts = ⟨7, idOf i t.tx, 0, 0, 0, 0, 0, 0⟩ := by simp [nextE, ha, h4]
      rw [he]
      refine h.mv hp hi hc.fd hc.at_ hc.th hc.id rfl (by simp) (fault_end hi4 hk3 (.inr (.inr (.inr rfl)))) (by simp [froms, hst.1]) (by simp [move, nextS]) (by simp [nextS]) (by simp [nextS]) (hc.ok (by simp [nextS]) (by simp [nextS]) rfl hb hc.le hc.add ?_) (.inl ⟨rfl, hb⟩) ?_
      · exact .inr (.inr (.inl ⟨rfl, by simp [nextS], by simpa [nextS] using hst.2⟩))
      · simp [bnd, hw]
    · have hcv : (0 ≤ a.c ∧ a.c < p.cells.length) ∧ (a.k = 1 ∨ a.k = 2 ∨ a.k = 3) ∧ (a.k ≠ 1 → -1000 ≤ a.v ∧ a.v ≤ 1000) := by
        unfold actOk at hak
        split at hak
        · rename_i h1
          simp at hak
          exact ⟨⟨hak.1.2, hak.2⟩, .inl h1, fun h => absurd h1 h⟩
        · split at hak
          · rename_i h1
            simp at hak
            exact ⟨⟨hak.1.1.1, hak.1.1.2⟩, .inr h1, fun _ => ⟨hak.1.2, hak.2⟩⟩
          · simp at hak
            exact absurd hak.1.1.1 h4
      have he : nextE i t acts = askE i t a := by simp [nextE, ha, h4]
      have hk2 : (askE i t a).kind = 2 := by unfold askE; split <;> rfl
      have hff : evFault (objsOf p) (askE i t a) = none ∧ (askE i t a).tx = idOf i t.tx ∧ (askE i t a).obj = a.c ∧ (askE i t a).op = (if isRead t a then 1 else 2) ∧ (askE i t a).key = 0 := by
        unfold askE
        by_cases hr : isRead t a = true
        · rw [if_pos hr]
          exact ⟨fault_read hp hi4 hk3 hcv.1, rfl, rfl, by rw [if_pos hr], rfl⟩
        · rw [if_neg hr]
          refine ⟨fault_write hp hi4 hk3 hcv.1 ?_, rfl, rfl, by rw [if_neg hr], rfl⟩
          have hr1 : a.k ≠ 1 := by intro e; simp [isRead, e] at hr
          have hb2 := hcv.2.2 hr1
          split
          · rename_i h3
            have had : t.adding = true := by simp [isRead, h3] at hr; exact hr
            obtain ⟨a', ha', _, hb'⟩ := hc.add had
            rw [ha] at ha'; cases ha'
            exact hb'
          · omega
      rw [he, hk2]
      refine h.mv hp hi hc.fd hc.at_ hc.th hc.id hff.2.1 (by rw [hk2]; simp) hff.1 (by rw [hk2]; simp [froms, hst.1]) (by simp [move, nextS, hk2, hff.2.2.2.2]) (by simp [nextS, hk2]) (by simp [nextS, hk2]) (hc.ok (by simp [nextS, hk2]) (by simp [nextS, hk2]) rfl hb hc.le hc.add ?_) (.inl ⟨rfl, hb⟩) ?_
      · exact .inr (.inr (.inr ⟨rfl, by simp [nextS, hk2], a, ⟨(askE i t a).obj, (askE i t a).op, 0, (askE i t a).val, 0, 0, evs.length, -1⟩, s.t.deeds, ha, h4, by simp [nextS, hk2], hst.2, hff.2.2.1, by rw [hff.2.2.2.1]; rfl⟩))
      · simp [bnd, hw]
/-- A call's answer. -/
def retS (s : St) (ds : List Dd) (d : Dd) (e : Ev) (n : Nat) : St := ⟨{ s.t with deeds := ds ++ [{ d with ret := e.ret, got := e.val, back := n }] }, 1⟩
theorem Sim.ret {p : Pg} {ths : List Th} {evs : List Ev} {l : List St} (hp : PgOk p) (h : Sim p ths evs l) {i : Nat} {t : Th} {txs : List (List Ac)} {acts : List Ac} {j : Nat} {s : St} (hi : ths[i]? = some t) (hb : t.begun = true) (hw : t.waits = 2) (hc : Cur p i t l txs acts j s)
    {a : Ac} (ha : acts[t.act]? = some a) {val : Int} (hv : isRead t a = true → (-1000000000 ≤ val ∧ val ≤ 1000000000) ∧ (a.k = 3 → -1000000000 ≤ val + a.v ∧ val + a.v ≤ 1000000000)) :
    ∃ ds d, s.stand = 2 ∧ s.t.deeds = ds ++ [d] ∧ Answered ds ∧ d.obj = a.c ∧ d.op = (if isRead t a then 1 else 2) ∧ fitsB d.op (retE i t a val).ret = true ∧
      feed (objsOf p) l evs.length (retE i t a val) = .ok (l.set j (retS s ds d (retE i t a val) evs.length)) ∧
      Sim p (ths.set i (retT t a val)) (evs ++ [retE i t a val]) (l.set j (retS s ds d (retE i t a val) evs.length)) := by
  have hi4 := h.i4 hp hi
  have hk3 := (h.cur i t hi).tx3 hp hb
  obtain ⟨hst, d, ds, hk4, hd, hA, hob, hop⟩ : s.stand = 2 ∧ ∃ d ds, a.k ≠ 4 ∧ s.t.deeds = ds ++ [d] ∧ Answered ds ∧ d.obj = a.c ∧ d.op = (if isRead t a then 1 else 2) := by
    rcases hc.st with ⟨h0, _⟩ | ⟨h0, _⟩ | ⟨h0, _⟩ | ⟨_, h1, a', d, ds, h2, h3, h4, h5, h6, h7⟩
    · rw [hw] at h0; simp at h0
    · rw [hw] at h0; simp at h0
    · rw [hw] at h0; simp at h0
    · rw [ha] at h2; cases h2
      exact ⟨h1, d, ds, h3, h4, h5, h6, h7⟩
  have hfit : fitsB d.op (retE i t a val).ret = true := by
    rw [hop]
    by_cases hr : isRead t a = true <;> simp [retE, hr, fitsB, valued]
  have hkind : (retE i t a val).kind = 3 := by unfold retE; split <;> rfl
  have htx : (retE i t a val).tx = idOf i t.tx := by unfold retE; split <;> rfl
  have hff : evFault (objsOf p) (retE i t a val) = none := by
    unfold retE
    split
    · rename_i hr; exact fault_val hi4 hk3 (hv hr).1
    · exact fault_ok hi4 hk3
  have hm : move s (retE i t a val) evs.length = some (retS s ds d (retE i t a val) evs.length) := by
    simp [move, hkind, hd, hfit, answer, retS]
  have hal := (List.getElem?_eq_some_iff.1 ha).1
  refine ⟨ds, d, hst, hd, hA, hob, hop, hfit, ?_⟩
  have hA2 : Answered (retS s ds d (retE i t a val) evs.length).t.deeds := by
    intro x hx
    simp [retS] at hx
    rcases hx with hx | rfl
    · exact hA x hx
    · simp
  have hT0 : (retT t a val).tx = t.tx ∧ (retT t a val).begun = t.begun ∧ (retT t a val).waits = 0 ∧ (retT t a val).act ≤ acts.length := by
    unfold retT
    split
    · split
      · exact ⟨rfl, rfl, rfl, hc.le⟩
      · exact ⟨rfl, rfl, rfl, by show t.act + 1 ≤ _; omega⟩
    · exact ⟨rfl, rfl, rfl, by show t.act + 1 ≤ _; omega⟩
  refine h.mv hp hi hc.fd hc.at_ hc.th hc.id htx (by rw [hkind]; simp) hff (by rw [hkind]; simp [froms, hst]) hm rfl rfl (hc.ok rfl rfl hT0.1 (hT0.2.1.trans hb) hT0.2.2.2 ?_ (.inl ⟨hT0.2.2.1, rfl, hA2⟩)) (.inl ⟨hT0.1, hT0.2.1.trans hb⟩) ?_
  · unfold retT
    split
    · rename_i hr
      split
      · rename_i h3
        intro _
        have := (hv hr).2 h3
        exact ⟨a, ha, h3, by show -1000000000 ≤ a.v + val; omega, by show a.v + val ≤ 1000000000; omega⟩
      · rename_i h3
        intro hadd
        exfalso
        obtain ⟨a', h1, h2, _⟩ := hc.add hadd
        rw [ha] at h1; cases h1
        exact h3 h2
    · intro h; cases h
  · unfold retT
    split
    · rename_i hr
      split
      · rename_i h3
        have : t.adding = false := by simpa [isRead, h3] using hr
        simp [bnd, hw, this]
      · simp [bnd, hw, hb]; omega
    · simp [bnd, hw, hb]; split <;> omega
/-- The end: a commit or an abort. -/
def endS (s : St) (kind : Int) (n : Nat) : St := ⟨{ s.t with status := if kind = 5 then 3 else 4, end_ := n }, 5⟩
theorem Sim.end_ {p : Pg} {ths : List Th} {evs : List Ev} {l : List St} (hp : PgOk p) (h : Sim p ths evs l) {i : Nat} {t : Th} {txs : List (List Ac)} {acts : List Ac} {j : Nat} {s : St} (hi : ths[i]? = some t) (hb : t.begun = true) (hc : Cur p i t l txs acts j s)
    {kind : Int} (hk : kind = 6 ∨ kind = 5 ∧ t.waits = 4) :
    s.stand ∈ froms kind ∧ feed (objsOf p) l evs.length (endE i t kind) = .ok (l.set j (endS s kind evs.length)) ∧
      Sim p (ths.set i (newT t)) (evs ++ [endE i t kind]) (l.set j (endS s kind evs.length)) := by
  have hi4 := h.i4 hp hi
  have hk3 := (h.cur i t hi).tx3 hp hb
  have hst : s.stand ∈ froms kind := by
    rcases hk with rfl | ⟨rfl, hw⟩
    · rcases hc.st with ⟨_, h1, _⟩ | ⟨_, h1, _⟩ | ⟨_, h1, _⟩ | ⟨_, h1, _⟩ <;> simp [froms, h1]
    · rcases hc.st with ⟨h0, _⟩ | ⟨_, h1, _⟩ | ⟨h0, _⟩ | ⟨h0, _⟩
      · rw [hw] at h0; simp at h0
      · simp [froms, h1]
      · rw [hw] at h0; simp at h0
      · rw [hw] at h0; simp at h0
  refine ⟨hst, h.mv hp hi hc.fd hc.at_ hc.th hc.id rfl ?_ ?_ hst ?_ rfl rfl ?_ (.inr ⟨rfl, rfl⟩) ?_⟩
  · rcases hk with rfl | ⟨rfl, _⟩ <;> simp [endE]
  · rcases hk with rfl | ⟨rfl, _⟩
    · exact fault_end hi4 hk3 (.inr (.inr (.inl rfl)))
    · exact fault_end hi4 hk3 (.inr (.inl rfl))
  · rcases hk with rfl | ⟨rfl, _⟩ <;> simp [move, endE, endS]
  · exact ⟨txs, hc.ptx, (List.getElem?_eq_some_iff.1 hc.pac).1, .inl ⟨rfl, rfl, rfl, rfl⟩⟩
  · have := (h.cur i t hi).bndB hp hb
    have h2 : bnd (newT t) = 27 * (t.tx + 1) := by simp [bnd, newT]
    omega
end Go.Proofs.YtbogjkggfdhckaaGreatDoor

/-
  Lemmas on the way to Rr1: Sh9, ShA.
-/
import Derived.Test.YtbogjkggfdhckaaGreatDoorMA8
import Derived.Test.YtbogjkggfdhckaaGreatDoorMA7
import Derived.Deep.DeepCutAuto
/-
  shape: Feed at another event.
-/
namespace Go.Proofs.YtbogjkggfdhckaaGreatDoor
open Go.RowKit Go.Um

theorem move_same {s s' : St} {e : Ev} {n : Int} (h : move s e n = some s') : s'.t.id = s.t.id ∧ s'.t.thread = s.t.thread ∧ (s'.stand = 2 → s'.t.deeds ≠ []) ∧ s'.t.deeds.length ≤ s.t.deeds.length + 1 := by
  unfold move at h
  split at h
  · cases h; exact ⟨rfl, rfl, fun _ => by simp, by simp⟩
  · split at h
    · split at h
      · cases h
      · rename_i d hd
        split at h
        · cases h
          refine ⟨rfl, rfl, by simp, ?_⟩
          simp [answer, hd]
        · cases h
    · split at h
      · cases h; exact ⟨rfl, rfl, by simp, by simp⟩
      · split at h
        · cases h; exact ⟨rfl, rfl, by simp, by simp⟩
        · split at h
          · cases h; exact ⟨rfl, rfl, by simp, by simp⟩
          · cases h; exact ⟨rfl, rfl, by simp, by simp⟩
theorem froms_small {k x : Int} (h : x ∈ froms k) : x ≠ 5 := by
  unfold froms at h
  intro e; subst e
  repeat' split at h
  all_goals simp at h
theorem fault_kind {objs : List Ob} {e : Ev} (h : evFault objs e = none) : 1 ≤ e.kind ∧ e.kind ≤ 7 ∧ (e.kind = 2 → ∃ (k : Nat) (o : Ob), e.obj = k ∧ k < objs.length ∧ objs[k]? = some o ∧ opKind e.op = o.kind) := by
  refine ⟨?_, ?_, fun h2 => ?_⟩
  · unfold evFault at h
    split at h
    · rename_i hk
      simp only [kindOk, Bool.and_eq_true, decide_eq_true_eq] at hk
      exact hk.1.1.1
    · cases h
  · unfold evFault at h
    split at h
    · rename_i hk
      simp only [kindOk, Bool.and_eq_true, decide_eq_true_eq] at hk
      exact hk.1.1.2
    · cases h
  · rcases evCases (fun _ => ⟨0, 0, none⟩) objs e _ h.symm with ⟨_, _, h⟩ | ⟨_, h, _⟩ | ⟨_, _, _, _, h⟩ | ⟨_, _, _, _, _, _, _, _, h⟩ | ⟨_, _, k, o, h3, h4, h5, h6, _⟩
    · cases h
    · exact absurd h2 h
    · cases h
    · cases h
    · exact ⟨k, o, h3, h4, h5, h6⟩

theorem DoOk.shape {w : World} {k : Int} {d : Value} (h : DoOk w k d) : ∃ fn caps, d = .func (.func fn) #[] caps := by
  rcases h with ⟨_, h⟩ | ⟨_, h⟩ | ⟨_, h⟩ | ⟨_, h⟩ | ⟨_, b, h, _⟩ | ⟨_, b, h, _⟩ <;> exact ⟨_, _, h⟩
theorem _root_.Go.Um.Kp.at8 {w w' : World} (h : Kp [] w w') (b : Nat) : if b < w.heap.size then b < w'.heap.size ∧ (∀ o, w'.cell? ⟨b, o, none⟩ = w.cell? ⟨b, o, none⟩) ∧ (∀ o, w'.frozen? ⟨b, o, none⟩ = w.frozen? ⟨b, o, none⟩) else True := by
  split
  · rename_i hb; exact h.blk b hb (by simp)
  · trivial
theorem MvMap.lt {w : World} {r : Nat} {ks : List Int} (h : MvMap w r ks) : r < w.heap.size := by
  obtain ⟨_, _, h, _⟩ := h
  exact imap_lt h
/-- The row of the stands from which an event goes. -/
def FrOk (w : World) (k : Int) (g : Nat) : Prop := ∀ j u, (flatI (froms k))[j]? = some u → w.cell? ⟨g, j, none⟩ = some u
theorem FrOk.kp {w w' : World} {k : Int} {g : Nat} {S : List Nat} (h : FrOk w k g) (hk : Kp S w w') (hS : ∀ x ∈ S, ∀ z, w.cell? ⟨x, 0, none⟩ ≠ some (.int .i64 z)) : FrOk w' k g := by
  intro j u hj
  refine (hk.cellAt (h j u hj) (fun hx => ?_)).1
  obtain ⟨z, hz⟩ : ∃ z, (flatI (froms k))[0]? = some (.int .i64 z) := by
    unfold froms
    repeat' split
    all_goals exact ⟨_, rfl⟩
  exact hS g hx z (h 0 _ hz)
theorem DoOk.kp' {w w' : World} {k : Int} {d : Value} {S : List Nat} (h : DoOk w k d) (hk : Kp S w w') (hS : ∀ x ∈ S, ∀ z, w.cell? ⟨x, 0, none⟩ ≠ some (.int .i64 z)) : DoOk w' k d := by
  rcases h with h | h | h | h | ⟨hk5, b, hv, hb, hb1⟩ | ⟨hk5, b, hv, hb, hb1⟩
  · exact .inl h
  · exact .inr (.inl h)
  · exact .inr (.inr (.inl h))
  · exact .inr (.inr (.inr (.inl h)))
  · exact .inr (.inr (.inr (.inr (.inl ⟨hk5, b, hv, (hk.cellAt hb (fun hx => hS b hx _ hb)).1, (hk.cell (World.block_lt_of_cell? w _ hb) (fun hx => hS b hx _ hb)).trans hb1⟩))))
  · exact .inr (.inr (.inr (.inr (.inr ⟨hk5, b, hv, (hk.cellAt hb (fun hx => hS b hx _ hb)).1, (hk.cell (World.block_lt_of_cell? w _ hb) (fun hx => hS b hx _ hb)).trans hb1⟩))))

set_option maxRecDepth 100000 in
set_option maxHeartbeats 2000000 in
theorem feed_move (E : Nat → Addr) (ba B : Nat) (objs : List Ob) (vo : Value) (l : List St) (n : Nat) (vt : Value) (ry rz : Nat) (ps : List Nat) (ds : List Value) (ρ : Nat → Nat) (e : Ev) (i : Nat) (s s' : St) (w : World)
    (hG : Gl E w) (hA : AutoAt w ba B objs vo l n vt ry rz ps ds ρ) (hn : n < 400) (hk1 : e.kind ≠ 1) (hf : evFault objs e = none) (hi : l.findIdx? (St.has e.tx) = some i) (hs : l[i]? = some s) (hfr : s.stand ∈ froms e.kind) (hm : move s e n = some s') (h64 : Ev64 e) (hB : B ≤ w.heap.size) :
    Calls Tryz.prog 67 #[.pointer (some ⟨ba, 0, none⟩), evV e.f] w fun r w' => r = .returned .nilIface ∧
      (∃ ds' ρ', AutoAt w' ba B objs vo (l.set i s') (n + 1) vt ry rz ps ds' ρ') ∧ ∃ S, Kp S w w' ∧ ∀ x ∈ S, B ≤ x := by
  have hr : evRes E e.f = .nilIface := by
    unfold evFault at hf
    unfold evRes
    split at hf
    · rename_i h
      rw [if_pos h]
      split at hf
      · rename_i h'
        rw [if_pos h']
      · cases hf
    · cases hf
  obtain ⟨hkl, hkh, hkc⟩ := fault_kind hf
  obtain ⟨m, c, hm1, hmb, hml⟩ := hA.by_
  obtain ⟨m2, c2, hm2, hnd2, hmb2, hml2⟩ := hA.bz
  have hil : i < l.length := (List.getElem?_eq_some_iff.1 hs).1
  obtain ⟨p, hp⟩ : ∃ p, ps[i]? = some p := ⟨ps[i]'(by rw [hA.lp]; exact hil), by simp [hA.lp, hil]⟩
  obtain ⟨d, hd⟩ : ∃ d, ds[i]? = some d := ⟨ds[i]'(by rw [hA.ld]; exact hil), by simp [hA.ld, hil]⟩
  have hl1 : lk e.tx m = some (ptrV p) := by rw [hml, hi]; simp [hp]
  have hV := Lib.hid (fun W (hG : Gl E W) => valid_any E e.f W hG (h64 7).1 (h64 7).2)
  rw [hr] at hV
  have hs5 := froms_small hfr
  have HA := Lib.hid hA
  have HG := Lib.hid hG
  have HFR := Lib.hid hfr
  have HM := Lib.hid hm
  have HK1 := Lib.hid hk1
  have HKR := Lib.hid (show 1 ≤ e.kind ∧ e.kind ≤ 7 from ⟨hkl, hkh⟩)
  have HKC := Lib.hid hkc
  have HI := Lib.hid hi
  have HS := Lib.hid hs
  have HP := Lib.hid hp
  have HD := Lib.hid hd
  have HM2 := Lib.hid hm2
  have hbl := hA.lt
  have hln := hA.ln
  have hdn := hA.dn s (List.mem_of_getElem? hs)
  have a1 := hA.c1
  have hnI : ((n : Int) == 400) = false := by simp; omega
  have hkI : (e.kind == 1) = false := by simpa using hk1
  have HS5 := Lib.hid hs5
  clear hA hG hnd2 hmb hmb2 hml hml2 hf hr hfr hm hk1 hkl hkh hkc hi hs hp hd hs5 hm2
  unfold evV at hV ⊢
  simp only [Ev.f] at hV ⊢
  go_enter Tryz.func67, Tryz.ntmps67
  go_upto_if 23 with (go_at_call 99; refine (hV.out _ (HG.out.kp0 ((Kp.refl _ _).alloc _))).mono ?_; rintro e1 w1 ⟨rfl, hk1⟩; obtain ⟨lb, cb, fb⟩ := hk1.blk w.heap.size (by simp) (by simp); have hk0 := ((Kp.refl [] w).alloc _).trans hk1 (by simp))
  have f0 : w1.cell? ⟨w.heap.size, 0, none⟩ = some (.int .i64 e.kind) := by rw [cb]; simp
  have f1 : w1.cell? ⟨w.heap.size, 1, none⟩ = some (.int .i64 e.tx) := by rw [cb]; simp
  have f2 : w1.cell? ⟨w.heap.size, 2, none⟩ = some (.int .i64 e.thread) := by rw [cb]; simp
  have f3 : w1.cell? ⟨w.heap.size, 3, none⟩ = some (.int .i64 e.obj) := by rw [cb]; simp
  have f4 : w1.cell? ⟨w.heap.size, 4, none⟩ = some (.int .i64 e.op) := by rw [cb]; simp
  have f5 : w1.cell? ⟨w.heap.size, 5, none⟩ = some (.int .i64 e.key) := by rw [cb]; simp
  have f6 : w1.cell? ⟨w.heap.size, 6, none⟩ = some (.int .i64 e.val) := by rw [cb]; simp
  have f7 : w1.cell? ⟨w.heap.size, 7, none⟩ = some (.int .i64 e.ret) := by rw [cb]; simp
  obtain ⟨be, hbe⟩ : ∃ x, x = w.heap.size := ⟨_, rfl⟩
  rw [← hbe] at f0 f1 f2 f3 f4 f5 f6 f7 lb ⊢
  replace hbe := Lib.hid hbe
  have hA1 := HA.out.kp0 hk0
  have hk0' := Lib.hid hk0
  have b0 := hA1.c0
  have b1 := hA1.c1
  have b3 := hA1.c3
  have hba := hA1.lt
  have HA1 := Lib.hid hA1
  clear cb fb hk1 hk0 a1 hbl hA1
  go_cut [] (fun wx => Kp [] w1 wx)
  case first =>
    by_cases h2 : e.kind = 2
    · obtain ⟨k, o, ho1, ho2, ho3, ho4⟩ := HKC.out h2
      have h2b : (e.kind == 2) = true := by simpa using h2
      obtain ⟨og, oc, hvo, hog, hogl⟩ := own_shape HA1.out.oo (by omega)
      have hck : w1.cell? ⟨og, k * 2, none⟩ = some (.int .i64 (opKind e.op)) := by
        have hoo := HA1.out.oo
        rw [hvo] at hoo
        rw [hoo.cellAt _ (by omega), ho4]
        have := flat_get Ob.cells 2 (fun _ => rfl) objs k o ho3 0 (by decide)
        simpa [Ob.cells, flatO] using this
      rw [hvo] at b0
      rw [ho1] at f3
      have i0 : (0 : Int) ≤ k := by omega
      have i1 : (k : Int) < objs.length := by omega
      have i2 : ((objs.length : Int) ≤ k) = False := by simp; omega
      clear ho1 ho2 ho3 ho4 h2 hvo
      go_wp2_with fail
      go_quiet (fail)
      go_wp2_with fail
      refine wp_gen fun W2 hW2 => ?_
      have hk2 : Kp [] w1 W2 := by rw [hW2]; exact (Kp.refl _ _).drewN _
      have g3 := (hk2.cellAt f3 (by simp)).1
      have g4 := (hk2.cellAt f4 (by simp)).1
      have g0 := (hk2.cellAt b0 (by simp)).1
      have g1 := (hk2.cellAt hck (by simp)).1
      obtain ⟨l1, _, _⟩ := hk2.blk be lb (by simp)
      obtain ⟨l2, _, _⟩ := hk2.blk ba hba (by simp)
      have HK2 := Lib.hid hk2
      clear hW2 hk2 f3 f4 b0 hck
      go_quiet (first | (go_at_call 100; refine Calls.quiet_of_same (of_q _ _)))
      go_wp2_with fail
      go_meet
      exact HK2.out.drewN _
    · have h2b : (e.kind == 2) = false := by simpa using h2
      clear h2
      go_wp2_with fail
      go_meet
      exact Kp.refl _ _
  case rest =>
  have hA2 := HA1.out.kp0 hcut
  have HA2 := Lib.hid hA2
  have hkW := Lib.hid (hk0'.out.trans hcut (by simp))
  have g0 := (hcut.cellAt f0 (by simp)).1
  have g1 := (hcut.cellAt f1 (by simp)).1
  have g2 := (hcut.cellAt f2 (by simp)).1
  have g3 := (hcut.cellAt f3 (by simp)).1
  have g4 := (hcut.cellAt f4 (by simp)).1
  have g5 := (hcut.cellAt f5 (by simp)).1
  have g6 := (hcut.cellAt f6 (by simp)).1
  have g7 := (hcut.cellAt f7 (by simp)).1
  have lb2 := (hcut.blk be lb (by simp)).1
  have lba2 := hA2.lt
  have d1 := hA2.c1
  have d3 := hA2.c3
  have hmy : wc.imap? ry = some (m, c) := (hkW.out.imapAt hm1 (by simp)).1
  have HMY := Lib.hid hmy
  have hq1 : ∀ N, (Instr.lookup tBy (.map (some ry)) (.int .i64 e.tx) true).run Tryz.prog (wc.drewN N) = .ok (.tuple #[ptrV p, .bool true]) (wc.drewN N) := fun N => by
    rw [lookup_by (wc.drewN N) ry e.tx m c true HMY.out, hl1]; rfl
  unfold ptrV at hq1
  clear hA2 hcut f0 f1 f2 f3 f4 f5 f6 f7 lb hba b0 b1 b3 hmy hm1
  go_wp2_with fail
  go_quiet (fail)
  go_upto_region 24 with fail
  have HKI : RowKit.Hid (e.kind ∈ [2, 3, 4, 7, 5, 6]) := Lib.hid (by have := HKR.out; have := HK1.out; simp; omega)
  go_cut [8] (fun s8 wx => ∃ bm g d', s8 = .pointer (some ⟨bm, 0, none⟩) ∧ Kp [] wc wx ∧ wc.heap.size ≤ bm ∧ bm < wx.heap.size ∧ wx.cell? ⟨bm, 0, none⟩ = some (.slice (some ⟨g, 0, none⟩) (froms e.kind).length (froms e.kind).length) ∧ wx.cell? ⟨bm, 1, none⟩ = some d' ∧ FrOk wx e.kind g ∧ DoOk wx e.kind d')
  case first =>
    have hq80 : ∀ N x y T, ((wc.drewN N).alloc (.cells #[x, y] T)).cell? ⟨wc.heap.size, 0, none⟩ = some x := fun N x y T => by
      rw [show wc.heap.size = (wc.drewN N).heap.size from rfl, World.cell?_alloc_new]; rfl
    have hq81 : ∀ N x y T, ((wc.drewN N).alloc (.cells #[x, y] T)).cell? ⟨wc.heap.size, 1, none⟩ = some y := fun N x y T => by
      rw [show wc.heap.size = (wc.drewN N).heap.size from rfl, World.cell?_alloc_new]; rfl
    have hqf : ∀ N a T k, ((wc.drewN N).alloc (.cells a T)).frozen? ⟨wc.heap.size, k, none⟩ = false := fun N a T k => by
      rw [show wc.heap.size = (wc.drewN N).heap.size from rfl, World.frozen?_alloc_new]
    have hqp : ∀ N o k, ((wc.drewN N).alloc o).cell? ⟨be, k, none⟩ = wc.cell? ⟨be, k, none⟩ := fun N o k => World.cell?_alloc_past _ _ _ lb2
    go_region_with (first | (go_at_call 102; (refine (moves_any _).mono ?_; rintro e2 w2 ⟨⟨r, rfl, hr, hM⟩, hk2⟩; obtain ⟨v, hv, hlook⟩ := hM.look (k := e.kind) HKI.out; obtain ⟨g, d', rfl, hgc, hdo⟩ := hv; have hrl : r < w2.heap.size := hM.lt; obtain ⟨fn, caps, rfl⟩ := hdo.shape; have hl1 := hlook w2 rfl; have hl2 := fun o => hlook (w2.alloc o) (imap?_alloc_past _ _ hrl); obtain ⟨l2, cc2, ff2⟩ := hk2.blk be (by simp; omega) (by simp); have h8 := hk2.at8 wc.heap.size; (simp only [World.size_alloc, World.heap_drewN, Nat.lt_irrefl, if_false, Nat.lt_succ_self, if_true] at h8); (try (obtain ⟨l8, c8, f8⟩ := h8; have h80 := (c8 0).trans (hq80 _ _ _ _); have h81 := (c8 1).trans (hq81 _ _ _ _); have h82 := fun o => (f8 o).trans (hqf _ _ _ o); clear c8 f8)); have HGC := Lib.hid hgc; have HDO := Lib.hid hdo; have HKK := Lib.hid hk2; have HR := Lib.hid hr; clear hlook hM hgc hdo hk2 hr)))
    all_goals go_wp2_with fail
    all_goals go_meet
    all_goals first
      | exact ⟨w2.heap.size, g, _, rfl, (((Kp.refl [] wc).drewN _).trans HKK.out (by simp)).alloc _, by have := HKK.out.size; simpa using this, by simp, by simp, by simp, FrOk.kp (w := w2) HGC.out ((Kp.refl [] _).alloc _) (by simp), HDO.out.kp' ((Kp.refl [] _).alloc _) (by simp)⟩
      | (have hS8 : ∀ x ∈ [wc.heap.size], ∀ z, w2.cell? ⟨x, 0, none⟩ ≠ some (.int .i64 z) := (by intro x hx z; simp at hx; subst hx; rw [h80]; simp)
         exact ⟨wc.heap.size, g, _, rfl, (((((Kp.refl [] wc).drewN _).alloc _).trans HKK.out (by simp)).setCell _ _ (fun h => absurd h (by simp))).setCell _ _ (fun h => absurd h (by simp)), Nat.le_refl _, by simpa using l8, by simp [go_sem, h80], by simp [go_sem, h81], FrOk.kp (w := w2) HGC.out (((Kp.refl [wc.heap.size] _).setCell _ _ (fun _ => by simp)).setCell _ _ (fun _ => by simp)) hS8, HDO.out.kp' (((Kp.refl [wc.heap.size] _).setCell _ _ (fun _ => by simp)).setCell _ _ (fun _ => by simp)) hS8⟩)
      | fail
  case rest =>
  obtain ⟨bm, g, d', rfl, hkc, hbm, hbml, hm0, hm1, hfr, hdo⟩ := hcut
  obtain ⟨hS, hO, hBp⟩ := (HA2.out.kp0 hkc).st i s p d HS.out HP.out HD.out
  have HA3 := Lib.hid (HA2.out.kp0 hkc)
  have hkW3 := Lib.hid (hkW.out.trans hkc (by simp))
  replace g0 := (hkc.cellAt g0 (by simp)).1
  replace g1 := (hkc.cellAt g1 (by simp)).1
  replace g2 := (hkc.cellAt g2 (by simp)).1
  replace g3 := (hkc.cellAt g3 (by simp)).1
  replace g4 := (hkc.cellAt g4 (by simp)).1
  replace g5 := (hkc.cellAt g5 (by simp)).1
  replace g6 := (hkc.cellAt g6 (by simp)).1
  replace g7 := (hkc.cellAt g7 (by simp)).1
  replace d1 := (hkc.cellAt d1 (by simp)).1
  replace lb2 := (hkc.blk be lb2 (by simp)).1
  replace lba2 := (hkc.blk ba lba2 (by simp)).1
  have s7 : wc.cell? ⟨p, 7, none⟩ = some (.int .i64 s.stand) := hS.c 7 (by decide)
  have hpl := hS.lt
  have hRd : ∀ N, Rd (wc.drewN N) wc.heap.size (.slice (some ⟨g, 0, none⟩) (froms e.kind).length (froms e.kind).length) (froms e.kind).length (flatI (froms e.kind)) := fun N => by
    refine ⟨_, _, rfl, fun hn0 => ⟨g, 0, rfl, ?_, ?_, fun j u hj => by rw [Nat.zero_add]; exact hfr j u hj⟩⟩
    · obtain ⟨z, hz⟩ : ∃ z, (flatI (froms e.kind))[0]? = some z := ⟨(flatI (froms e.kind))[0]'(by simpa [flatI] using hn0), by simp [flatI]⟩
      exact World.block_lt_of_cell? wc _ (hfr 0 z hz)
    · obtain ⟨z, hz⟩ : ∃ z, (flatI (froms e.kind))[0]? = some z := ⟨(flatI (froms e.kind))[0]'(by simpa [flatI] using hn0), by simp [flatI]⟩
      exact World.block_lt_of_cell? wc _ (hfr 0 z hz)
  have HRd := Lib.hid hRd
  have hfl : (froms e.kind).length ≤ 1000000 := by
    unfold froms
    repeat' split
    all_goals simp
  have hdec : decide (s.stand ∈ froms e.kind) = true := by simpa using HFR.out
  have HFr := Lib.hid hfr
  have HFl := Lib.hid hfl
  have hvd : d.ownBlock ≠ some p := fun h => by
    have := HA3.out.k4 i p HP.out
    have := HA3.out.k5 i d p HD.out h
    omega
  have hBc : B ≤ wc.heap.size := Nat.le_trans hB hkW3.out.size
  have hS8 : ∀ x ∈ ([] : List Nat), ∀ z, wc.cell? ⟨x, 0, none⟩ ≠ some (.int .i64 z) := by simp
  obtain ⟨fn, caps, rfl, hcf, _⟩ := do_any (w := wc) hdo hS hO HM.out hvd (by omega) hBc
  have hcall : ∀ N, Calls Tryz.prog fn (#[.pointer (some ⟨p, 0, none⟩), evV e.f, .int .i64 n] ++ caps) (wc.drewN N) fun r w' => r = .returned .nilIface ∧
        (∃ d', IsSt w' p s'.t d' s'.stand ∧ OwnD w' B d' s'.t.deeds ∧ ∀ g, d'.ownBlock = some g → d.ownBlock = some g ∨ wc.heap.size ≤ g) ∧ Kp (p :: d.ownBlock.toList) wc w' := fun N => by
    obtain ⟨fn2, caps2, h2, _, hc⟩ := do_any (w := wc.drewN N) (hdo.kp' ((Kp.refl _ _).drewN N) hS8) (hS.kp ((Kp.refl [] _).drewN N) (by simp)) (own_kp hO ((Kp.refl [] _).drewN N) (by simp)) HM.out hvd (by omega) hBc
    simp only [Value.func.injEq, Fn.func.injEq] at h2
    obtain ⟨rfl, -, rfl⟩ := h2
    refine hc.mono ?_
    rintro r w' ⟨h1, h3, h4⟩
    exact ⟨h1, h3, ((Kp.refl _ _).drewN N).trans h4 (fun x hx _ => hx)⟩
  unfold evV at hcall
  simp only [Ev.f] at hcall
  have HC := Lib.hid hcall
  have HSt := Lib.hid hS
  have HOd := Lib.hid hO
  clear hkc hRd hfl hfr hdo hS hO hcall HMY hq1 hS8
  go_wp2_with fail
  go_quiet (first | (go_at_call 103; refine Calls.quiet_of_same (contains_any (froms e.kind) s.stand _ _ _ (HRd.out _) HFl.out)))
  go_upto_region 27 with fail
  go_cut [9] (fun s9 wx => s9 = .nilIface ∧ Kp (p :: d.ownBlock.toList) wc wx ∧ ∃ d2, IsSt wx p s'.t d2 s'.stand ∧ OwnD wx B d2 s'.t.deeds ∧ ∀ g, d2.ownBlock = some g → d.ownBlock = some g ∨ wc.heap.size ≤ g)
  case first =>
    go_region_with (first | ((with_reducible refine (HC.out _).mono ?_); rintro r w2 ⟨rfl, hq, hk2⟩; have HQ := Lib.hid hq; have HK2 := Lib.hid hk2; clear hq hk2))
    all_goals go_wp2_with fail
    all_goals go_meet
    all_goals exact ⟨rfl, HK2.out, HQ.out⟩
  case rest =>
  obtain ⟨rfl, hkd, d2, hS2, hO2, hd2⟩ := hcut
  have hA3 := HA3.out
  have hcd : ∀ x, ρ x = 0 ∨ ρ x = 2 → x ∉ p :: d.ownBlock.toList := fun x hx h => by
    simp at h
    rcases h with rfl | h
    · have := hA3.k4 i x HP.out; omega
    · have := hA3.k5 i d x HD.out h; omega
  have hnba : ba ∉ p :: d.ownBlock.toList := hcd ba (.inl hA3.k0)
  have hnrz : rz ∉ p :: d.ownBlock.toList := hcd rz (.inr hA3.k2)
  have c4 := (hkd.cellAt hA3.c4 hnba).1
  have c0 := (hkd.cellAt hA3.c0 hnba).1
  have c22 := (hkd.cellAt hA3.c2 hnba).1
  have c3 := (hkd.cellAt hA3.c3 hnba).1
  replace d1 := (hkd.cellAt d1 hnba).1
  obtain ⟨lba3, _, ff3⟩ := hkd.blk ba lba2 hnba
  have hfz3 : ∀ j, wc.frozen? ⟨ba, j, none⟩ = false := fun j => (ff3 j).trans (hA3.fz j)
  have hmz := (hkd.imapAt (hkW3.out.imapAt HM2.out (by simp)).1 hnrz).1
  have hlz := imap_lt hmz
  have s7' : wc.cell? ⟨p, 7, none⟩ = some (.int .i64 s'.stand) := hS2.c 7 (by decide)
  obtain ⟨ms1, ms2, ms3, ms4⟩ := move_same HM.out
  have s1' : wc.cell? ⟨p, 1, none⟩ = some (.int .i64 s.t.thread) := by rw [← ms2]; exact hS2.c 1 (by decide)
  have hpl2 := hS2.lt
  have hdel : ∀ (W : World) (ty : TypeId), W.imap? rz = some (m2, c2) → (Builtin.delete_ #[tBy, 3] ty #[.map (some rz), .int .i64 s.t.thread]).run Tryz.prog W = .ok (.tuple #[]) (W.setIM rz (del s.t.thread m2) c2) := fun W ty hW => by
    have := run_delete_im (P := Tryz.prog) (w := W) (r := rz) (k := s.t.thread) (T := tBy) Tryz.underlying114 Tryz.underlying3 (by rw [hW]; rfl) #[tBy, 3] rfl ty
    rw [this, (imapL_eq hW).1, (imapL_eq hW).2]
  have HS2 := Lib.hid hS2
  have HO2 := Lib.hid hO2
  have HKD := Lib.hid hkd
  have HD2 := Lib.hid hd2
  have HHA := Lib.hid hA3
  have HMZ := Lib.hid hmz
  clear hkd hS2 hO2 hd2 hA3 hcd g0 g1 g2 g3 g4 g5 g6 g7 hm0 hm1 s7 lb2 lba2 hpl ff3
  go_upto_if 151 with fail
  go_cut [] (fun wx => ∃ mz, mz = (if s'.stand = 5 then del s.t.thread m2 else m2) ∧ wx.imap? rz = some (mz, c2) ∧ Kp [rz] wc wx)
  case first =>
    by_cases h5 : s'.stand = 5
    · have h5b : (s'.stand == 5) = true := by simpa using h5
      have H5 := Lib.hid h5
      clear h5
      go_wp2_with fail
      go_region
      all_goals go_wp2_with fail
      all_goals go_meet
      all_goals exact ⟨_, by rw [if_pos H5.out], by simp [go_sem, hmz], by repeat (first | exact Kp.refl _ _ | refine Kp.drew ?_ | refine Kp.setIM ?_ _ _ _ (fun _ => by simp))⟩
    · have h5b : (s'.stand == 5) = false := by simpa using h5
      have H5 := Lib.hid h5
      clear h5
      go_wp2_with fail
      go_meet
      exact ⟨m2, by rw [if_neg H5.out], hmz, Kp.refl _ _⟩
  case rest =>
  obtain ⟨mz, hmze, hz, hkz⟩ := hcut
  have hbz : ba ∉ [rz] := fun h => by
    simp at h
    have := HHA.out.k0
    have := HHA.out.k2
    rw [h] at *; omega
  replace d1 := (hkz.cellAt d1 hbz).1
  replace c0 := (hkz.cellAt c0 hbz).1
  replace c22 := (hkz.cellAt c22 hbz).1
  replace c3 := (hkz.cellAt c3 hbz).1
  replace c4 := (hkz.cellAt c4 hbz).1
  obtain ⟨lba4, _, ff4⟩ := hkz.blk ba lba3 hbz
  have hfz4 : ∀ j, wc.frozen? ⟨ba, j, none⟩ = false := fun j => (ff4 j).trans (hfz3 j)
  have HKZ := Lib.hid hkz
  clear hkz hdel hmz s7' s1' hfz3 ff4
  go_wp2
  go_ret
  have hA := HHA.out
  have q0 := hA.k0
  have q2 := hA.k2
  have qp := hA.k4 i p HP.out
  have hdg : ∀ g, d2.ownBlock = some g → g ≠ ba ∧ g ≠ rz := fun g hg => by
    have t1 := imap_lt ((hkW3.out.imapAt HM2.out (by simp)).1)
    have t2 := hA.lt
    rcases HD2.out g hg with h | h
    · have := hA.k5 i d g HD.out h
      constructor
      · intro e0; subst e0; omega
      · intro e0; subst e0; omega
    · constructor
      · intro e0; subst e0; omega
      · intro e0; subst e0; omega
  have hpb : p ≠ ba := fun e0 => by subst e0; omega
  have hpz : p ≠ rz := fun e0 => by subst e0; omega
  have hbz' : ba ≠ rz := fun e0 => by subst e0; omega
  have hk1 : Kp (ba :: rz :: p :: d.ownBlock.toList) w wc := ((hkW3.out.mono (T := ba :: rz :: p :: d.ownBlock.toList) (fun x hx _ => by simp at hx)).trans (HKD.out.mono (T := ba :: rz :: p :: d.ownBlock.toList) (fun x hx _ => by simp at hx; simp [hx])) (fun x hx _ => hx)).trans (HKZ.out.mono (T := ba :: rz :: p :: d.ownBlock.toList) (fun x hx _ => by simp at hx; simp [hx])) (fun x hx _ => hx)
  have hk2 := hk1.setCell ⟨ba, 1, none⟩ (.int .i64 ((n : Int) + 1)) (fun _ => by simp)
  have hkb : Kp [ba] wc (wc.setCell ⟨ba, 1, none⟩ (.int .i64 ((n : Int) + 1))) := (Kp.refl _ _).setCell _ _ (fun _ => by simp)
  refine ⟨ret_congr rfl, ⟨_, _, HA.out.moved i s s' p d d2 m2 c2 HS.out HP.out HD.out ms1 ms2 HS5.out ms3 (by omega) hk2 (fun g hg => (HD2.out g hg).imp (fun h => h) (fun h => Nat.le_trans hkW3.out.size h)) ((HS2.out.kp HKZ.out (by simpa using hpz)).kp hkb (by simpa using hpb))
    (own_kp (own_kp HO2.out HKZ.out (fun g hg => by simpa using (hdg g hg).2)) hkb (fun g hg => by simpa using (hdg g hg).1)) ?_ ?_ ?_ ?_ ?_ ?_ HM2.out ?_⟩, ⟨_, hk2, ?_⟩⟩
  · intro j; simp [go_sem, hfz4]
  · simp [go_sem, c0]
  · rw [World.cell?_setCell_same' _ _ _ (by rw [d1]; rfl)]; simp
  · simp [go_sem, c22]
  · simp [go_sem, c3]
  · simp [go_sem, c4]
  · rw [imap?_setCell, hz, hmze]
  · intro x hx
    simp at hx
    have q := HA.out.base
    rcases hx with rfl | rfl | rfl | hx
    · exact q.1
    · exact q.2.2
    · exact hBp
    · exact ((HA.out.st i s p d HS.out HP.out HD.out).2.1.lt x hx).1
end Go.Proofs.YtbogjkggfdhckaaGreatDoor

/-
  shape: Feed, where the plain automaton goes on; taken.
-/
namespace Go.Proofs.YtbogjkggfdhckaaGreatDoor
open Go.RowKit Go.Um

theorem feed_ok (E : Nat → Addr) (ba B : Nat) (objs : List Ob) (vo : Value) (l l' : List St) (n : Nat) (vt : Value) (ry rz : Nat) (ps : List Nat) (ds : List Value) (ρ : Nat → Nat) (e : Ev) (w : World)
    (hG : Gl E w) (hA : AutoAt w ba B objs vo l n vt ry rz ps ds ρ) (hn : n < 400) (hf : feed objs l n e = .ok l') (h64 : Ev64 e) (hB : B ≤ w.heap.size) :
    Calls Tryz.prog 67 #[.pointer (some ⟨ba, 0, none⟩), evV e.f] w fun r w' => r = .returned .nilIface ∧
      (∃ vt' ps' ds' ρ', AutoAt w' ba B objs vo l' (n + 1) vt' ry rz ps' ds' ρ') ∧ ∃ S, Kp S w w' ∧ ∀ x ∈ S, B ≤ x := by
  unfold feed at hf
  rw [if_neg (by omega)] at hf
  cases hev : evFault objs e with
  | some g => rw [hev] at hf; cases hf
  | none =>
    rw [hev] at hf
    simp only at hf
    by_cases hk : e.kind = 1
    · rw [if_pos hk] at hf
      split at hf
      · cases hf
      · rename_i h1
        split at hf
        · cases hf
        · rename_i h2
          cases hf
          exact feed_begin E ba B objs vo l n vt ry rz ps ds ρ e w hG hA hn hk hev (by simpa using h1) (by simpa using h2) h64 hB
    · rw [if_neg hk] at hf
      cases hi : l.findIdx? (St.has e.tx) with
      | none => rw [hi] at hf; cases hf
      | some i =>
        rw [hi] at hf
        simp only at hf
        cases hs : l[i]? with
        | none => rw [hs] at hf; cases hf
        | some s =>
          rw [hs] at hf
          simp only at hf
          split at hf
          · rename_i hfr
            cases hm : move s e n with
            | none => rw [hm] at hf; cases hf
            | some s' =>
              rw [hm] at hf
              cases hf
              refine (feed_move E ba B objs vo l n vt ry rz ps ds ρ e i s s' w hG hA hn hk hev hi hs hfr hm h64 hB).mono ?_
              rintro r w' ⟨h1, ⟨ds', ρ', h2⟩, h3⟩
              exact ⟨h1, ⟨_, _, _, _, h2⟩, h3⟩
          · cases hf
theorem Fed.chain {objs : List Ob} {evs : List Ev} {l : List St} (h : Fed objs evs l) : ∃ ls : Nat → List St, ls 0 = [] ∧ ls evs.length = l ∧ ∀ (k : Nat) e, evs[k]? = some e → feed objs (ls k) k e = .ok (ls (k + 1)) := by
  induction h with
  | nil => exact ⟨fun _ => [], rfl, rfl, by simp⟩
  | @snoc evs l l' e _ hf ih =>
    obtain ⟨ls, h0, hl, hs⟩ := ih
    refine ⟨fun k => if k ≤ evs.length then ls k else l', by simp [h0], by rw [List.length_append, List.length_singleton]; dsimp only; rw [if_neg (by omega)], ?_⟩
    intro k x hk
    by_cases hkl : k < evs.length
    · rw [List.getElem?_append_left hkl] at hk
      have h1 : k ≤ evs.length := by omega
      have h2 : k + 1 ≤ evs.length := by omega
      simp only [h1, h2, if_true]
      exact hs k x hk
    · have : k = evs.length := by have := (List.getElem?_eq_some_iff.1 hk).1; simp at this; omega
      subst this
      simp at hk; subst hk
      dsimp only
      rw [if_pos (Nat.le_refl _), if_neg (by omega), hl]
      exact hf

set_option maxRecDepth 100000 in
set_option maxHeartbeats 2000000 in
theorem taken_ok (E : Nat → Addr) (objs : List Ob) (evs : List Ev) (l : List St) (vo ve : Value) (B : Nat) (w : World) (hG : Gl E w) (ho : Rd w B vo objs.length (flatO objs)) (he : Rd w B ve evs.length (flatE evs)) (hn : 0 < objs.length) (hr : histRes objs evs = none) (hr0 : histRes objs [] = none) (h64o : Obs64 objs) (h64e : Evs64 evs) (hB : B ≤ w.heap.size) (hf : Fed objs evs l) :
    Calls Tryz.prog 45 #[.agg #[vo, ve]] w fun r w' => (∃ ba B' vo' vt ry rz ps ds ρ, r = .returned (.tuple #[.pointer (some ⟨ba, 0, none⟩), .nilIface]) ∧ w.heap.size ≤ B' ∧ AutoAt w' ba B' objs vo' l evs.length vt ry rz ps ds ρ) ∧ Kp [] w w' := by
  have hlen : evs.length ≤ 400 := by
    unfold histRes at hr
    split at hr
    · cases hr
    · omega
  have HG := Lib.hid hG
  have HO := Lib.hid ho
  have HE := Lib.hid he
  have HR := Lib.hid hr
  have HR0 := Lib.hid hr0
  have H6o := Lib.hid h64o
  have H6e := Lib.hid h64e
  have HF := Lib.hid hf.chain
  obtain ⟨ao, co, rfl, _⟩ := ho
  obtain ⟨ae, ce, rfl, hce⟩ := he
  have HCE := Lib.hid hce
  clear hG hr hr0 h64o h64e hf hce
  go_enter Tryz.func45, Tryz.ntmps45
  go_wp2_with (first
    | (go_at_call 65; refine (histValid_ok E objs evs _ _ B _ (HG.out.kp0 ((Kp.refl _ _).alloc _)) (HO.out.kp (S := []) ((Kp.refl _ _).alloc _) (by simp)) (HE.out.kp (S := []) ((Kp.refl _ _).alloc _) (by simp)) HR.out H6o.out H6e.out (by simp; omega)).mono ?_; rintro e1 w1 ⟨rfl, hk1⟩; obtain ⟨lb, cb, fb⟩ := hk1.blk w.heap.size (by simp) (by simp); have hk0 := ((Kp.refl [] w).alloc _).trans hk1 (by simp))
    | (go_at_call 66; refine (new_any E objs _ B _ (HG.out.kp0 hk0) (HO.out.kp hk0 (by simp)) hn HR0.out H6o.out (Nat.le_trans hB hk0.size)).mono ?_; rintro e2 w2 ⟨⟨ba, vo', ry, rz, ρ, rfl, hA⟩, hk2⟩; have hk02 := hk0.trans hk2 (by simp); obtain ⟨lb2, cb2, fb2⟩ := hk2.blk w.heap.size lb (by simp); have HA := Lib.hid hA; clear hA))
  obtain ⟨ls, hs0, hsl, hss⟩ := HF.out
  have HSS := Lib.hid hss
  have HK02 := Lib.hid hk02
  have HS1 := Lib.hid hk0.size
  have HS12 := Lib.hid hk2.size
  have HSL := Lib.hid hsl
  rw [← hs0] at HA
  clear hss hk02 hk0 hk1 hk2 hsl hs0 cb2 cb fb2 fb lb lb2
  go_loopw [27] (fun i wr => ∃ k : Nat, k ≤ evs.length ∧ i = .int .i64 k ∧ Kp [] w wr ∧ w1.heap.size ≤ wr.heap.size ∧ ∃ vt ps ds ρ, AutoAt wr ba w1.heap.size objs vo' (ls k) k vt ry rz ps ds ρ) (fun i _ => evs.length + 1 - (intOf i).toNat)
  case atStart => exact ⟨0, by omega, rfl, HK02.out, HS12.out, _, _, _, _, HA.out⟩
  case round =>
    obtain ⟨k, hk, rfl, hkr, hsz, vt, ps, ds, ρ2, hA⟩ := hrel
    by_cases hlt : k < evs.length
    · obtain ⟨e, he⟩ : ∃ e, evs[k]? = some e := ⟨evs[k], by simp [hlt]⟩
      obtain ⟨b, o, rfl, hb, hbl, hc⟩ := HCE.out (by omega)
      have q : ∀ j, j < 8 → wr.cell? ⟨b, o + k * 8 + j, none⟩ = (Ev.cells e)[j]? := fun j hj => (hkr.cell hbl (by simp)).trans (Rd.at (c := Ev.cells) (sz := 8) (fun _ => rfl) hc he j hj)
      have q0 := q 0 (by decide)
      have q1 := q 1 (by decide)
      have q2 := q 2 (by decide)
      have q3 := q 3 (by decide)
      have q4 := q 4 (by decide)
      have q5 := q 5 (by decide)
      have q6 := q 6 (by decide)
      have q7 := q 7 (by decide)
      simp [Ev.cells] at q0 q1 q2 q3 q4 q5 q6 q7
      have hbr : b < wr.heap.size := Nat.lt_of_lt_of_le hbl hkr.size
      have hfd : ∀ W, Kp [] wr W → _ := fun W hW => feed_ok E ba _ objs vo' _ _ k _ _ _ _ _ _ e W (HG.out.kp0 (hkr.trans hW (by simp))) (hA.kp0 hW) (by omega) (HSS.out k e he) (H6e.out e (List.mem_of_getElem? he)) (Nat.le_trans hsz hW.size)
      unfold evV at hfd
      simp only [Ev.f] at hfd
      have HFD := Lib.hid hfd
      have HKR := Lib.hid hkr
      clear hfd hkr hA hc he q
      go_wp2_with (go_at_call 67; refine (HFD.out _ ((Kp.refl _ _).alloc _)).mono ?_; rintro e3 w3 ⟨rfl, hq, S, hS, hSB⟩; have HQ := Lib.hid hq; have HS := Lib.hid hS; have HSB := Lib.hid hSB; clear hq hS hSB)
      go_roundw
      case rel =>
        have h1 : Kp [] w w3 := (HKR.out.alloc _).trans HS.out (fun x hx hl => by have := HSB.out x hx; have := HS1.out; omega)
        exact ⟨k + 1, by omega, by go_num, h1, Nat.le_trans hsz (by have := HS.out.size; simp at this; omega), HQ.out⟩
      case measure => simp [intOf]; omega
    · have hkl : k = evs.length := by omega
      subst hkl
      have HKR := Lib.hid hkr
      have HAA := Lib.hid hA
      clear hkr hA
      go_wp2
      refine bodyPost_ret (v := .tuple #[.pointer (some ⟨ba, 0, none⟩), .nilIface]) ?_ rfl ?_
      · simp [results, Tryz.results45, go_sem]
      · exact ⟨⟨ba, w1.heap.size, vo', vt, ry, rz, ps, ds, ρ2, rfl, HS1.out, by rw [← HSL.out]; exact HAA.out⟩, HKR.out⟩
end Go.Proofs.YtbogjkggfdhckaaGreatDoor

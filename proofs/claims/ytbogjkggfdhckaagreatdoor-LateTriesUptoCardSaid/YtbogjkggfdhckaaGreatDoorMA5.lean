/-
  Lemmas on the way to Rr1: Ev7, Ev8.
-/
import Derived.Test.YtbogjkggfdhckaaGreatDoorMA4
import Derived.Test.YtbogjkggfdhckaaGreatDoorMA3
import Derived.Test.YtbogjkggfdhckaaGreatDoorMA2
/-
  event: Valid.
-/
namespace Go.Proofs.YtbogjkggfdhckaaGreatDoor
open Go.RowKit Go.Um

def callFs (e : Nat → Int) : List FS := [fTx, fObj, fOp] ++ (if keyed (e 4) then [fKey] else []) ++ (if valued (e 4) then [fVal] else [])
def retFs (e : Nat → Int) : List FS := if e 7 = 3 then [fTx, fRet, fVal] else [fTx, fRet]
def evFs (e : Nat → Int) : List FS := if e 0 = 1 then [fTx, fThread] else if e 0 = 2 then callFs e else if e 0 = 3 then retFs e else [fTx]
def kindOk (e : Nat → Int) : Bool := decide (1 ≤ e 0) && decide (e 0 ≤ 7) && (e 0 != 2 || opKind (e 4) != 0) && (e 0 != 3 || (decide (1 ≤ e 7) && decide (e 7 ≤ 3)))
def inB (e : Nat → Int) (f : FS) : Bool := decide (f.mn ≤ e f.ix) && decide (e f.ix ≤ f.mx)
/-- What is left of an event without its kind and these fields. -/
def rest (L : List FS) (e : Nat → Int) (j : Nat) : Int := if j == 0 || L.any (fun f => f.ix == j) then 0 else e j
def evOk (e : Nat → Int) : Bool := kindOk e && (evFs e).all (inB e) && [0, 1, 2, 3, 4, 5, 6, 7].all (fun j => rest (evFs e) e j == 0)
def evRes (E : Nat → Addr) (e : Nat → Int) : Value := if kindOk e then (if evOk e then .nilIface else errV E 8) else errV E 7

/-- What next tells. -/
theorem next_of {w : World} {v : Value} {e : Nat → Int} (h : ClOk w (e 0) v) : ∃ fn b, v = .func (.func fn) #[] #[.pointer (some ⟨b, 0, none⟩)] ∧ (fn = 144 ∨ fn = 147 ∨ fn = 154) ∧
    (∀ W, Kp [] w W → ∀ (i : Nat) (f : FS), (evFs e)[i]? = some f → Calls Tryz.prog fn #[evV e, .int .i64 i, .pointer (some ⟨b, 0, none⟩)] W fun r w' => r = .returned (.tuple #[f.v, .bool true]) ∧ Kp [] W w') ∧
    (∀ W, Kp [] w W → ∀ (i : Nat), (evFs e).length ≤ i → Calls Tryz.prog fn #[evV e, .int .i64 i, .pointer (some ⟨b, 0, none⟩)] W fun r w' => r = .returned (.tuple #[zeroF, .bool false]) ∧ Kp [] W w') := by
  obtain ⟨fn, b, v1, rfl, hb, hr⟩ := h
  refine ⟨fn, b, rfl, ?_⟩
  rcases hr with ⟨h0, rfl, hfs⟩ | ⟨h0, h0', rfl, hfs⟩ | ⟨h0, rfl, rfl⟩ | ⟨h0, rfl, rfl⟩
  · have hL : evFs e = [fTx, fThread] := by simp [evFs, h0]
    rw [hL]
    exact ⟨.inl rfl, fun W hW i f hf => next144_yes b v1 _ e i f W (hW.cellAt hb (by simp)).1 (hfs.kp hW) hf, fun W hW i hi => next144_no b v1 _ e i W (hW.cellAt hb (by simp)).1 (hfs.kp hW) hi⟩
  · have hL : evFs e = [fTx] := by simp only [evFs]; rw [if_neg (by omega), if_neg (by omega), if_neg (by omega)]
    rw [hL]
    exact ⟨.inl rfl, fun W hW i f hf => next144_yes b v1 _ e i f W (hW.cellAt hb (by simp)).1 (hfs.kp hW) hf, fun W hW i hi => next144_no b v1 _ e i W (hW.cellAt hb (by simp)).1 (hfs.kp hW) hi⟩
  · have hL : evFs e = callFs e := by simp [evFs, h0]
    rw [hL]
    refine ⟨.inr (.inl rfl), fun W hW i f hf => ?_, fun W hW i hi => ?_⟩
    · have hb' := (hW.cellAt hb (by simp)).1
      unfold callFs at hf
      cases hky : keyed (e 4) <;> cases hvl : valued (e 4) <;> simp only [hky, hvl, if_true, if_false, Bool.false_eq_true, List.append_nil, List.cons_append, List.nil_append] at hf
      · exact next147_yes b e i W hb' hky hvl f hf
      · exact next147v_yes b e i W hb' hky hvl f hf
      · exact next147k_yes b e i W hb' hky hvl f hf
      · exact next147kv_yes b e i W hb' hky hvl f hf
    · have hb' := (hW.cellAt hb (by simp)).1
      unfold callFs at hi
      cases hky : keyed (e 4) <;> cases hvl : valued (e 4) <;> simp only [hky, hvl, if_true, if_false, Bool.false_eq_true, List.append_nil, List.cons_append, List.nil_append] at hi
      · exact next147_no b e i W hb' hky hvl hi
      · exact next147v_no b e i W hb' hky hvl hi
      · exact next147k_no b e i W hb' hky hvl hi
      · exact next147kv_no b e i W hb' hky hvl hi
  · have hL : evFs e = retFs e := by simp [evFs, h0]
    rw [hL]
    refine ⟨.inr (.inr rfl), fun W hW i f hf => ?_, fun W hW i hi => ?_⟩
    · have hb' := (hW.cellAt hb (by simp)).1
      unfold retFs at hf
      by_cases h7 : e 7 = 3
      · rw [if_pos h7] at hf; exact next154v_yes b e i W hb' h7 f hf
      · rw [if_neg h7] at hf; exact next154_yes b e i W hb' h7 f hf
    · have hb' := (hW.cellAt hb (by simp)).1
      unfold retFs at hi
      by_cases h7 : e 7 = 3
      · rw [if_pos h7] at hi; exact next154v_no b e i W hb' h7 hi
      · rw [if_neg h7] at hi; exact next154_no b e i W hb' h7 hi

theorem evFs_seven (e : Nat → Int) (i : Nat) (f : FS) (h : (evFs e)[i]? = some f) : f = fTx ∨ f = fThread ∨ f = fObj ∨ f = fOp ∨ f = fKey ∨ f = fVal ∨ f = fRet := by
  have hm := List.mem_of_getElem? h
  simp only [evFs, callFs, retFs] at hm
  split at hm
  · simp at hm; rcases hm with h | h <;> simp [h]
  · split at hm
    · split at hm <;> split at hm <;> simp at hm <;> rcases hm with h | h | h | h | h <;> simp [h]
    · split at hm
      · split at hm <;> simp at hm <;> rcases hm with h | h | h <;> simp [h]
      · simp at hm; simp [hm]

/-- A look at the map. -/
theorem FMap.look {w : World} {r : Nat} {ks : List Int} (h : FMap w r ks) (k : Int) : ∃ v, (Instr.lookup 179 (.map (some r)) (.int .i64 k) false).run Tryz.prog w = .ok v w ∧ ((k ∈ ks ∧ ClOk w k v) ∨ (k ∉ ks ∧ v = .nilFunc)) := by
  obtain ⟨l, c, h1, h2, h3⟩ := h
  refine ⟨_, run_lookup_im Tryz.underlying179 Tryz.underlying3 Tryz.zeroValue178 (by rw [h1]; rfl) false, ?_⟩
  rw [(imapL_eq h1).1]
  subst h2
  clear h1
  induction l with
  | nil => right; simp [lk]
  | cons x l ih =>
    by_cases hk : k = x.key
    · left
      subst hk
      exact ⟨by simp, by simpa [lk] using h3 x (by simp)⟩
    · have ih := ih (fun e he => h3 e (by simp [he]))
      simp only [lk, hk, if_false]
      rcases ih with ⟨a, b⟩ | ⟨a, b⟩
      · exact .inl ⟨by simp [a], b⟩
      · exact .inr ⟨by simp only [List.map_cons, List.mem_cons, not_or]; exact ⟨hk, a⟩, b⟩

theorem eql_fn_nil (w : World) : (binOp .eql 178 .nilFunc .nilFunc).run Tryz.prog w = .ok (.bool true) w := by kernel_rfl
theorem eql_fn_some (f : Fn) (a c : Array Value) (w : World) : (binOp .eql 178 (.func f a c) .nilFunc).run Tryz.prog w = .ok (.bool false) w := by kernel_rfl
attribute [local go_sem] eql_fn_nil eql_fn_some
set_option maxRecDepth 100000 in
set_option maxHeartbeats 2000000 in
theorem valid_nokind (E : Nat → Addr) (e : Nat → Int) (w : World) (hG : Gl E w) (hk : ¬ (1 ≤ e 0 ∧ e 0 ≤ 7)) :
    Calls Tryz.prog 99 #[evV e] w fun r w' => r = .returned (errV E 7) ∧ Kp [] w w' := by
  have hcd := hG.code
  have hbl := hG.sz
  have hol : 7 < w.heap.size := by omega
  unfold errV at hcd ⊢
  unfold evV
  have HK := Lib.hid hk
  clear hk hG
  go_enter Tryz.func99, Tryz.ntmps99
  go_wp2
  go_region_with (go_at_call 123; refine (fields_any _).mono ?_; rintro e1 w1 ⟨⟨r, rfl, hr, hF⟩, hK⟩; obtain ⟨l1, c1, f1⟩ := hK.blk w.heap.size (by simp) (by simp); obtain ⟨l2, c2, f2⟩ := hK.blk 7 (by simp; omega) (by simp); obtain ⟨v, hlk, hv⟩ := hF.look (e 0); obtain rfl : v = .nilFunc := (by rcases hv with ⟨hv, _⟩ | ⟨_, hv⟩; exfalso; have := HK.out; simp [fieldKeys] at hv; omega; exact hv); have hK' := ((Kp.refl [] w).alloc _).drew.trans hK (by simp); clear hv hF)
  all_goals go_wp2
  all_goals go_ret
  all_goals exact ⟨rfl, hK'⟩

theorem evFs_len (e : Nat → Int) : (evFs e).length ≤ 5 := by
  simp only [evFs, callFs, retFs]
  split
  · simp
  · split
    · split <;> split <;> simp
    · split
      · split <;> simp
      · simp
theorem rest_snoc (L : List FS) (f : FS) (e : Nat → Int) (j : Nat) : rest (L ++ [f]) e j = if j = f.ix then 0 else rest L e j := by
  simp only [rest, List.any_append, List.any_cons, List.any_nil, Bool.or_false]
  by_cases h : j = f.ix
  · subst h; simp
  · have : (f.ix == j) = false := by simpa using fun h' => h h'.symm
    simp [h, this]
theorem seven_ix {f : FS} (h : f = fTx ∨ f = fThread ∨ f = fObj ∨ f = fOp ∨ f = fKey ∨ f = fVal ∨ f = fRet) : 1 ≤ f.ix ∧ f.ix ≤ 7 := by
  rcases h with rfl | rfl | rfl | rfl | rfl | rfl | rfl <;> decide
theorem take_snoc' (L : List FS) (k : Nat) (f : FS) (h : L[k]? = some f) : L.take (k + 1) = L.take k ++ [f] := by
  rw [List.take_add_one, h]; rfl
theorem cf_next (fn : Nat) (h : fn = 144 ∨ fn = 147 ∨ fn = 154) (args : Array Value) (w : World) : (callFunc fn args).run Tryz.prog w = .ok (.enter fn args) w := by
  rcases h with rfl | rfl | rfl
  · exact cf_of Tryz.func144 (by kernel_rfl) rfl args w
  · exact cf_of Tryz.func147 (by kernel_rfl) rfl args w
  · exact cf_of Tryz.func154 (by kernel_rfl) rfl args w
theorem cf_get (ix : Nat) (h : 1 ≤ ix ∧ ix ≤ 7) (args : Array Value) (w : World) : (callFunc (gfn ix) args).run Tryz.prog w = .ok (.enter (gfn ix) args) w := by
  obtain ⟨h1, h2⟩ := h
  exact match ix, h1, h2 with
  | 1, _, _ => cf_of Tryz.func183 (by kernel_rfl) rfl args w
  | 2, _, _ => cf_of Tryz.func184 (by kernel_rfl) rfl args w
  | 3, _, _ => cf_of Tryz.func185 (by kernel_rfl) rfl args w
  | 4, _, _ => cf_of Tryz.func186 (by kernel_rfl) rfl args w
  | 5, _, _ => cf_of Tryz.func187 (by kernel_rfl) rfl args w
  | 6, _, _ => cf_of Tryz.func188 (by kernel_rfl) rfl args w
  | 7, _, _ => cf_of Tryz.func189 (by kernel_rfl) rfl args w
theorem get_any (ix : Nat) (h : 1 ≤ ix ∧ ix ≤ 7) (b : Nat) (w : World) : Calls Tryz.prog (gfn ix) #[.pointer (some ⟨b, 0, none⟩)] w fun e w' => e = .returned (.pointer (some ⟨b, ix, none⟩)) ∧ w = w' := by
  obtain ⟨h1, h2⟩ := h
  match ix, h1, h2 with
  | 1, _, _ => (unfold gfn; go_enter Tryz.func183, Tryz.ntmps183; go_wp2; go_ret; exact ⟨rfl, rfl⟩)
  | 2, _, _ => (unfold gfn; go_enter Tryz.func184, Tryz.ntmps184; go_wp2; go_ret; exact ⟨rfl, rfl⟩)
  | 3, _, _ => (unfold gfn; go_enter Tryz.func185, Tryz.ntmps185; go_wp2; go_ret; exact ⟨rfl, rfl⟩)
  | 4, _, _ => (unfold gfn; go_enter Tryz.func186, Tryz.ntmps186; go_wp2; go_ret; exact ⟨rfl, rfl⟩)
  | 5, _, _ => (unfold gfn; go_enter Tryz.func187, Tryz.ntmps187; go_wp2; go_ret; exact ⟨rfl, rfl⟩)
  | 6, _, _ => (unfold gfn; go_enter Tryz.func188, Tryz.ntmps188; go_wp2; go_ret; exact ⟨rfl, rfl⟩)
  | 7, _, _ => (unfold gfn; go_enter Tryz.func189, Tryz.ntmps189; go_wp2; go_ret; exact ⟨rfl, rfl⟩)


set_option maxRecDepth 100000 in
set_option maxHeartbeats 20000000 in
theorem valid_call (E : Nat → Addr) (e : Nat → Int) (w : World) (hG : Gl E w) (hk : kindOk e = true) (h2 : e 0 = 2) :
    Calls Tryz.prog 99 #[evV e] w fun r w' => r = .returned (if evOk e then .nilIface else errV E 8) ∧ Kp [] w w' := by
  have hev := hG.event
  have hbl := hG.sz
  have hol : 8 < w.heap.size := by omega
  have hk' : (1 ≤ e 0 ∧ e 0 ≤ 7) ∧ (e 0 = 2 → opKind (e 4) ≠ 0) ∧ (e 0 = 3 → 1 ≤ e 7 ∧ e 7 ≤ 3) := by
    simp only [kindOk, Bool.and_eq_true, Bool.or_eq_true, decide_eq_true_eq, bne_iff_ne] at hk
    exact ⟨⟨hk.1.1.1, hk.1.1.2⟩, fun h => hk.1.2.resolve_left (by omega), fun h => hk.2.resolve_left (by omega)⟩
  obtain ⟨hk1, hk2, hk3⟩ := hk'
  have HR := Lib.hid hG
  have H1 := Lib.hid hk1
  have H0 := Lib.hid hk
  obtain ⟨res, hres⟩ : ∃ res, res = (if evOk e then Value.nilIface else errV E 8) := ⟨_, rfl⟩
  rw [← hres]
  have HS := Lib.hid hres
  clear hk hk1 hG hres
  unfold errV at hev
  · have h2t : (e 0 == 2) = true := by simpa using h2
    have h3f : (e 0 == 3) = false := by rw [beq_eq_false_iff_ne]; omega
    have hop : (opKind (e 4) == 0) = false := by rw [beq_eq_false_iff_ne]; exact hk2 h2
    clear h2 hk2 hk3
    unfold evV
    go_enter Tryz.func99, Tryz.ntmps99
    go_wp2
    go_region_with (go_at_call 123; refine (fields_any _).mono ?_; rintro e1 w1 ⟨⟨r, rfl, hr, hF⟩, hK⟩; obtain ⟨l1, c1, f1⟩ := hK.blk w.heap.size (by simp) (by simp); obtain ⟨v, hlk, hv⟩ := hF.look (e 0); obtain ⟨fn, b, rfl, hfn, HY, HN⟩ := next_of (e := e) (by rcases hv with ⟨_, hv⟩ | ⟨hv, _⟩; exact hv; exfalso; apply hv; have := H1.out; simp [fieldKeys]; omega); have hK' := ((Kp.refl [] w).alloc _).drew.trans hK (by simp); unfold evV at HY HN; replace HY := Lib.hid HY; replace HN := Lib.hid HN; have hcf := cf_next fn hfn; clear hv hF hfn)
    all_goals go_wp2_with (go_at_call 100; refine (of_any _ _).mono ?_; rintro e1 w' ⟨rfl, rfl⟩)
    all_goals
      refine wp_gen fun W4 hW4 => ?_
      have hKW : Kp [] w W4 := by rw [hW4]; exact hK'.alloc _
      obtain ⟨b4, hb4⟩ : ∃ b, b = w1.heap.size := ⟨_, rfl⟩
      have hr4 : ∀ j, j < 8 → W4.cell? ⟨b4, j, none⟩ = some (.int .i64 (rest [] e j)) := by
        intro j hj
        rw [hW4, hb4]
        match j, hj with
        | 0, _ => simp [rest]
        | 1, _ => simp [rest]
        | 2, _ => simp [rest]
        | 3, _ => simp [rest]
        | 4, _ => simp [rest]
        | 5, _ => simp [rest]
        | 6, _ => simp [rest]
        | 7, _ => simp [rest]
      have hf4 : ∀ j, W4.frozen? ⟨b4, j, none⟩ = false := by intro j; rw [hW4, hb4]; simp
      have hl4 : b4 < W4.heap.size := by rw [hW4, hb4]; simp
      have hbw : w.heap.size < b4 := by rw [hb4]; exact l1
      have hr1 : ∀ j, j < 8 → W4.cell? ⟨w.heap.size, j, none⟩ = some (.int .i64 (e j)) := by
        intro j hj
        rw [hW4, World.cell?_alloc_past _ _ _ l1, c1]
        match j, hj with
        | 0, _ => simp
        | 1, _ => simp
        | 2, _ => simp
        | 3, _ => simp
        | 4, _ => simp
        | 5, _ => simp
        | 6, _ => simp
        | 7, _ => simp
      have hKn : Kp [] w1 W4 := by rw [hW4]; exact (Kp.refl [] w1).alloc _
      rw [← hb4]
      have hb4w : w1.heap.size ≤ b4 := by omega
      have hL5 := evFs_len e
      clear hW4 hb4 hK' hK hr l1 c1 f1
      go_loopw [5] (fun i wr => ∃ k : Nat, k ≤ (evFs e).length ∧ i = .int .i64 k ∧ Kp [b4] W4 wr ∧ (∀ j, j < 8 → wr.cell? ⟨b4, j, none⟩ = some (.int .i64 (rest ((evFs e).take k) e j))) ∧ (∀ j, wr.frozen? ⟨b4, j, none⟩ = false) ∧ (∀ f ∈ (evFs e).take k, inB e f = true)) (fun i _ => (evFs e).length + 1 - (intOf i).toNat)
      case atStart => exact ⟨0, by omega, rfl, Kp.refl _ _, hr4, hf4, by simp⟩
      case round =>
        obtain ⟨k, hk, rfl, hkr, hrest, hfz, hin⟩ := hrel
        obtain ⟨lb, cb, fb⟩ := hkr.blk w.heap.size (by omega) (by simp; omega)
        have lb4 : b4 < wr.heap.size := Nat.lt_of_lt_of_le hl4 hkr.size
        obtain ⟨lE, cE, _⟩ := (hKW.trans hkr (T := [b4]) (S := []) (fun x hx hl => by simp at hx; omega)).blk 8 hol (by simp)
        have hw1r : Kp [] w1 wr := hKn.trans hkr (fun x hx hl => by simp at hx; omega)
        have hwr : Kp [] w wr := hKW.trans hkr (fun x hx hl => by simp at hx; omega)
        have HC := Lib.hid (show ∀ j, j < 8 → wr.cell? ⟨w.heap.size, j, none⟩ = some (.int .i64 (e j)) from fun j hj => (cb j).trans (hr1 j hj))
        have HT := Lib.hid hrest
        have HI := Lib.hid hin
        have HW1 := Lib.hid hw1r
        have HWR := Lib.hid hwr
        have HKR := Lib.hid hkr
        have e0 := HC.out 0 (by decide)
        have e1 := HC.out 1 (by decide)
        have e2 := HC.out 2 (by decide)
        have e3 := HC.out 3 (by decide)
        have e4 := HC.out 4 (by decide)
        have e5 := HC.out 5 (by decide)
        have e6 := HC.out 6 (by decide)
        have e7 := HC.out 7 (by decide)
        clear hrest hin hw1r hwr hkr cb fb hr1 hr4
        by_cases hlt : k < (evFs e).length
        · obtain ⟨f, hf⟩ : ∃ f, (evFs e)[k]? = some f := ⟨(evFs e)[k], by simp [hlt]⟩
          have hix := seven_ix (evFs_seven e k f hf)
          have hcg := cf_get f.ix hix
          have HX := Lib.hid hf
          clear hf
          have ex := HC.out f.ix (by omega)
          have er := HT.out f.ix (by omega)
          clear hf4 hl4 hbl hbw H1 hKn HN
          rcases (show (f.mn ≤ e f.ix ∧ e f.ix ≤ f.mx) ∨ e f.ix < f.mn ∨ (f.mn ≤ e f.ix ∧ f.mx < e f.ix) from by omega) with ⟨hb1, hb2⟩ | hb1 | ⟨hb1, hb2⟩
          all_goals
            go_wp2_with (first
              | ((with_reducible refine (HY.out wr HW1.out k f HX.out).mono ?_); rintro e1' w2 ⟨rfl, hk2⟩; obtain ⟨l2b, c2b, f2b⟩ := hk2.blk w.heap.size lb (by simp); obtain ⟨l2r, c2r, f2r⟩ := hk2.blk b4 lb4 (by simp); obtain ⟨l2E, c2E, _⟩ := hk2.blk 8 lE (by simp); unfold FS.v)
              | ((with_reducible refine (get_any f.ix hix _ _).mono ?_); rintro e3' w3 ⟨rfl, rfl⟩))
          · have hc2 : ∀ j, j < 8 → w2.cell? ⟨b4, j, none⟩ = some (.int .i64 (rest ((evFs e).take k) e j)) := fun j hj => (c2r j).trans (HT.out j hj)
            have hc3 := cells_setCell (t := f.ix) hc2 (.int .i64 0)
            go_roundw
            case rel =>
              refine ⟨k + 1, by omega, by go_num, ?_, ?_, ?_, ?_⟩
              · exact ((HKR.out.trans hk2 (by simp)).setCell _ _ (fun _ => by simp)).alloc _
              · intro j hj
                rw [World.cell?_alloc_past _ _ _ (by simpa using l2r), hc3 j hj, take_snoc' _ _ _ HX.out, rest_snoc]
                split <;> rfl
              · intro j
                rw [World.frozen?_alloc_past _ _ _ (by simpa using l2r), World.frozen?_setCell, f2r]
                exact hfz j
              · intro g hg
                rw [take_snoc' _ _ _ HX.out] at hg
                rcases List.mem_append.1 hg with hg | hg
                · exact HI.out g hg
                · simp at hg; subst hg; simp [inB, hb1, hb2]
            case measure => simp [intOf]; omega
          · have hno : evOk e = false := by
              have : (evFs e).all (inB e) = false := by
                rw [Bool.eq_false_iff]; intro h
                have := List.all_eq_true.1 h f (List.mem_of_getElem? HX.out)
                simp [inB] at this; omega
              simp [evOk, this]
            go_ret
            exact ⟨ret_congr (by refine Eq.trans ?_ HS.out.symm; rw [hno]; rfl), (HWR.out.trans hk2 (by simp)).alloc _⟩
          · have hno : evOk e = false := by
              have : (evFs e).all (inB e) = false := by
                rw [Bool.eq_false_iff]; intro h
                have := List.all_eq_true.1 h f (List.mem_of_getElem? HX.out)
                simp [inB] at this; omega
              simp [evOk, this]
            go_ret
            exact ⟨ret_congr (by refine Eq.trans ?_ HS.out.symm; rw [hno]; rfl), (HWR.out.trans hk2 (by simp)).alloc _⟩
        · have hkL : k = (evFs e).length := by omega
          have hall : (evFs e).all (inB e) = true := by
            rw [List.all_eq_true]; intro f hf; exact HI.out f (by rw [hkL, List.take_length]; exact hf)
          rw [hkL, List.take_length] at HT
          have r0 := HT.out 0 (by decide)
          have r1 := HT.out 1 (by decide)
          have r2 := HT.out 2 (by decide)
          have r3 := HT.out 3 (by decide)
          have r4 := HT.out 4 (by decide)
          have r5 := HT.out 5 (by decide)
          have r6 := HT.out 6 (by decide)
          have r7 := HT.out 7 (by decide)
          have HA := Lib.hid hall
          clear hf4 hl4 hbl hbw H1 hKn HY hkL hall
          go_wp2_with ((with_reducible refine (HN.out wr HW1.out k (by omega)).mono ?_); rintro e1' w2 ⟨rfl, hk2⟩; obtain ⟨l2r, c2r, f2r⟩ := hk2.blk b4 lb4 (by simp); obtain ⟨l2E, c2E, _⟩ := hk2.blk 8 lE (by simp); unfold zeroF)
          all_goals go_ret
          all_goals
            refine ⟨ret_congr ?_, (HWR.out.trans hk2 (by simp)).alloc _⟩
            refine Eq.trans ?_ HS.out.symm
            have hz : evOk e = [0, 1, 2, 3, 4, 5, 6, 7].all (fun j => rest (evFs e) e j == 0) := by simp only [evOk, H0.out, HA.out, Bool.true_and]
            rw [hz]
            first
              | (have q : ¬ rest (evFs e) e 0 = 0 := (by with_reducible assumption); have hz : [0, 1, 2, 3, 4, 5, 6, 7].all (fun j => rest (evFs e) e j == 0) = false := (by rw [Bool.eq_false_iff]; intro h; have := List.all_eq_true.1 h 0 (by simp); exact q (by simpa using this)); rw [hz]; rfl)
              | (have q : ¬ rest (evFs e) e 1 = 0 := (by with_reducible assumption); have hz : [0, 1, 2, 3, 4, 5, 6, 7].all (fun j => rest (evFs e) e j == 0) = false := (by rw [Bool.eq_false_iff]; intro h; have := List.all_eq_true.1 h 1 (by simp); exact q (by simpa using this)); rw [hz]; rfl)
              | (have q : ¬ rest (evFs e) e 2 = 0 := (by with_reducible assumption); have hz : [0, 1, 2, 3, 4, 5, 6, 7].all (fun j => rest (evFs e) e j == 0) = false := (by rw [Bool.eq_false_iff]; intro h; have := List.all_eq_true.1 h 2 (by simp); exact q (by simpa using this)); rw [hz]; rfl)
              | (have q : ¬ rest (evFs e) e 3 = 0 := (by with_reducible assumption); have hz : [0, 1, 2, 3, 4, 5, 6, 7].all (fun j => rest (evFs e) e j == 0) = false := (by rw [Bool.eq_false_iff]; intro h; have := List.all_eq_true.1 h 3 (by simp); exact q (by simpa using this)); rw [hz]; rfl)
              | (have q : ¬ rest (evFs e) e 4 = 0 := (by with_reducible assumption); have hz : [0, 1, 2, 3, 4, 5, 6, 7].all (fun j => rest (evFs e) e j == 0) = false := (by rw [Bool.eq_false_iff]; intro h; have := List.all_eq_true.1 h 4 (by simp); exact q (by simpa using this)); rw [hz]; rfl)
              | (have q : ¬ rest (evFs e) e 5 = 0 := (by with_reducible assumption); have hz : [0, 1, 2, 3, 4, 5, 6, 7].all (fun j => rest (evFs e) e j == 0) = false := (by rw [Bool.eq_false_iff]; intro h; have := List.all_eq_true.1 h 5 (by simp); exact q (by simpa using this)); rw [hz]; rfl)
              | (have q : ¬ rest (evFs e) e 6 = 0 := (by with_reducible assumption); have hz : [0, 1, 2, 3, 4, 5, 6, 7].all (fun j => rest (evFs e) e j == 0) = false := (by rw [Bool.eq_false_iff]; intro h; have := List.all_eq_true.1 h 6 (by simp); exact q (by simpa using this)); rw [hz]; rfl)
              | (have q : ¬ rest (evFs e) e 7 = 0 := (by with_reducible assumption); have hz : [0, 1, 2, 3, 4, 5, 6, 7].all (fun j => rest (evFs e) e j == 0) = false := (by rw [Bool.eq_false_iff]; intro h; have := List.all_eq_true.1 h 7 (by simp); exact q (by simpa using this)); rw [hz]; rfl)
              | (have q0 : rest (evFs e) e 0 = 0 := (by with_reducible assumption); have q1 : rest (evFs e) e 1 = 0 := (by with_reducible assumption); have q2 : rest (evFs e) e 2 = 0 := (by with_reducible assumption); have q3 : rest (evFs e) e 3 = 0 := (by with_reducible assumption); have q4 : rest (evFs e) e 4 = 0 := (by with_reducible assumption); have q5 : rest (evFs e) e 5 = 0 := (by with_reducible assumption); have q6 : rest (evFs e) e 6 = 0 := (by with_reducible assumption); have q7 : rest (evFs e) e 7 = 0 := (by with_reducible assumption); have hz : [0, 1, 2, 3, 4, 5, 6, 7].all (fun j => rest (evFs e) e j == 0) = true := (by simp only [List.all_cons, List.all_nil, q0, q1, q2, q3, q4, q5, q6, q7, beq_self_eq_true, Bool.and_self]); rw [hz]; rfl)

set_option maxRecDepth 100000 in
set_option maxHeartbeats 20000000 in
theorem valid_return (E : Nat → Addr) (e : Nat → Int) (w : World) (hG : Gl E w) (hk : kindOk e = true) (h3 : e 0 = 3) :
    Calls Tryz.prog 99 #[evV e] w fun r w' => r = .returned (if evOk e then .nilIface else errV E 8) ∧ Kp [] w w' := by
  have hev := hG.event
  have hbl := hG.sz
  have hol : 8 < w.heap.size := by omega
  have hk' : (1 ≤ e 0 ∧ e 0 ≤ 7) ∧ (e 0 = 2 → opKind (e 4) ≠ 0) ∧ (e 0 = 3 → 1 ≤ e 7 ∧ e 7 ≤ 3) := by
    simp only [kindOk, Bool.and_eq_true, Bool.or_eq_true, decide_eq_true_eq, bne_iff_ne] at hk
    exact ⟨⟨hk.1.1.1, hk.1.1.2⟩, fun h => hk.1.2.resolve_left (by omega), fun h => hk.2.resolve_left (by omega)⟩
  obtain ⟨hk1, hk2, hk3⟩ := hk'
  have HR := Lib.hid hG
  have H1 := Lib.hid hk1
  have H0 := Lib.hid hk
  obtain ⟨res, hres⟩ : ∃ res, res = (if evOk e then Value.nilIface else errV E 8) := ⟨_, rfl⟩
  rw [← hres]
  have HS := Lib.hid hres
  clear hk hk1 hG hres
  unfold errV at hev
  · have h2f : (e 0 == 2) = false := by rw [beq_eq_false_iff_ne]; omega
    have h3t : (e 0 == 3) = true := by simpa using h3
    have h7 := hk3 h3
    obtain ⟨s, hs, hs0⟩ := HR.out.answers (e 7 - 1).toNat (by omega)
    have hW : ∀ W : World, Kp [] w W → Calls Tryz.prog 122 #[.int .i64 4, .int .i64 (e 7)] W fun e w' => e = .returned (.string s) ∧ Kp [] W w' := fun W hW => word_in 4 (e 7 - 1).toNat (e 7) s W (.inr ⟨rfl, by omega, (hW.cellAt hs (by simp)).1⟩) (by omega)
    have HW := Lib.hid hW
    clear h3 hk2 hk3 h7 hs hW
    unfold evV
    go_enter Tryz.func99, Tryz.ntmps99
    go_wp2
    go_region_with (go_at_call 123; refine (fields_any _).mono ?_; rintro e1 w1 ⟨⟨r, rfl, hr, hF⟩, hK⟩; obtain ⟨l1, c1, f1⟩ := hK.blk w.heap.size (by simp) (by simp); obtain ⟨v, hlk, hv⟩ := hF.look (e 0); obtain ⟨fn, b, rfl, hfn, HY, HN⟩ := next_of (e := e) (by rcases hv with ⟨_, hv⟩ | ⟨hv, _⟩; exact hv; exfalso; apply hv; have := H1.out; simp [fieldKeys]; omega); have hK' := ((Kp.refl [] w).alloc _).drew.trans hK (by simp); unfold evV at HY HN; replace HY := Lib.hid HY; replace HN := Lib.hid HN; have hcf := cf_next fn hfn; clear hv hF hfn)
    all_goals go_wp2_with (go_at_call 122; refine (HW.out _ hK').mono ?_; rintro e1 w2 ⟨rfl, hk12⟩; replace hK := hK.trans hk12 (by simp); obtain ⟨l1, c1, f1⟩ := hK.blk w.heap.size (by simp) (by simp); replace hK' := hK'.trans hk12 (by simp); have hs12 := hk12.size)
    all_goals
      refine wp_gen fun W4 hW4 => ?_
      have hKW : Kp [] w W4 := by rw [hW4]; exact hK'.alloc _
      obtain ⟨b4, hb4⟩ : ∃ b, b = w2.heap.size := ⟨_, rfl⟩
      have hr4 : ∀ j, j < 8 → W4.cell? ⟨b4, j, none⟩ = some (.int .i64 (rest [] e j)) := by
        intro j hj
        rw [hW4, hb4]
        match j, hj with
        | 0, _ => simp [rest]
        | 1, _ => simp [rest]
        | 2, _ => simp [rest]
        | 3, _ => simp [rest]
        | 4, _ => simp [rest]
        | 5, _ => simp [rest]
        | 6, _ => simp [rest]
        | 7, _ => simp [rest]
      have hf4 : ∀ j, W4.frozen? ⟨b4, j, none⟩ = false := by intro j; rw [hW4, hb4]; simp
      have hl4 : b4 < W4.heap.size := by rw [hW4, hb4]; simp
      have hbw : w.heap.size < b4 := by rw [hb4]; exact l1
      have hr1 : ∀ j, j < 8 → W4.cell? ⟨w.heap.size, j, none⟩ = some (.int .i64 (e j)) := by
        intro j hj
        rw [hW4, World.cell?_alloc_past _ _ _ l1, c1]
        match j, hj with
        | 0, _ => simp
        | 1, _ => simp
        | 2, _ => simp
        | 3, _ => simp
        | 4, _ => simp
        | 5, _ => simp
        | 6, _ => simp
        | 7, _ => simp
      have hKn : Kp [] w1 W4 := by rw [hW4]; exact (hk12).alloc _
      rw [← hb4]
      have hb4w : w1.heap.size ≤ b4 := by omega
      have hL5 := evFs_len e
      clear hW4 hb4 hK' hK hr l1 c1 f1
      go_loopw [5] (fun i wr => ∃ k : Nat, k ≤ (evFs e).length ∧ i = .int .i64 k ∧ Kp [b4] W4 wr ∧ (∀ j, j < 8 → wr.cell? ⟨b4, j, none⟩ = some (.int .i64 (rest ((evFs e).take k) e j))) ∧ (∀ j, wr.frozen? ⟨b4, j, none⟩ = false) ∧ (∀ f ∈ (evFs e).take k, inB e f = true)) (fun i _ => (evFs e).length + 1 - (intOf i).toNat)
      case atStart => exact ⟨0, by omega, rfl, Kp.refl _ _, hr4, hf4, by simp⟩
      case round =>
        obtain ⟨k, hk, rfl, hkr, hrest, hfz, hin⟩ := hrel
        obtain ⟨lb, cb, fb⟩ := hkr.blk w.heap.size (by omega) (by simp; omega)
        have lb4 : b4 < wr.heap.size := Nat.lt_of_lt_of_le hl4 hkr.size
        obtain ⟨lE, cE, _⟩ := (hKW.trans hkr (T := [b4]) (S := []) (fun x hx hl => by simp at hx; omega)).blk 8 hol (by simp)
        have hw1r : Kp [] w1 wr := hKn.trans hkr (fun x hx hl => by simp at hx; omega)
        have hwr : Kp [] w wr := hKW.trans hkr (fun x hx hl => by simp at hx; omega)
        have HC := Lib.hid (show ∀ j, j < 8 → wr.cell? ⟨w.heap.size, j, none⟩ = some (.int .i64 (e j)) from fun j hj => (cb j).trans (hr1 j hj))
        have HT := Lib.hid hrest
        have HI := Lib.hid hin
        have HW1 := Lib.hid hw1r
        have HWR := Lib.hid hwr
        have HKR := Lib.hid hkr
        have e0 := HC.out 0 (by decide)
        have e1 := HC.out 1 (by decide)
        have e2 := HC.out 2 (by decide)
        have e3 := HC.out 3 (by decide)
        have e4 := HC.out 4 (by decide)
        have e5 := HC.out 5 (by decide)
        have e6 := HC.out 6 (by decide)
        have e7 := HC.out 7 (by decide)
        clear hrest hin hw1r hwr hkr cb fb hr1 hr4
        by_cases hlt : k < (evFs e).length
        · obtain ⟨f, hf⟩ : ∃ f, (evFs e)[k]? = some f := ⟨(evFs e)[k], by simp [hlt]⟩
          have hix := seven_ix (evFs_seven e k f hf)
          have hcg := cf_get f.ix hix
          have HX := Lib.hid hf
          clear hf
          have ex := HC.out f.ix (by omega)
          have er := HT.out f.ix (by omega)
          clear hf4 hl4 hbl hbw H1 hKn HN
          rcases (show (f.mn ≤ e f.ix ∧ e f.ix ≤ f.mx) ∨ e f.ix < f.mn ∨ (f.mn ≤ e f.ix ∧ f.mx < e f.ix) from by omega) with ⟨hb1, hb2⟩ | hb1 | ⟨hb1, hb2⟩
          all_goals
            go_wp2_with (first
              | ((with_reducible refine (HY.out wr HW1.out k f HX.out).mono ?_); rintro e1' w2 ⟨rfl, hk2⟩; obtain ⟨l2b, c2b, f2b⟩ := hk2.blk w.heap.size lb (by simp); obtain ⟨l2r, c2r, f2r⟩ := hk2.blk b4 lb4 (by simp); obtain ⟨l2E, c2E, _⟩ := hk2.blk 8 lE (by simp); unfold FS.v)
              | ((with_reducible refine (get_any f.ix hix _ _).mono ?_); rintro e3' w3 ⟨rfl, rfl⟩))
          · have hc2 : ∀ j, j < 8 → w2.cell? ⟨b4, j, none⟩ = some (.int .i64 (rest ((evFs e).take k) e j)) := fun j hj => (c2r j).trans (HT.out j hj)
            have hc3 := cells_setCell (t := f.ix) hc2 (.int .i64 0)
            go_roundw
            case rel =>
              refine ⟨k + 1, by omega, by go_num, ?_, ?_, ?_, ?_⟩
              · exact ((HKR.out.trans hk2 (by simp)).setCell _ _ (fun _ => by simp)).alloc _
              · intro j hj
                rw [World.cell?_alloc_past _ _ _ (by simpa using l2r), hc3 j hj, take_snoc' _ _ _ HX.out, rest_snoc]
                split <;> rfl
              · intro j
                rw [World.frozen?_alloc_past _ _ _ (by simpa using l2r), World.frozen?_setCell, f2r]
                exact hfz j
              · intro g hg
                rw [take_snoc' _ _ _ HX.out] at hg
                rcases List.mem_append.1 hg with hg | hg
                · exact HI.out g hg
                · simp at hg; subst hg; simp [inB, hb1, hb2]
            case measure => simp [intOf]; omega
          · have hno : evOk e = false := by
              have : (evFs e).all (inB e) = false := by
                rw [Bool.eq_false_iff]; intro h
                have := List.all_eq_true.1 h f (List.mem_of_getElem? HX.out)
                simp [inB] at this; omega
              simp [evOk, this]
            go_ret
            exact ⟨ret_congr (by refine Eq.trans ?_ HS.out.symm; rw [hno]; rfl), (HWR.out.trans hk2 (by simp)).alloc _⟩
          · have hno : evOk e = false := by
              have : (evFs e).all (inB e) = false := by
                rw [Bool.eq_false_iff]; intro h
                have := List.all_eq_true.1 h f (List.mem_of_getElem? HX.out)
                simp [inB] at this; omega
              simp [evOk, this]
            go_ret
            exact ⟨ret_congr (by refine Eq.trans ?_ HS.out.symm; rw [hno]; rfl), (HWR.out.trans hk2 (by simp)).alloc _⟩
        · have hkL : k = (evFs e).length := by omega
          have hall : (evFs e).all (inB e) = true := by
            rw [List.all_eq_true]; intro f hf; exact HI.out f (by rw [hkL, List.take_length]; exact hf)
          rw [hkL, List.take_length] at HT
          have r0 := HT.out 0 (by decide)
          have r1 := HT.out 1 (by decide)
          have r2 := HT.out 2 (by decide)
          have r3 := HT.out 3 (by decide)
          have r4 := HT.out 4 (by decide)
          have r5 := HT.out 5 (by decide)
          have r6 := HT.out 6 (by decide)
          have r7 := HT.out 7 (by decide)
          have HA := Lib.hid hall
          clear hf4 hl4 hbl hbw H1 hKn HY hkL hall
          go_wp2_with ((with_reducible refine (HN.out wr HW1.out k (by omega)).mono ?_); rintro e1' w2 ⟨rfl, hk2⟩; obtain ⟨l2r, c2r, f2r⟩ := hk2.blk b4 lb4 (by simp); obtain ⟨l2E, c2E, _⟩ := hk2.blk 8 lE (by simp); unfold zeroF)
          all_goals go_ret
          all_goals
            refine ⟨ret_congr ?_, (HWR.out.trans hk2 (by simp)).alloc _⟩
            refine Eq.trans ?_ HS.out.symm
            have hz : evOk e = [0, 1, 2, 3, 4, 5, 6, 7].all (fun j => rest (evFs e) e j == 0) := by simp only [evOk, H0.out, HA.out, Bool.true_and]
            rw [hz]
            first
              | (have q : ¬ rest (evFs e) e 0 = 0 := (by with_reducible assumption); have hz : [0, 1, 2, 3, 4, 5, 6, 7].all (fun j => rest (evFs e) e j == 0) = false := (by rw [Bool.eq_false_iff]; intro h; have := List.all_eq_true.1 h 0 (by simp); exact q (by simpa using this)); rw [hz]; rfl)
              | (have q : ¬ rest (evFs e) e 1 = 0 := (by with_reducible assumption); have hz : [0, 1, 2, 3, 4, 5, 6, 7].all (fun j => rest (evFs e) e j == 0) = false := (by rw [Bool.eq_false_iff]; intro h; have := List.all_eq_true.1 h 1 (by simp); exact q (by simpa using this)); rw [hz]; rfl)
              | (have q : ¬ rest (evFs e) e 2 = 0 := (by with_reducible assumption); have hz : [0, 1, 2, 3, 4, 5, 6, 7].all (fun j => rest (evFs e) e j == 0) = false := (by rw [Bool.eq_false_iff]; intro h; have := List.all_eq_true.1 h 2 (by simp); exact q (by simpa using this)); rw [hz]; rfl)
              | (have q : ¬ rest (evFs e) e 3 = 0 := (by with_reducible assumption); have hz : [0, 1, 2, 3, 4, 5, 6, 7].all (fun j => rest (evFs e) e j == 0) = false := (by rw [Bool.eq_false_iff]; intro h; have := List.all_eq_true.1 h 3 (by simp); exact q (by simpa using this)); rw [hz]; rfl)
              | (have q : ¬ rest (evFs e) e 4 = 0 := (by with_reducible assumption); have hz : [0, 1, 2, 3, 4, 5, 6, 7].all (fun j => rest (evFs e) e j == 0) = false := (by rw [Bool.eq_false_iff]; intro h; have := List.all_eq_true.1 h 4 (by simp); exact q (by simpa using this)); rw [hz]; rfl)
              | (have q : ¬ rest (evFs e) e 5 = 0 := (by with_reducible assumption); have hz : [0, 1, 2, 3, 4, 5, 6, 7].all (fun j => rest (evFs e) e j == 0) = false := (by rw [Bool.eq_false_iff]; intro h; have := List.all_eq_true.1 h 5 (by simp); exact q (by simpa using this)); rw [hz]; rfl)
              | (have q : ¬ rest (evFs e) e 6 = 0 := (by with_reducible assumption); have hz : [0, 1, 2, 3, 4, 5, 6, 7].all (fun j => rest (evFs e) e j == 0) = false := (by rw [Bool.eq_false_iff]; intro h; have := List.all_eq_true.1 h 6 (by simp); exact q (by simpa using this)); rw [hz]; rfl)
              | (have q : ¬ rest (evFs e) e 7 = 0 := (by with_reducible assumption); have hz : [0, 1, 2, 3, 4, 5, 6, 7].all (fun j => rest (evFs e) e j == 0) = false := (by rw [Bool.eq_false_iff]; intro h; have := List.all_eq_true.1 h 7 (by simp); exact q (by simpa using this)); rw [hz]; rfl)
              | (have q0 : rest (evFs e) e 0 = 0 := (by with_reducible assumption); have q1 : rest (evFs e) e 1 = 0 := (by with_reducible assumption); have q2 : rest (evFs e) e 2 = 0 := (by with_reducible assumption); have q3 : rest (evFs e) e 3 = 0 := (by with_reducible assumption); have q4 : rest (evFs e) e 4 = 0 := (by with_reducible assumption); have q5 : rest (evFs e) e 5 = 0 := (by with_reducible assumption); have q6 : rest (evFs e) e 6 = 0 := (by with_reducible assumption); have q7 : rest (evFs e) e 7 = 0 := (by with_reducible assumption); have hz : [0, 1, 2, 3, 4, 5, 6, 7].all (fun j => rest (evFs e) e j == 0) = true := (by simp only [List.all_cons, List.all_nil, q0, q1, q2, q3, q4, q5, q6, q7, beq_self_eq_true, Bool.and_self]); rw [hz]; rfl)

set_option maxRecDepth 100000 in
set_option maxHeartbeats 20000000 in
theorem valid_other (E : Nat → Addr) (e : Nat → Int) (w : World) (hG : Gl E w) (hk : kindOk e = true) (h2 : (e 0 == 2) = false) (h3 : (e 0 == 3) = false) :
    Calls Tryz.prog 99 #[evV e] w fun r w' => r = .returned (if evOk e then .nilIface else errV E 8) ∧ Kp [] w w' := by
  have hev := hG.event
  have hbl := hG.sz
  have hol : 8 < w.heap.size := by omega
  have hk' : (1 ≤ e 0 ∧ e 0 ≤ 7) ∧ (e 0 = 2 → opKind (e 4) ≠ 0) ∧ (e 0 = 3 → 1 ≤ e 7 ∧ e 7 ≤ 3) := by
    simp only [kindOk, Bool.and_eq_true, Bool.or_eq_true, decide_eq_true_eq, bne_iff_ne] at hk
    exact ⟨⟨hk.1.1.1, hk.1.1.2⟩, fun h => hk.1.2.resolve_left (by omega), fun h => hk.2.resolve_left (by omega)⟩
  obtain ⟨hk1, hk2, hk3⟩ := hk'
  have HR := Lib.hid hG
  have H1 := Lib.hid hk1
  have H0 := Lib.hid hk
  obtain ⟨res, hres⟩ : ∃ res, res = (if evOk e then Value.nilIface else errV E 8) := ⟨_, rfl⟩
  rw [← hres]
  have HS := Lib.hid hres
  clear hk hk1 hG hres
  unfold errV at hev
  · clear hk2 hk3
    unfold evV
    go_enter Tryz.func99, Tryz.ntmps99
    go_wp2
    go_region_with (go_at_call 123; refine (fields_any _).mono ?_; rintro e1 w1 ⟨⟨r, rfl, hr, hF⟩, hK⟩; obtain ⟨l1, c1, f1⟩ := hK.blk w.heap.size (by simp) (by simp); obtain ⟨v, hlk, hv⟩ := hF.look (e 0); obtain ⟨fn, b, rfl, hfn, HY, HN⟩ := next_of (e := e) (by rcases hv with ⟨_, hv⟩ | ⟨hv, _⟩; exact hv; exfalso; apply hv; have := H1.out; simp [fieldKeys]; omega); have hK' := ((Kp.refl [] w).alloc _).drew.trans hK (by simp); unfold evV at HY HN; replace HY := Lib.hid HY; replace HN := Lib.hid HN; have hcf := cf_next fn hfn; clear hv hF hfn)
    all_goals go_wp2
    all_goals
      refine wp_gen fun W4 hW4 => ?_
      have hKW : Kp [] w W4 := by rw [hW4]; exact hK'.alloc _
      obtain ⟨b4, hb4⟩ : ∃ b, b = w1.heap.size := ⟨_, rfl⟩
      have hr4 : ∀ j, j < 8 → W4.cell? ⟨b4, j, none⟩ = some (.int .i64 (rest [] e j)) := by
        intro j hj
        rw [hW4, hb4]
        match j, hj with
        | 0, _ => simp [rest]
        | 1, _ => simp [rest]
        | 2, _ => simp [rest]
        | 3, _ => simp [rest]
        | 4, _ => simp [rest]
        | 5, _ => simp [rest]
        | 6, _ => simp [rest]
        | 7, _ => simp [rest]
      have hf4 : ∀ j, W4.frozen? ⟨b4, j, none⟩ = false := by intro j; rw [hW4, hb4]; simp
      have hl4 : b4 < W4.heap.size := by rw [hW4, hb4]; simp
      have hbw : w.heap.size < b4 := by rw [hb4]; exact l1
      have hr1 : ∀ j, j < 8 → W4.cell? ⟨w.heap.size, j, none⟩ = some (.int .i64 (e j)) := by
        intro j hj
        rw [hW4, World.cell?_alloc_past _ _ _ l1, c1]
        match j, hj with
        | 0, _ => simp
        | 1, _ => simp
        | 2, _ => simp
        | 3, _ => simp
        | 4, _ => simp
        | 5, _ => simp
        | 6, _ => simp
        | 7, _ => simp
      have hKn : Kp [] w1 W4 := by rw [hW4]; exact (Kp.refl [] w1).alloc _
      rw [← hb4]
      have hb4w : w1.heap.size ≤ b4 := by omega
      have hL5 := evFs_len e
      clear hW4 hb4 hK' hK hr l1 c1 f1
      go_loopw [5] (fun i wr => ∃ k : Nat, k ≤ (evFs e).length ∧ i = .int .i64 k ∧ Kp [b4] W4 wr ∧ (∀ j, j < 8 → wr.cell? ⟨b4, j, none⟩ = some (.int .i64 (rest ((evFs e).take k) e j))) ∧ (∀ j, wr.frozen? ⟨b4, j, none⟩ = false) ∧ (∀ f ∈ (evFs e).take k, inB e f = true)) (fun i _ => (evFs e).length + 1 - (intOf i).toNat)
      case atStart => exact ⟨0, by omega, rfl, Kp.refl _ _, hr4, hf4, by simp⟩
      case round =>
        obtain ⟨k, hk, rfl, hkr, hrest, hfz, hin⟩ := hrel
        obtain ⟨lb, cb, fb⟩ := hkr.blk w.heap.size (by omega) (by simp; omega)
        have lb4 : b4 < wr.heap.size := Nat.lt_of_lt_of_le hl4 hkr.size
        obtain ⟨lE, cE, _⟩ := (hKW.trans hkr (T := [b4]) (S := []) (fun x hx hl => by simp at hx; omega)).blk 8 hol (by simp)
        have hw1r : Kp [] w1 wr := hKn.trans hkr (fun x hx hl => by simp at hx; omega)
        have hwr : Kp [] w wr := hKW.trans hkr (fun x hx hl => by simp at hx; omega)
        have HC := Lib.hid (show ∀ j, j < 8 → wr.cell? ⟨w.heap.size, j, none⟩ = some (.int .i64 (e j)) from fun j hj => (cb j).trans (hr1 j hj))
        have HT := Lib.hid hrest
        have HI := Lib.hid hin
        have HW1 := Lib.hid hw1r
        have HWR := Lib.hid hwr
        have HKR := Lib.hid hkr
        have e0 := HC.out 0 (by decide)
        have e1 := HC.out 1 (by decide)
        have e2 := HC.out 2 (by decide)
        have e3 := HC.out 3 (by decide)
        have e4 := HC.out 4 (by decide)
        have e5 := HC.out 5 (by decide)
        have e6 := HC.out 6 (by decide)
        have e7 := HC.out 7 (by decide)
        clear hrest hin hw1r hwr hkr cb fb hr1 hr4
        by_cases hlt : k < (evFs e).length
        · obtain ⟨f, hf⟩ : ∃ f, (evFs e)[k]? = some f := ⟨(evFs e)[k], by simp [hlt]⟩
          have hix := seven_ix (evFs_seven e k f hf)
          have hcg := cf_get f.ix hix
          have HX := Lib.hid hf
          clear hf
          have ex := HC.out f.ix (by omega)
          have er := HT.out f.ix (by omega)
          clear hf4 hl4 hbl hbw H1 hKn HN
          rcases (show (f.mn ≤ e f.ix ∧ e f.ix ≤ f.mx) ∨ e f.ix < f.mn ∨ (f.mn ≤ e f.ix ∧ f.mx < e f.ix) from by omega) with ⟨hb1, hb2⟩ | hb1 | ⟨hb1, hb2⟩
          all_goals
            go_wp2_with (first
              | ((with_reducible refine (HY.out wr HW1.out k f HX.out).mono ?_); rintro e1' w2 ⟨rfl, hk2⟩; obtain ⟨l2b, c2b, f2b⟩ := hk2.blk w.heap.size lb (by simp); obtain ⟨l2r, c2r, f2r⟩ := hk2.blk b4 lb4 (by simp); obtain ⟨l2E, c2E, _⟩ := hk2.blk 8 lE (by simp); unfold FS.v)
              | ((with_reducible refine (get_any f.ix hix _ _).mono ?_); rintro e3' w3 ⟨rfl, rfl⟩))
          · have hc2 : ∀ j, j < 8 → w2.cell? ⟨b4, j, none⟩ = some (.int .i64 (rest ((evFs e).take k) e j)) := fun j hj => (c2r j).trans (HT.out j hj)
            have hc3 := cells_setCell (t := f.ix) hc2 (.int .i64 0)
            go_roundw
            case rel =>
              refine ⟨k + 1, by omega, by go_num, ?_, ?_, ?_, ?_⟩
              · exact ((HKR.out.trans hk2 (by simp)).setCell _ _ (fun _ => by simp)).alloc _
              · intro j hj
                rw [World.cell?_alloc_past _ _ _ (by simpa using l2r), hc3 j hj, take_snoc' _ _ _ HX.out, rest_snoc]
                split <;> rfl
              · intro j
                rw [World.frozen?_alloc_past _ _ _ (by simpa using l2r), World.frozen?_setCell, f2r]
                exact hfz j
              · intro g hg
                rw [take_snoc' _ _ _ HX.out] at hg
                rcases List.mem_append.1 hg with hg | hg
                · exact HI.out g hg
                · simp at hg; subst hg; simp [inB, hb1, hb2]
            case measure => simp [intOf]; omega
          · have hno : evOk e = false := by
              have : (evFs e).all (inB e) = false := by
                rw [Bool.eq_false_iff]; intro h
                have := List.all_eq_true.1 h f (List.mem_of_getElem? HX.out)
                simp [inB] at this; omega
              simp [evOk, this]
            go_ret
            exact ⟨ret_congr (by refine Eq.trans ?_ HS.out.symm; rw [hno]; rfl), (HWR.out.trans hk2 (by simp)).alloc _⟩
          · have hno : evOk e = false := by
              have : (evFs e).all (inB e) = false := by
                rw [Bool.eq_false_iff]; intro h
                have := List.all_eq_true.1 h f (List.mem_of_getElem? HX.out)
                simp [inB] at this; omega
              simp [evOk, this]
            go_ret
            exact ⟨ret_congr (by refine Eq.trans ?_ HS.out.symm; rw [hno]; rfl), (HWR.out.trans hk2 (by simp)).alloc _⟩
        · have hkL : k = (evFs e).length := by omega
          have hall : (evFs e).all (inB e) = true := by
            rw [List.all_eq_true]; intro f hf; exact HI.out f (by rw [hkL, List.take_length]; exact hf)
          rw [hkL, List.take_length] at HT
          have r0 := HT.out 0 (by decide)
          have r1 := HT.out 1 (by decide)
          have r2 := HT.out 2 (by decide)
          have r3 := HT.out 3 (by decide)
          have r4 := HT.out 4 (by decide)
          have r5 := HT.out 5 (by decide)
          have r6 := HT.out 6 (by decide)
          have r7 := HT.out 7 (by decide)
          have HA := Lib.hid hall
          clear hf4 hl4 hbl hbw H1 hKn HY hkL hall
          go_wp2_with ((with_reducible refine (HN.out wr HW1.out k (by omega)).mono ?_); rintro e1' w2 ⟨rfl, hk2⟩; obtain ⟨l2r, c2r, f2r⟩ := hk2.blk b4 lb4 (by simp); obtain ⟨l2E, c2E, _⟩ := hk2.blk 8 lE (by simp); unfold zeroF)
          all_goals go_ret
          all_goals
            refine ⟨ret_congr ?_, (HWR.out.trans hk2 (by simp)).alloc _⟩
            refine Eq.trans ?_ HS.out.symm
            have hz : evOk e = [0, 1, 2, 3, 4, 5, 6, 7].all (fun j => rest (evFs e) e j == 0) := by simp only [evOk, H0.out, HA.out, Bool.true_and]
            rw [hz]
            first
              | (have q : ¬ rest (evFs e) e 0 = 0 := (by with_reducible assumption); have hz : [0, 1, 2, 3, 4, 5, 6, 7].all (fun j => rest (evFs e) e j == 0) = false := (by rw [Bool.eq_false_iff]; intro h; have := List.all_eq_true.1 h 0 (by simp); exact q (by simpa using this)); rw [hz]; rfl)
              | (have q : ¬ rest (evFs e) e 1 = 0 := (by with_reducible assumption); have hz : [0, 1, 2, 3, 4, 5, 6, 7].all (fun j => rest (evFs e) e j == 0) = false := (by rw [Bool.eq_false_iff]; intro h; have := List.all_eq_true.1 h 1 (by simp); exact q (by simpa using this)); rw [hz]; rfl)
              | (have q : ¬ rest (evFs e) e 2 = 0 := (by with_reducible assumption); have hz : [0, 1, 2, 3, 4, 5, 6, 7].all (fun j => rest (evFs e) e j == 0) = false := (by rw [Bool.eq_false_iff]; intro h; have := List.all_eq_true.1 h 2 (by simp); exact q (by simpa using this)); rw [hz]; rfl)
              | (have q : ¬ rest (evFs e) e 3 = 0 := (by with_reducible assumption); have hz : [0, 1, 2, 3, 4, 5, 6, 7].all (fun j => rest (evFs e) e j == 0) = false := (by rw [Bool.eq_false_iff]; intro h; have := List.all_eq_true.1 h 3 (by simp); exact q (by simpa using this)); rw [hz]; rfl)
              | (have q : ¬ rest (evFs e) e 4 = 0 := (by with_reducible assumption); have hz : [0, 1, 2, 3, 4, 5, 6, 7].all (fun j => rest (evFs e) e j == 0) = false := (by rw [Bool.eq_false_iff]; intro h; have := List.all_eq_true.1 h 4 (by simp); exact q (by simpa using this)); rw [hz]; rfl)
              | (have q : ¬ rest (evFs e) e 5 = 0 := (by with_reducible assumption); have hz : [0, 1, 2, 3, 4, 5, 6, 7].all (fun j => rest (evFs e) e j == 0) = false := (by rw [Bool.eq_false_iff]; intro h; have := List.all_eq_true.1 h 5 (by simp); exact q (by simpa using this)); rw [hz]; rfl)
              | (have q : ¬ rest (evFs e) e 6 = 0 := (by with_reducible assumption); have hz : [0, 1, 2, 3, 4, 5, 6, 7].all (fun j => rest (evFs e) e j == 0) = false := (by rw [Bool.eq_false_iff]; intro h; have := List.all_eq_true.1 h 6 (by simp); exact q (by simpa using this)); rw [hz]; rfl)
              | (have q : ¬ rest (evFs e) e 7 = 0 := (by with_reducible assumption); have hz : [0, 1, 2, 3, 4, 5, 6, 7].all (fun j => rest (evFs e) e j == 0) = false := (by rw [Bool.eq_false_iff]; intro h; have := List.all_eq_true.1 h 7 (by simp); exact q (by simpa using this)); rw [hz]; rfl)
              | (have q0 : rest (evFs e) e 0 = 0 := (by with_reducible assumption); have q1 : rest (evFs e) e 1 = 0 := (by with_reducible assumption); have q2 : rest (evFs e) e 2 = 0 := (by with_reducible assumption); have q3 : rest (evFs e) e 3 = 0 := (by with_reducible assumption); have q4 : rest (evFs e) e 4 = 0 := (by with_reducible assumption); have q5 : rest (evFs e) e 5 = 0 := (by with_reducible assumption); have q6 : rest (evFs e) e 6 = 0 := (by with_reducible assumption); have q7 : rest (evFs e) e 7 = 0 := (by with_reducible assumption); have hz : [0, 1, 2, 3, 4, 5, 6, 7].all (fun j => rest (evFs e) e j == 0) = true := (by simp only [List.all_cons, List.all_nil, q0, q1, q2, q3, q4, q5, q6, q7, beq_self_eq_true, Bool.and_self]); rw [hz]; rfl)
end Go.Proofs.YtbogjkggfdhckaaGreatDoor

/-
  event: Valid, whole.
-/
namespace Go.Proofs.YtbogjkggfdhckaaGreatDoor
open Go.RowKit Go.Um
attribute [local go_sem] eql_fn_nil eql_fn_some

set_option maxRecDepth 100000 in
set_option maxHeartbeats 4000000 in
theorem valid_nocall (E : Nat → Addr) (e : Nat → Int) (w : World) (hG : Gl E w) (h2 : e 0 = 2) (h4 : opKind (e 4) = 0) :
    Calls Tryz.prog 99 #[evV e] w fun r w' => r = .returned (errV E 7) ∧ Kp [] w w' := by
  have hcd := hG.code
  have hbl := hG.sz
  have hol : 7 < w.heap.size := by omega
  unfold errV at hcd ⊢
  have h2t : (e 0 == 2) = true := by simpa using h2
  have h3f : (e 0 == 3) = false := by rw [beq_eq_false_iff_ne]; omega
  have hop : (opKind (e 4) == 0) = true := by simpa using h4
  have H1 := Lib.hid (show 1 ≤ e 0 ∧ e 0 ≤ 7 by omega)
  clear hG h2 h4
  unfold evV
  go_enter Tryz.func99, Tryz.ntmps99
  go_wp2
  go_region_with (go_at_call 123; refine (fields_any _).mono ?_; rintro e1 w1 ⟨⟨r, rfl, hr, hF⟩, hK⟩; obtain ⟨l1, c1, f1⟩ := hK.blk w.heap.size (by simp) (by simp); obtain ⟨v, hlk, hv⟩ := hF.look (e 0); obtain ⟨fn, b, rfl, hfn, HY, HN⟩ := next_of (e := e) (by rcases hv with ⟨_, hv⟩ | ⟨hv, _⟩; exact hv; exfalso; apply hv; have := H1.out; simp [fieldKeys]; omega); have hK' := ((Kp.refl [] w).alloc _).drew.trans hK (by simp); clear hv hF hfn HY HN; obtain ⟨l2, c2, f2⟩ := hK.blk 7 (by simp; omega) (by simp))
  all_goals go_wp2_with (go_at_call 100; refine (of_any _ _).mono ?_; rintro e1 w' ⟨rfl, rfl⟩)
  all_goals go_ret
  all_goals exact ⟨rfl, hK'⟩

set_option maxRecDepth 100000 in
set_option maxHeartbeats 4000000 in
theorem valid_noreturn (E : Nat → Addr) (e : Nat → Int) (w : World) (hG : Gl E w) (h3 : e 0 = 3) (h7 : ¬ (1 ≤ e 7 ∧ e 7 ≤ 3)) (hlo : -9223372036854775808 ≤ e 7) (hhi : e 7 ≤ 9223372036854775807) :
    Calls Tryz.prog 99 #[evV e] w fun r w' => r = .returned (errV E 7) ∧ Kp [] w w' := by
  have hcd := hG.code
  have hbl := hG.sz
  have hol : 7 < w.heap.size := by omega
  unfold errV at hcd ⊢
  have h2f : (e 0 == 2) = false := by rw [beq_eq_false_iff_ne]; omega
  have h3t : (e 0 == 3) = true := by simpa using h3
  have hW : ∀ W : World, Calls Tryz.prog 122 #[.int .i64 4, .int .i64 (e 7)] W fun e w' => e = .returned (.string ⟨#[]⟩) ∧ Kp [] W w' := fun W => word_out 4 (e 7) W (.inr ⟨rfl, h7⟩) hlo hhi
  have HW := Lib.hid hW
  have H1 := Lib.hid (show 1 ≤ e 0 ∧ e 0 ≤ 7 by omega)
  clear hG h3 h7 hW hlo hhi
  unfold evV
  go_enter Tryz.func99, Tryz.ntmps99
  go_wp2
  go_region_with (go_at_call 123; refine (fields_any _).mono ?_; rintro e1 w1 ⟨⟨r, rfl, hr, hF⟩, hK⟩; obtain ⟨l1, c1, f1⟩ := hK.blk w.heap.size (by simp) (by simp); obtain ⟨v, hlk, hv⟩ := hF.look (e 0); obtain ⟨fn, b, rfl, hfn, HY, HN⟩ := next_of (e := e) (by rcases hv with ⟨_, hv⟩ | ⟨hv, _⟩; exact hv; exfalso; apply hv; have := H1.out; simp [fieldKeys]; omega); have hK' := ((Kp.refl [] w).alloc _).drew.trans hK (by simp); clear hv hF hfn HY HN; obtain ⟨l2, c2, f2⟩ := hK.blk 7 (by simp; omega) (by simp))
  all_goals go_wp2_with (go_at_call 122; refine (HW.out _).mono ?_; rintro e1 w2 ⟨rfl, hk12⟩; obtain ⟨l3, c3, f3⟩ := hk12.blk 7 l2 (by simp); replace hK' := hK'.trans hk12 (by simp))
  all_goals go_ret
  all_goals exact ⟨rfl, hK'⟩

theorem valid_any (E : Nat → Addr) (e : Nat → Int) (w : World) (hG : Gl E w) (hlo : -9223372036854775808 ≤ e 7) (hhi : e 7 ≤ 9223372036854775807) :
    Calls Tryz.prog 99 #[evV e] w fun r w' => r = .returned (evRes E e) ∧ Kp [] w w' := by
  by_cases hk : kindOk e = true
  · have hr : evRes E e = if evOk e then .nilIface else errV E 8 := by simp [evRes, hk]
    rw [hr]
    by_cases h2 : e 0 = 2
    · exact valid_call E e w hG hk h2
    · by_cases h3 : e 0 = 3
      · exact valid_return E e w hG hk h3
      · exact valid_other E e w hG hk (by simpa using h2) (by simpa using h3)
  · have hkf : kindOk e = false := by simpa using hk
    have hr : evRes E e = errV E 7 := by simp [evRes, hkf]
    rw [hr]
    by_cases h1 : 1 ≤ e 0 ∧ e 0 ≤ 7
    · simp only [kindOk, h1.1, h1.2, decide_true, Bool.and_self, Bool.true_and, Bool.and_eq_false_iff, Bool.or_eq_false_iff, bne_eq_false_iff_eq, decide_eq_false_iff_not] at hkf
      rcases hkf with ⟨h2, h4⟩ | ⟨h3, h7⟩
      · exact valid_nocall E e w hG h2 h4
      · exact valid_noreturn E e w hG h3 (by omega) hlo hhi
    · exact valid_nokind E e w hG h1
end Go.Proofs.YtbogjkggfdhckaaGreatDoor

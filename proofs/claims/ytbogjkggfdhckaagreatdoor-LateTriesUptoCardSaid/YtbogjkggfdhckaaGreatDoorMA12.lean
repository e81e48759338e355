/-
  Lemmas on the way to Rr1: Rw2.
-/
import Derived.Test.YtbogjkggfdhckaaGreatDoorRows
import Derived.Test.YtbogjkggfdhckaaGreatDoorMA3
import Derived.LaidLaws
import Derived.MakeChecks
import Derived.OpenShut
/-
  The rows: what the listed variables hold.
-/
namespace Go.Proofs.YtbogjkggfdhckaaGreatDoor
open Go.RowKit Go.Um Go.ChangeShapes

theorem laid_at {w : World} : ∀ {l : List (String × DataW Unit)} {ps : List MemPlace}, DataW.LaidVars Tryz.prog w l ps → ∀ n d, (n, d) ∈ l →
    ∃ g t cs fuel p, Tryz.prog.globalNamed n = some g ∧ (Tryz.prog.globals[g]?).map (·.type) = some t ∧ w.var? Tryz.prog n = some cs ∧ DataW.trod (fun _ => ()) Tryz.prog w 0 (fun _ => true) false fuel t cs.toList = some (d, p) ∧ ∀ x ∈ MemPlace.row ⟨g, 0, none⟩ cs.size, x ∈ ps
  | [], _, _, _, _, h => by simp at h
  | (n', d') :: r, ps, ⟨g, t, cs, fuel, p, q, h1, h2, h3, h4, h5, h6⟩, n, d, h => by
    rcases List.mem_cons.1 h with h | h
    · cases h
      exact ⟨g, t, cs, fuel, p, h1, h2, h3, h4, fun x hx => by rw [h6]; simp [hx]⟩
    · obtain ⟨g', t', cs', f', p', a1, a2, a3, a4, a5⟩ := laid_at h5 n d h
      exact ⟨g', t', cs', f', p', a1, a2, a3, a4, fun x hx => by rw [h6]; simp [a5 x hx]⟩
set_option maxRecDepth 100000 in
theorem erow : ∀ u, Tryz.prog.typeName? 3 u = some "*errors.errorString" → u = 238 := by
  have e : "*errors.errorString" = "*" ++ "errors.errorString" := by decide
  rw [e]
  exact typeName_ptr_named (by kernel_rfl) (by kernel_rfl) (by decide)
set_option maxRecDepth 100000 in
/-- A sentinel's cell. -/
theorem sentinel {w : World} {l : List (String × DataW Unit)} (h : laidMet Tryz.prog l w) {n : String} {text : List UInt8} (hm : (n, DataW.iface "*errors.errorString" (.ptr (.agg [.lit (.string text)]))) ∈ l) {g : Nat} (hg : Tryz.prog.globalNamed n = some g) (hty : (Tryz.prog.globals[g]?).map (·.type) = some 33) :
    ∃ a, w.cell? ⟨g, 0, none⟩ = some (.iface 238 (.pointer (some a))) := by
  obtain ⟨ps, hL, _, hrows⟩ := h
  obtain ⟨g', t, cs, fuel, p, h1, h2, h3, h4, h5⟩ := laid_at hL _ _ hm
  rw [hg] at h1; cases h1
  rw [hty] at h2; cases h2
  obtain ⟨l0⟩ := cs
  have ok0 : ∀ u v, l0 = [.iface u v] → Value.okWide Tryz.prog w .any 0 u v := fun u v e => by
    subst e
    exact (hrows g 0 (h5 _ (by simp [MemPlace.row]))).2 u v (by simpa using World.var?_cell hg h3 0)
  obtain ⟨a0, s0, rfl, _⟩ := errorString_of_trod Tryz.underlying33 erow Tryz.underlying238 Tryz.underlying254 rfl rfl Tryz.underlying9 (by kernel_rfl) (by kernel_rfl) h4 ok0
  exact ⟨a0, by simpa using World.var?_cell hg h3 0⟩
set_option maxRecDepth 100000 in
/-- A table of words. -/
theorem words {w : World} {l : List (String × DataW Unit)} (h : laidMet Tryz.prog l w) {n : String} {texts : List (List UInt8)} (hm : (n, DataW.agg (texts.map (fun s => .lit (.string s)))) ∈ l) {g k t : Nat} (hg : Tryz.prog.globalNamed n = some g) (hty : (Tryz.prog.globals[g]?).map (·.type) = some t) (ht : Tryz.prog.underlying t = some (.array k 9)) (hk : texts.length = k) :
    ∀ i s, texts[i]? = some s → w.cell? ⟨g, i, none⟩ = some (.string ⟨⟨s⟩⟩) := by
  obtain ⟨ps, hL, _, hrows⟩ := h
  obtain ⟨g', t', cs, fuel, p, h1, h2, h3, h4, h5⟩ := laid_at hL _ _ hm
  rw [hg] at h1; cases h1
  rw [hty] at h2; cases h2
  obtain ⟨xs, m, _, hx, hlen, hn, hel⟩ := DataW.trod_array ht h4
  have c1 : Tryz.prog.cellsOf 9 = 1 := by kernel_rfl
  intro i s hi
  have hil : i < k := by have := (List.getElem?_eq_some_iff.1 hi).1; omega
  have h6 := hel i hil
  obtain ⟨x, hxi⟩ : ∃ x, xs[i]? = some x := ⟨xs[i]'(by omega), by simp⟩
  rw [hxi] at h6
  obtain ⟨z, hz, hx0, _⟩ := DataW.trod_string Tryz.underlying9 h6
  simp only [Prod.mk.injEq, DataW.agg.injEq] at hx
  have h7 : (xs.map (·.1))[i]? = some (DataW.lit (.string s)) := by rw [← hx.1]; simp [hi]
  simp only [List.getElem?_map, hxi, Option.map_some, Option.some.injEq] at h7
  rw [hx0] at h7
  simp only [DataW.lit.injEq, Lit.string.injEq] at h7
  have hz2 : z = ⟨⟨s⟩⟩ := by
    cases z with
    | mk d => cases d with
      | mk l => simp at h7; rw [h7]
  have h8 := World.var?_cell hg h3 i
  rw [h8]
  rw [c1, Nat.mul_one] at hz
  have h9 : (cs.toList.drop i)[0]? = some (Value.string z) := by
    cases hd : cs.toList.drop i with
    | nil => rw [hd] at hz; simp at hz
    | cons a r => rw [hd] at hz; simp at hz; simp [hz]
  rw [List.getElem?_drop] at h9
  simp at h9
  rw [h9, hz2]
def needS : List (String × DataW Unit) := [("umpire/api.ErrMany", Rows.laid_umpire_api_ErrMany), ("umpire/api.ErrCode", Rows.laid_umpire_api_ErrCode), ("umpire/api.ErrObject", Rows.laid_umpire_api_ErrObject), ("umpire/api.ErrEvent", Rows.laid_umpire_api_ErrEvent), ("umpire/api.ErrOp", Rows.laid_umpire_api_ErrOp), ("umpire/api.ErrAnswer", Rows.laid_umpire_api_ErrAnswer), ("umpire/api.ErrTx", Rows.laid_umpire_api_ErrTx), ("umpire/api.ErrTwice", Rows.laid_umpire_api_ErrTwice), ("umpire/api.ErrThread", Rows.laid_umpire_api_ErrThread), ("umpire/api.ErrOrder", Rows.laid_umpire_api_ErrOrder), ("umpire/api.ErrProg", Rows.laid_umpire_api_ErrProg), ("umpire/event.objects", Rows.laid_umpire_event_objects), ("umpire/event.answers", Rows.laid_umpire_event_answers), ("umpire/event.levels", Rows.laid_umpire_event_levels)]
set_option maxRecDepth 100000 in
/-- What the package's variables hold, where the row's list is met. -/
theorem gl_of {w : World} {l : List (String × DataW Unit)} (h : laidMet Tryz.prog l w) (hn : ∀ x ∈ needS, x ∈ l) : ∃ E, Gl E w := by
  have S : ∀ {n : String} {d : DataW Unit} {text : List UInt8} {g : Nat}, (n, d) ∈ needS → d = DataW.iface "*errors.errorString" (.ptr (.agg [.lit (.string text)])) → Tryz.prog.globalNamed n = some g → (Tryz.prog.globals[g]?).map (·.type) = some 33 → ∃ a, w.cell? ⟨g, 0, none⟩ = some (.iface 238 (.pointer (some a))) := fun hm hd hg hty => sentinel h (by rw [← hd]; exact hn _ hm) hg hty
  obtain ⟨a1, h1⟩ := S (n := "umpire/api.ErrMany") (d := Rows.laid_umpire_api_ErrMany) (g := 0) (by simp [needS]) rfl (by kernel_rfl) (by kernel_rfl)
  obtain ⟨a2, h2⟩ := S (n := "umpire/api.ErrObject") (d := Rows.laid_umpire_api_ErrObject) (g := 1) (by simp [needS]) rfl (by kernel_rfl) (by kernel_rfl)
  obtain ⟨a3, h3⟩ := S (n := "umpire/api.ErrOp") (d := Rows.laid_umpire_api_ErrOp) (g := 2) (by simp [needS]) rfl (by kernel_rfl) (by kernel_rfl)
  obtain ⟨a4, h4⟩ := S (n := "umpire/api.ErrTwice") (d := Rows.laid_umpire_api_ErrTwice) (g := 3) (by simp [needS]) rfl (by kernel_rfl) (by kernel_rfl)
  obtain ⟨a5, h5⟩ := S (n := "umpire/api.ErrThread") (d := Rows.laid_umpire_api_ErrThread) (g := 4) (by simp [needS]) rfl (by kernel_rfl) (by kernel_rfl)
  obtain ⟨a6, h6⟩ := S (n := "umpire/api.ErrTx") (d := Rows.laid_umpire_api_ErrTx) (g := 5) (by simp [needS]) rfl (by kernel_rfl) (by kernel_rfl)
  obtain ⟨a7, h7⟩ := S (n := "umpire/api.ErrOrder") (d := Rows.laid_umpire_api_ErrOrder) (g := 6) (by simp [needS]) rfl (by kernel_rfl) (by kernel_rfl)
  obtain ⟨a8, h8⟩ := S (n := "umpire/api.ErrCode") (d := Rows.laid_umpire_api_ErrCode) (g := 7) (by simp [needS]) rfl (by kernel_rfl) (by kernel_rfl)
  obtain ⟨a9, h9⟩ := S (n := "umpire/api.ErrEvent") (d := Rows.laid_umpire_api_ErrEvent) (g := 8) (by simp [needS]) rfl (by kernel_rfl) (by kernel_rfl)
  obtain ⟨a10, h10⟩ := S (n := "umpire/api.ErrAnswer") (d := Rows.laid_umpire_api_ErrAnswer) (g := 9) (by simp [needS]) rfl (by kernel_rfl) (by kernel_rfl)
  obtain ⟨a11, h11⟩ := S (n := "umpire/api.ErrProg") (d := Rows.laid_umpire_api_ErrProg) (g := 10) (by simp [needS]) rfl (by kernel_rfl) (by kernel_rfl)
  have ho := words h (n := "umpire/event.objects") (texts := [[114, 101, 103, 105, 115, 116, 101, 114], [99, 111, 117, 110, 116, 101, 114], [113, 117, 101, 117, 101], [109, 97, 112]]) (g := 11) (hn ("umpire/event.objects", Rows.laid_umpire_event_objects) (by simp [needS])) (by kernel_rfl) (by kernel_rfl) Tryz.underlying225 rfl
  have ha := words h (n := "umpire/event.answers") (texts := [[111, 107], [110, 111, 110, 101], [118, 97, 108]]) (g := 14) (hn ("umpire/event.answers", Rows.laid_umpire_event_answers) (by simp [needS])) (by kernel_rfl) (by kernel_rfl) Tryz.underlying229 rfl
  have hlv := words h (n := "umpire/event.levels") (texts := [[115, 101, 114, 105, 97, 108], [115, 116, 114, 105, 99, 116], [102, 105, 110, 97, 108], [111, 112, 97, 113, 117, 101]]) (g := 16) (hn ("umpire/event.levels", Rows.laid_umpire_event_levels) (by simp [needS])) (by kernel_rfl) (by kernel_rfl) Tryz.underlying225 rfl
  refine ⟨fun g => match w.cell? ⟨g, 0, none⟩ with | some (.iface _ (.pointer (some a))) => a | _ => ⟨0, 0, none⟩, ?_⟩
  have hz := World.block_lt_of_cell? w _ (hlv 0 _ rfl)
  exact {
    sz := hz
    many := by simp only [errV, h1]
    object := by simp only [errV, h2]
    op := by simp only [errV, h3]
    twice := by simp only [errV, h4]
    thread := by simp only [errV, h5]
    tx := by simp only [errV, h6]
    order := by simp only [errV, h7]
    code := by simp only [errV, h8]
    event := by simp only [errV, h9]
    answer := by simp only [errV, h10]
    prog := by simp only [errV, h11]
    objects := fun i hi => by
      match i, hi with
      | 0, _ => exact ⟨_, ho 0 _ rfl, by first | kernel_rfl | (simp [ByteArray.toList, ByteArray.toList.loop])⟩
      | 1, _ => exact ⟨_, ho 1 _ rfl, by first | kernel_rfl | (simp [ByteArray.toList, ByteArray.toList.loop])⟩
      | 2, _ => exact ⟨_, ho 2 _ rfl, by first | kernel_rfl | (simp [ByteArray.toList, ByteArray.toList.loop])⟩
      | 3, _ => exact ⟨_, ho 3 _ rfl, by first | kernel_rfl | (simp [ByteArray.toList, ByteArray.toList.loop])⟩
    answers := fun i hi => by
      match i, hi with
      | 0, _ => exact ⟨_, ha 0 _ rfl, by first | kernel_rfl | (simp [ByteArray.toList, ByteArray.toList.loop])⟩
      | 1, _ => exact ⟨_, ha 1 _ rfl, by first | kernel_rfl | (simp [ByteArray.toList, ByteArray.toList.loop])⟩
      | 2, _ => exact ⟨_, ha 2 _ rfl, by first | kernel_rfl | (simp [ByteArray.toList, ByteArray.toList.loop])⟩ }
end Go.Proofs.YtbogjkggfdhckaaGreatDoor

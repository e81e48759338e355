/-
  Lemmas on the way to Rr1: Lp, La2, La3.
-/
import Derived.Test.YtbogjkggfdhckaaGreatDoorMA9
import Derived.Test.YtbogjkggfdhckaaGreatDoorMA18
import Derived.Test.YtbogjkggfdhckaaGreatDoorMA19
/-
  late, purely: its runs.
-/
namespace Go.Proofs.YtbogjkggfdhckaaGreatDoor
open Go.RowKit Go.Um

def startM (p : Pg) : Mc := ⟨ths0 p, [], p.ths.map (fun _ => .nil), p.cells.map (fun c => (c, 0)), p.ths.map (fun _ => ([], []))⟩
def Mc.stepI (p : Pg) (m : Mc) (i : Int) : Mc := if 0 ≤ i then m.step p i.toNat else m
def Mc.runI (p : Pg) (m : Mc) (s : List Int) : Mc := s.foldl (Mc.stepI p) m
inductive Reach (p : Pg) (m : Mc) : Mc → Prop
  | refl : Reach p m m
  | step {m' : Mc} (i : Int) : Reach p m m' → Reach p m (m'.stepI p i)
theorem Reach.trans {p : Pg} {a b c : Mc} (h : Reach p a b) (h2 : Reach p b c) : Reach p a c := by
  induction h2 with
  | refl => exact h
  | step i _ ih => exact .step i ih
theorem reach_run (p : Pg) : ∀ (s : List Int) (m : Mc), Reach p m (m.runI p s)
  | [], _ => .refl
  | i :: s, m => (Reach.step i .refl).trans (reach_run p s (m.stepI p i))
theorem Inv.stepI {p : Pg} {m : Mc} {l : List St} (hp : PgOk p) (h : Inv p m l) (i : Int) : ∃ l', Inv p (m.stepI p i) l' := by
  unfold Mc.stepI
  split
  · exact (h.step hp i.toNat).1
  · exact ⟨l, h⟩
theorem Reach.inv {p : Pg} {m m' : Mc} (hr : Reach p m m') (hp : PgOk p) (h : ∃ l, Inv p m l) : ∃ l, Inv p m' l := by
  induction hr with
  | refl => exact h
  | step i _ ih =>
    obtain ⟨l, hl⟩ := ih
    exact hl.stepI hp i
/-! ### Versions -/
def VerOk (m : Mc) : Prop := ∀ c ∈ m.cells, 0 ≤ c.2 ∧ c.2 ≤ (mu m : Int)
theorem step_cells (p : Pg) (m : Mc) (i : Nat) : ((m.step p i).cells = m.cells ∧ mu m ≤ mu (m.step p i)) ∨ ∃ w, (m.step p i).cells = wrote w m.cells ∧ mu m + 1 ≤ mu (m.step p i) := by
  have hput : ∀ t e x x' q, m.nx[i]? = some x → ((m.put i t e x' q).cells = m.cells ∧ mu m ≤ mu (m.put i t e x' q)) ∨ ∃ w, (m.put i t e x' q).cells = wrote w m.cells ∧ mu m + 1 ≤ mu (m.put i t e x' q) := by
    intro t e x x' q hx
    have := mu_put (t := t) (e := e) (x' := x') (q := q) hx
    exact .inl ⟨rfl, by omega⟩
  unfold Mc.step
  split
  · rename_i txs t x r w h1 h2 h3 h4
    split
    · exact .inl ⟨rfl, Nat.le_refl _⟩
    · split
      · split
        · exact hput _ _ _ _ _ h3
        · exact hput _ _ _ _ _ h3
      · exact hput _ _ _ _ _ h3
      · exact hput _ _ _ _ _ h3
      · split
        · refine .inr ⟨w, rfl, ?_⟩
          have := sum_set' isC (t' := Stp.commit) h3
          simp only [isC, Nat.add_zero] at this
          simp only [mu]
          omega
        · exact hput _ _ _ _ _ h3
      · split
        · exact hput _ _ _ _ _ h3
        · exact .inl ⟨rfl, Nat.le_refl _⟩
  · exact .inl ⟨rfl, Nat.le_refl _⟩
theorem wrote_ver {w : As} {cells : List (Int × Int)} {n : Int} (h : ∀ c ∈ cells, 0 ≤ c.2 ∧ c.2 ≤ n) : ∀ c ∈ wrote w cells, 0 ≤ c.2 ∧ c.2 ≤ n + 1 := by
  intro c hc
  obtain ⟨k, hk⟩ := List.mem_iff_getElem?.1 hc
  simp only [wrote, List.getElem?_mapIdx, Option.map_eq_some_iff] at hk
  obtain ⟨a, ha, rfl⟩ := hk
  have := h a (List.mem_of_getElem? ha)
  split <;> ((try dsimp only); omega)
theorem VerOk.step {p : Pg} {m : Mc} (h : VerOk m) (i : Nat) : VerOk (m.step p i) := by
  rcases step_cells p m i with ⟨h1, h2⟩ | ⟨w, h1, h2⟩
  · intro c hc
    rw [h1] at hc
    have := h c hc
    omega
  · intro c hc
    rw [h1] at hc
    have := wrote_ver h c hc
    omega
theorem VerOk.stepI {p : Pg} {m : Mc} (h : VerOk m) (i : Int) : VerOk (m.stepI p i) := by
  unfold Mc.stepI
  split
  · exact h.step _
  · exact h
theorem Reach.ver {p : Pg} {m m' : Mc} (hr : Reach p m m') (h : VerOk m) : VerOk m' := by
  induction hr with
  | refl => exact h
  | step i _ ih => exact ih.stepI i
theorem sum_isC : ∀ l : List Stp, (l.map isC).sum ≤ l.length
  | [] => by simp
  | x :: l => by
    have := sum_isC l
    have h : isC x ≤ 1 := by cases x <;> simp [isC]
    simp; omega
theorem Inv.mu_le {p : Pg} {m : Mc} {l : List St} (h : Inv p m l) (hp : PgOk p) : mu m ≤ 652 := by
  have h1 := h.sim.few hp
  have h2 := sum_isC m.nx
  have h3 := h.nl
  have h4 := hp.t4
  unfold mu
  omega
theorem VerOk.small {p : Pg} {m : Mc} {l : List St} (hv : VerOk m) (h : Inv p m l) (hp : PgOk p) : ∀ c ∈ m.cells, 0 ≤ c.2 ∧ c.2 ≤ 1000000 := fun c hc => by
  have := hv c hc
  have := h.mu_le hp
  omega
theorem ver_start (p : Pg) : VerOk (startM p) := by
  intro c hc
  simp only [startM, List.mem_map] at hc
  obtain ⟨a, _, rfl⟩ := hc
  simp
/-! ### The start -/
theorem ths0_at {p : Pg} {i : Nat} {t : Th} (h : (ths0 p)[i]? = some t) : t = t0Th ∧ ∃ txs, p.ths[i]? = some txs := by
  simp only [ths0, List.getElem?_map, Option.map_eq_some_iff] at h
  obtain ⟨txs, h1, h2⟩ := h
  exact ⟨h2.symm, txs, h1⟩
theorem Inv.start {p : Pg} (hp : PgOk p) : Inv p (startM p) [] := by
  refine ⟨⟨.nil, by simp [startM, ths0], by simp, by simp, ?_, by simp [startM]⟩, by simp [startM], by simp [startM], by simp [startM], ?_, ?_, by simp, by simp, by simp, ?_⟩
  · intro i t hi
    obtain ⟨rfl, txs, htx⟩ := ths0_at hi
    exact ⟨txs, htx, by simp [t0Th], .inl ⟨rfl, rfl, rfl, rfl⟩⟩
  · intro c hc
    simp only [startM, List.mem_map] at hc
    obtain ⟨a, ha, rfl⟩ := hc
    have := hp.ce a ha
    simp only [startM, List.length_nil]
    unfold small
    simp; omega
  · intro i t x r w hi hx hw
    obtain ⟨rfl, txs, htx⟩ := ths0_at hi
    simp only [startM, List.getElem?_map, htx, Option.map_some, Option.some.injEq, Prod.mk.injEq] at hx hw
    obtain rfl := hx
    obtain ⟨rfl, rfl⟩ := hw
    exact { nx := rfl, sw := by simp, kr := ⟨by simp, by simp⟩, kw := ⟨by simp, by simp⟩, rd := by unfold small; simp [startM, t0Th], ev := by simp, ts := by simp [t0Th] }
  · intro k e hk
    simp [startM] at hk
/-! ### Done -/
theorem more_iff {p : Pg} {m : Mc} {i : Nat} : more p m i ↔ moreB p m.ths i = true := by
  unfold more moreB
  constructor
  · rintro ⟨txs, t, acts, h1, h2, h3⟩
    rw [h2, h1]
    simpa using (List.getElem?_eq_some_iff.1 h3).1
  · intro h
    split at h
    · rename_i t txs h1 h2
      have : t.tx < txs.length := by simpa using h
      exact ⟨txs, t, txs[t.tx], h2, h1, by simp⟩
    · cases h
theorem done_all {p : Pg} {m : Mc} {l : List St} (h : Inv p m l) (hd : doneB p m.ths = true) : ∀ s ∈ l, s.stand = 5 := by
  intro s hs
  obtain ⟨j, hj⟩ := List.mem_iff_getElem?.1 hs
  obtain ⟨i, k, t, h1, h2, h3, h4, h5⟩ := h.sim.own j s hj
  rcases h5 with ⟨_, h5⟩ | ⟨_, h5⟩
  · exact h5
  · obtain ⟨txs, c1, c2, c3⟩ := h.sim.cur i t h1
    rcases c3 with ⟨c3, _⟩ | ⟨_, acts, _, _, c4, _⟩
    · rw [h5] at c3; cases c3
    · have hlt := (List.getElem?_eq_some_iff.1 c4).1
      have hil := (List.getElem?_eq_some_iff.1 c1).1
      unfold doneB at hd
      rw [List.all_eq_true] at hd
      have := hd i (List.mem_range.2 hil)
      have hm : moreB p m.ths i = true := by
        unfold moreB
        rw [h1, c1]
        simpa using hlt
      rw [hm] at this
      cases this
/-! ### Reads -/
theorem lw_app (c : Int) (a b : List Dd) (h : ∀ d ∈ b, ¬ (d.op = 2 ∧ d.obj = c)) : lw c (a ++ b) = lw c a := by
  induction b generalizing a with
  | nil => simp
  | cons d b ih =>
    have e : a ++ d :: b = (a ++ [d]) ++ b := by simp
    rw [e, ih (a ++ [d]) (fun x hx => h x (by simp [hx])), lw_snoc, if_neg (h d (by simp))]
theorem take_split {α : Type} {l : List α} {k j : Nat} (hkj : k ≤ j) : l.take j = l.take k ++ (l.drop k).take (j - k) := by
  have : j = k + (j - k) := by omega
  rw [this, List.take_add]
  simp
theorem reads_same {f : Int → Int} {ds : List Dd} (h : RdOk (fun c g => g = f c) ds) {k j : Nat} {d e : Dd} (hk : ds[k]? = some d) (hj : ds[j]? = some e) (hkj : k < j) (hd : d.op = 1) (hobj : e.obj = d.obj) (he : e.op = 1)
    (hno : ∀ (i : Nat) x, k < i → i < j → ds[i]? = some x → ¬ (x.op = 2 ∧ x.obj = d.obj)) : e.got = d.got := by
  have h1 := h k d hk hd
  have h2 := h j e hj he
  rw [hobj] at h2
  have hl : lw d.obj (ds.take j) = lw d.obj (ds.take k) := by
    rw [take_split (Nat.le_of_lt hkj)]
    refine lw_app _ _ _ fun x hx => ?_
    obtain ⟨i, hi⟩ := List.mem_iff_getElem?.1 hx
    rw [List.getElem?_take] at hi
    split at hi
    · rename_i hlt
      rw [List.getElem?_drop] at hi
      by_cases hi0 : i = 0
      · subst hi0
        simp only [Nat.add_zero] at hi
        rw [hk] at hi; cases hi
        intro hc; omega
      · exact hno (k + i) x (by omega) (by omega) hi
    · cases hi
  rw [hl] at h2
  cases hlw : lw d.obj (ds.take k) with
  | some v => rw [hlw] at h1 h2; simp only at h1 h2; omega
  | none => rw [hlw] at h1 h2; simp only at h1 h2; omega
end Go.Proofs.YtbogjkggfdhckaaGreatDoor

/-
  late in memory: the store of the next step; a transaction's end.
-/
namespace Go.Proofs.YtbogjkggfdhckaaGreatDoor
open Go.RowKit Go.Um

/-- What keeps all but blocks of these colours, and the walk, keeps the machine. -/
theorem MachAt.kp0 {w w' : World} {p : Pg} {L : Lay} {m : Mc} {nv : List Value} {wv : List (Value × Value)} (h : MachAt w p L m nv wv) (hk : Kp [] w w') : MachAt w' p L m nv wv := by
  have hC : Cl [] w L.ρ [] := fun x hx => by simp at hx
  have c : ∀ {b o : Nat} {v : Value}, w.cell? ⟨b, o, none⟩ = some v → w'.cell? ⟨b, o, none⟩ = some v := fun hc => (hk.cellAt hc (by simp)).1
  exact {
    wk := h.wk.kp0 hk, t0 := c h.t0, t1 := c h.t1, t2 := c h.t2, t3 := c h.t3, t4 := c h.t4
    pg := h.pg.kp hk (by simp)
    q0 := fun x hx => ⟨Nat.lt_of_lt_of_le (h.q0 x hx).1 hk.size, (h.q0 x hx).2⟩
    p0 := h.p0
    nx := own_kp h.nx hk (by simp)
    st := fun i x v hx hv => (h.st i x v hx hv).fr hk hC (by simp) (fun _ _ => rfl)
    m0 := c h.m0, m1 := c h.m1, m2 := c h.m2
    ce := own_kp h.ce hk (by simp)
    wo := own_kp h.wo hk (by simp)
    wl := h.wl
    wm := fun i q v hq hv => ⟨(h.wm i q v hq hv).1.fr hk hC (by simp) (fun _ _ => rfl), (h.wm i q v hq hv).2.fr hk hC (by simp) (fun _ _ => rfl)⟩
    bg := h.bg, k1 := h.k1, k2 := h.k2, k3 := h.k3, k4 := h.k4, k5 := h.k5, k6 := h.k6, kt := h.kt, km := h.km, mb := h.mb, base := h.base }
theorem MachAt.put {w : World} {p : Pg} {L : Lay} {m : Mc} {nv : List Value} {wv : List (Value × Value)} (h : MachAt w p L m nv wv) {i : Nat} (hi : i < p.ths.length) : Put w L.bt L.gn p.ths.length L.cn i := by
  have hl : nv.length = p.ths.length := by simpa using h.nx.1
  refine ⟨h.t3, ⟨nv[i]'(by omega), ?_⟩, h.nx.frozenAt i⟩
  rw [h.nx.cellAt i (by omega)]
  simp
/-- What a thread does next is stored. -/
theorem MachAt.next {w : World} {p : Pg} {L : Lay} {m : Mc} {nv : List Value} {wv : List (Value × Value)} (h : MachAt w p L m nv wv) {i : Nat} {x : Stp} {v : Value} (hx : StpAt w L.ρ L.bm i x v) :
    MachAt (w.setCell ⟨L.gn, i, none⟩ v) p L { m with nx := m.nx.set i x } (nv.set i v) wv := by
  have hk : Kp [L.gn] w (w.setCell ⟨L.gn, i, none⟩ v) := (Kp.refl _ _).setCell _ _ (fun _ => by simp)
  have hC : Cl [L.gn] w L.ρ [4] := fun y hy _ => by simp at hy; subst hy; rw [h.k4]; simp
  have ro : ∀ {b o : Nat} {v' : Value}, L.ρ b = 0 → w.cell? ⟨b, o, none⟩ = some v' → (w.setCell ⟨L.gn, i, none⟩ v).cell? ⟨b, o, none⟩ = some v' := fun hb hc => cell_ro hk hC (by simp) hb hc
  have hown : ∀ {e sz n : Nat} {u : Value} {xs : List Value}, w.ownsRow L.B e sz u n xs → (∀ g, u.ownBlock = some g → L.ρ g ∉ [4]) → (w.setCell ⟨L.gn, i, none⟩ v).ownsRow L.B e sz u n xs := fun ho hc => own_kp ho hk (fun g hg => hC.out (ho.lt g hg).2 (hc g hg))
  have hne : ∀ b, b < w.heap.size → L.ρ b ≠ 4 → b ∉ [L.gn] := fun b hb h4 => hC.out hb (by simpa using h4)
  exact {
    wk := h.wk.kp hk (hne _ h.wk.lt (by rw [h.k1]; decide)) (hne _ (h.wk.ow.lt _ rfl).2 (by rw [h.k2]; decide)) (fun g hg => hne _ (h.wk.oe.lt g hg).2 (by rw [h.k3 g hg]; decide)) (fun y hy hP => by simp at hy; subst hy; have := h.p0 _ hP; have := h.k4; omega)
    t0 := ro h.kt h.t0, t1 := ro h.kt h.t1, t2 := ro h.kt h.t2, t3 := ro h.kt h.t3, t4 := ro h.kt h.t4
    pg := h.pg.kp hk (fun y hy hq => by simp at hy; subst hy; have := (h.q0 _ hq).2; have := h.k4; omega)
    q0 := fun y hy => ⟨Nat.lt_of_lt_of_le (h.q0 y hy).1 hk.size, (h.q0 y hy).2⟩
    p0 := h.p0
    nx := (h.nx.stored i v).1
    st := fun j y u hy hu => by
      rcases get_set hy with ⟨rfl, rfl⟩ | ⟨hji, hy⟩
      · rcases get_set hu with ⟨_, rfl⟩ | ⟨hjj, _⟩
        · exact hx.fr hk hC (by simp) (fun _ _ => rfl)
        · exact absurd rfl hjj
      · rcases get_set hu with ⟨hjj, _⟩ | ⟨_, hu⟩
        · exact absurd hjj hji
        · exact (h.st j y u hy hu).fr hk hC (by simp) (fun _ _ => rfl)
    m0 := ro h.km h.m0, m1 := ro h.km h.m1, m2 := ro h.km h.m2
    ce := hown h.ce (fun g hg => by rw [h.k5 g hg]; simp)
    wo := hown h.wo (fun g hg => by rw [h.k6 g hg]; simp)
    wl := h.wl
    wm := fun j q u hq hu => ⟨(h.wm j q u hq hu).1.fr hk hC (by simp; omega) (fun _ _ => rfl), (h.wm j q u hq hu).2.fr hk hC (by simp; omega) (fun _ _ => rfl)⟩
    bg := h.bg, k1 := h.k1, k2 := h.k2, k3 := h.k3, k4 := h.k4, k5 := h.k5, k6 := h.k6, kt := h.kt, km := h.km, mb := h.mb, base := h.base }
/-- A block that a step may change. -/
def Mine (L : Lay) (w : World) (x : Nat) : Prop := L.B ≤ x ∧ (x < w.heap.size → L.ρ x ≠ 8)
/-- The machine behind a step of the walk. -/
def Gone (w w' : World) (p : Pg) (L : Lay) (m' : Mc) (nv : List Value) (wv : List (Value × Value)) : Prop :=
  (∃ ve' ρ', (∀ x, x < w.heap.size → ρ' x = L.ρ x) ∧ MachAt w' p { L with ve := ve', ρ := ρ' } m' nv wv) ∧ ∃ S, Kp S w w' ∧ ∀ x ∈ S, Mine L w x
theorem MachAt.gone {w W w' : World} {p : Pg} {L : Lay} {m : Mc} {nv : List Value} {wv : List (Value × Value)} (h : MachAt w p L m nv wv) (hW : Kp [] w W) {ths' : List Th} {evs' : List Ev} (hwent : Went W.heap.size w' L.bw L.B L.P p L.vc L.vt ths' L.gt L.ct evs' L.ve) (hk : Kp (L.bw :: L.gt :: L.ve.ownBlock.toList) W w')
    (hbg : ∀ (i : Nat) t v, ths'[i]? = some t → t.begun = true → wv[i]? = some v → ∃ r1 r2, v = (.map (some r1), .map (some r2))) : Gone w w' p L { m with ths := ths', evs := evs' } nv wv := by
  obtain ⟨ve', hw, hve⟩ := hwent
  have hkk : Kp (L.bw :: L.gt :: L.ve.ownBlock.toList) w w' := (hW.mono (T := L.bw :: L.gt :: L.ve.ownBlock.toList) (fun x hx _ => by simp at hx)).trans hk (fun x hx _ => hx)
  have hve' : ∀ g, ve'.ownBlock = some g → L.ve.ownBlock = some g ∨ w.heap.size ≤ g := fun g hg => (hve g hg).imp (fun h => h) (fun h => Nat.le_trans hW.size h)
  have hC : Cl (L.bw :: L.gt :: L.ve.ownBlock.toList) w L.ρ [1, 2, 3] := fun x hx _ => by
    simp at hx
    rcases hx with rfl | rfl | hx
    · rw [h.k1]; simp
    · rw [h.k2]; simp
    · rw [h.k3 x hx]; simp
  refine ⟨⟨ve', _, fun x hx => ?_, h.walk hkk hC hw hve' hbg⟩, _, hkk, fun x hx => ?_⟩
  · show (if _ then _ else _) = _
    split
    · rename_i he
      rcases hve' x he with h1 | h1
      · exact (h.k3 x h1).symm
      · omega
    · rfl
  · simp at hx
    rcases hx with rfl | rfl | hx
    · exact ⟨h.base.1, fun _ => by rw [h.k1]; decide⟩
    · exact ⟨h.base.2.1, fun _ => by rw [h.k2]; decide⟩
    · exact ⟨(h.wk.oe.lt x hx).1, fun _ => by rw [h.k3 x hx]; decide⟩
theorem bg_set {m : Mc} {wv : List (Value × Value)} {i : Nat} {t t' : Th} (hi : m.ths[i]? = some t) (hb : t.begun = true ∨ t'.begun = false) (h : ∀ (i : Nat) t v, m.ths[i]? = some t → t.begun = true → wv[i]? = some v → ∃ r1 r2, v = (.map (some r1), .map (some r2))) :
    ∀ (j : Nat) u v, (m.ths.set i t')[j]? = some u → u.begun = true → wv[j]? = some v → ∃ r1 r2, v = (Value.map (some r1), Value.map (some r2)) := by
  intro j u v hj hu hv
  rcases get_set hj with ⟨rfl, rfl⟩ | ⟨_, hj⟩
  · rcases hb with hb | hb
    · exact h j t v hi hb hv
    · rw [hb] at hu; cases hu
  · exact h j u v hj hu hv

/-- A transaction ends. -/
theorem end_mach {w : World} {p : Pg} {L : Lay} {m : Mc} {nv : List Value} {wv : List (Value × Value)} {l : List St} (hp : PgOk p) (hI : Inv p m l) (h : MachAt w p L m nv wv) {i : Nat} {t : Th} {txs : List (List Ac)} (hi : m.ths[i]? = some t) (ht : p.ths[i]? = some txs) (hn : t.tx < txs.length) (hB : L.B ≤ w.heap.size) (W : World) (hW : Kp [] w W) :
    (t.waits ≠ 0 → Calls Tryz.prog 71 #[.pointer (some ⟨L.bm, 0, none⟩), .int .i64 i, .bool true] W fun r w' => r = .returned .nilFunc ∧ Gone w w' p L { m with ths := m.ths.set i (newT t), evs := m.evs ++ [endE i t 6] } nv wv) ∧
    (t.waits = 4 → Calls Tryz.prog 71 #[.pointer (some ⟨L.bm, 0, none⟩), .int .i64 i, .bool false] W fun r w' => r = .returned .nilFunc ∧ Gone w w' p L { m with ths := m.ths.set i (newT t), evs := m.evs ++ [endE i t 5] } nv wv) := by
  have hMW := h.kp0 hW
  have h3 := hp.tx i txs ht
  have hi4 : i < 4 := by have := (List.getElem?_eq_some_iff.1 ht).1; have := hp.t4; omega
  have hfew := hI.sim.few hp
  have hbg := bg_set (t' := newT t) hi (.inr rfl) h.bg
  refine ⟨fun hw => ?_, fun hw => ?_⟩
  · refine endsLate (R := fun w' => Gone w w' p L { m with ths := m.ths.set i (newT t), evs := m.evs ++ [endE i t 6] } nv wv) hMW.m0 (thAnswer hMW.t2 ?_)
    refine (answer_abort hMW.wk hi ht hn hi4 (by omega) hw 0 (by omega) (Nat.le_trans hB hW.size)).mono ?_
    rintro r w' ⟨rfl, hq, hk⟩
    exact ⟨⟨_, rfl⟩, h.gone hW hq hk hbg⟩
  · refine endsLate (R := fun w' => Gone w w' p L { m with ths := m.ths.set i (newT t), evs := m.evs ++ [endE i t 5] } nv wv) hMW.m0 (thAnswer hMW.t2 ?_)
    refine (answer_commit hMW.wk hi ht hn hi4 (by omega) (by omega) hw 0 (by omega) (Nat.le_trans hB hW.size)).mono ?_
    rintro r w' ⟨rfl, hq, hk⟩
    exact ⟨⟨_, rfl⟩, h.gone hW hq hk hbg⟩
end Go.Proofs.YtbogjkggfdhckaaGreatDoor

/-
  late in memory: the steps that end a transaction.
-/
namespace Go.Proofs.YtbogjkggfdhckaaGreatDoor
open Go.RowKit Go.Um

theorem lateStep {w : World} {bm bt : Nat} {i : Int} {Q : Ending → World → Prop} (hc : w.cell? ⟨bm, 0, none⟩ = some (.pointer (some ⟨bt, 0, none⟩))) (h : Calls Tryz.prog 49 #[.pointer (some ⟨bt, 0, none⟩), .int .i64 i] w fun r w' => (∃ b, r = .returned (.bool b)) ∧ Q r w') :
    Calls Tryz.prog 17 #[.pointer (some ⟨bm, 0, none⟩), .int .i64 i] w Q := by
  have hbl := World.block_lt_of_cell? w _ hc
  dsimp only at hbl
  have H := Lib.hid h
  clear h
  go_enter Tryz.func17, Tryz.ntmps17
  go_wp2_with (go_at_call 49; refine H.out.mono ?_; rintro r w1 ⟨⟨b, rfl⟩, hr⟩; have HR := Lib.hid hr; clear hr)
  exact HR.out
theorem set_self' {α : Type} : ∀ {l : List α} {i : Nat} {a : α}, l[i]? = some a → l.set i a = l
  | [], _, _, h => by simp at h
  | x :: l, 0, a, h => by simp at h; subst h; rfl
  | x :: l, i + 1, a, h => by
    rw [List.set_cons_succ, set_self' (by simpa using h)]
/-- The machine behind a step. -/
def Stepped (w w' : World) (p : Pg) (L : Lay) (m' : Mc) : Prop :=
  (∃ L' nv' wv', MachAt w' p L' m' nv' wv' ∧ L'.bm = L.bm ∧ L'.bt = L.bt ∧ L'.B = L.B ∧ ∀ x, x < w.heap.size → L'.ρ x = L.ρ x) ∧ ∃ S, Kp S w w' ∧ ∀ x ∈ S, Mine L w x
theorem MachAt.gnMine {w : World} {p : Pg} {L : Lay} {m : Mc} {nv : List Value} {wv : List (Value × Value)} (h : MachAt w p L m nv wv) : Mine L w L.gn := ⟨h.base.2.2, fun _ => by rw [h.k4]; decide⟩
theorem Gone.stepped {w w1 : World} {p : Pg} {L : Lay} {m' : Mc} {nv : List Value} {wv : List (Value × Value)} (h : Gone w w1 p L m' nv wv) (hgn : Mine L w L.gn) {i : Nat} :
    Stepped w (w1.setCell ⟨L.gn, i, none⟩ .nilFunc) p L { m' with nx := m'.nx.set i .nil } := by
  obtain ⟨⟨ve', ρ', hρ, hM⟩, S, hk, hS⟩ := h
  refine ⟨⟨_, _, _, hM.next (i := i) (x := .nil) (v := .nilFunc) rfl, rfl, rfl, rfl, hρ⟩, L.gn :: S, ?_, fun x hx => ?_⟩
  · exact (hk.mono (T := L.gn :: S) (fun x hx _ => by simp [hx])).setCell _ _ (fun _ => by simp)
  · simp at hx
    rcases hx with rfl | hx
    · exact hgn
    · exact hS x hx
theorem cf_abort (args : Array Value) (w : World) : (callFunc 70 args).run Tryz.prog w = .ok (.enter 70 args) w := cf_of Tryz.func70 (by kernel_rfl) rfl args w
theorem cf_look (args : Array Value) (w : World) : (callFunc 72 args).run Tryz.prog w = .ok (.enter 72 args) w := cf_of Tryz.func72 (by kernel_rfl) rfl args w
theorem cf_ans (args : Array Value) (w : World) : (callFunc 74 args).run Tryz.prog w = .ok (.enter 74 args) w := cf_of Tryz.func74 (by kernel_rfl) rfl args w
theorem cf_commit (args : Array Value) (w : World) : (callFunc 106 args).run Tryz.prog w = .ok (.enter 106 args) w := cf_of Tryz.func106 (by kernel_rfl) rfl args w
theorem Gone.put {w w1 : World} {p : Pg} {L : Lay} {m' : Mc} {nv : List Value} {wv : List (Value × Value)} (h : Gone w w1 p L m' nv wv) {i : Nat} (hi : i < p.ths.length) : Put w1 L.bt L.gn p.ths.length L.cn i := by
  obtain ⟨⟨ve', ρ', _, hM⟩, _⟩ := h
  exact hM.put hi
theorem nv_cell {w : World} {p : Pg} {L : Lay} {m : Mc} {nv : List Value} {wv : List (Value × Value)} (h : MachAt w p L m nv wv) {i : Nat} (hi : i < p.ths.length) : ∃ v, nv[i]? = some v ∧ w.cell? ⟨L.gn, i, none⟩ = some v := by
  have hl : nv.length = p.ths.length := by simpa using h.nx.1
  refine ⟨nv[i]'(by omega), by simp [hl, hi], ?_⟩
  rw [h.nx.cellAt i (by omega)]
  simp
/-- A step that only answers: abort, commit, a call's answer. -/
theorem step_end {w : World} {p : Pg} {L : Lay} {m m' : Mc} {nv : List Value} {wv : List (Value × Value)} (h : MachAt w p L m nv wv) {i fn : Nat} {caps : Array Value} (hm : moreI p m.ths i) (hi : i < p.ths.length) (hv : w.cell? ⟨L.gn, i, none⟩ = some (.func (.func fn) #[] caps)) (hcf : ∀ (args : Array Value) (W : World), (callFunc fn args).run Tryz.prog W = .ok (.enter fn args) W) {nv' : List Value} {wv' : List (Value × Value)}
    (hdo : ∀ W, Kp [] w W → Calls Tryz.prog fn caps W fun r w' => r = .returned .nilFunc ∧ Gone w w' p L m' nv' wv') :
    Calls Tryz.prog 17 #[.pointer (some ⟨L.bm, 0, none⟩), .int .i64 i] w fun r w' => r = .returned (.bool true) ∧ Stepped w w' p L { m' with nx := m'.nx.set i .nil } := by
  refine lateStep h.m0 ?_
  refine (step_fnil (R := fun W => Gone w W p L m' nv' wv') h.t2 h.t3 hi hv hcf (done_no h.wk hm) (fun W hW => (hdo W hW).mono fun r w' ⟨h1, h2⟩ => ⟨h1, h2, h2.put hi⟩)).mono ?_
  rintro r w' ⟨rfl, W, hg, _, rfl⟩
  exact ⟨⟨_, rfl⟩, rfl, hg.stepped h.gnMine⟩
theorem step_abort {w : World} {p : Pg} {L : Lay} {m : Mc} {nv : List Value} {wv : List (Value × Value)} {l : List St} (hp : PgOk p) (hI : Inv p m l) (h : MachAt w p L m nv wv) {i : Nat} {t : Th} {txs : List (List Ac)} {q : As × As} (hi : m.ths[i]? = some t) (ht : p.ths[i]? = some txs) (hn : t.tx < txs.length) (hq : m.ws[i]? = some q) (hB : L.B ≤ w.heap.size) (hx : m.nx[i]? = some .abort) (hw : t.waits ≠ 0) :
    Calls Tryz.prog 17 #[.pointer (some ⟨L.bm, 0, none⟩), .int .i64 i] w fun r w' => r = .returned (.bool true) ∧ Stepped w w' p L (m.put i (newT t) (endE i t 6) .nil q) := by
  have hil := (List.getElem?_eq_some_iff.1 ht).1
  obtain ⟨v, hv, hcell⟩ := nv_cell h hil
  obtain ⟨b1, b2, rfl, _, _, c1, c2⟩ := h.st i .abort v hx hv
  refine (step_end h (m' := { m with ths := m.ths.set i (newT t), evs := m.evs ++ [endE i t 6] }) ⟨i, t, txs, rfl, hi, ht, hn⟩ hil hcell cf_abort (fun W hW => abortLate (hW.cellAt c1 (by simp)).1 (hW.cellAt c2 (by simp)).1 ((end_mach hp hI h hi ht hn hB W hW).1 hw))).mono ?_
  rintro r w' ⟨h1, h2⟩
  refine ⟨h1, ?_⟩
  have e : m.put i (newT t) (endE i t 6) .nil q = { m with ths := m.ths.set i (newT t), evs := m.evs ++ [endE i t 6], nx := m.nx.set i .nil } := by simp [Mc.put, set_self' hq]
  rw [e]; exact h2
theorem step_commit {w : World} {p : Pg} {L : Lay} {m : Mc} {nv : List Value} {wv : List (Value × Value)} {l : List St} (hp : PgOk p) (hI : Inv p m l) (h : MachAt w p L m nv wv) {i : Nat} {t : Th} {txs : List (List Ac)} {q : As × As} (hi : m.ths[i]? = some t) (ht : p.ths[i]? = some txs) (hn : t.tx < txs.length) (hq : m.ws[i]? = some q) (hB : L.B ≤ w.heap.size) (hx : m.nx[i]? = some .commit) (hw : t.waits = 4) :
    Calls Tryz.prog 17 #[.pointer (some ⟨L.bm, 0, none⟩), .int .i64 i] w fun r w' => r = .returned (.bool true) ∧ Stepped w w' p L (m.put i (newT t) (endE i t 5) .nil q) := by
  have hil := (List.getElem?_eq_some_iff.1 ht).1
  obtain ⟨v, hv, hcell⟩ := nv_cell h hil
  obtain ⟨b1, b2, rfl, _, _, c1, c2⟩ := h.st i .commit v hx hv
  refine (step_end h (m' := { m with ths := m.ths.set i (newT t), evs := m.evs ++ [endE i t 5] }) ⟨i, t, txs, rfl, hi, ht, hn⟩ hil hcell cf_commit (fun W hW => commitLate (hW.cellAt c1 (by simp)).1 (hW.cellAt c2 (by simp)).1 ((end_mach hp hI h hi ht hn hB W hW).2 hw))).mono ?_
  rintro r w' ⟨h1, h2⟩
  refine ⟨h1, ?_⟩
  have e : m.put i (newT t) (endE i t 5) .nil q = { m with ths := m.ths.set i (newT t), evs := m.evs ++ [endE i t 5], nx := m.nx.set i .nil } := by simp [Mc.put, set_self' hq]
  rw [e]; exact h2
end Go.Proofs.YtbogjkggfdhckaaGreatDoor

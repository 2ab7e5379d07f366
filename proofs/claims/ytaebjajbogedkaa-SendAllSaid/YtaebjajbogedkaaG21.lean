/- Lemmas about the typed texts (joined: SSend8 LSendS SSend9). -/
import Derived.Test.YtaebjajbogedkaaG20
import Derived.Test.YtaebjajbogedkaaG8
-- SEAT c
/- Chapter 13's stream: what is sent is lost, or came: the plain laws of a step. -/
set_option linter.unusedVariables false
set_option linter.unusedSimpArgs false
namespace Go.Proofs.Ytaebjajbogedkaa.T
open Go Go.Abs Go.Proofs
theorem brg_mem {f t : Int} (hf : 0 ≤ f) (ht : t ≤ 4611686018427387904) (hft : f ≤ t) : brg f = f ∧ brg t = t := by unfold brg; omega
theorem addS_mem {l : List Run} {lo e f t : Int} (h : Nrm lo e l) (hf : 0 ≤ f) (hft : f ≤ t) (ht : t ≤ 4611686018427387904) (n : Int) : mem (addS f t l) n ↔ mem l n ∨ (f ≤ n ∧ n < t) := by
  obtain ⟨e1, e2⟩ := brg_mem hf ht hft
  unfold addS
  rw [e1, e2]
  split
  · exact addR_mem l lo e f t n h (by assumption)
  · exact ⟨.inl, fun g => by rcases g with g | g; exact g; omega⟩
theorem dropS_mem {l : List Run} {lo e f t : Int} (h : Nrm lo e l) (hf : 0 ≤ f) (hft : f ≤ t) (ht : t ≤ 4611686018427387904) (n : Int) : mem (dropS f t l) n ↔ mem l n ∧ ¬ (f ≤ n ∧ n < t) := by
  obtain ⟨e1, e2⟩ := brg_mem hf ht hft
  unfold dropS
  rw [e1, e2]
  split
  · exact dropR_mem f t n l lo e h (by assumption)
  · exact ⟨fun g => ⟨g, by omega⟩, fun g => g.1⟩
theorem gapS_mem {l : List Run} {lo e f t : Int} (h : Nrm lo e l) (hf : 0 ≤ f) (hft : f ≤ t) (ht : t ≤ 4611686018427387904) (n : Int) : mem (gapS f t l) n ↔ (f ≤ n ∧ n < t) ∧ ¬ mem l n := by
  obtain ⟨e1, e2⟩ := brg_mem hf ht hft
  unfold gapS
  rw [e1, e2]
  exact gapR_mem l lo e f t n h
theorem gapS_nil {l : List Run} {lo e f t : Int} (h : Nrm lo e l) (hf : 0 ≤ f) (hft : f ≤ t) (ht : t ≤ 4611686018427387904) : gapS f t l = [] ↔ ∀ n, f ≤ n → n < t → mem l n := by
  constructor
  · intro e n h1 h2
    exact Decidable.byContradiction fun hn => by
      have := (gapS_mem h hf hft ht n).2 ⟨⟨h1, h2⟩, hn⟩
      rw [e] at this
      exact (mem_nil n).1 this
  · intro hall
    have hn : Nrm (f - 1) t (gapS f t l) := by
      obtain ⟨e1, e2⟩ := brg_mem hf ht hft
      unfold gapS; rw [e1, e2]
      exact gapR_nrm l lo e f t (f - 1) t h (by omega) (Int.le_refl _)
    exact nrm_ext _ [] _ _ 0 0 hn trivial fun n => by
      rw [gapS_mem h hf hft ht, mem_nil]
      exact ⟨fun ⟨a, b⟩ => b (hall n a.1 a.2), fun g => g.elim⟩
theorem gapS_all {l : List Run} {lo e f t : Int} (h : Nrm lo e l) (hf : 0 ≤ f) (hft : f < t) (ht : t ≤ 4611686018427387904) (hd : ∀ n, f ≤ n → n < t → ¬ mem l n) : gapS f t l = [(f, t)] := by
  have hn : Nrm (f - 1) t (gapS f t l) := by
    obtain ⟨e1, e2⟩ := brg_mem hf ht (Int.le_of_lt hft)
    unfold gapS; rw [e1, e2]
    exact gapR_nrm l lo e f t (f - 1) t h (by omega) (Int.le_refl _)
  refine nrm_ext _ _ _ _ (f - 1) t hn ⟨by show f - 1 < f; omega, hft, Int.le_refl _, trivial⟩ fun n => ?_
  rw [gapS_mem h hf (Int.le_of_lt hft) ht, mem_cons, mem_nil, or_false]
  exact ⟨fun g => g.1, fun g => ⟨g, hd n g.1 g.2⟩⟩
structure GInv (x : SS) : Prop where
  ok : SOK x
  id : okN x.id
  nc : Nrm (-1) x.used x.came
  cov : ∀ n, 0 ≤ n → n < x.used → mem x.came n ∨ mem x.lost n
  dis : ∀ n, mem x.came n → ¬ mem x.lost n
  ul : x.used ≤ x.limit
theorem _root_.Go.Abs.Nrm.bnd {l : List Run} {lo e n : Int} (h : Nrm lo e l) (hm : mem l n) : lo < n ∧ n < e := by
  obtain ⟨r, hr, a, b⟩ := hm
  have := h.low r hr
  omega
/-- the frame that is picked: none of its bytes came -/
theorem GInv.pickDis {x : SS} (I : GInv x) {room most f u : Int} (h : PickV x room most f u) : ∀ n, f ≤ n → n < u → ¬ mem x.came n := by
  have P := h.picked I.ok
  intro n h1 h2 hm
  have hb := I.nc.bnd hm
  unfold PickV at h
  split at h
  · rename_i r hr
    obtain ⟨rfl, g1, g2, g3, g4, _⟩ := h
    obtain ⟨hr1, _⟩ := firstR_mem hr
    exact I.dis n hm ⟨r, hr1, h1, by omega⟩
  · split at h
    · obtain ⟨rfl, _⟩ := h; omega
    · obtain ⟨_, rfl, rfl⟩ := h; omega
theorem nextX_fields (x : SS) (f u : Int) : (nextX x f u).id = x.id ∧ (nextX x f u).b = x.b ∧ (nextX x f u).came = x.came ∧ (nextX x f u).limit = x.limit ∧ (nextX x f u).used = max x.used u ∧ (nextX x f u).lost = dropS f u x.lost ∧ (nextX x f u).finished = x.finished ∧ (nextX x f u).reset = x.reset ∧ (nextX x f u).sure = x.sure ∧ (nextX x f u).fc = x.fc :=
  ⟨rfl, rfl, rfl, rfl, rfl, rfl, rfl, rfl, rfl, rfl⟩
theorem pick_sent {x : SS} (I : GInv x) {room most f u : Int} (h : PickV x room most f u) : sentV (nextX x f u) (sfr x f u) = (f, u) := by
  have P := h.picked I.ok
  have hl := sfr_len (x := x) P.f0 P.fu P.ub
  unfold sentV
  have ho : (sfr x f u).off = f := rfl
  rw [ho, if_neg (show ¬ f > (nextX x f u).used by show ¬ f > max x.used u; have := P.fu; omega)]
  refine Prod.ext rfl ?_
  show min (max x.used u) (f + ((sfr x f u).data.length : Int)) = u
  omega
/-- what is picked, and its frame comes -/
theorem ack_step {x : SS} (I : GInv x) {room most f u : Int} (h : PickV x room most f u) : ackS (nextX x f u) (sfr x f u) =
    (let y : SS := { nextX x f u with came := addS f u x.came, lost := dropS f u (dropS f u x.lost) }; if endedV (nextX x f u) (sfr x f u) then { y with fc := true, fd := false } else y) := by
  unfold ackS
  rw [if_neg (show ¬ (sfr x f u).id ≠ (nextX x f u).id from fun g => g rfl), if_pos (show (sfr x f u).kind = 3 from rfl), pick_sent I h]; rfl
theorem dropS_idem {l : List Run} {lo e f u : Int} (h : Nrm lo e l) (hf : 0 ≤ f) (hfu : f ≤ u) (hu : u ≤ 4611686018427387904) : dropS f u (dropS f u l) = dropS f u l := by
  have h1 := dropS_nrm (f := f) (t := u) h
  refine nrm_ext _ _ _ _ _ _ (dropS_nrm h1) h1 fun n => ?_
  rw [dropS_mem h1 hf hfu hu]
  exact ⟨fun g => g.1, fun g => ⟨g, ((dropS_mem h hf hfu hu n).1 g).2⟩⟩
theorem GInv.acked {x : SS} (I : GInv x) {room most f u : Int} (h : PickV x room most f u) {y : SS} (hy : y = ackS (nextX x f u) (sfr x f u)) :
    GInv y ∧ y.lost = dropS f u x.lost ∧ (∀ n, mem y.came n ↔ mem x.came n ∨ (f ≤ n ∧ n < u)) ∧ y.used = max x.used u ∧ y.id = x.id ∧ y.b = x.b ∧ y.limit = x.limit ∧ y.finished = x.finished ∧ y.reset = x.reset ∧ y.sure = x.sure ∧ y.tt = x.tt ∧ y.td = x.td ∧ y.tc = x.tc ∧ y.code = x.code := by
  have P := h.picked I.ok
  have f0 := P.f0; have fu := P.fu; have ub := P.ub
  have bl := I.ok.rng.bl; have u0 := I.ok.rng.u0; have l0 := I.ok.rng.l0; have xub := I.ok.ub
  have hfr := P.fresh
  have hul := I.ul
  have hd := dropS_idem (f := f) (u := u) I.ok.nrl f0 fu (by omega)
  have hmc : ∀ n, mem (addS f u x.came) n ↔ mem x.came n ∨ (f ≤ n ∧ n < u) := addS_mem I.nc f0 fu (by omega)
  have hml : ∀ n, mem (dropS f u x.lost) n ↔ mem x.lost n ∧ ¬ (f ≤ n ∧ n < u) := dropS_mem I.ok.nrl f0 fu (by omega)
  have hlim : max x.used u ≤ x.limit := by unfold leftV at hfr; omega
  have n1 : Nrm (-1) (max x.used u) (dropS f u x.lost) := (dropS_nrm I.ok.nrl).mono (Int.le_refl _) (by omega)
  have n2 : Nrm (-1) (max x.used u) (addS f u x.came) := by
    by_cases hlt : f < u
    · obtain ⟨e1, e2⟩ := brg_mem f0 (show u ≤ 4611686018427387904 by omega) fu
      unfold addS
      rw [e1, e2, if_pos hlt]
      exact addR_nrm _ _ _ _ _ (I.nc.mono (Int.le_refl _) (by omega)) (by omega) hlt (by omega)
    · have e : addS f u x.came = x.came := by
        obtain ⟨e1, e2⟩ := brg_mem f0 (show u ≤ 4611686018427387904 by omega) fu
        unfold addS; rw [e1, e2, if_neg hlt]
      rw [e]; exact I.nc.mono (Int.le_refl _) (by omega)
  have core : ∀ y : SS, y.used = max x.used u → y.id = x.id → y.b = x.b → y.limit = x.limit → y.sure = x.sure → y.lost = dropS f u x.lost → y.came = addS f u x.came → GInv y := by
    intro y e1 e2 e3 e4 e5 e6 e7
    refine ⟨⟨⟨by rw [e4]; exact l0, by rw [e1]; omega, by rw [e3]; exact bl⟩, by rw [e1, e6]; exact n1, by rw [e5, e3]; exact I.ok.sure, by rw [e1, e3]; omega⟩, by rw [e2]; exact I.id, by rw [e1, e7]; exact n2, fun n h0 h1 => ?_, fun n h1 => ?_, by rw [e1, e4]; exact hlim⟩
    · rw [e7, e6, hmc, hml]
      by_cases hr : f ≤ n ∧ n < u
      · exact .inl (.inr hr)
      · have : n < x.used := by
          rw [e1] at h1
          rcases Int.lt_or_le n x.used with g | g
          · exact g
          · have := hfr (by omega); omega
        rcases I.cov n h0 this with g | g
        · exact .inl (.inl g)
        · exact .inr ⟨g, hr⟩
    · rw [e7, hmc] at h1
      rw [e6, hml]
      rintro ⟨g1, g2⟩
      rcases h1 with h1 | h1
      · exact I.dis n h1 g1
      · exact g2 h1
  rw [ack_step I h] at hy
  simp only [hd] at hy
  subst hy
  split
  · exact ⟨core _ rfl rfl rfl rfl rfl rfl rfl, rfl, hmc, rfl, rfl, rfl, rfl, rfl, rfl, rfl, rfl, rfl, rfl, rfl⟩
  · exact ⟨core _ rfl rfl rfl rfl rfl rfl rfl, rfl, hmc, rfl, rfl, rfl, rfl, rfl, rfl, rfl, rfl, rfl, rfl, rfl⟩
/-- what is picked, and its frame is lost -/
theorem GInv.losing {x : SS} (I : GInv x) {room most f u : Int} (h : PickV x room most f u) {y : SS} (hy : y = lostS (nextX x f u) (sfr x f u)) :
    GInv y ∧ (∀ n, mem y.lost n ↔ mem x.lost n ∨ (f ≤ n ∧ n < u)) ∧ y.lost = addS f u (dropS f u x.lost) ∧ y.came = x.came ∧ y.used = max x.used u ∧ y.id = x.id ∧ y.b = x.b ∧ y.limit = x.limit ∧ y.finished = x.finished ∧ y.reset = x.reset ∧ y.sure = x.sure ∧ y.tt = x.tt ∧ y.td = x.td ∧ y.tc = x.tc ∧ y.code = x.code ∧ y.fc = x.fc := by
  have P := h.picked I.ok
  have f0 := P.f0; have fu := P.fu; have ub := P.ub
  have bl := I.ok.rng.bl; have u0 := I.ok.rng.u0; have l0 := I.ok.rng.l0; have xub := I.ok.ub
  have hfr := P.fresh
  have hul := I.ul
  have hpd := I.pickDis h
  have hlim : max x.used u ≤ x.limit := by unfold leftV at hfr; omega
  have n1 : Nrm (-1) (max x.used u) (dropS f u x.lost) := (dropS_nrm I.ok.nrl).mono (Int.le_refl _) (by omega)
  have hml : ∀ n, mem (dropS f u x.lost) n ↔ mem x.lost n ∧ ¬ (f ≤ n ∧ n < u) := dropS_mem I.ok.nrl f0 fu (by omega)
  have hma : ∀ n, mem (addS f u (dropS f u x.lost)) n ↔ mem x.lost n ∨ (f ≤ n ∧ n < u) := fun n => by
    rw [addS_mem n1 f0 fu (by omega), hml]
    by_cases hr : f ≤ n ∧ n < u
    · simp [hr]
    · simp [hr]
  have n2 : Nrm (-1) (max x.used u) (addS f u (dropS f u x.lost)) := addS_nrm n1 (by omega) f0 (by omega)
  have eg : addsL (gapS f u x.came) (dropS f u x.lost) = addS f u (dropS f u x.lost) := by
    by_cases hlt : f < u
    · rw [gapS_all I.nc f0 hlt (by omega) hpd]; rfl
    · obtain ⟨e1, e2⟩ := brg_mem f0 (show u ≤ 4611686018427387904 by omega) fu
      have e3 : gapS f u x.came = [] := (gapS_nil I.nc f0 fu (by omega)).2 fun n a b => by omega
      rw [e3]
      unfold addS
      rw [e1, e2, if_neg hlt]; rfl
  have core : ∀ y : SS, y.used = max x.used u → y.id = x.id → y.b = x.b → y.limit = x.limit → y.sure = x.sure → y.lost = addS f u (dropS f u x.lost) → y.came = x.came → GInv y := by
    intro y e1 e2 e3 e4 e5 e6 e7
    refine ⟨⟨⟨by rw [e4]; exact l0, by rw [e1]; omega, by rw [e3]; exact bl⟩, by rw [e1, e6]; exact n2, by rw [e5, e3]; exact I.ok.sure, by rw [e1, e3]; omega⟩, by rw [e2]; exact I.id, by rw [e1, e7]; exact I.nc.mono (Int.le_refl _) (by omega), fun n h0 h1 => ?_, fun n h1 => ?_, by rw [e1, e4]; exact hlim⟩
    · rw [e7, e6, hma]
      by_cases hr : f ≤ n ∧ n < u
      · exact .inr (.inr hr)
      · have : n < x.used := by
          rw [e1] at h1
          rcases Int.lt_or_le n x.used with g | g
          · exact g
          · have := hfr (by omega); omega
        rcases I.cov n h0 this with g | g
        · exact .inl g
        · exact .inr (.inl g)
    · rw [e7] at h1
      rw [e6, hma]
      rintro (g1 | g2)
      · exact I.dis n h1 g1
      · exact hpd n g2.1 g2.2 h1
  have ey : lostS (nextX x f u) (sfr x f u) = (let x1 : SS := { nextX x f u with lost := addS f u (dropS f u x.lost) }; if endedV (nextX x f u) (sfr x f u) && !(nextX x f u).fc then { x1 with fd := true } else x1) := by
    unfold lostS
    rw [if_neg (show ¬ (sfr x f u).id ≠ (nextX x f u).id from fun g => g rfl), if_pos (show (sfr x f u).kind = 3 from rfl), pick_sent I h]
    show (let x1 : SS := { nextX x f u with lost := addsL (gapS f u x.came) (dropS f u x.lost) }; if endedV (nextX x f u) (sfr x f u) && !(nextX x f u).fc then { x1 with fd := true } else x1) = _
    rw [eg]
  rw [ey] at hy
  simp only at hy
  subst hy
  split
  · exact ⟨core _ rfl rfl rfl rfl rfl rfl rfl, hma, rfl, rfl, rfl, rfl, rfl, rfl, rfl, rfl, rfl, rfl, rfl, rfl, rfl, rfl⟩
  · exact ⟨core _ rfl rfl rfl rfl rfl rfl rfl, hma, rfl, rfl, rfl, rfl, rfl, rfl, rfl, rfl, rfl, rfl, rfl, rfl, rfl, rfl⟩
/-! runs -/
theorem first_cons {m lo e : Int} : ∀ {l : List Run} {r : Run}, Nrm lo e l → firstR m l = some r → ∃ l', l = r :: l' ∧ r.1 < m
  | q :: l, r, ⟨a, b, c, d⟩, h => by
    unfold firstR at h
    split at h
    · cases h; exact ⟨l, rfl, by assumption⟩
    · rename_i hq
      obtain ⟨hr, hm⟩ := firstR_mem h
      have := d.low r hr
      omega
theorem first_none {m : Int} : ∀ {l : List Run}, firstR m l = none → ∀ q ∈ l, m ≤ q.1
  | [], _, q, hq => by cases hq
  | r :: l, h, q, hq => by
    unfold firstR at h
    split at h
    · cases h
    · rename_i hr
      rcases List.mem_cons.1 hq with rfl | hq
      · omega
      · exact first_none h q hq
theorem drop_head {lo e u : Int} {r : Run} {l : List Run} (h : Nrm lo e (r :: l)) (h0 : 0 ≤ r.1) (h1 : r.1 < u) (h2 : u ≤ r.2) (he : e ≤ 4611686018427387904) : dropS r.1 u (r :: l) = (if u < r.2 then [(u, r.2)] else []) ++ l := by
  have hn := h
  obtain ⟨a, b, c, d⟩ := h
  have nl := dropS_nrm (f := r.1) (t := u) hn
  have hr : Nrm lo e ((if u < r.2 then [(u, r.2)] else []) ++ l) := by
    split
    · exact ⟨by show lo < u; omega, by assumption, c, d⟩
    · exact Nrm.mono d (by omega) (Int.le_refl _)
  refine nrm_ext _ _ _ _ _ _ nl hr fun n => ?_
  rw [dropS_mem hn h0 (by omega) (by omega), mem_app, mem_cons]
  have one : mem (if u < r.2 then [(u, r.2)] else []) n ↔ u ≤ n ∧ n < r.2 := by
    by_cases h : u < r.2
    · rw [if_pos h, mem_cons, mem_nil]; simp
    · rw [if_neg h, mem_nil]; exact ⟨fun x => x.elim, fun x => by omega⟩
  rw [one]
  constructor
  · rintro ⟨g | g, hne⟩
    · exact .inl (by omega)
    · exact .inr g
  · rintro (g | g)
    · exact ⟨.inl (by omega), by omega⟩
    · have := d.bnd g
      exact ⟨.inr g, by omega⟩
/-- how many numbers below N hold -/
def cntP (p : Int → Bool) : Nat → Nat
  | 0 => 0
  | n + 1 => cntP p n + (if p n then 1 else 0)
theorem cntP_le (p : Int → Bool) : ∀ N, cntP p N ≤ N
  | 0 => Nat.le_refl _
  | n + 1 => by have := cntP_le p n; unfold cntP; split <;> omega
theorem cntP_mono {p q : Int → Bool} (h : ∀ n, q n = true → p n = true) : ∀ N, cntP q N ≤ cntP p N
  | 0 => Nat.le_refl _
  | n + 1 => by
    have := cntP_mono h n
    unfold cntP
    have h2 := h n
    cases hq : q n <;> cases hp : p n <;> simp_all <;> omega
theorem cntP_drop {p q : Int → Bool} {f u : Int} (hf : 0 ≤ f) (hfu : f ≤ u) (h1 : ∀ n, f ≤ n → n < u → p n = true ∧ q n = false) (h2 : ∀ n, ¬ (f ≤ n ∧ n < u) → q n = p n) : ∀ N : Nat, (cntP q N : Int) + (min u N - min f N) = cntP p N
  | 0 => by simp [cntP]; omega
  | n + 1 => by
    have ih := cntP_drop hf hfu h1 h2 n
    unfold cntP
    by_cases hr : f ≤ (n : Int) ∧ (n : Int) < u
    · obtain ⟨a, b⟩ := h1 n hr.1 hr.2
      rw [a, b]; simp only [if_true, Bool.false_eq_true, if_false]; omega
    · rw [h2 n hr]
      split <;> omega
end Go.Proofs.Ytaebjajbogedkaa.T
-- SEAT c
/- The law SendSure over the typed texts. -/
set_option linter.unusedVariables false
set_option linter.unusedSimpArgs false
namespace Go.Proofs.Ytaebjajbogedkaa.T
open Go Go.Abs Go.Proofs
def rbS (x : SS) : Nat := (x.lost.filter fun r => decide (r.1 < x.sure)).length
def flS (x : SS) : Nat := if x.used < x.sure ∧ 0 < leftV x then 1 else 0
def tnS (x : SS) : Nat := if x.tc then 0 else 1
def unS (x : SS) : Nat := cntP (fun n => !memB x.came n) x.sure.toNat
def muS (x : SS) : Nat := 120 * (rbS x + flS x + tnS x) + unS x
structure SJ (x : SS) (sv top : Int) (told : Bool) (i : Nat) : Prop where
  inv : GInv x
  id : x.id = 2
  fin : x.finished = false
  rst : x.reset = true
  svE : x.sure = sv
  code : x.code = 5
  tdc : x.td = !x.tc
  tcT : x.tc = true → told = true
  tu : told = true → sv ≤ x.used
  used : x.used = top ∨ (top ≤ x.used ∧ x.used ≤ sv)
  s5 : sv ≤ 500
  bl : x.b.length ≤ 500
  ln : i ≤ 60 → x.lost.length ≤ i + 1
  mu : 60 ≤ i → muS x + 120 * (i - 60) ≤ 8200
/-- a step that only takes something away -/
theorem SJ.step {x y : SS} {sv top : Int} {told told' : Bool} {i : Nat} (J : SJ x sv top told i) (I : GInv y) (e1 : y.id = x.id) (e2 : y.finished = x.finished) (e3 : y.reset = x.reset) (e4 : y.sure = x.sure) (e5 : y.code = x.code) (e6 : y.td = !y.tc) (e7 : y.tc = true → told' = true) (e8 : told' = true → sv ≤ y.used) (e9 : y.used = x.used ∨ (x.used ≤ y.used ∧ y.used ≤ sv)) (e10 : y.b = x.b)
    (e11 : i < 60 → y.lost.length ≤ x.lost.length + 1) (e12 : 60 ≤ i → muS y + 120 ≤ muS x) : SJ y sv top told' (i + 1) := by
  refine ⟨I, e1.trans J.id, e2.trans J.fin, e3.trans J.rst, e4.trans J.svE, e5.trans J.code, e6, e7, e8, ?_, J.s5, by rw [e10]; exact J.bl, fun h => ?_, fun h => ?_⟩
  · rcases J.used with h | h <;> rcases e9 with g | g <;> omega
  · have := e11 (by omega); have := J.ln (by omega); omega
  · by_cases h6 : 60 ≤ i
    · have := J.mu h6; have := e12 h6; omega
    · have hi : i = 59 := by omega
      have := e11 (by omega); have := J.ln (by omega)
      have h1 : rbS y ≤ y.lost.length := List.length_filter_le _ _
      have h2 : flS y ≤ 1 := by unfold flS; split <;> omega
      have h3 : tnS y ≤ 1 := by unfold tnS; split <;> omega
      have h4 : unS y ≤ 500 := by
        have := cntP_le (fun n => !memB y.came n) y.sure.toNat
        have := J.s5; have := J.svE
        unfold unS; omega
      unfold muS
      omega
theorem frame_fits {x : SS} (I : GInv x) (hid : x.id = 2) (hbl : x.b.length ≤ 500) {f v : Int} (h0 : 0 ≤ f) (h1 : f < v) (h2 : v ≤ x.b.length) (h3 : v ≤ f + 120) : fszV (sfr x f v) ≤ 150 := by
  rw [sfr_size I.id (by omega) h0 (by omega) h2 h3]
  have e1 : sz x.id = 1 := by rw [hid]; rfl
  have e2 : sz f ≤ 2 := by unfold sz; (repeat' split) <;> omega
  have e3 : sz (v - f) ≤ 2 := by unfold sz; (repeat' split) <;> omega
  omega
theorem pick150 {x : SS} (I : GInv x) (hid : x.id = 2) (hbl : x.b.length ≤ 500) (hfin : x.finished = false) {f u : Int} (h : PickV x 150 500 f u) :
    (∃ r l, x.lost = r :: l ∧ r.1 < mayS x ∧ f = r.1 ∧ u = min (min r.2 (mayS x)) (f + 120) ∧ f < u) ∨ (firstR (mayS x) x.lost = none ∧ f = x.used ∧ x.used < topV x 500 ∧ u = min (topV x 500) (f + 120)) := by
  have hm := I.ok.may
  have hu0 := I.ok.rng.u0
  have hub := I.ok.ub
  unfold PickV at h
  split at h
  · rename_i r hr
    obtain ⟨rfl, g1, g2, g3, g4, g5⟩ := h
    obtain ⟨l, e, hlt⟩ := first_cons I.ok.nrl hr
    have hr0 := I.ok.nrl.low r (by rw [e]; exact List.mem_cons_self)
    refine .inl ⟨r, l, e, hlt, rfl, ?_, g1⟩
    rcases Int.lt_or_le u (min (min r.2 (mayS x)) (r.1 + 120)) with hlt' | hge
    · have := g5 (u + 1) (by omega) (by omega) (by omega)
      have := frame_fits I hid hbl (f := r.1) (v := u + 1) (by omega) (by omega) (by omega) (by omega)
      omega
    · omega
  · rename_i hn
    split at h
    · rename_i hlt
      obtain ⟨rfl, g1, g2, g3, g4, g5⟩ := h
      refine .inr ⟨hn, rfl, hlt, ?_⟩
      rcases Int.lt_or_le u (min (topV x 500) (x.used + 120)) with hlt' | hge
      · have ht : topV x 500 ≤ mayS x := by unfold topV; omega
        have := g5 (u + 1) (by omega) (by omega) (by omega)
        have := frame_fits I hid hbl (f := x.used) (v := u + 1) (by omega) (by omega) (by omega) (by omega)
        omega
      · omega
    · obtain ⟨⟨g, _⟩, _⟩ := h
      unfold endsV at g; rw [hfin] at g; cases g
theorem nopick150 {x : SS} (I : GInv x) (hid : x.id = 2) (hbl : x.b.length ≤ 500) (h : NoPick x 150 500) : firstR (mayS x) x.lost = none ∧ ¬ x.used < topV x 500 := by
  have hm := I.ok.may
  have hu0 := I.ok.rng.u0
  unfold NoPick at h
  split at h
  · rename_i r hr
    obtain ⟨l, e, hlt⟩ := first_cons I.ok.nrl hr
    have hr0 := I.ok.nrl.low r (by rw [e]; exact List.mem_cons_self)
    have := h (r.1 + 1) (by omega) (by omega) (by omega)
    have := frame_fits I hid hbl (f := r.1) (v := r.1 + 1) (by omega) (by omega) (by omega) (by omega)
    omega
  · rename_i hn
    refine ⟨hn, fun hlt => ?_⟩
    rw [if_pos hlt] at h
    have ht : topV x 500 ≤ mayS x := by unfold topV; omega
    have := h (x.used + 1) (by omega) (by omega) (by omega)
    have := frame_fits I hid hbl (f := x.used) (v := x.used + 1) (by omega) (by omega) (by omega) (by omega)
    omega
theorem memB_false {l : List Run} {n : Int} : memB l n = false ↔ ¬ mem l n := by rw [← memB_iff]; simp
/-- how the measure falls where a frame comes -/
theorem mu_ack {x y : SS} (I : GInv x) (hrst : x.reset = true) (hid : x.id = 2) (hbl : x.b.length ≤ 500) (hfin : x.finished = false) {f u : Int} (h : PickV x 150 500 f u) (e1 : y.lost = dropS f u x.lost) (e2 : ∀ n, mem y.came n ↔ mem x.came n ∨ (f ≤ n ∧ n < u)) (e3 : y.used = max x.used u) (e4 : y.limit = x.limit) (e5 : y.sure = x.sure) (e6 : y.tc = x.tc) :
    muS y + 120 ≤ muS x ∧ y.lost.length ≤ x.lost.length + 1 ∧ (y.used = x.used ∨ (x.used ≤ y.used ∧ y.used ≤ x.sure)) := by
  have P := h.picked I.ok
  have hpd := I.pickDis h
  have hmay : mayS x = x.sure := by unfold mayS; rw [hrst]; rfl
  have hs := I.ok.sure
  have hu0 := I.ok.rng.u0; have hl0 := I.ok.rng.l0; have hub := I.ok.ub; have hul := I.ul
  have hun : (unS y : Int) + (min u x.sure.toNat - min f x.sure.toNat) = unS x := by
    unfold unS
    rw [e5]
    refine cntP_drop P.f0 P.fu (fun n h1 h2 => ⟨?_, ?_⟩) (fun n hn => ?_) _
    · rw [memB_false.2 (hpd n h1 h2)]; rfl
    · rw [(memB_iff y.came n).2 ((e2 n).2 (.inr ⟨h1, h2⟩))]; rfl
    · have : memB y.came n = memB x.came n := by
        rw [Bool.eq_iff_iff, memB_iff, memB_iff, e2]
        exact ⟨fun g => g.resolve_right hn, .inl⟩
      rw [this]
  have htn : tnS y = tnS x := by unfold tnS; rw [e6]
  have hlv : leftV x = x.limit - x.used := by unfold leftV; omega
  rcases pick150 I hid hbl hfin h with ⟨r, l, el, hr1, rfl, hu, hfu⟩ | ⟨hn, rfl, hlt, hu⟩
  · have hr0 := I.ok.nrl.low r (by rw [el]; exact List.mem_cons_self)
    have hnr := I.ok.nrl
    rw [el] at hnr
    have ed : dropS r.1 u x.lost = (if u < r.2 then [(u, r.2)] else []) ++ l := by
      rw [el]; exact drop_head hnr (by omega) hfu (by omega) (by omega)
    have hyu : y.used = x.used := by rw [e3]; omega
    have hfl : flS y = flS x := by unfold flS leftV; rw [hyu, e4, e5]
    have hrx : rbS x = 1 + (l.filter fun r => decide (r.1 < x.sure)).length := by
      unfold rbS
      rw [el, List.filter_cons_of_pos (by rw [← hmay]; simpa using hr1)]; simp; omega
    have hry : rbS y = (if u < r.2 ∧ u < x.sure then 1 else 0) + (l.filter fun r => decide (r.1 < x.sure)).length := by
      unfold rbS
      rw [e1, ed, e5, List.filter_append, List.length_append]
      congr 1
      by_cases hu2 : u < r.2
      · rw [if_pos hu2]
        by_cases hu3 : u < x.sure
        · rw [if_pos ⟨hu2, hu3⟩, List.filter_cons_of_pos (by simpa using hu3)]; rfl
        · rw [if_neg (by omega), List.filter_cons_of_neg (by simpa using hu3)]; rfl
      · rw [if_neg hu2, if_neg (by omega)]; rfl
    refine ⟨?_, ?_, .inl hyu⟩
    · unfold muS
      rw [hfl, htn, hrx, hry]
      rw [hmay] at hu
      split
      · have : u = r.1 + 120 := by omega
        omega
      · omega
    · rw [e1, ed, el]
      split
      · simp
      · simp only [List.nil_append, List.length_cons]; omega
  · have hnl : ∀ n, mem x.lost n → n < x.used := fun n hn => (I.ok.nrl.bnd hn).2
    have htv : topV x 500 ≤ x.sure ∧ topV x 500 ≤ x.used + max 0 (min 500 (leftV x)) := by unfold topV; rw [hmay]; omega
    have ht2 : topV x 500 = x.sure ∨ topV x 500 = x.used + max 0 (min 500 (leftV x)) := by unfold topV; rw [hmay]; omega
    have ed : dropS x.used u x.lost = x.lost := by
      refine nrm_ext _ _ _ _ _ _ (dropS_nrm I.ok.nrl) I.ok.nrl fun n => ?_
      rw [dropS_mem I.ok.nrl (by omega) (by omega) (by omega)]
      exact ⟨fun g => g.1, fun g => ⟨g, by have := hnl n g; omega⟩⟩
    have hyu : y.used = u := by rw [e3]; omega
    have hrb : rbS y = rbS x := by unfold rbS; rw [e1, ed, e5]
    have hfx : flS x = 1 := by unfold flS; rw [if_pos ⟨by omega, by omega⟩]
    refine ⟨?_, by rw [e1, ed]; omega, .inr ⟨by omega, by omega⟩⟩
    unfold muS
    rw [hrb, htn, hfx]
    by_cases h120 : u = x.used + 120
    · have : flS y ≤ 1 := by unfold flS; split <;> omega
      omega
    · have hf0 : flS y = 0 := by
        unfold flS leftV
        rw [hyu, e4, e5, if_neg]
        omega
      omega
theorem lose_len {x y : SS} (I : GInv x) (hrst : x.reset = true) (hid : x.id = 2) (hbl : x.b.length ≤ 500) (hfin : x.finished = false) {f u : Int} (h : PickV x 150 500 f u) (e1 : y.lost = addS f u (dropS f u x.lost)) (e3 : y.used = max x.used u) :
    y.lost.length ≤ x.lost.length + 1 ∧ (y.used = x.used ∨ (x.used ≤ y.used ∧ y.used ≤ x.sure)) := by
  have P := h.picked I.ok
  have hmay : mayS x = x.sure := by unfold mayS; rw [hrst]; rfl
  have hu0 := I.ok.rng.u0; have hub := I.ok.ub; have hs := I.ok.sure; have hbl4 := I.ok.rng.bl
  have hlen := addS_len f u (dropS f u x.lost)
  rw [← e1] at hlen
  rcases pick150 I hid hbl hfin h with ⟨r, l, el, hr1, rfl, hu, hfu⟩ | ⟨hn, rfl, hlt, hu⟩
  · have hr0 := I.ok.nrl.low r (by rw [el]; exact List.mem_cons_self)
    have hnr := I.ok.nrl
    rw [el] at hnr
    have ed : dropS r.1 u x.lost = (if u < r.2 then [(u, r.2)] else []) ++ l := by
      rw [el]; exact drop_head hnr (by omega) hfu (by omega) (by omega)
    refine ⟨?_, .inl (by rw [e3]; omega)⟩
    rw [ed] at hlen
    rw [el]
    split at hlen
    · simp at hlen ⊢; omega
    · simp only [List.nil_append] at hlen; simp only [List.length_cons]; omega
  · have htv : topV x 500 ≤ x.sure := by unfold topV; rw [hmay]; omega
    have ed : dropS x.used u x.lost = x.lost := by
      refine nrm_ext _ _ _ _ _ _ (dropS_nrm I.ok.nrl) I.ok.nrl fun n => ?_
      rw [dropS_mem I.ok.nrl (by omega) (by omega) (by omega)]
      exact ⟨fun g => g.1, fun g => ⟨g, by have := (I.ok.nrl.bnd g).2; omega⟩⟩
    rw [ed] at hlen
    exact ⟨hlen, .inr ⟨by omega, by omega⟩⟩
theorem came_len {x : SS} (I : GInv x) : x.came.length ≤ 5000 := by
  have h1 := Nrm.length I.nc (by have := I.ok.rng.u0; omega)
  have h2 := I.ok.ub; have h3 := I.ok.rng.bl
  omega
theorem pick_sm {x : SS} (I : GInv x) {room most f u : Int} (h : PickV x room most f u) : FSm (sfr x f u) := by
  have P := h.picked I.ok
  have := P.f0; have := P.fu; have := P.ub; have := I.ok.rng.bl
  have hl := sfr_sz x f u
  exact ⟨by show 0 ≤ f ∧ f ≤ _; omega, by omega⟩

structure SI (h0 hh : H) (p : Nat) (x : SS) : Prop where
  ex : EX h0 hh
  str : ∃ sb sl sc, StrA h0.size hh p x sb sl sc
theorem SI.kx {h0 hh h1 : H} {p : Nat} {x : SS} (T : SI h0 hh p x) (y : EX hh h1) : SI h0 h1 p x := ⟨T.ex.trans y, let ⟨sb, sl, sc, S⟩ := T.str; ⟨sb, sl, sc, S.kx T.ex.wf y⟩⟩
theorem SI.upd {h0 hh h1 : H} {p : Nat} {x y : SS} (T : SI h0 hh p x) (u : UP (· = p) hh h1) (S : ∃ sb sl sc, StrA h0.size h1 p y sb sl sc) : SI h0 h1 p y := by
  obtain ⟨_, _, _, A⟩ := T.str
  exact ⟨u.ex0 T.ex fun B hB e => by have := A.p0; omega, S⟩
theorem PO.callE' {α β : Type} {Q : α → Prop} {m : Option (β × H)} {f : β → H → Option α} {P : β × H → Prop} (p : PO m P) (k : ∀ a h1, P (a, h1) → PO (f a h1) Q) : PO (bind2 m f) Q := PO.call p k
theorem rfr_sm {x : SS} (I : GInv x) : FSm (rfr x) := ⟨by have := I.ok.rng.u0; show 0 ≤ x.used ∧ x.used ≤ _; omega, by simp [rfr]⟩
theorem lose_turn {x : SS} (hr : x.reset = true) (ht : x.tc = false) : lostS { x with tt := true, td := false } (rfr x) = { x with tt := true, td := true } := by
  unfold lostS
  rw [if_neg (by intro g; exact g rfl), if_neg (by show ¬ (4 : Int) = 3; omega), if_pos ⟨rfl, hr, rfl, rfl, ht⟩]
theorem ack_turn {x : SS} (hr : x.reset = true) : ackS { x with tt := true, td := false } (rfr x) = { x with tt := true, tc := true, td := false } := by
  unfold ackS
  rw [if_neg (by intro g; exact g rfl), if_neg (by show ¬ (4 : Int) = 3; omega), if_pos ⟨rfl, hr, rfl, rfl⟩]
theorem GInv.turn {x : SS} (I : GInv x) (a b c : Bool) : GInv { x with tt := a, td := b, tc := c } := ⟨⟨⟨I.ok.rng.l0, I.ok.rng.u0, I.ok.rng.bl⟩, I.ok.nrl, I.ok.sure, I.ok.ub⟩, I.id, I.nc, I.cov, I.dis, I.ul⟩
theorem done_tc {x : SS} (hf : x.finished = false) (hd : doneV x = true) : x.tc = true := by
  unfold doneV at hd
  rw [hf] at hd
  simp at hd
  exact hd.1.2
theorem ld9 {h : H} {b : Nat} {x : F9} {α : Type} {Q : α → Prop} {f : F9 → Option α} (B : Box h b (f9L x)) (p : PO (f x) Q) : PO (ptrK (some ⟨b, 0, some 0⟩) fun (a : Addr) => bindO (Abs.ldZ [.int .i64, .int .i64, .int .i64, .int .i64, .int .i64, .int .i64, .bool, .sl, .sl] h a) f) Q := PO.ptr (PO.ldF B p)
theorem lostS_3 {x : SS} {v : FV} (h1 : v.id = x.id) (h2 : v.kind = 3) (h3 : endedV x v = false) : lostS x v = { x with lost := addsL (gapS (sentV x v).1 (sentV x v).2 x.came) x.lost } := by
  unfold lostS
  rw [if_neg (by simp [h1]), if_pos h2, h3]; rfl
end Go.Proofs.Ytaebjajbogedkaa.T
-- SEAT c
/- Chapter 13's stream: how SendAll's measure falls; a set beside a stream. -/
set_option linter.unusedVariables false
set_option linter.unusedSimpArgs false
namespace Go.Proofs.Ytaebjajbogedkaa.T
open Go Go.Abs Go.Proofs
/-- Add, telling where its new row lies -/
theorem Add_f2 {h : H} (w : WF h) {b : Nat} {s : Sl} {l : List Run} (B : Box h b [encSl s]) (r : RdR h s l) (hnb : ∀ a, s.base = some a → a.block ≠ b) (hl : l.length ≤ 2 ^ 40) (f t : Int) :
    PO (spans_Set_Add (some ⟨b, 0, some 0⟩) f t h) (fun (_, h') => ∃ s', Box h' b [encSl s'] ∧ RdR h' s' (addS f t l) ∧ (∀ a, s'.base = some a → a.block ≠ b) ∧ (∀ n, n ≤ h.size → Fr n s → Fr n s') ∧ UP (· = b) h h') := by
  unfold spans_Set_Add P.spans_Set_Add
  refine .callE (bring_f _ _) (.callE (bring_f _ _) (.condD (fun c => ?_) (fun c => ?_)))
  · refine .ret ⟨s, B, ?_, hnb, fun _ _ f => f, UP.refl w⟩
    unfold addS
    rw [if_neg (by omega)]; exact r
  · refine PO.joinD (.ptr ?_)
    refine PO.ldL (i := 0) B rfl (PO.mono (add_loop r hl w) ?_)
    rintro _ ⟨f', t', out, done, o, h2, rfl, b2, e2, x2, f2, l2⟩
    refine PO.join (fun st => ∃ (out' : Sl) (h3 : H), st = ((some ⟨b, 0, some 0⟩, out'), h3) ∧ RdR h3 out' (addS f t l) ∧ EX h h3 ∧ Fr h.size out') ?_ ?_
    · have hv : addS f t l = o ++ (if done then [] else [(f', t')]) := by unfold addS; rw [if_pos (by omega), ← e2]; cases done <;> rfl
      refine .condN (fun cd => ?_) (fun cd => ?_)
      · refine PO.appRg b2 x2 f2 (by omega) fun out1 h3 b3 x3 f3 _ => .retL ⟨out1, h3, rfl, ?_, x3, f3⟩
        rw [hv, cd]; exact b3.rd
      · refine .retL ⟨out, h2, rfl, ?_, x2, f2⟩
        rw [hv, cd]; simpa using b2.rd
    · rintro _ ⟨out', h3, rfl, r3, x3, f3⟩
      have hb := B.blt
      have hne : ∀ a, out'.base = some a → a.block ≠ b := fun a ha e => by have := f3 a ha; omega
      refine .ptr (PO.st1 (i := 0) (B.kx x3) x3.wf (by simp) rfl fun h4 B4 u4 z4 w4 => .ret ⟨out', B4, Rd.up r3 u4 hne, hne, fun n hn _ a ha => Nat.le_trans hn (f3 a ha), x3.trans_up u4⟩)
/-! the measure -/
def flA (x : SS) : Nat := if x.used < x.b.length then 1 else 0
def fdA (x : SS) : Nat := if x.fd then 1 else 0
def unA (x : SS) : Nat := cntP (fun n => !memB x.came n) x.b.length
def muA (x : SS) : Nat := 54 * (x.lost.length + flA x + fdA x) + unA x
structure AJ (x : SS) (i : Nat) : Prop where
  inv : GInv x
  id : x.id = 6
  fin : x.finished = true
  rst : x.reset = false
  lim : x.limit = 400
  bl : x.b.length ≤ 360
  fdc : x.fd = !x.fc
  ln : i ≤ 60 → x.lost.length ≤ i
  mu : 60 ≤ i → muA x + 54 * (i - 60) ≤ 3800
theorem AJ.step {x y : SS} {i : Nat} (J : AJ x i) (I : GInv y) (e1 : y.id = x.id) (e2 : y.finished = x.finished) (e3 : y.reset = x.reset) (e4 : y.limit = x.limit) (e5 : y.b = x.b) (e6 : y.fd = !y.fc) (e7 : i < 60 → y.lost.length ≤ x.lost.length + 1) (e8 : 60 ≤ i → muA y + 54 ≤ muA x) : AJ y (i + 1) := by
  refine ⟨I, e1.trans J.id, e2.trans J.fin, e3.trans J.rst, e4.trans J.lim, by rw [e5]; exact J.bl, e6, fun h => ?_, fun h => ?_⟩
  · have := e7 (by omega); have := J.ln (by omega); omega
  · by_cases h6 : 60 ≤ i
    · have := J.mu h6; have := e8 h6; omega
    · have hi : i = 59 := by omega
      have := e7 (by omega); have := J.ln (by omega)
      have h2 : flA y ≤ 1 := by unfold flA; split <;> omega
      have h3 : fdA y ≤ 1 := by unfold fdA; split <;> omega
      have h4 : unA y ≤ 360 := by
        have := cntP_le (fun n => !memB y.came n) y.b.length
        have := J.bl
        have : y.b.length = x.b.length := by rw [e5]
        unfold unA; omega
      unfold muA
      omega
/-- nothing goes, and there is less room -/
theorem AJ.skip {x : SS} {i : Nat} (J : AJ x i) (hi : i < 60) : AJ x (i + 1) := by
  refine J.step J.inv rfl rfl rfl rfl rfl J.fdc (fun _ => by omega) (fun h => by omega)
theorem AJ.may {x : SS} {i : Nat} (J : AJ x i) : mayS x = x.b.length := by unfold mayS; rw [J.rst]; rfl
theorem AJ.top {x : SS} {i : Nat} (J : AJ x i) : topV x 500 = x.b.length := by
  have := J.bl; have := J.lim; have := J.inv.ok.ub; have := J.inv.ok.rng.u0
  unfold topV leftV
  rw [J.may]; omega
theorem sizeA {x : SS} {i : Nat} (J : AJ x i) {f v : Int} (h0 : 0 ≤ f) (h1 : f ≤ v) (h2 : v ≤ x.b.length) (h3 : v ≤ f + 54) : fszV (sfr x f v) ≤ 60 ∧ (v ≤ f + 1 → fszV (sfr x f v) ≤ 7) := by
  have := J.bl
  rw [sfr_size J.inv.id (by omega) h0 h1 h2 (by omega)]
  have e1 : sz x.id = 1 := by rw [J.id]; rfl
  have e2 : sz f ≤ 2 := by unfold sz; (repeat' split) <;> omega
  have e3 : sz (v - f) ≤ 1 := by unfold sz; rw [if_pos (by omega)]; omega
  exact ⟨by omega, fun _ => by omega⟩
theorem endsA {x : SS} {i : Nat} (J : AJ x i) (t : Int) : endsV x t = decide (t = (x.b.length : Int)) := by unfold endsV; rw [J.fin, J.rst]; rfl
/-- where nothing is picked, though there is room, all is done -/
theorem AJ.nopick {x : SS} {i : Nat} (J : AJ x i) {room : Int} (hr : 60 ≤ room) (h : NoPick x room 500) : doneV x = true := by
  have I := J.inv
  have hu0 := I.ok.rng.u0; have hub := I.ok.ub; have hbl := J.bl
  unfold NoPick at h
  split at h
  · rename_i r hr'
    obtain ⟨l, e, hlt⟩ := first_cons I.ok.nrl hr'
    have hr0 := I.ok.nrl.low r (by rw [e]; exact List.mem_cons_self)
    rw [J.may] at hlt h
    have := h (r.1 + 1) (by omega) (by omega) (by omega)
    have := (sizeA J (f := r.1) (v := r.1 + 1) (by omega) (by omega) (by omega) (by omega)).1
    omega
  · rename_i hn
    split at h
    · rename_i hlt
      rw [J.top] at hlt h
      have := h (x.used + 1) (by omega) (by omega) (by omega)
      have := (sizeA J (f := x.used) (v := x.used + 1) (by omega) (by omega) (by omega) (by omega)).1
      omega
    · rename_i hlt
      rw [J.top] at hlt
      have hfd : x.fd = false := by
        cases hfd : x.fd with
        | false => rfl
        | true =>
          exfalso
          refine h ⟨?_, by omega, hfd, ?_⟩
          · rw [endsA J]; exact decide_eq_true rfl
          · have := (sizeA J (f := (x.b.length : Int)) (v := (x.b.length : Int)) (by omega) (by omega) (by omega) (by omega)).1
            omega
      have hfc : x.fc = true := by have := J.fdc; rw [hfd] at this; simpa using this.symm
      have hg : gapS 0 x.b.length x.came = [] := (gapS_nil I.nc (Int.le_refl _) (by omega) (by omega)).2 fun m m0 m1 => by
        rcases I.cov m m0 (by omega) with c | ⟨q, hq, c, d⟩
        · exact c
        · have := first_none hn q hq
          rw [J.may] at this
          omega
      unfold doneV
      rw [J.fin, hfc, hg]; rfl
theorem PickV.size {x : SS} (K : SOK x) {room most f u : Int} (h : PickV x room most f u) : fszV (sfr x f u) ≤ room := by
  unfold PickV at h
  split at h
  · obtain ⟨rfl, g⟩ := h; exact g.2.2.2.1
  · split at h
    · obtain ⟨rfl, g⟩ := h; exact g.2.2.2.1
    · obtain ⟨g, rfl, rfl⟩ := h; exact g.2.2.2
/-- three ways to pick -/
theorem pickA {x : SS} {i : Nat} (J : AJ x i) {room f u : Int} (h : PickV x room 500 f u) :
    (∃ r l, x.lost = r :: l ∧ f = r.1 ∧ f < u ∧ u ≤ r.2 ∧ r.2 ≤ x.used ∧ (60 ≤ room → u = r.2 ∨ f + 54 ≤ u)) ∨
    (f = x.used ∧ f < u ∧ u ≤ x.b.length ∧ (60 ≤ room → u = x.b.length ∨ f + 54 ≤ u)) ∨ (f = x.b.length ∧ u = f ∧ x.used = f ∧ x.fd = true) := by
  have I := J.inv
  have hu0 := I.ok.rng.u0; have hub := I.ok.ub; have hbl := J.bl
  unfold PickV at h
  split at h
  · rename_i r hr
    obtain ⟨rfl, g1, g2, g3, g4, g5⟩ := h
    obtain ⟨l, e, hlt⟩ := first_cons I.ok.nrl hr
    have hr0 := I.ok.nrl.low r (by rw [e]; exact List.mem_cons_self)
    rw [J.may] at g2 g5 hlt
    refine .inl ⟨r, l, e, rfl, g1, by omega, hr0.2.2, fun h60 => ?_⟩
    rcases Int.lt_or_le u (min r.2 (r.1 + 54)) with hl | hl
    · have := g5 (u + 1) (by omega) (by omega) (by omega)
      have := (sizeA J (f := r.1) (v := u + 1) (by omega) (by omega) (by omega) (by omega)).1
      omega
    · omega
  · split at h
    · rename_i hlt
      obtain ⟨rfl, g1, g2, g3, g4, g5⟩ := h
      rw [J.top] at g2 g5
      refine .inr (.inl ⟨rfl, g1, g2, fun h60 => ?_⟩)
      rcases Int.lt_or_le u (min (x.b.length : Int) (x.used + 54)) with hl | hl
      · have := g5 (u + 1) (by omega) (by omega) (by omega)
        have := (sizeA J (f := x.used) (v := u + 1) (by omega) (by omega) (by omega) (by omega)).1
        omega
      · omega
    · obtain ⟨⟨g1, g2, g3, g4⟩, rfl, rfl⟩ := h
      exact .inr (.inr ⟨rfl, rfl, g2, g3⟩)
theorem drop_fresh {x : SS} (I : GInv x) {f u : Int} (hf : x.used ≤ f) (hfu : f ≤ u) (hu : u ≤ x.b.length) : dropS f u x.lost = x.lost := by
  have hu0 := I.ok.rng.u0; have hbl := I.ok.rng.bl
  refine nrm_ext _ _ _ _ _ _ (dropS_nrm I.ok.nrl) I.ok.nrl fun n => ?_
  rw [dropS_mem I.ok.nrl (by omega) (by omega) (by omega)]
  exact ⟨fun g => g.1, fun g => ⟨g, by have := (I.ok.nrl.bnd g).2; omega⟩⟩
theorem drop_lenA {x : SS} {i : Nat} (J : AJ x i) {room f u : Int} (h : PickV x room 500 f u) : (dropS f u x.lost).length ≤ x.lost.length ∧ (60 ≤ room → (dropS f u x.lost).length + 1 ≤ x.lost.length ∨ (dropS f u x.lost = x.lost ∧ x.used ≤ f) ∨ f + 54 ≤ u) := by
  have I := J.inv
  have hu0 := I.ok.rng.u0; have hub := I.ok.ub; have hbl := J.bl
  rcases pickA J h with ⟨r, l, el, rfl, h1, h2, h3, h4⟩ | ⟨rfl, h1, h2, h3⟩ | ⟨h1, h2, h3, h4⟩
  · have hr0 := I.ok.nrl.low r (by rw [el]; exact List.mem_cons_self)
    have hnr := I.ok.nrl
    rw [el] at hnr
    have ed : dropS r.1 u x.lost = (if u < r.2 then [(u, r.2)] else []) ++ l := by
      rw [el]; exact drop_head hnr (by omega) h1 h2 (by omega)
    rw [ed, el]
    refine ⟨?_, fun h60 => ?_⟩
    · split
      · simp
      · simp only [List.nil_append, List.length_cons]; omega
    · rcases h4 h60 with h5 | h5
      · left; rw [if_neg (by omega)]; simp
      · exact .inr (.inr h5)
  · rw [drop_fresh I (Int.le_refl _) (by omega) h2]
    exact ⟨Nat.le_refl _, fun _ => .inr (.inl ⟨rfl, Int.le_refl _⟩)⟩
  · rw [drop_fresh I (by omega) (by omega) (by omega)]
    exact ⟨Nat.le_refl _, fun _ => .inr (.inl ⟨rfl, by omega⟩)⟩
/-- what fd and fc are behind a step -/
theorem ends_ack {x : SS} {i : Nat} (J : AJ x i) {room f u : Int} (h : PickV x room 500 f u) : endedV (nextX x f u) (sfr x f u) = endsV x u := by
  have P := h.picked J.inv.ok
  have hl := sfr_len (x := x) P.f0 P.fu P.ub
  unfold endedV
  show (endsV x u && (x.ft || endsV x u) && decide (f = (x.b.length : Int) - ((sfr x f u).data.length : Int))) = _
  cases he : endsV x u with
  | false => rfl
  | true =>
    rw [endsA J] at he
    have := of_decide_eq_true he
    rw [Bool.or_true, decide_eq_true (by omega)]; rfl
theorem fd_ack {x y : SS} {i : Nat} (J : AJ x i) {room f u : Int} (h : PickV x room 500 f u) (hy : y = ackS (nextX x f u) (sfr x f u)) : y.fc = (x.fc || endsV x u) ∧ y.fd = !y.fc ∧ (y.fd = true → x.fd = true) ∧ (endsV x u = true → y.fd = false) := by
  rw [ack_step J.inv h, ends_ack J h] at hy
  simp only at hy
  have hfd := J.fdc
  cases he : endsV x u with
  | true =>
    rw [he] at hy
    simp only [↓reduceIte] at hy
    subst hy
    exact ⟨by simp, rfl, (fun g => by cases g), fun _ => rfl⟩
  | false =>
    rw [he] at hy
    simp only [Bool.false_eq_true, ↓reduceIte] at hy
    subst hy
    have e1 : (nextX x f u).fd = x.fd := by unfold nextX; rw [he]; simp
    have e2 : (nextX x f u).fc = x.fc := rfl
    refine ⟨by show (nextX x f u).fc = _; rw [e2]; simp, by show (nextX x f u).fd = !(nextX x f u).fc; rw [e1, e2, hfd], fun g => by have g : (nextX x f u).fd = true := g; rw [e1] at g; exact g, fun g => by cases g⟩
theorem fd_lose {x y : SS} {i : Nat} (J : AJ x i) {room f u : Int} (h : PickV x room 500 f u) (hy : y = lostS (nextX x f u) (sfr x f u)) : y.fc = x.fc ∧ y.fd = !y.fc := by
  have hfd := J.fdc
  have hee := ends_ack J h
  unfold lostS at hy
  rw [if_neg (show ¬ (sfr x f u).id ≠ (nextX x f u).id from fun g => g rfl), if_pos (show (sfr x f u).kind = 3 from rfl), hee] at hy
  simp only at hy
  have e2 : (nextX x f u).fc = x.fc := rfl
  cases he : endsV x u with
  | true =>
    have e1 : (nextX x f u).fd = false := by unfold nextX; rw [he]; simp
    cases hc : x.fc with
    | true =>
      have hq : (true && !(nextX x f u).fc) = false := by rw [e2, hc]; rfl
      rw [he] at hy
      simp only [hq, Bool.false_eq_true, ↓reduceIte] at hy
      subst hy
      exact ⟨by show (nextX x f u).fc = true; rw [e2, hc], by show (nextX x f u).fd = !(nextX x f u).fc; rw [e1, e2, hc]; rfl⟩
    | false =>
      have hq : (true && !(nextX x f u).fc) = true := by rw [e2, hc]; rfl
      rw [he] at hy
      simp only [hq, ↓reduceIte] at hy
      subst hy
      exact ⟨by show (nextX x f u).fc = false; rw [e2, hc], by show true = !(nextX x f u).fc; rw [e2, hc]; rfl⟩
  | false =>
    have e1 : (nextX x f u).fd = x.fd := by unfold nextX; rw [he]; simp
    rw [he] at hy
    simp only [Bool.false_and, Bool.false_eq_true, ↓reduceIte] at hy
    subst hy
    exact ⟨e2, by show (nextX x f u).fd = !(nextX x f u).fc; rw [e1, e2, hfd]⟩
theorem mu_ackA {x y : SS} {i : Nat} (J : AJ x i) {room f u : Int} (hr : 60 ≤ room) (h : PickV x room 500 f u) (hy : y = ackS (nextX x f u) (sfr x f u)) : muA y + 54 ≤ muA x := by
  have I := J.inv
  have P := h.picked I.ok
  obtain ⟨_, m1, m2, m3, _, m5, _⟩ := I.acked h hy
  obtain ⟨_, _, f3, f4⟩ := fd_ack J h hy
  have hpd := I.pickDis h
  have hu0 := I.ok.rng.u0; have hub := I.ok.ub; have hbl := J.bl
  have hun : (unA y : Int) + (min u x.b.length - min f x.b.length) = unA x := by
    unfold unA
    rw [m5]
    refine cntP_drop P.f0 P.fu (fun n h1 h2 => ⟨?_, ?_⟩) (fun n hn => ?_) _
    · rw [memB_false.2 (hpd n h1 h2)]; rfl
    · rw [(memB_iff y.came n).2 ((m2 n).2 (.inr ⟨h1, h2⟩))]; rfl
    · have : memB y.came n = memB x.came n := by
        rw [Bool.eq_iff_iff, memB_iff, memB_iff, m2]
        exact ⟨fun g => g.resolve_right hn, .inl⟩
      rw [this]
  have hfd : fdA y ≤ fdA x := by
    unfold fdA
    cases hd : y.fd with
    | false => simp
    | true => rw [f3 hd]; simp
  have hfl : flA y ≤ flA x := by unfold flA; rw [m3, m5]; split <;> split <;> omega
  have hub2 := P.ub
  obtain ⟨d1, d2⟩ := drop_lenA J h
  unfold muA
  rw [m1]
  rcases pickA J h with ⟨r, l, el, rfl, h1, h2, h3, h4⟩ | ⟨rfl, h1, h2, h3⟩ | ⟨h1, h2, h3, h4⟩
  · rcases d2 hr with g | ⟨_, g⟩ | g
    · omega
    · omega
    · omega
  · rcases h3 hr with g | g
    · have h5 : flA x = 1 := by unfold flA; rw [if_pos (by omega)]
      have h6 : flA y = 0 := by unfold flA; rw [m3, m5, if_neg (by omega)]
      omega
    · omega
  · have h5 : fdA x = 1 := by unfold fdA; rw [h4]; rfl
    have h6 : fdA y = 0 := by unfold fdA; rw [f4 (by rw [endsA J]; exact decide_eq_true (by omega))]; rfl
    omega
end Go.Proofs.Ytaebjajbogedkaa.T

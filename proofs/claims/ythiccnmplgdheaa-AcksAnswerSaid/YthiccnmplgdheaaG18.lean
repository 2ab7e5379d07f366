/- Lemmas about the typed texts (joined: LFrame1 LFrame2 LAck2). -/
import Derived.Test.YthiccnmplgdheaaG17
import Derived.Test.YthiccnmplgdheaaG14
/- The laws FrameBack and FrameCut over typed texts: what is laid is read the same; frames that are cut short are refused. -/
set_option linter.unusedVariables false
set_option linter.unusedSimpArgs false
namespace Go.Proofs.Ythiccnmplgdheaa.T
open Go Go.Abs Go.Proofs
theorem take9 {α : Type} (A B : List α) (m : Nat) (h : A.length = 9) : (A ++ B).take (9 + m) = A ++ B.take m := by
  rw [List.take_append, List.take_of_length_le (by omega), h, Nat.add_sub_cancel_left]
theorem drop9 {α : Type} (A B : List α) (m : Nat) (h : A.length = 9) : (A ++ B).drop (9 + m) = B.drop m := by
  rw [List.drop_append, List.drop_eq_nil_of_le (by omega), h, Nat.add_sub_cancel_left]; rfl
theorem fsV_take : ∀ (l : List F9) (k : Nat), fsV (l.take k) = (fsV l).take (k * 9)
  | [], k => by simp [fsV]
  | x :: l, 0 => by simp [fsV]
  | x :: l, k + 1 => by
    rw [show (k + 1) * 9 = 9 + k * 9 by omega]
    show f9L x ++ fsV (l.take k) = (f9L x ++ fsV l).take (9 + k * 9)
    rw [take9 _ _ _ rfl, fsV_take l k]
theorem fsV_drop : ∀ (l : List F9) (k : Nat), fsV (l.drop k) = (fsV l).drop (k * 9)
  | [], k => by simp [fsV]
  | x :: l, 0 => by simp [fsV]
  | x :: l, k + 1 => by
    rw [show (k + 1) * 9 = 9 + k * 9 by omega]
    show fsV (l.drop k) = (f9L x ++ fsV l).drop (9 + k * 9)
    rw [drop9 _ _ _ rfl, fsV_drop l k]
theorem slF_hi {h : H} {s : Sl} {xs : List F9} {vs : List FV} (r : RdF h s xs vs) {hi : Int} (h1 : 0 ≤ hi) (h2 : hi ≤ vs.length) : ∃ s', slT 9 h s none (some hi) none = some s' ∧ RdF h s' (xs.take hi.toNat) (vs.take hi.toNat) := by
  obtain ⟨s', e, r', _, _⟩ := sl_hi (hi := hi) (by omega) (by unfold B63; omega) r.rd h1 (by rw [r.len]; exact h2)
  exact ⟨s', e, by rw [fsV_take]; exact r', r.frs.take _⟩
theorem slF_lo {h : H} {s : Sl} {xs : List F9} {vs : List FV} (r : RdF h s xs vs) {lo : Int} (h1 : 0 ≤ lo) (h2 : lo ≤ vs.length) : ∃ s', slT 9 h s (some lo) none none = some s' ∧ RdF h s' (xs.drop lo.toNat) (vs.drop lo.toNat) := by
  obtain ⟨s', e, r', _, _⟩ := sl_lo (lo := lo) (by omega) (by unfold B63; omega) r.rd h1 (by rw [r.len]; exact h2)
  exact ⟨s', e, by rw [fsV_drop]; exact r', r.frs.drop _⟩
theorem RdF.cell {h : H} {s : Sl} {xs : List F9} {vs : List FV} {b : Addr} (r : RdF h s xs vs) (hb : s.base = some b) {j i : Nat} {v : Value} (hj : j < xs.length) (hi : i < 9) (e : (f9L (xs.getD j f90))[i]? = some v) : ldCell h (add (add b (j * 9)) i) = some v := by
  rw [add_add]
  refine (r.rd.ld b hb _ _ ?_).2
  have := fsV_get xs j hj
  rw [← this, List.getElem?_take_of_lt hi, List.getElem?_drop] at e
  exact e
def kv1 : FV := ⟨1, 0, 0, 0, 0, 0, false, [], []⟩
def kv2 : FV := ⟨10, 5, 0, 0, 0, 0, false, [], []⟩
theorem szok_of {vs : List FV} (h : ∀ v ∈ vs, FR v) : SzOK vs := fun v hv => by
  have h1 := (h v hv).1.2.2.2
  refine ⟨by omega, ?_⟩
  have hs := (h v hv).1.2.1.2.2.2.2.2.2.2
  by_cases h2 : v.kind = 2
  · have := (h v hv).2
    unfold FR1 at this
    rw [if_pos h2] at this
    have := this.2.2
    omega
  · have : v.spans = [] := by
      rw [hs]
      unfold bareV
      rw [if_neg h2]
      (repeat' split) <;> rfl
    rw [this]; simp
theorem layFs_mono (vs : List FV) {i n : Nat} (h : i ≤ n) : (layFs (vs.take i)).length ≤ (layFs (vs.take n)).length := by
  obtain ⟨j, rfl⟩ : ∃ j, n = i + j := ⟨n - i, by omega⟩
  rw [List.take_add, layFs_app, List.length_append]
  omega
end Go.Proofs.Ythiccnmplgdheaa.T
/- The law FrameBack over typed texts: what is laid is read the same, however many; laid in parts it is the same bytes; sizes add up. -/
set_option linter.unusedVariables false
set_option linter.unusedSimpArgs false
namespace Go.Proofs.Ythiccnmplgdheaa.T
open Go Go.Abs Go.Proofs
theorem catT_ok (a b : List UInt8) (h : a.length + b.length ≤ 2 ^ 47) : catT (bsOf a) (bsOf b) = some (bsOf (a ++ b)) := by
  unfold catT
  have : bsOf a ++ bsOf b = bsOf (a ++ b) := by
    apply ByteArray.ext
    simp [bsOf]
  rw [← this]
  have hs : ∀ l : List UInt8, (bsOf l).size = l.length := fun l => by simp [bsOf, ByteArray.size]
  unfold strBin
  rw [hs, hs]
  have : decide (((a.length + b.length : Nat) : Int) ≤ IntKind.i64.max) = true := decide_eq_true (by show _ ≤ (9223372036854775807 : Int); omega)
  simp only [this]
  rfl
end Go.Proofs.Ythiccnmplgdheaa.T
/- The law AcksAnswer over typed texts: an Ack, laid and read again, tells just what was noted. -/
set_option linter.unusedVariables false
set_option linter.unusedSimpArgs false
set_option maxRecDepth 100000
namespace Go.Proofs.Ythiccnmplgdheaa.T
open Go Go.Abs Go.Proofs
/-! counts of what was noted, and of its runs -/
def cntB (f : Nat → Bool) : Nat → Int
  | 0 => 0
  | n + 1 => if f n = true then cntB f n + 1 else cntB f n
def stB (f : Nat → Bool) : Nat → Int
  | 0 => 0
  | n + 1 => if f n = true ∧ (n = 0 ∨ f (n - 1) = false) then stB f n + 1 else stB f n
def cov : List Run → Int → Int
  | [], _ => 0
  | r :: l, n => (min n r.2 - min n r.1) + cov l n
def beg : List Run → Int → Int
  | [], _ => 0
  | r :: l, n => (if r.1 < n then 1 else 0) + beg l n
theorem mem_low {l : List Run} {lo e n : Int} (h : Nrm lo e l) (hm : mem l n) : lo < n := by
  obtain ⟨r, hr, a, b⟩ := hm
  have := h.low r hr; omega
theorem cov_step : ∀ {l : List Run} {lo e : Int} (n : Int), Nrm lo e l → cov l (n + 1) = cov l n + if mem l n then 1 else 0
  | [], _, _, n, _ => by simp [cov, mem]
  | r :: l, lo, e, n, ⟨h1, h2, h3, h4⟩ => by
    have ih := cov_step n h4
    have hx : mem l n → r.2 < n := mem_low h4
    simp only [cov, ih]
    by_cases hm : mem l n
    · have := hx hm
      rw [if_pos hm, if_pos ((mem_cons ..).2 (.inr hm))]; omega
    · by_cases hc : r.1 ≤ n ∧ n < r.2
      · rw [if_neg hm, if_pos ((mem_cons ..).2 (.inl hc))]; omega
      · rw [if_neg hm, if_neg (fun hh => ((mem_cons ..).1 hh).elim hc hm)]; omega
theorem beg_step : ∀ {l : List Run} {lo e : Int} (n : Int), Nrm lo e l → beg l (n + 1) = beg l n + if mem l n ∧ ¬ mem l (n - 1) then 1 else 0
  | [], _, _, n, _ => by simp [beg, mem]
  | r :: l, lo, e, n, ⟨h1, h2, h3, h4⟩ => by
    have ih := beg_step n h4
    have hx : mem l n → r.2 < n := mem_low h4
    have hy : mem l (n - 1) → r.2 < n - 1 := mem_low h4
    simp only [beg, ih]
    have e1 : mem (r :: l) n ↔ (r.1 ≤ n ∧ n < r.2) ∨ mem l n := mem_cons ..
    have e2 : mem (r :: l) (n - 1) ↔ (r.1 ≤ n - 1 ∧ n - 1 < r.2) ∨ mem l (n - 1) := mem_cons ..
    have e3 : (mem (r :: l) n ∧ ¬ mem (r :: l) (n - 1)) ↔ (((r.1 ≤ n ∧ n < r.2) ∨ mem l n) ∧ ¬ ((r.1 ≤ n - 1 ∧ n - 1 < r.2) ∨ mem l (n - 1))) := by rw [e1, e2]
    simp only [e3]
    by_cases hm : mem l n <;> by_cases hn : mem l (n - 1) <;> simp only [hm, hn, or_true, or_false, not_true_eq_false, not_false_eq_true, and_true, and_false, if_true, if_false, true_and, false_and]
    · have := hx hm; have := hy hn; (repeat' split) <;> omega
    · have := hx hm; (repeat' split) <;> omega
    · have := hy hn; (repeat' split) <;> omega
    · (repeat' split) <;> omega
theorem cov_top : ∀ {l : List Run} {lo e : Int} (n : Int), Nrm lo e l → e ≤ n → cov l n = cntR l
  | [], _, _, n, _, _ => rfl
  | r :: l, lo, e, n, ⟨h1, h2, h3, h4⟩, hn => by
    simp only [cov, cntR, cov_top n h4 hn]; omega
theorem beg_top : ∀ {l : List Run} {lo e : Int} (n : Int), Nrm lo e l → e ≤ n → beg l n = l.length
  | [], _, _, n, _, _ => rfl
  | r :: l, lo, e, n, ⟨h1, h2, h3, h4⟩, hn => by
    simp only [beg, beg_top n h4 hn, List.length_cons]; rw [if_pos (by omega)]; omega
theorem cov_bot : ∀ {l : List Run} {lo e : Int} (n : Int), Nrm lo e l → n ≤ lo + 1 → cov l n = 0 ∧ beg l n = 0
  | [], _, _, n, _, _ => ⟨rfl, rfl⟩
  | r :: l, lo, e, n, ⟨h1, h2, h3, h4⟩, hn => by
    have := cov_bot n h4 (by omega)
    simp only [cov, beg, this]; rw [if_neg (by omega)]; omega
theorem cnt_all {l : List Run} {f : Nat → Bool} {N : Nat} (h : Nrm (-1) N l) (hf : ∀ k : Nat, k < N → (mem l k ↔ f k = true)) : ∀ n, n ≤ N → cntB f n = cov l n ∧ stB f n = beg l n
  | 0, _ => by have := cov_bot (n := 0) h (by omega); exact ⟨this.1.symm, this.2.symm⟩
  | n + 1, hn => by
    obtain ⟨a, b⟩ := cnt_all h hf n (by omega)
    have h1 := hf n (by omega)
    have c := cov_step (n := (n : Int)) h
    have d := beg_step (n := (n : Int)) h
    have e0 : ((n + 1 : Nat) : Int) = (n : Int) + 1 := by omega
    rw [e0, c, d]
    unfold cntB stB
    rw [a, b]
    refine ⟨?_, ?_⟩
    · by_cases hm : mem l (n : Int)
      · rw [if_pos hm, if_pos (h1.1 hm)]
      · rw [if_neg hm, if_neg (fun hh => hm (h1.2 hh))]; omega
    · have h2 : mem l ((n : Int) - 1) ↔ ¬ (n = 0 ∨ f (n - 1) = false) := by
        by_cases h0 : n = 0
        · subst h0
          exact ⟨fun hh => by have := mem_low h hh; omega, fun hh => absurd (.inl rfl) hh⟩
        · have := hf (n - 1) (by omega)
          rw [show (((n - 1 : Nat)) : Int) = (n : Int) - 1 by omega] at this
          rw [this]; simp [h0]
      by_cases hm : mem l (n : Int)
      · by_cases hp : mem l ((n : Int) - 1)
        · rw [if_neg (fun hh => (h2.1 hp) hh.2), if_neg (fun hh => hh.2 hp)]; omega
        · rw [if_pos ⟨h1.1 hm, Decidable.byContradiction fun hh => hp (h2.2 hh)⟩, if_pos ⟨hm, hp⟩]
      · rw [if_neg (fun hh => hm (h1.2 hh.1)), if_neg (fun hh => hm hh.1)]; omega
def sumR : List Run → Int
  | [] => 0
  | r :: l => (r.2 - r.1 + 1) + sumR l
theorem sumR_app : ∀ a b : List Run, sumR (a ++ b) = sumR a + sumR b
  | [], b => by simp [sumR]
  | r :: a, b => by simp only [List.cons_append, sumR, sumR_app a b]; omega
theorem sumR_dec : ∀ l : List Run, sumR (l.map decR) = cntR l
  | [] => rfl
  | r :: l => by simp only [List.map_cons, sumR, cntR, sumR_dec l, decR]; omega
theorem cntR_app : ∀ a b : List Run, cntR (a ++ b) = cntR a + cntR b
  | [], b => by simp [cntR]
  | r :: a, b => by simp only [List.cons_append, cntR, cntR_app a b]; omega
theorem cntR_rev : ∀ l : List Run, cntR l.reverse = cntR l
  | [] => rfl
  | r :: l => by simp only [List.reverse_cons, cntR_app, cntR_rev l, cntR]; omega
theorem cntR_nn : ∀ {l : List Run}, (∀ r ∈ l, r.1 < r.2) → 0 ≤ cntR l
  | [], _ => Int.le_refl _
  | r :: l, h => by
    have h1 := h r (by simp)
    have h2 := cntR_nn (l := l) fun q hq => h q (by simp [hq])
    simp only [cntR]; omega
theorem told_law {l : List Run} (h : ∀ r ∈ l, r.1 < r.2) : sumR (frV l) ≤ cntR l ∧ (l.length ≤ 8 → sumR (frV l) = cntR l) := by
  unfold frV
  rw [sumR_dec]
  have e : cntR (l.reverse.take 8) + cntR (l.reverse.drop 8) = cntR l := by rw [← cntR_app, List.take_append_drop, cntR_rev]
  have h0 : 0 ≤ cntR (l.reverse.drop 8) := cntR_nn fun r hr => h r (by have := List.mem_of_mem_drop hr; simpa using this)
  refine ⟨by omega, fun hl => ?_⟩
  rw [List.drop_eq_nil_of_le (by simpa using hl)] at e
  have : cntR ([] : List Run) = 0 := rfl
  omega
/-! what the law keeps -/
structure J4 (l : List Run) (hd : List Bool) (nw : Int) : Prop where
  len : hd.length = 40
  nrm : Nrm (-1) 4611686018427387904 l
  rng : -1 ≤ nw ∧ nw < 40
  iff : ∀ k : Nat, k < 40 → (mem l k ↔ hd.getD k false = true)
  bnd : ∀ n, mem l n → 0 ≤ n ∧ n < 40
theorem J4.small {l : List Run} {hd : List Bool} {nw : Int} (j : J4 l hd nw) : Nrm (-1) 40 l ∧ l.length ≤ 41 := by
  have h1 : Nrm (-1) 40 l := j.nrm.of_mem fun n hn => by have := j.bnd n hn; omega
  exact ⟨h1, by have := Nrm.length h1 (by omega); omega⟩
theorem J4.step {l : List Run} {hd : List Bool} {nw : Int} (j : J4 l hd nw) {k : Nat} (hk : k < 40) : J4 (noteL l nw k) (hd.set k true) (if okA l nw k then max nw k else nw) := by
  have hw := j.rng
  have hkl : k < hd.length := by rw [j.len]; exact hk
  by_cases ok : okA l nw k
  · rw [if_pos ok]
    have hm : ∀ n : Int, 0 ≤ n → (mem (noteL l nw k) n ↔ (mem l n ∨ n = k) ∧ max nw k - 64 ≤ n) := fun n hn => note_mem j.nrm ok (by omega) hn
    have hnrm := note_nrm j.nrm ok
    refine ⟨by simp [j.len], hnrm, by omega, fun i hi => ?_, fun n hn => ?_⟩
    · rw [hm i (by omega), j.iff i hi, getD_set hd k i hkl]
      by_cases e : i = k
      · subst e; rw [if_pos rfl]; exact ⟨fun h => rfl, fun h => ⟨.inr rfl, by omega⟩⟩
      · rw [if_neg e]
        exact ⟨fun h => by rcases h.1 with h1 | h1; exact h1; exact absurd (by omega) e, fun h => ⟨.inl h, by omega⟩⟩
    · have h0 := mem_low hnrm hn
      have := (hm n (by omega)).1 hn
      rcases this.1 with h1 | h1
      · exact j.bnd n h1
      · omega
  · rw [if_neg ok]
    have hnl : noteL l nw k = l := by unfold noteL; rw [if_neg ok]
    rw [hnl]
    have hin : mem l k := Decidable.byContradiction fun hh => ok ⟨⟨by omega, by omega⟩, hh, by omega⟩
    refine ⟨by simp [j.len], j.nrm, hw, fun i hi => ?_, j.bnd⟩
    rw [j.iff i hi, getD_set hd k i hkl]
    by_cases e : i = k
    · subst e; rw [if_pos rfl]; exact ⟨fun _ => rfl, fun _ => (j.iff i hi).1 hin⟩
    · rw [if_neg e]
theorem answer_l1 {h0 : H} {b c : Nat} (hb : h0.size ≤ b) (hc : h0.size ≤ c) (hne : ¬ b = c) {x0 : Sl} {zs : List Int} (hr : RdI .i64 h0 x0 zs) (hz : zs.length ≤ 2 ^ 47) :
    ∀ (m : Nat) (st : ((Sl × ((Option Addr) × ((Option Addr) × (Sl × (Int × Int))))) × H)), (∃ (i : Nat) (nw : Int) (l : List Run) (hd : List Bool) (ow : Bool) (h' : H), st = ((x0, (some ⟨b, 0, some 0⟩, (some ⟨c, 0, some 0⟩, (x0, (((x0.len : Nat) : Int), (i : Int)))))), h') ∧ m + i = zs.length ∧ Seen h' b l ow nw ∧ Box h' c (hd.map .bool) ∧ J4 l hd nw ∧ EX h0 h' ∧ (0 < i → l ≠ [])) →
    PO (loopO law7_AcksAnswer_l1 st) (fun r => ∃ (nw : Int) (l : List Run) (hd : List Bool) (ow : Bool) (h' : H), r = Sum.inl ((x0, (some ⟨b, 0, some 0⟩, some ⟨c, 0, some 0⟩)), h') ∧ Seen h' b l ow nw ∧ Box h' c (hd.map .bool) ∧ J4 l hd nw ∧ EX h0 h' ∧ (0 < zs.length → l ≠ [])) := by
  refine PO.loop _ ?_
  rintro m st ⟨i, nw, l, hd, ow, h1, rfl, hm, S, B, j, hx, hp⟩
  have hlen := hr.len
  unfold law7_AcksAnswer_l1 P.law7_AcksAnswer_l1
  refine .condD (fun hlt => ?_) (fun hge => .retR ⟨nw, l, hd, ow, h1, rfl, S, B, j, hx, fun hh => hp (by omega)⟩)
  have hwi : IntKind.wrap .i64 ((i : Int) + 1) = ((i + 1 : Nat) : Int) := by rw [w64 (by omega) (by omega)]; rfl
  have hw := j.rng
  refine .ixI (hr.ex hx) (by omega) (by omega) fun a e1 => .op e1 (.callE (pick_f _ _ (by omega) (by omega) _) ?_)
  have q := emod_b (zs.getD (i : Int).toNat 0) (show (0 : Int) < 40 by omega)
  obtain ⟨k, hk⟩ : ∃ k : Nat, zs.getD (i : Int).toNat 0 % 40 = (k : Int) := ⟨(zs.getD (i : Int).toNat 0 % 40).toNat, by omega⟩
  rw [hk] at q ⊢
  have hk4 : k < 40 := by omega
  have hkl : k < hd.length := by rw [j.len]; exact hk4
  refine PO.call (Note_f hx.wf S (by have := j.small; omega) (by omega) k (by omega) true) fun a h2 ⟨e, u2, S2⟩ => ?_
  have B2 : Box h2 c (hd.map .bool) := Box.ku u2 (fun e => hne e.symm) B
  have x2 : EX h0 h2 := u2.ex0 hx (fun A hA e => by omega)
  refine .ptr (PO.ixA (by omega) (by omega) (PO.st1 B2 x2.wf (by simp; omega) rfl fun h3 B3 u3 z3 w3 => .retL ?_))
  rw [Int.toNat_natCast, Nat.mul_one, map_set_bool] at B3
  obtain ⟨s2, hs2⟩ := S2
  have j2 := j.step hk4
  obtain ⟨s', g1, g2, g3⟩ := hs2.ex
  refine ⟨m - 1, by omega, i + 1, _, _, _, _, h3, by rw [hwi], by omega, ⟨s2, ⟨⟨s', g1, Rd.kbox x2.wf B2 u3 (fun v hv hv2 => runs_bool hv hv2) g2, g3⟩, Box.ku u3 hne hs2.box⟩⟩, B3, j2, u3.ex0 x2 (fun A hA e => by omega), fun _ hh => ?_⟩
  have := (j2.iff k hk4).2 (by rw [getD_set hd k k hkl, if_pos rfl])
  rw [hh] at this
  simp [mem] at this
theorem answer_l3 {h : H} {t c : Nat} {f x1 : Sl} {x2 x3 lo hi td : Int} {hd : List Bool} (Bt : Box h t [.int .i64 lo, .int .i64 hi]) (Bc : Box h c (hd.map .bool)) (hl : hd.length = 40) (w : WF h) (ht : 0 ≤ td ∧ td ≤ 1000000)
    (ha : ∀ k : Int, lo ≤ k → k ≤ hi → (0 ≤ k ∧ k < 40) ∧ hd.getD k.toNat false = true) (hlo : 0 ≤ lo ∧ lo ≤ hi ∧ hi < 40) :
    PO (loopO law7_AcksAnswer_l3 ((some ⟨c, 0, some 0⟩, (f, (td, (some ⟨t, 0, some 0⟩, (lo, (x1, (x2, x3))))))), h)) (fun r => r = Sum.inl ((some ⟨c, 0, some 0⟩, (f, (td + (hi - lo + 1), (x1, (x2, x3))))), h)) := by
  refine PO.loop (fun m st => ∃ k : Int, st = ((some ⟨c, 0, some 0⟩, (f, (td + (k - lo), (some ⟨t, 0, some 0⟩, (k, (x1, (x2, x3))))))), h) ∧ (m : Int) + k = hi + 1 ∧ lo ≤ k) ?_ (hi + 1 - lo).toNat _ ⟨lo, by rw [show td + (lo - lo) = td by omega], by omega, Int.le_refl _⟩
  rintro m st ⟨k, rfl, hm, hk⟩
  unfold law7_AcksAnswer_l3 P.law7_AcksAnswer_l3
  refine .ptr ?_
  refine PO.ixA (by omega) (by omega) (.ldI Bt rfl (.condD (fun c1 => ?_) (fun c1 => .retR ?_)))
  · have c1' : k ≤ hi := c1
    obtain ⟨a1, a2⟩ := ha k hk c1'
    refine PO.join (fun st => st = ((some ⟨c, 0, some 0⟩, (f, (td + (k - lo), (some ⟨t, 0, some 0⟩, (k, (x1, (x2, (x3, false)))))))), h)) ?_ ?_
    · refine .condD (fun (hh : k < 0) => absurd hh (by omega)) (fun _ => .condD (fun (hh : k ≥ 40) => absurd hh (by omega)) (fun _ => .ptr (PO.ixA (by omega) (by omega) ?_)))
      refine .op (x := hd.getD k.toNat false) (Bc.ldB (by rw [Nat.mul_one]; exact map_get_bool (by omega))) ?_
      rw [a2]
      exact .retL rfl
    · rintro _ rfl
      refine PO.condF (.retL ⟨m - 1, by omega, k + 1, ?_, by omega, by omega⟩)
      rw [w64 (n := k + 1) (by omega) (by omega), w64 (n := td + (k - lo) + 1) (by omega) (by omega), show td + (k - lo) + 1 = td + (k + 1 - lo) by omega]
  · have c1' : ¬ k ≤ hi := c1
    rw [show hi - lo + 1 = k - lo by omega]
theorem answer_l2 {h0 : H} {c : Nat} {f x0 : Sl} {q : List Run} {hd : List Bool} (Bc : Box h0 c (hd.map .bool)) (hl : hd.length = 40) (w : WF h0) (hr : RdR h0 x0 q) (hq : q.length ≤ 8)
    (ha : ∀ r ∈ q, (0 ≤ r.1 ∧ r.1 ≤ r.2 ∧ r.2 < 40) ∧ ∀ k : Int, r.1 ≤ k → k ≤ r.2 → (0 ≤ k ∧ k < 40) ∧ hd.getD k.toNat false = true) :
    PO (loopO law7_AcksAnswer_l2 ((some ⟨c, 0, some 0⟩, (f, (0, (x0, (((x0.len : Nat) : Int), 0))))), h0)) (fun r => ∃ h', r = Sum.inl ((some ⟨c, 0, some 0⟩, (f, sumR q)), h') ∧ EX h0 h') := by
  have hbd : ∀ i, 0 ≤ sumR (q.take i) ∧ sumR (q.take i) ≤ 40 * (i : Int) := by
    intro i
    induction i with
    | zero => simp [sumR]
    | succ i ih =>
      by_cases hi : i < q.length
      · have hqm : q.getD i (0, 0) ∈ q := by rw [List.getD_eq_getElem?_getD, List.getElem?_eq_getElem hi]; exact List.getElem_mem _
        have := (ha _ hqm).1
        rw [take_succ_getD q (0, 0) hi, sumR_app]
        simp only [sumR]; omega
      · rw [List.take_of_length_le (by omega)] at ih ⊢; omega
  refine PO.loop (fun m st => ∃ (i : Nat) (h' : H), st = ((some ⟨c, 0, some 0⟩, (f, (sumR (q.take i), (x0, (((x0.len : Nat) : Int), (i : Int)))))), h') ∧ m + i = q.length ∧ EX h0 h') ?_ q.length _ ⟨0, h0, rfl, rfl, EX.refl w⟩
  rintro m st ⟨i, h1, rfl, hm, hx⟩
  have hlen := RdR.len hr
  unfold law7_AcksAnswer_l2 P.law7_AcksAnswer_l2
  refine .condD (fun hlt => ?_) (fun hge => .retR ⟨h1, ?_, hx⟩)
  · refine PO.join (fun st => ∃ h' : H, st = ((some ⟨c, 0, some 0⟩, (f, (sumR (q.take (i + 1)), (x0, (((x0.len : Nat) : Int), (i : Int)))))), h') ∧ EX h0 h') ?_ ?_
    · refine .ixR (hr.ex hx) (by omega) (by omega) fun a _ _ _ e1 _ _ => .op e1 ?_
      have hqm : q.getD i (0, 0) ∈ q := by rw [List.getD_eq_getElem?_getD, List.getElem?_eq_getElem (by omega)]; exact List.getElem_mem _
      have hb1 := hbd i
      simp only [Int.toNat_natCast]
      rw [take_succ_getD q (0, 0) (by omega), sumR_app]
      obtain ⟨b1, b2⟩ := ha _ hqm
      generalize q.getD i (0, 0) = r at *
      refine PO.newB hx.wf fun h2 x2 B2 z2 w2 => PO.stZ B2 w2 rfl rfl fun h3 B3 u3 z3 w3 => ?_
      have B3' : Box h3 h1.size [.int .i64 r.1, .int .i64 r.2] := B3
      have y3 : EX h1 h3 := u3.ex0 x2 (fun A hA e => by omega)
      refine PO.ixA (by omega) (by omega) (.ldI B3' rfl (PO.mono (answer_l3 B3' (Box.kx y3 (Box.kx hx Bc)) hl w3 (by omega) b2 b1) ?_))
      rintro _ rfl
      exact ⟨h3, by simp [sumR], hx.trans y3⟩
    · rintro _ ⟨h', rfl, x'⟩
      refine .retL ⟨m - 1, by omega, i + 1, h', ?_, by omega, x'⟩
      rw [w64 (by omega) (by omega)]; rfl
  · have : i = q.length := by omega
    subst this
    rw [List.take_of_length_le (Nat.le_refl _)]
theorem answer_l4 {h : H} {c : Nat} {f : Sl} {td : Int} {hd : List Bool} (Bc : Box h c (hd.map .bool)) (hl : hd.length = 40) :
    PO (loopO law7_AcksAnswer_l4 ((some ⟨c, 0, some 0⟩, (f, (td, (0, (0, 0))))), h)) (fun r => r = Sum.inl ((f, (td, (stB (fun k => hd.getD k false) 40, cntB (fun k => hd.getD k false) 40))), h)) := by
  have hb : ∀ n, (0 ≤ stB (fun k => hd.getD k false) n ∧ stB (fun k => hd.getD k false) n ≤ n) ∧ (0 ≤ cntB (fun k => hd.getD k false) n ∧ cntB (fun k => hd.getD k false) n ≤ n) := by
    intro n
    induction n with
    | zero => simp [stB, cntB]
    | succ n ih => unfold stB cntB; constructor <;> split <;> omega
  refine PO.loop (fun m st => ∃ n : Nat, st = ((some ⟨c, 0, some 0⟩, (f, (td, (stB (fun k => hd.getD k false) n, (cntB (fun k => hd.getD k false) n, (n : Int)))))), h) ∧ m + n = 40) ?_ 40 _ ⟨0, rfl, rfl⟩
  rintro m st ⟨n, rfl, hm⟩
  have hbn := hb n
  have ldk : ∀ k : Nat, k < 40 → Abs.ldB h (add ⟨c, 0, some 0⟩ ((k : Int).toNat * 1)) = some (hd.getD k false) := fun k hk => Bc.ldB (by rw [Int.toNat_natCast, Nat.mul_one]; exact map_get_bool (by omega))
  unfold law7_AcksAnswer_l4 P.law7_AcksAnswer_l4
  refine .condD (fun hlt => ?_) (fun hge => .retR ?_)
  · refine PO.join (fun st => st = ((some ⟨c, 0, some 0⟩, (f, (td, (stB (fun k => hd.getD k false) (n + 1), (cntB (fun k => hd.getD k false) (n + 1), (n : Int)))))), h)) ?_ ?_
    · refine PO.join (fun st => st = ((some ⟨c, 0, some 0⟩, (f, (td, (stB (fun k => hd.getD k false) n, (cntB (fun k => hd.getD k false) (n + 1), ((n : Int), (n : Int))))))), h)) ?_ ?_
      · refine .ptr (PO.ixA (by omega) (by omega) (.op (ldk n (by omega)) (.cond (fun cc => .retL ?_) (fun cc => .retL ?_))))
        · have : cntB (fun k => hd.getD k false) (n + 1) = cntB (fun k => hd.getD k false) n + 1 := by unfold cntB; rw [if_pos cc]; cases n <;> rfl
          rw [this, w64 (by omega) (by omega)]
        · have : cntB (fun k => hd.getD k false) (n + 1) = cntB (fun k => hd.getD k false) n := by unfold cntB; rw [if_neg (by rw [cc]; decide)]; cases n <;> rfl
          rw [this]
      rintro _ rfl
      refine PO.join (fun st => st = ((some ⟨c, 0, some 0⟩, (f, (td, (stB (fun k => hd.getD k false) n, (cntB (fun k => hd.getD k false) (n + 1), ((n : Int), decide (hd.getD n false = true ∧ (n = 0 ∨ hd.getD (n - 1) false = false)))))))), h)) ?_ ?_
      · refine .ptr (PO.ixA (by omega) (by omega) (.op (ldk n (by omega)) (.cond (fun cc => .condE (fun h0 => .retL ?_) (fun h0 => .ptr ?_)) (fun cc => .retL ?_))))
        · have h0' : (n : Int) = 0 := h0
          rw [decide_eq_true ⟨cc, .inl (by omega)⟩]
        · have h0' : ¬ (n : Int) = 0 := h0
          rw [w64 (n := (n : Int) - 1) (by omega) (by omega)]
          refine PO.ixA (by omega) (by omega) ?_
          rw [show (n : Int) - 1 = ((n - 1 : Nat) : Int) by omega]
          refine .op (ldk (n - 1) (by omega)) (.retL ?_)
          have : decide (hd.getD n false = true ∧ (n = 0 ∨ hd.getD (n - 1) false = false)) = !(hd.getD (n - 1) false) := by
            cases hh : hd.getD (n - 1) false with
            | false => exact decide_eq_true ⟨cc, .inr rfl⟩
            | true => exact decide_eq_false fun hx => by rcases hx.2 with hx | hx; omega; simp at hx
          rw [this]
        · rw [decide_eq_false (fun hx => by have := hx.1; rw [cc] at this; cases this)]
      · rintro _ rfl
        refine .condD (fun cc => .retL ?_) (fun cc => .retL ?_)
        · have : stB (fun k => hd.getD k false) (n + 1) = stB (fun k => hd.getD k false) n + 1 := by rw [stB, if_pos cc]
          rw [this, w64 (by omega) (by omega)]
        · have : stB (fun k => hd.getD k false) (n + 1) = stB (fun k => hd.getD k false) n := by rw [stB, if_neg cc]
          rw [this]
    · rintro _ rfl
      refine .retL ⟨m - 1, by omega, n + 1, ?_, by omega⟩
      rw [w64 (by omega) (by omega)]; rfl
  · have : n = 40 := by omega
    subst this
    rfl
theorem AcksAnswer (l : Sl) (h : H) (w : WF h) (zs : List Int) (hr : RdI .i64 h l zs) (hz : zs.length * 8 ≤ 140737488351232) (hzr : ∀ n ∈ zs, -9223372036854775808 ≤ n ∧ n ≤ 9223372036854775807) : ∃ h', law7_AcksAnswer l h = some (true, h') := by
  refine PO.law ?_
  unfold law7_AcksAnswer P.law7_AcksAnswer
  refine PO.call (New_f w) fun a h1 ⟨e, S1, x1, z1⟩ => ?_
  subst e
  refine PO.join (fun st => ∃ h2, st = ((l, (some ⟨h.size, 0, some 0⟩, false)), h2) ∧ EX h1 h2) ?_ ?_
  · refine PO.call (known7_f x1.wf) fun a h2 ⟨e, x2⟩ => ?_
    subst e
    exact PO.condF (.op (x := false) rfl (.retL ⟨h2, rfl, x2⟩))
  rintro _ ⟨h2, rfl, x2⟩
  refine PO.condF (PO.newB (l := (List.replicate 40 false).map Value.bool) x2.wf fun h3 x3 B3 z3 w3 => ?_)
  have S3 := (S1.kx x2).kx x3
  have y3 : EX h h3 := (x1.trans x2).trans x3
  have hs2 := x2.size
  have j0 : J4 [] (List.replicate 40 false) (-1) := ⟨by simp, trivial, by omega, fun k hk => by rw [repl_getD]; simp [mem], fun n hn => by simp [mem] at hn⟩
  refine PO.joinD (PO.mono (answer_l1 (h0 := h) (b := h.size) (c := h2.size) (Nat.le_refl _) (by omega) (by omega) hr (by omega) zs.length _ ⟨0, -1, [], _, false, h3, rfl, rfl, S3, B3, j0, y3, fun hh => by omega⟩) ?_)
  rintro _ ⟨nw, r, hd, ow, h4, rfl, S4, B4, j, y4, hpos⟩
  show PO _ _
  have hw := j.rng
  have hsm := j.small
  have hlow : ∀ x ∈ r, 0 ≤ x.1 ∧ x.1 < x.2 ∧ x.2 ≤ 4611686018427387904 := fun x hx => by have := j.nrm.low x hx; omega
  refine PO.call (Frame_f y4.wf S4 (by omega) hlow) fun a h5 ⟨x5, ea, fr⟩ => ?_
  obtain ⟨f9, ok⟩ := a
  have ea' : ok = decide (r ≠ []) := ea
  subst ea'
  refine PO.newB x5.wf fun h6 x6 B6 z6 w6 => PO.stZ B6 w6 rfl rfl fun h7 B7 u7 z7 w7 => ?_
  have B7' : Box h7 h5.size (f9L f9) := B7
  have y7 : EX h5 h7 := u7.ex0 x6 (fun A hA e => by omega)
  have hll := hr.len
  by_cases h0 : r = []
  · have hd0 : decide (r ≠ []) = false := decide_eq_false (fun hh => hh h0)
    rw [hd0]
    have : zs.length = 0 := Decidable.byContradiction fun hh => hpos (by omega) h0
    refine PO.condT (.ret ?_)
    rw [hll, this]; rfl
  · rw [if_neg h0] at fr
    have hd0 : decide (r ≠ []) = true := decide_eq_true h0
    rw [hd0]
    have fr7 := fr.ex y7
    have hfr := ack_right j.nrm h0
    have hfl : (frV r).length ≤ 8 := by simp [frV]; omega
    refine PO.condF (PO.ldF B7' (PO.newB w7 fun h8 x8 B8 z8 w8 => ?_))
    have fr8 := fr7.ex x8
    have rf8 : RdF h8 ⟨some ⟨h7.size, 0, some 0⟩, 1, 1⟩ [f9] [⟨2, 0, 0, 0, 0, 0, false, [], frV r⟩] := ⟨B8.rd w8 rfl (capOk_self _ _ (by unfold B63; omega)), fr8, trivial⟩
    have hall : ∀ v ∈ [(⟨2, 0, 0, 0, 0, 0, false, [], frV r⟩ : FV)], FR v := fun v hv => by simp at hv; subst hv; exact hfr
    have hfll := layFs_length hall
    refine PO.call (FLay_f w8 rf8 (by simp) (szok_of hall)) fun a h9 ⟨x9, ha⟩ => ?_
    rw [if_pos hall] at ha
    obtain ⟨s1, e1⟩ := a
    obtain ⟨rb, he⟩ := ha
    have he' : e1 = 0 := he
    subst he'
    refine PO.call (FRead_f x9.wf rb (by simp at hfll; omega)) fun a h10 ⟨x10, hq⟩ => ?_
    rw [pRead_lay hall] at hq
    obtain ⟨s2, e2⟩ := a
    obtain ⟨⟨zs', rz⟩, he2⟩ := hq
    have he2' : e2 = 0 := he2
    subst he2'
    have hbare : bareV ⟨2, 0, 0, 0, 0, 0, false, [], frV r⟩ = ⟨2, 0, 0, 0, 0, 0, false, [], frV r⟩ := by simp [bareV]
    have rz' : RdF h10 s2 zs' [⟨2, 0, 0, 0, 0, 0, false, [], frV r⟩] := by rw [← hbare]; exact rz
    have hl2 : s2.len = 1 := RdF.len rz'
    have hzl := rz'.frs.len
    have B10 := Box.kx x10 (Box.kx x9 (Box.kx x8 (Box.kx y7 (Box.kx x5 B4))))
    refine PO.join (fun st => st = ((some ⟨h2.size, 0, some 0⟩, (s2, false)), h10)) ?_ ?_
    · refine .condNE (fun hh => absurd rfl hh) (fun _ => .condNE (fun hh => absurd rfl hh) (fun _ => .retL ?_))
      rw [hl2]; rfl
    rintro _ rfl
    refine PO.condF ?_
    have hsp : ∀ {h' : H}, EX h10 h' → RdR h' (zs'.getD 0 f90).2.2.2.2.2.2.2.2 (frV r) := fun xx => ((rz'.ex xx).frs.get 0 (by simp)).spans
    have hld : ∀ {h' : H} {a b : Addr}, EX h10 h' → s2.base = some b → a = add b ((0 : Int).toNat * 9) → ldL h' (add a 8) = some (zs'.getD 0 f90).2.2.2.2.2.2.2.2 := fun xx hb ha => by
      subst ha
      exact ldL_of (RdF.cell (rz'.ex xx) hb (by rw [hzl]; simp) (i := 8) (by decide) rfl)
    have hspl : (zs'.getD 0 f90).2.2.2.2.2.2.2.2.len = (frV r).length := RdR.len (hsp (EX.refl x10.wf))
    have hfi : ∀ x ∈ frV r, (0 ≤ x.1 ∧ x.1 ≤ x.2 ∧ x.2 < 40) ∧ ∀ k : Int, x.1 ≤ k → k ≤ x.2 → (0 ≤ k ∧ k < 40) ∧ hd.getD k.toNat false = true := by
      intro x hx'
      unfold frV at hx'
      obtain ⟨y, hy, rfl⟩ := List.mem_map.1 hx'
      have hym : y ∈ r := by have := List.mem_of_mem_take hy; simpa using this
      have hl := hlow y hym
      have ht := j.bnd (y.2 - 1) ⟨y, hym, by omega, by omega⟩
      refine ⟨⟨hl.1, ?_, ?_⟩, fun k hk1 hk2 => ?_⟩
      · show y.1 ≤ y.2 - 1; omega
      · show y.2 - 1 < 40; omega
      · have hk1' : y.1 ≤ k := hk1
        have hk2' : k ≤ y.2 - 1 := hk2
        have hm : mem r k := ⟨y, hym, hk1', by omega⟩
        have hbk := j.bnd k hm
        exact ⟨by omega, (j.iff k.toNat (by omega)).1 (by rwa [Int.toNat_of_nonneg (by omega)])⟩
    refine PO.joinD (PO.ixF rz' (by omega) (by simp) fun a b hb ha _ _ => .op (hld (EX.refl x10.wf) hb ha) (PO.mono (answer_l2 (c := h2.size) B10 j.len x10.wf (hsp (EX.refl x10.wf)) hfl hfi) ?_))
    rintro _ ⟨h11, rfl, x11⟩
    show PO _ _
    refine PO.joinD (PO.mono (answer_l4 (Box.kx x11 B10) j.len) ?_)
    rintro _ rfl
    show PO _ _
    have hc := cnt_all hsm.1 j.iff 40 (Nat.le_refl _)
    have hct : cov r ((40 : Nat) : Int) = cntR r := cov_top _ hsm.1 (Int.le_refl _)
    have hbt : beg r ((40 : Nat) : Int) = r.length := beg_top _ hsm.1 (Int.le_refl _)
    rw [hc.1, hc.2, hct, hbt]
    have htl := told_law fun x hx => (hlow x hx).2.1
    have hfl8 : (frV r).length = min 8 r.length := by simp [frV]
    refine .chk' (decide_eq_true htl.1) (.condD (fun c8 => ?_) (fun c8 => .chk' ?_ ?_))
    · refine PO.ixF (rz'.ex x11) (by omega) (by simp) fun a b hb ha _ _ => .op (hld x11 hb ha) (.ret ?_)
      rw [hspl, hfl8]
      show (_ == _) = true
      rw [beq_iff_eq]
      split <;> omega
    · have c8' : ¬ (r.length : Int) > 8 := c8
      rw [beq_iff_eq]; exact htl.2 (by omega)
    · have c8' : ¬ (r.length : Int) > 8 := c8
      refine PO.ixF (rz'.ex x11) (by omega) (by simp) fun a b hb ha _ _ => .op (hld x11 hb ha) (.ret ?_)
      rw [hspl, hfl8]
      show (_ == _) = true
      rw [beq_iff_eq]
      split <;> omega
end Go.Proofs.Ythiccnmplgdheaa.T

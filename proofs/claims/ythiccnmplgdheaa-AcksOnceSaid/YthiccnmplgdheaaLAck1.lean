/- Chapter 7's example and the law AcksOnce over the typed texts. -/
-- SEAT b
import Derived.Test.YthiccnmplgdheaaSAck2
import Derived.Test.YthiccnmplgdheaaLHead1
set_option linter.unusedVariables false
set_option linter.unusedSimpArgs false
set_option maxRecDepth 100000
namespace Go.Proofs.Ythiccnmplgdheaa.T
open Go Go.Abs Go.Proofs
theorem known7_f {h : H} (w : WF h) : PO (law7_known h) (fun (a, h1) => a = true ∧ EX h h1) := by
  unfold law7_known P.law7_known
  refine PO.call (New_f w) fun a h1 ⟨e, S1, x1, z1⟩ => ?_
  subst e
  refine .op (x := true) rfl (.condT (.callE (Newest_f S1) (.condE (fun _ => ?_) (fun hh => absurd rfl hh))))
  refine PO.call (Note_f x1.wf S1 (by simp) (by omega) 3 (by omega) false) fun a h2 ⟨e, u2, S2⟩ => ?_
  have hok : okA [] (-1) 3 := by decide
  rw [if_pos hok, if_pos hok] at S2
  have e' : a = true := by rw [e]; exact decide_eq_true hok
  subst e'
  have hl2 : noteL [] (-1) 3 = [(3, 4)] := by decide
  rw [hl2] at S2
  refine .condT (PO.call (Note_f u2.wf S2 (by simp) (by omega) 3 (by omega) true) fun a h3 ⟨e, u3, S3⟩ => ?_)
  have hno : ¬ okA [(3, 4)] (max (-1) 3) 3 := by decide
  have hl3 : noteL [(3, 4)] (max (-1) 3) 3 = [(3, 4)] := by decide
  rw [if_neg hno, if_neg hno, hl3] at S3
  have e' : a = false := by rw [e]; exact decide_eq_false hno
  subst e'
  have y3 : EX h h3 := u3.ex0 (u2.ex0 x1 (fun A hA e => by omega)) (fun A hA e => by omega)
  refine .condT (.ptr ?_)
  obtain ⟨s3, hs3⟩ := S3
  refine PO.call (Has_f u3.wf hs3 (by simp) 3) fun a h4 ⟨e, x4⟩ => ?_
  have e' : a = true := by rw [e]; decide
  subst e'
  refine .condT (.ptr (.ldB (Box.kx x4 hs3.box) rfl ?_))
  have S4 : Seen h4 h.size [(3, 4)] (false || false) (max (-1) 3) := ⟨s3, hs3.kx x4⟩
  refine .chk' rfl (.callE (Newest_f S4) (.ret ⟨rfl, y3.trans x4⟩))
/-! what a law keeps -/
structure J (l : List Run) (hd : List Bool) (nw : Int) : Prop where
  len : hd.length = 400
  nrm : Nrm (-1) 4611686018427387904 l
  rng : -1 ≤ nw ∧ nw < 400
  iff : ∀ k : Nat, k < 400 → (mem l k ↔ hd.getD k false = true ∧ nw - 64 ≤ k)
  bnd : ∀ n, mem l n → 0 ≤ n ∧ n ≤ nw ∧ nw - 64 ≤ n
  top : 0 ≤ nw → hd.getD nw.toNat false = true
  low : ∀ k : Nat, k < 400 → hd.getD k false = true → (k : Int) ≤ nw
theorem J.small {l : List Run} {hd : List Bool} {nw : Int} (j : J l hd nw) : Nrm (nw - 65) (nw + 1) l ∧ l.length ≤ 66 := by
  have h1 : Nrm (nw - 65) (nw + 1) l := j.nrm.of_mem fun n hn => by have := j.bnd n hn; omega
  refine ⟨h1, ?_⟩
  have := Nrm.length h1 (by omega)
  omega
theorem getD_set (hd : List Bool) (k i : Nat) (h : k < hd.length) : (hd.set k true).getD i false = if i = k then true else hd.getD i false := by
  rw [List.getD_eq_getElem?_getD, List.getElem?_set, List.getD_eq_getElem?_getD]
  by_cases e : k = i
  · rw [if_pos e, if_pos h, if_pos e.symm]; rfl
  · rw [if_neg e, if_neg (fun x => e x.symm)]
theorem J.step {l : List Run} {hd : List Bool} {nw : Int} (j : J l hd nw) {k : Nat} (hk : k < 400) (ok : okA l nw k) : J (noteL l nw k) (hd.set k true) (max nw k) := by
  have hw := j.rng
  have hm : ∀ n : Int, 0 ≤ n → (mem (noteL l nw k) n ↔ (mem l n ∨ n = k) ∧ max nw k - 64 ≤ n) := fun n hn => note_mem j.nrm ok (by omega) hn
  have hnrm := note_nrm j.nrm ok
  have hkl : k < hd.length := by rw [j.len]; exact hk
  refine ⟨by simp [j.len], hnrm, by omega, fun i hi => ?_, fun n hn => ?_, fun h0 => ?_, fun i hi hh => ?_⟩
  · rw [hm i (by omega), j.iff i hi, getD_set hd k i hkl]
    by_cases e : i = k
    · subst e; rw [if_pos rfl]; exact ⟨fun h => ⟨rfl, h.2⟩, fun h => ⟨.inr rfl, h.2⟩⟩
    · rw [if_neg e]
      exact ⟨fun h => ⟨by rcases h.1 with h1 | h1; exact h1.1; exact absurd (by omega) e, h.2⟩, fun h => ⟨.inl ⟨h.1, by omega⟩, h.2⟩⟩
  · have h0 : 0 ≤ n := by
      obtain ⟨r, hr, a, b⟩ := hn
      have := hnrm.low r hr; omega
    have := (hm n h0).1 hn
    rcases this.1 with h1 | h1
    · have := j.bnd n h1; omega
    · omega
  · rw [getD_set hd k _ hkl]
    split
    · rfl
    · rename_i hne
      have : max nw k = nw := by omega
      rw [this] at hne ⊢
      exact j.top (by omega)
  · rw [getD_set hd k i hkl] at hh
    split at hh
    · omega
    · have := j.low i hi hh; omega
theorem map_set_bool (hd : List Bool) (k : Nat) : (hd.map Value.bool).set k (.bool true) = (hd.set k true).map Value.bool := by rw [List.map_set]
theorem map_get_bool {hd : List Bool} {k : Nat} (h : k < hd.length) : (hd.map Value.bool)[k]? = some (.bool (hd.getD k false)) := by
  rw [List.getElem?_map, List.getD_eq_getElem?_getD, List.getElem?_eq_getElem h]; rfl
theorem runs_bool : ∀ {l : List Run} {hd : List Bool} {v : Value}, v ∈ runsV l → v ∈ hd.map Value.bool → False
  | r :: l, hd, v, h1, h2 => by
    simp only [runsV, List.mem_cons] at h1
    rcases h1 with rfl | rfl | h1
    · simp at h2
    · simp at h2
    · exact runs_bool h1 h2
def RdO (h : H) (s : Sl) (bs : List Bool) : Prop := Rd 1 h s (bs.map .bool)
theorem once_l1 {h0 : H} {b c : Nat} (hb : h0.size ≤ b) (hc : h0.size ≤ c) (hne : ¬ b = c) {x0 elicits : Sl} {zs : List Int} {bs : List Bool} (hr : RdI .i64 h0 x0 zs) (hz : zs.length ≤ 2 ^ 47) (he : RdO h0 elicits bs) :
    ∀ (m : Nat) (st : ((Sl × ((Option Addr) × ((Option Addr) × (Int × (Sl × (Int × Int)))))) × H)), (∃ (i : Nat) (nw : Int) (l : List Run) (hd : List Bool) (ow : Bool) (h' : H), st = ((elicits, (some ⟨b, 0, some 0⟩, (some ⟨c, 0, some 0⟩, (nw, (x0, (((x0.len : Nat) : Int), (i : Int))))))), h') ∧ m + i = zs.length ∧ Seen h' b l ow nw ∧ Box h' c (hd.map .bool) ∧ J l hd nw ∧ EX h0 h') →
    PO (loopO law7_AcksOnce_l1 st) (fun r => ∃ (nw : Int) (l : List Run) (hd : List Bool) (ow : Bool) (h' : H), r = Sum.inl ((some ⟨b, 0, some 0⟩, (some ⟨c, 0, some 0⟩, nw)), h') ∧ Seen h' b l ow nw ∧ Box h' c (hd.map .bool) ∧ J l hd nw ∧ EX h0 h') := by
  refine PO.loop _ ?_
  rintro m st ⟨i, nw, l, hd, ow, h1, rfl, hm, S, B, j, hx⟩
  have hlen := hr.len
  unfold law7_AcksOnce_l1 P.law7_AcksOnce_l1
  refine .condD (fun hlt => ?_) (fun hge => .retR ⟨nw, l, hd, ow, h1, rfl, S, B, j, hx⟩)
  have hwi : IntKind.wrap .i64 ((i : Int) + 1) = ((i + 1 : Nat) : Int) := by rw [w64 (by omega) (by omega)]; rfl
  have hw := j.rng
  refine PO.join (fun st => ∃ (nw : Int) (l : List Run) (hd : List Bool) (ow : Bool) (h' : H), st = ((elicits, (some ⟨b, 0, some 0⟩, (some ⟨c, 0, some 0⟩, (nw, (x0, (((x0.len : Nat) : Int), (i : Int))))))), h') ∧ Seen h' b l ow nw ∧ Box h' c (hd.map .bool) ∧ J l hd nw ∧ EX h0 h') ?_ ?_
  · refine .ixI (hr.ex hx) (by omega) (by omega) fun a e1 => .op e1 (.callE (pick_f _ _ (by omega) (by omega) _) ?_)
    have q := emod_b (zs.getD (i : Int).toNat 0) (show (0 : Int) < 400 by omega)
    obtain ⟨k, hk⟩ : ∃ k : Nat, zs.getD (i : Int).toNat 0 % 400 = (k : Int) := ⟨(zs.getD (i : Int).toNat 0 % 400).toNat, by omega⟩
    rw [hk] at q ⊢
    have hk4 : k < 400 := by omega
    have hkl : k < hd.length := by rw [j.len]; exact hk4
    refine PO.join (fun st => ∃ (h2 : H) (ow' : Bool), st = ((elicits, (some ⟨b, 0, some 0⟩, (some ⟨c, 0, some 0⟩, (nw, ((k : Int), (x0, (((x0.len : Nat) : Int), ((i : Int), decide (okA l nw k))))))))), h2) ∧ UP (· = b) h1 h2 ∧ Seen h2 b (noteL l nw k) ow' (if okA l nw k then max nw k else nw)) ?_ ?_
    · refine .condD (fun hel => ?_) (fun hel => PO.call (Note_f hx.wf S (by have := j.small; omega) (by omega) k (by omega) false) fun a h2 ⟨e, u2, S2⟩ => ?_)
      · have hbl : elicits.len = bs.length := by have := Rd.len he; simpa using this.symm
        obtain ⟨a', ha', ie⟩ := ixT_ok (he.ex hx) (i := (i : Int)) (by omega) hel
        have hil : i < bs.length := by have h' : (i : Int) < ((elicits.len : Nat) : Int) := hel; omega
        have lb := (Rd.ld (he.ex hx) a' ha' i _ (map_get_bool hil)).2
        refine .op ie (.op (x := bs.getD i false) (ldB_of (by simpa using lb)) ?_)
        refine PO.call (Note_f hx.wf S (by have := j.small; omega) (by omega) k (by omega) (bs.getD i false)) fun a h2 ⟨e, u2, S2⟩ => ?_
        subst e
        exact .retL ⟨h2, _, rfl, u2, S2⟩
      · subst e
        exact .retL ⟨h2, _, rfl, u2, S2⟩
    · rintro _ ⟨h2, ow', rfl, u2, S2⟩
      have B2 : Box h2 c (hd.map .bool) := Box.ku u2 (fun e => hne e.symm) B
      have x2 : EX h0 h2 := u2.ex0 hx (fun A hA e => by omega)
      have hw64 : IntKind.wrap .i64 (nw - 64) = nw - 64 := w64 (by omega) (by omega)
      have ldk : ∀ {h' : H}, Box h' c (hd.map .bool) → Abs.ldB h' (add ⟨c, 0, some 0⟩ ((k : Int).toNat * 1)) = some (hd.getD k false) := fun Bx => Bx.ldB (by rw [Int.toNat_natCast, Nat.mul_one]; exact map_get_bool hkl)
      refine .condD (fun ok => ?_) (fun nok => ?_)
      · have hnh : hd.getD k false = false := by
          cases hh : hd.getD k false with
          | false => rfl
          | true => exact absurd ((j.iff k hk4).2 ⟨hh, by have := ok.2.2; omega⟩) ok.2.1
        refine PO.join (fun st => st = ((elicits, (some ⟨b, 0, some 0⟩, (some ⟨c, 0, some 0⟩, (nw, ((k : Int), (x0, (((x0.len : Nat) : Int), ((i : Int), false)))))))), h2)) ?_ ?_
        · refine .ptr (PO.ixA (by omega) (by omega) (.op (ldk B2) ?_))
          rw [hnh, hw64]
          refine .condF (.retL ?_)
          rw [decide_eq_false ok.2.2]
        · rintro _ rfl
          refine .condF (.ptr (PO.ixA (by omega) (by omega) (PO.st1 B2 x2.wf (by simp; omega) rfl fun h3 B3 u3 z3 w3 => .retL ?_)))
          rw [Int.toNat_natCast, Nat.mul_one, map_set_bool] at B3
          have em : (if (k : Int) > nw then (k : Int) else nw) = max nw k := by split <;> omega
          rw [em]
          rw [if_pos ok] at S2
          obtain ⟨s2, hs2⟩ := S2
          refine ⟨max nw k, noteL l nw k, hd.set k true, ow', h3, rfl, ⟨s2, ?_⟩, B3, j.step hk4 ok, u3.ex0 x2 (fun A hA e => by omega)⟩
          obtain ⟨s', g1, g2, g3⟩ := hs2.ex
          exact ⟨⟨s', g1, Rd.kbox x2.wf B2 u3 (fun v hv hv2 => runs_bool hv hv2) g2, g3⟩, Box.ku u3 hne hs2.box⟩
      · rw [if_neg nok] at S2
        have hnl : noteL l nw k = l := by unfold noteL; rw [if_neg nok]
        rw [hnl] at S2
        refine PO.join (fun st => st = ((elicits, (some ⟨b, 0, some 0⟩, (some ⟨c, 0, some 0⟩, (nw, (x0, (((x0.len : Nat) : Int), ((i : Int), false))))))), h2)) ?_ ?_
        · refine .ptr (PO.ixA (by omega) (by omega) (.op (ldk B2) (.condN (fun hh => .retL ?_) (fun hh => .retL rfl))))
          rw [hw64]
          have : ¬ (k : Int) ≥ nw - 64 := fun hge => nok ⟨by omega, fun hm => by have := ((j.iff k hk4).1 hm).1; rw [this] at hh; simp at hh, by omega⟩
          rw [decide_eq_false this]
        · rintro _ rfl
          exact .condF (.retL ⟨nw, l, hd, ow', h2, rfl, S2, B2, j, x2⟩)
  · rintro _ ⟨nw', l', hd', ow', h2, rfl, S2, B2, j2, x2⟩
    exact .retL ⟨m - 1, by omega, i + 1, nw', l', hd', ow', h2, by rw [hwi], by omega, S2, B2, j2, x2⟩
theorem once_l3 {h : H} {t c : Nat} {s f : Option Addr} {x1 : Sl} {x2 x3 nw lo hi : Int} {hd : List Bool} (Bt : Box h t [.int .i64 lo, .int .i64 hi]) (Bc : Box h c (hd.map .bool)) (hl : hd.length = 400) (hnw : -1 ≤ nw ∧ nw < 400) (w : WF h)
    (ha : ∀ k : Int, lo ≤ k → k ≤ hi → (0 ≤ k ∧ k < 400) ∧ hd.getD k.toNat false = true ∧ nw - 64 ≤ k) (hlo : 0 ≤ lo ∧ lo ≤ hi ∧ hi < 400) :
    PO (loopO law7_AcksOnce_l3 ((s, (some ⟨c, 0, some 0⟩, (nw, (f, (some ⟨t, 0, some 0⟩, (lo, (x1, (x2, x3)))))))), h)) (fun r => r = Sum.inl ((s, (some ⟨c, 0, some 0⟩, (nw, (f, (x1, (x2, x3)))))), h)) := by
  refine PO.loop (fun m st => ∃ k : Int, st = ((s, (some ⟨c, 0, some 0⟩, (nw, (f, (some ⟨t, 0, some 0⟩, (k, (x1, (x2, x3)))))))), h) ∧ (m : Int) + k = hi + 1 ∧ lo ≤ k) ?_ (hi + 1 - lo).toNat _ ⟨lo, rfl, by omega, Int.le_refl _⟩
  rintro m st ⟨k, rfl, hm, hk⟩
  unfold law7_AcksOnce_l3 P.law7_AcksOnce_l3
  refine .ptr ?_
  refine PO.ixA (by omega) (by omega) (.ldI Bt rfl (.condD (fun c1 => ?_) (fun c1 => .retR rfl)))
  have c1' : k ≤ hi := c1
  obtain ⟨a1, a2, a3⟩ := ha k hk c1'
  refine PO.join (fun st => st = ((s, (some ⟨c, 0, some 0⟩, (nw, (f, (some ⟨t, 0, some 0⟩, (k, (x1, (x2, (x3, false))))))))), h)) ?_ ?_
  · refine .condD (fun (hh : k < 0) => absurd hh (by omega)) (fun _ => .condD (fun (hh : k ≥ 400) => absurd hh (by omega)) (fun _ => .ptr (PO.ixA (by omega) (by omega) ?_)))
    refine .op (x := hd.getD k.toNat false) (Bc.ldB (by rw [Nat.mul_one]; exact map_get_bool (by omega))) ?_
    rw [a2]
    refine PO.condF (.retL ?_)
    rw [w64 (n := nw - 64) (by omega) (by omega), decide_eq_false (by omega)]
  · rintro _ rfl
    refine PO.condF (.retL ⟨m - 1, by omega, k + 1, ?_, by omega, by omega⟩)
    rw [w64 (n := k + 1) (by omega) (by omega)]
theorem once_l2 {h0 : H} {c : Nat} {s f : Option Addr} {x0 : Sl} {q : List Run} {nw : Int} {hd : List Bool} (Bc : Box h0 c (hd.map .bool)) (hl : hd.length = 400) (hnw : -1 ≤ nw ∧ nw < 400) (w : WF h0) (hr : RdR h0 x0 q) (hq : q.length ≤ 1000)
    (ha : ∀ r ∈ q, (0 ≤ r.1 ∧ r.1 ≤ r.2 ∧ r.2 < 400) ∧ ∀ k : Int, r.1 ≤ k → k ≤ r.2 → (0 ≤ k ∧ k < 400) ∧ hd.getD k.toNat false = true ∧ nw - 64 ≤ k) :
    PO (loopO law7_AcksOnce_l2 ((s, (some ⟨c, 0, some 0⟩, (nw, (f, (x0, (((x0.len : Nat) : Int), 0)))))), h0)) (fun r => ∃ h', r = Sum.inl ((s, (nw, f)), h') ∧ EX h0 h') := by
  refine PO.loop (fun m st => ∃ (i : Nat) (h' : H), st = ((s, (some ⟨c, 0, some 0⟩, (nw, (f, (x0, (((x0.len : Nat) : Int), (i : Int))))))), h') ∧ m + i = q.length ∧ EX h0 h') ?_ q.length _ ⟨0, h0, rfl, rfl, EX.refl w⟩
  rintro m st ⟨i, h1, rfl, hm, hx⟩
  have hlen := RdR.len hr
  unfold law7_AcksOnce_l2 P.law7_AcksOnce_l2
  refine .condD (fun hlt => ?_) (fun hge => .retR ⟨h1, rfl, hx⟩)
  refine PO.join (fun st => ∃ h' : H, st = ((s, (some ⟨c, 0, some 0⟩, (nw, (f, (x0, (((x0.len : Nat) : Int), (i : Int))))))), h') ∧ EX h0 h') ?_ ?_
  · refine .ixR (hr.ex hx) (by omega) (by omega) fun a _ _ _ e1 _ _ => .op e1 ?_
    have hqm : q.getD i (0, 0) ∈ q := by rw [List.getD_eq_getElem?_getD, List.getElem?_eq_getElem (by omega)]; exact List.getElem_mem _
    simp only [Int.toNat_natCast]
    obtain ⟨b1, b2⟩ := ha _ hqm
    generalize q.getD i (0, 0) = r at *
    refine PO.newB hx.wf fun h2 x2 B2 z2 w2 => PO.stZ B2 w2 rfl rfl fun h3 B3 u3 z3 w3 => ?_
    have B3' : Box h3 h1.size [.int .i64 r.1, .int .i64 r.2] := B3
    have y3 : EX h1 h3 := u3.ex0 x2 (fun A hA e => by omega)
    refine PO.ixA (by omega) (by omega) (.ldI B3' rfl (PO.mono (once_l3 B3' (Box.kx y3 (Box.kx hx Bc)) hl hnw w3 b2 b1) ?_))
    rintro _ rfl
    exact ⟨h3, rfl, hx.trans y3⟩
  · rintro _ ⟨h', rfl, x'⟩
    refine .retL ⟨m - 1, by omega, i + 1, h', ?_, by omega, x'⟩
    rw [w64 (by omega) (by omega)]; rfl
/-! an Ack's frame is right -/
theorem nrm_pair : ∀ {l : List Run} {lo e : Int}, Nrm lo e l → l.Pairwise (fun a b => a.2 < b.1)
  | [], _, _, _ => List.Pairwise.nil
  | r :: l, lo, e, ⟨h1, h2, h3, h4⟩ => List.Pairwise.cons (fun q hq => by have := h4.low q hq; omega) (nrm_pair h4)
theorem rsp_of : ∀ (q : List Run) (p : Option Int), q.Pairwise (fun a b => b.2 < a.1) → (∀ r ∈ q, 0 ≤ r.1 ∧ r.1 < r.2 ∧ r.2 ≤ 4611686018427387904) → (∀ u, p = some u → ∀ r ∈ q, r.2 < u) → RSp p (q.map decR)
  | [], _, _, _, _ => trivial
  | r :: q, p, hp, hb, hu => by
    have h1 := hb r (List.mem_cons_self ..)
    have hp' := List.pairwise_cons.1 hp
    refine ⟨⟨⟨h1.1, ?_⟩, ?_, ?_⟩, ?_, fun u e => ?_, rsp_of q _ hp'.2 (fun x hx => hb x (List.mem_cons_of_mem _ hx)) fun u e x hx => ?_⟩
    · show r.1 ≤ _; omega
    · show 0 ≤ r.2 - 1; omega
    · show r.2 - 1 ≤ _; omega
    · show r.1 ≤ r.2 - 1; omega
    · have := hu u e r (List.mem_cons_self ..)
      show 2 ≤ u - (r.2 - 1); omega
    · cases e; exact hp'.1 x hx
theorem ack_right {l : List Run} (hn : Nrm (-1) 4611686018427387904 l) (h0 : l ≠ []) : FR ⟨2, 0, 0, 0, 0, 0, false, [], frV l⟩ := by
  have o0 : okN 0 := ⟨by omega, by omega⟩
  refine ⟨⟨⟨show (1 : Int) ≤ 2 by omega, show (2 : Int) ≤ 12 by omega⟩, ⟨rfl, rfl, rfl, rfl, rfl, rfl, rfl, rfl⟩, ⟨o0, o0, o0, o0⟩, Nat.zero_le _⟩, ?_⟩
  show RSs (frV l)
  have hl : 0 < l.length := List.length_pos_iff.2 h0
  refine ⟨?_, by simp [frV]; omega, by simp [frV]; omega⟩
  unfold frV
  refine rsp_of _ _ ?_ ?_ (fun u e => by cases e)
  · exact ((List.pairwise_reverse.2 (nrm_pair hn))).sublist (List.take_sublist ..)
  · intro r hr
    have hm : r ∈ l := by have := List.mem_of_mem_take hr; simpa using this
    have := hn.low r hm; omega
theorem fr_top {l : List Run} {nw : Int} {hd : List Bool} (j : J l hd nw) (h0 : l ≠ []) : ∃ q, frV l = q ∧ 0 < q.length ∧ (q.getD 0 (0, 0)).2 = nw ∧ 0 ≤ nw := by
  have hr : l.reverse ≠ [] := by simpa using h0
  obtain ⟨r, q, hq⟩ := List.exists_cons_of_ne_nil hr
  have hm : r ∈ l := by have : r ∈ l.reverse := by rw [hq]; exact List.mem_cons_self ..
                        simpa using this
  have hlow := j.nrm.low r hm
  have h1 := j.bnd (r.2 - 1) ⟨r, hm, by omega, by omega⟩
  have hw := j.rng
  have htop : mem l nw := by
    have := (j.iff nw.toNat (by omega)).2 ⟨j.top (by omega), by omega⟩
    rwa [Int.toNat_of_nonneg (by omega)] at this
  obtain ⟨x, hx, a, b⟩ := htop
  have hp := List.pairwise_reverse.2 (nrm_pair j.nrm)
  rw [hq] at hp
  have hp' := List.pairwise_cons.1 hp
  have hxr : x ∈ r :: q := by rw [← hq]; simpa using hx
  have hle : x.2 ≤ r.2 := by
    rcases List.mem_cons.1 hxr with rfl | hx2
    · exact Int.le_refl _
    · have := hp'.1 x hx2; omega
  refine ⟨frV l, rfl, ?_, ?_, by omega⟩
  · unfold frV; rw [hq]; simp
  · unfold frV; rw [hq]
    show r.2 - 1 = nw
    omega
theorem repl_getD (n k : Nat) : (List.replicate n false).getD k false = false := by
  rw [List.getD_eq_getElem?_getD]
  cases h : (List.replicate n false)[k]? with
  | none => rfl
  | some v => exact List.eq_of_mem_replicate (List.mem_of_getElem? h)
theorem AcksOnce (l elicits : Sl) (h : H) (w : WF h) (zs : List Int) (hr : RdI .i64 h l zs) (hz : zs.length * 8 ≤ 140737488351232) (hzr : ∀ n ∈ zs, -9223372036854775808 ≤ n ∧ n ≤ 9223372036854775807) (bs : List Bool) (he : RdO h elicits bs) (hb : bs.length ≤ maxLen) :
    ∃ h', law7_AcksOnce l elicits h = some (true, h') := by
  refine PO.law ?_
  unfold law7_AcksOnce P.law7_AcksOnce
  refine PO.call (New_f w) fun a h1 ⟨e, S1, x1, z1⟩ => ?_
  subst e
  refine PO.join (fun st => ∃ h2, st = ((l, (elicits, (some ⟨h.size, 0, some 0⟩, false))), h2) ∧ EX h1 h2) ?_ ?_
  · refine PO.call (known7_f x1.wf) fun a h2 ⟨e, x2⟩ => ?_
    subst e
    exact PO.condF (.op (x := false) rfl (.retL ⟨h2, rfl, x2⟩))
  rintro _ ⟨h2, rfl, x2⟩
  refine PO.condF (PO.newB (l := (List.replicate 400 false).map Value.bool) x2.wf fun h3 x3 B3 z3 w3 => ?_)
  have S3 := (S1.kx x2).kx x3
  have y3 : EX h h3 := (x1.trans x2).trans x3
  have hs2 := x2.size
  have j0 : J [] (List.replicate 400 false) (-1) := ⟨by simp, trivial, by omega, fun k hk => by rw [repl_getD]; simp [mem], fun n hn => by simp [mem] at hn, fun hh => by omega, fun k hk hh => by rw [repl_getD] at hh; simp at hh⟩
  refine PO.joinD (PO.mono (once_l1 (h0 := h) (b := h.size) (c := h2.size) (Nat.le_refl _) (by omega) (by omega) hr (by omega) he zs.length _ ⟨0, -1, [], _, false, h3, by rw [hr.len]; rfl, rfl, S3, B3, j0, y3⟩) ?_)
  rintro _ ⟨nw, r, hd, ow, h4, rfl, S4, B4, j, y4⟩
  show PO _ _
  have hw := j.rng
  have hsm := j.small
  have hlow : ∀ x ∈ r, 0 ≤ x.1 ∧ x.1 < x.2 ∧ x.2 ≤ 4611686018427387904 := fun x hx => by have := j.nrm.low x hx; omega
  refine PO.call (Frame_f y4.wf S4 (by omega) hlow) fun a h5 ⟨x5, ea, fr⟩ => ?_
  obtain ⟨f9, ok⟩ := a
  have ea' : ok = decide (r ≠ []) := ea
  subst ea'
  refine PO.newB x5.wf fun h6 x6 B6 z6 w6 => PO.stZ B6 w6 rfl rfl fun h7 B7 u7 z7 w7 => ?_
  have B7' : Box h7 h5.size (f9L f9) := B7
  have y7 : EX h5 h7 := u7.ex0 x6 (fun A hA e => by omega)
  by_cases h0 : r = []
  · rw [if_pos h0] at fr
    have hn1 : nw = -1 := by
      by_cases hh : 0 ≤ nw
      · have := (j.iff nw.toNat (by omega)).2 ⟨j.top hh, by omega⟩
        rw [h0] at this; simp [mem] at this
      · omega
    have hd0 : decide (r ≠ []) = false := decide_eq_false (fun hh => hh h0)
    rw [hd0]
    refine PO.condT (PO.join (fun st => st.1 = true) (.condE (fun _ => .ldL B7' rfl (.retL ?_)) (fun hh => absurd hn1 hh)) ?_)
    · have hl0 := RdR.len fr.spans
      show (_ == _) = true
      have hl0' : f9.2.2.2.2.2.2.2.2.len = 0 := hl0
      rw [hl0']; rfl
    · rintro ⟨a, h8⟩ e
      exact .ret e
  · rw [if_neg h0] at fr
    have hd0 : decide (r ≠ []) = true := decide_eq_true h0
    rw [hd0]
    have fr7 := fr.ex y7
    have hfl : (frV r).length ≤ 8 := by simp [frV]; omega
    refine PO.condF (PO.joinD (.ldL B7' rfl (PO.mono (once_l2 (c := h2.size) (Box.kx y7 (Box.kx x5 B4)) j.len hw w7 fr7.spans (by show (frV r).length ≤ 1000; omega) ?_) ?_)))
    · intro x hx
      have hx' : x ∈ frV r := hx
      unfold frV at hx'
      obtain ⟨y, hy, rfl⟩ := List.mem_map.1 hx'
      have hym : y ∈ r := by have := List.mem_of_mem_take hy; simpa using this
      have hl := hlow y hym
      have ht := j.bnd (y.2 - 1) ⟨y, hym, by omega, by omega⟩
      refine ⟨⟨hl.1, ?_, ?_⟩, fun k hk1 hk2 => ?_⟩
      · show y.1 ≤ y.2 - 1; omega
      · show y.2 - 1 < 400; omega
      · have hk1' : y.1 ≤ k := hk1
        have hk2' : k ≤ y.2 - 1 := hk2
        have hm : mem r k := ⟨y, hym, hk1', by omega⟩
        have hbk := j.bnd k hm
        have := (j.iff k.toNat (by omega)).1 (by rwa [Int.toNat_of_nonneg (by omega)])
        exact ⟨by omega, this.1, by omega⟩
    · rintro _ ⟨h8, rfl, x8⟩
      show PO _ _
      have B8 := Box.kx x8 B7'
      have fr8 := fr7.ex x8
      refine .ptr (PO.ldF B8 (PO.call (FRight_f x8.wf fr8 (by simp) (by show (frV r).length ≤ _; omega)) fun a h9 ⟨ea, x9⟩ => ?_))
      have ea' : a = true := by rw [ea]; exact decide_eq_true (ack_right j.nrm h0)
      subst ea'
      have B9 := Box.kx x9 B8
      obtain ⟨q, hq, hq0, hqt, hnn⟩ := fr_top j h0
      have hsp : RdR h9 f9.2.2.2.2.2.2.2.2 q := by rw [← hq]; exact (fr8.ex x9).spans
      refine PO.condT (.ptr (.ldL B9 rfl (.ixR hsp (by omega) (by omega) fun a _ _ _ _ _ e2 => PO.ixA (by omega) (by omega) (.op e2 (.condE (fun _ => .ptr ?_) (fun hh => absurd hqt hh))))))
      obtain ⟨s9, hs9⟩ := (((S4.kx x5).kx y7).kx x8).kx x9
      refine PO.call (Count_f x9.wf hs9 (by omega) j.nrm (by omega)) fun a h10 ⟨ea, x10⟩ => .ret ?_
      have ea' : a = cntR r := ea
      have := cntR_le hsm.1 (by omega)
      show decide _ = true
      rw [ea']
      exact decide_eq_true (by omega)
end Go.Proofs.Ythiccnmplgdheaa.T

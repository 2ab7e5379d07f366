/- Lemmas about the typed texts (joined: LSendS). -/
import Derived.Test.YtaebjajbogedkaaG20
-- SEAT c
/- The law SendSure over the typed texts. -/
set_option linter.unusedVariables false
set_option linter.unusedSimpArgs false
namespace Go.Proofs.Ytaebjajbogedkaa.T
open Go Go.Abs Go.Proofs
def rbS (x : SS) : Nat := (x.lost.filter fun r => decide (r.1 < x.sure)).length
def flS (x : SS) : Nat := if x.used < x.sure ∧ 0 < leftV x then 1 else 0
def tnS (x : SS) : Nat := if x.tc then 0 else 1
def unS (x : SS) : Nat := cntP (fun n => !memB x.came n) x.sure.toNat
def muS (x : SS) : Nat := 120 * (rbS x + flS x + tnS x) + unS x
structure SJ (x : SS) (sv top : Int) (told : Bool) (i : Nat) : Prop where
  inv : GInv x
  id : x.id = 2
  fin : x.finished = false
  rst : x.reset = true
  svE : x.sure = sv
  code : x.code = 5
  tdc : x.td = !x.tc
  tcT : x.tc = true → told = true
  tu : told = true → sv ≤ x.used
  used : x.used = top ∨ (top ≤ x.used ∧ x.used ≤ sv)
  s5 : sv ≤ 500
  bl : x.b.length ≤ 500
  ln : i ≤ 60 → x.lost.length ≤ i + 1
  mu : 60 ≤ i → muS x + 120 * (i - 60) ≤ 8200
/-- a step that only takes something away -/
theorem SJ.step {x y : SS} {sv top : Int} {told told' : Bool} {i : Nat} (J : SJ x sv top told i) (I : GInv y) (e1 : y.id = x.id) (e2 : y.finished = x.finished) (e3 : y.reset = x.reset) (e4 : y.sure = x.sure) (e5 : y.code = x.code) (e6 : y.td = !y.tc) (e7 : y.tc = true → told' = true) (e8 : told' = true → sv ≤ y.used) (e9 : y.used = x.used ∨ (x.used ≤ y.used ∧ y.used ≤ sv)) (e10 : y.b = x.b)
    (e11 : i < 60 → y.lost.length ≤ x.lost.length + 1) (e12 : 60 ≤ i → muS y + 120 ≤ muS x) : SJ y sv top told' (i + 1) := by
  refine ⟨I, e1.trans J.id, e2.trans J.fin, e3.trans J.rst, e4.trans J.svE, e5.trans J.code, e6, e7, e8, ?_, J.s5, by rw [e10]; exact J.bl, fun h => ?_, fun h => ?_⟩
  · rcases J.used with h | h <;> rcases e9 with g | g <;> omega
  · have := e11 (by omega); have := J.ln (by omega); omega
  · by_cases h6 : 60 ≤ i
    · have := J.mu h6; have := e12 h6; omega
    · have hi : i = 59 := by omega
      have := e11 (by omega); have := J.ln (by omega)
      have h1 : rbS y ≤ y.lost.length := List.length_filter_le _ _
      have h2 : flS y ≤ 1 := by unfold flS; split <;> omega
      have h3 : tnS y ≤ 1 := by unfold tnS; split <;> omega
      have h4 : unS y ≤ 500 := by
        have := cntP_le (fun n => !memB y.came n) y.sure.toNat
        have := J.s5; have := J.svE
        unfold unS; omega
      unfold muS
      omega
theorem frame_fits {x : SS} (I : GInv x) (hid : x.id = 2) (hbl : x.b.length ≤ 500) {f v : Int} (h0 : 0 ≤ f) (h1 : f < v) (h2 : v ≤ x.b.length) (h3 : v ≤ f + 120) : fszV (sfr x f v) ≤ 150 := by
  rw [sfr_size I.id (by omega) h0 (by omega) h2 h3]
  have e1 : sz x.id = 1 := by rw [hid]; rfl
  have e2 : sz f ≤ 2 := by unfold sz; (repeat' split) <;> omega
  have e3 : sz (v - f) ≤ 2 := by unfold sz; (repeat' split) <;> omega
  omega
theorem pick150 {x : SS} (I : GInv x) (hid : x.id = 2) (hbl : x.b.length ≤ 500) (hfin : x.finished = false) {f u : Int} (h : PickV x 150 500 f u) :
    (∃ r l, x.lost = r :: l ∧ r.1 < mayS x ∧ f = r.1 ∧ u = min (min r.2 (mayS x)) (f + 120) ∧ f < u) ∨ (firstR (mayS x) x.lost = none ∧ f = x.used ∧ x.used < topV x 500 ∧ u = min (topV x 500) (f + 120)) := by
  have hm := I.ok.may
  have hu0 := I.ok.rng.u0
  have hub := I.ok.ub
  unfold PickV at h
  split at h
  · rename_i r hr
    obtain ⟨rfl, g1, g2, g3, g4, g5⟩ := h
    obtain ⟨l, e, hlt⟩ := first_cons I.ok.nrl hr
    have hr0 := I.ok.nrl.low r (by rw [e]; exact List.mem_cons_self)
    refine .inl ⟨r, l, e, hlt, rfl, ?_, g1⟩
    rcases Int.lt_or_le u (min (min r.2 (mayS x)) (r.1 + 120)) with hlt' | hge
    · have := g5 (u + 1) (by omega) (by omega) (by omega)
      have := frame_fits I hid hbl (f := r.1) (v := u + 1) (by omega) (by omega) (by omega) (by omega)
      omega
    · omega
  · rename_i hn
    split at h
    · rename_i hlt
      obtain ⟨rfl, g1, g2, g3, g4, g5⟩ := h
      refine .inr ⟨hn, rfl, hlt, ?_⟩
      rcases Int.lt_or_le u (min (topV x 500) (x.used + 120)) with hlt' | hge
      · have ht : topV x 500 ≤ mayS x := by unfold topV; omega
        have := g5 (u + 1) (by omega) (by omega) (by omega)
        have := frame_fits I hid hbl (f := x.used) (v := u + 1) (by omega) (by omega) (by omega) (by omega)
        omega
      · omega
    · obtain ⟨⟨g, _⟩, _⟩ := h
      unfold endsV at g; rw [hfin] at g; cases g
theorem nopick150 {x : SS} (I : GInv x) (hid : x.id = 2) (hbl : x.b.length ≤ 500) (h : NoPick x 150 500) : firstR (mayS x) x.lost = none ∧ ¬ x.used < topV x 500 := by
  have hm := I.ok.may
  have hu0 := I.ok.rng.u0
  unfold NoPick at h
  split at h
  · rename_i r hr
    obtain ⟨l, e, hlt⟩ := first_cons I.ok.nrl hr
    have hr0 := I.ok.nrl.low r (by rw [e]; exact List.mem_cons_self)
    have := h (r.1 + 1) (by omega) (by omega) (by omega)
    have := frame_fits I hid hbl (f := r.1) (v := r.1 + 1) (by omega) (by omega) (by omega) (by omega)
    omega
  · rename_i hn
    refine ⟨hn, fun hlt => ?_⟩
    rw [if_pos hlt] at h
    have ht : topV x 500 ≤ mayS x := by unfold topV; omega
    have := h (x.used + 1) (by omega) (by omega) (by omega)
    have := frame_fits I hid hbl (f := x.used) (v := x.used + 1) (by omega) (by omega) (by omega) (by omega)
    omega
theorem memB_false {l : List Run} {n : Int} : memB l n = false ↔ ¬ mem l n := by rw [← memB_iff]; simp
/-- how the measure falls where a frame comes -/
theorem mu_ack {x y : SS} (I : GInv x) (hrst : x.reset = true) (hid : x.id = 2) (hbl : x.b.length ≤ 500) (hfin : x.finished = false) {f u : Int} (h : PickV x 150 500 f u) (e1 : y.lost = dropS f u x.lost) (e2 : ∀ n, mem y.came n ↔ mem x.came n ∨ (f ≤ n ∧ n < u)) (e3 : y.used = max x.used u) (e4 : y.limit = x.limit) (e5 : y.sure = x.sure) (e6 : y.tc = x.tc) :
    muS y + 120 ≤ muS x ∧ y.lost.length ≤ x.lost.length + 1 ∧ (y.used = x.used ∨ (x.used ≤ y.used ∧ y.used ≤ x.sure)) := by
  have P := h.picked I.ok
  have hpd := I.pickDis h
  have hmay : mayS x = x.sure := by unfold mayS; rw [hrst]; rfl
  have hs := I.ok.sure
  have hu0 := I.ok.rng.u0; have hl0 := I.ok.rng.l0; have hub := I.ok.ub; have hul := I.ul
  have hun : (unS y : Int) + (min u x.sure.toNat - min f x.sure.toNat) = unS x := by
    unfold unS
    rw [e5]
    refine cntP_drop P.f0 P.fu (fun n h1 h2 => ⟨?_, ?_⟩) (fun n hn => ?_) _
    · rw [memB_false.2 (hpd n h1 h2)]; rfl
    · rw [(memB_iff y.came n).2 ((e2 n).2 (.inr ⟨h1, h2⟩))]; rfl
    · have : memB y.came n = memB x.came n := by
        rw [Bool.eq_iff_iff, memB_iff, memB_iff, e2]
        exact ⟨fun g => g.resolve_right hn, .inl⟩
      rw [this]
  have htn : tnS y = tnS x := by unfold tnS; rw [e6]
  have hlv : leftV x = x.limit - x.used := by unfold leftV; omega
  rcases pick150 I hid hbl hfin h with ⟨r, l, el, hr1, rfl, hu, hfu⟩ | ⟨hn, rfl, hlt, hu⟩
  · have hr0 := I.ok.nrl.low r (by rw [el]; exact List.mem_cons_self)
    have hnr := I.ok.nrl
    rw [el] at hnr
    have ed : dropS r.1 u x.lost = (if u < r.2 then [(u, r.2)] else []) ++ l := by
      rw [el]; exact drop_head hnr (by omega) hfu (by omega) (by omega)
    have hyu : y.used = x.used := by rw [e3]; omega
    have hfl : flS y = flS x := by unfold flS leftV; rw [hyu, e4, e5]
    have hrx : rbS x = 1 + (l.filter fun r => decide (r.1 < x.sure)).length := by
      unfold rbS
      rw [el, List.filter_cons_of_pos (by rw [← hmay]; simpa using hr1)]; simp; omega
    have hry : rbS y = (if u < r.2 ∧ u < x.sure then 1 else 0) + (l.filter fun r => decide (r.1 < x.sure)).length := by
      unfold rbS
      rw [e1, ed, e5, List.filter_append, List.length_append]
      congr 1
      by_cases hu2 : u < r.2
      · rw [if_pos hu2]
        by_cases hu3 : u < x.sure
        · rw [if_pos ⟨hu2, hu3⟩, List.filter_cons_of_pos (by simpa using hu3)]; rfl
        · rw [if_neg (by omega), List.filter_cons_of_neg (by simpa using hu3)]; rfl
      · rw [if_neg hu2, if_neg (by omega)]; rfl
    refine ⟨?_, ?_, .inl hyu⟩
    · unfold muS
      rw [hfl, htn, hrx, hry]
      rw [hmay] at hu
      split
      · have : u = r.1 + 120 := by omega
        omega
      · omega
    · rw [e1, ed, el]
      split
      · simp
      · simp only [List.nil_append, List.length_cons]; omega
  · have hnl : ∀ n, mem x.lost n → n < x.used := fun n hn => (I.ok.nrl.bnd hn).2
    have htv : topV x 500 ≤ x.sure ∧ topV x 500 ≤ x.used + max 0 (min 500 (leftV x)) := by unfold topV; rw [hmay]; omega
    have ht2 : topV x 500 = x.sure ∨ topV x 500 = x.used + max 0 (min 500 (leftV x)) := by unfold topV; rw [hmay]; omega
    have ed : dropS x.used u x.lost = x.lost := by
      refine nrm_ext _ _ _ _ _ _ (dropS_nrm I.ok.nrl) I.ok.nrl fun n => ?_
      rw [dropS_mem I.ok.nrl (by omega) (by omega) (by omega)]
      exact ⟨fun g => g.1, fun g => ⟨g, by have := hnl n g; omega⟩⟩
    have hyu : y.used = u := by rw [e3]; omega
    have hrb : rbS y = rbS x := by unfold rbS; rw [e1, ed, e5]
    have hfx : flS x = 1 := by unfold flS; rw [if_pos ⟨by omega, by omega⟩]
    refine ⟨?_, by rw [e1, ed]; omega, .inr ⟨by omega, by omega⟩⟩
    unfold muS
    rw [hrb, htn, hfx]
    by_cases h120 : u = x.used + 120
    · have : flS y ≤ 1 := by unfold flS; split <;> omega
      omega
    · have hf0 : flS y = 0 := by
        unfold flS leftV
        rw [hyu, e4, e5, if_neg]
        omega
      omega
theorem lose_len {x y : SS} (I : GInv x) (hrst : x.reset = true) (hid : x.id = 2) (hbl : x.b.length ≤ 500) (hfin : x.finished = false) {f u : Int} (h : PickV x 150 500 f u) (e1 : y.lost = addS f u (dropS f u x.lost)) (e3 : y.used = max x.used u) :
    y.lost.length ≤ x.lost.length + 1 ∧ (y.used = x.used ∨ (x.used ≤ y.used ∧ y.used ≤ x.sure)) := by
  have P := h.picked I.ok
  have hmay : mayS x = x.sure := by unfold mayS; rw [hrst]; rfl
  have hu0 := I.ok.rng.u0; have hub := I.ok.ub; have hs := I.ok.sure; have hbl4 := I.ok.rng.bl
  have hlen := addS_len f u (dropS f u x.lost)
  rw [← e1] at hlen
  rcases pick150 I hid hbl hfin h with ⟨r, l, el, hr1, rfl, hu, hfu⟩ | ⟨hn, rfl, hlt, hu⟩
  · have hr0 := I.ok.nrl.low r (by rw [el]; exact List.mem_cons_self)
    have hnr := I.ok.nrl
    rw [el] at hnr
    have ed : dropS r.1 u x.lost = (if u < r.2 then [(u, r.2)] else []) ++ l := by
      rw [el]; exact drop_head hnr (by omega) hfu (by omega) (by omega)
    refine ⟨?_, .inl (by rw [e3]; omega)⟩
    rw [ed] at hlen
    rw [el]
    split at hlen
    · simp at hlen ⊢; omega
    · simp only [List.nil_append] at hlen; simp only [List.length_cons]; omega
  · have htv : topV x 500 ≤ x.sure := by unfold topV; rw [hmay]; omega
    have ed : dropS x.used u x.lost = x.lost := by
      refine nrm_ext _ _ _ _ _ _ (dropS_nrm I.ok.nrl) I.ok.nrl fun n => ?_
      rw [dropS_mem I.ok.nrl (by omega) (by omega) (by omega)]
      exact ⟨fun g => g.1, fun g => ⟨g, by have := (I.ok.nrl.bnd g).2; omega⟩⟩
    rw [ed] at hlen
    exact ⟨hlen, .inr ⟨by omega, by omega⟩⟩
theorem came_len {x : SS} (I : GInv x) : x.came.length ≤ 5000 := by
  have h1 := Nrm.length I.nc (by have := I.ok.rng.u0; omega)
  have h2 := I.ok.ub; have h3 := I.ok.rng.bl
  omega
theorem pick_sm {x : SS} (I : GInv x) {room most f u : Int} (h : PickV x room most f u) : FSm (sfr x f u) := by
  have P := h.picked I.ok
  have := P.f0; have := P.fu; have := P.ub; have := I.ok.rng.bl
  have hl := sfr_sz x f u
  exact ⟨by show 0 ≤ f ∧ f ≤ _; omega, by omega⟩

structure SI (h0 hh : H) (p : Nat) (x : SS) : Prop where
  ex : EX h0 hh
  str : ∃ sb sl sc, StrA h0.size hh p x sb sl sc
theorem SI.kx {h0 hh h1 : H} {p : Nat} {x : SS} (T : SI h0 hh p x) (y : EX hh h1) : SI h0 h1 p x := ⟨T.ex.trans y, let ⟨sb, sl, sc, S⟩ := T.str; ⟨sb, sl, sc, S.kx T.ex.wf y⟩⟩
theorem SI.upd {h0 hh h1 : H} {p : Nat} {x y : SS} (T : SI h0 hh p x) (u : UP (· = p) hh h1) (S : ∃ sb sl sc, StrA h0.size h1 p y sb sl sc) : SI h0 h1 p y := by
  obtain ⟨_, _, _, A⟩ := T.str
  exact ⟨u.ex0 T.ex fun B hB e => by have := A.p0; omega, S⟩
theorem PO.callE' {α β : Type} {Q : α → Prop} {m : Option (β × H)} {f : β → H → Option α} {P : β × H → Prop} (p : PO m P) (k : ∀ a h1, P (a, h1) → PO (f a h1) Q) : PO (bind2 m f) Q := PO.call p k
theorem rfr_sm {x : SS} (I : GInv x) : FSm (rfr x) := ⟨by have := I.ok.rng.u0; show 0 ≤ x.used ∧ x.used ≤ _; omega, by simp [rfr]⟩
theorem lose_turn {x : SS} (hr : x.reset = true) (ht : x.tc = false) : lostS { x with tt := true, td := false } (rfr x) = { x with tt := true, td := true } := by
  unfold lostS
  rw [if_neg (by intro g; exact g rfl), if_neg (by show ¬ (4 : Int) = 3; omega), if_pos ⟨rfl, hr, rfl, rfl, ht⟩]
theorem ack_turn {x : SS} (hr : x.reset = true) : ackS { x with tt := true, td := false } (rfr x) = { x with tt := true, tc := true, td := false } := by
  unfold ackS
  rw [if_neg (by intro g; exact g rfl), if_neg (by show ¬ (4 : Int) = 3; omega), if_pos ⟨rfl, hr, rfl, rfl⟩]
theorem GInv.turn {x : SS} (I : GInv x) (a b c : Bool) : GInv { x with tt := a, td := b, tc := c } := ⟨⟨⟨I.ok.rng.l0, I.ok.rng.u0, I.ok.rng.bl⟩, I.ok.nrl, I.ok.sure, I.ok.ub⟩, I.id, I.nc, I.cov, I.dis, I.ul⟩
theorem done_tc {x : SS} (hf : x.finished = false) (hd : doneV x = true) : x.tc = true := by
  unfold doneV at hd
  rw [hf] at hd
  simp at hd
  exact hd.1.2
theorem ld9 {h : H} {b : Nat} {x : F9} {α : Type} {Q : α → Prop} {f : F9 → Option α} (B : Box h b (f9L x)) (p : PO (f x) Q) : PO (ptrK (some ⟨b, 0, some 0⟩) fun (a : Addr) => bindO (Abs.ldZ [.int .i64, .int .i64, .int .i64, .int .i64, .int .i64, .int .i64, .bool, .sl, .sl] h a) f) Q := PO.ptr (PO.ldF B p)
set_option maxHeartbeats 2000000 in
theorem sure_l1 {h0 : H} (w0 : WF h0) {fates : Sl} {zs : List Int} (r : RdI .i64 h0 fates zs) (hz : zs.length ≤ 2 ^ 47) {p : Nat} {sv top : Int} :
    ∀ n s, (∃ (i : Nat) (hh : H) (x : SS) (told : Bool), s = ((sv, (fates, (some ⟨p, 0, some 0⟩, (top, (told, (i : Int)))))), hh) ∧ n = 200 - i ∧ i ≤ 200 ∧ SI h0 hh p x ∧ SJ x sv top told i) →
    PO (loopO law13_SendSure_l1 s) (Sum.elim (fun q => ∃ (hh : H) (x : SS), q = ((sv, (some ⟨p, 0, some 0⟩, (top, true))), hh) ∧ SI h0 hh p x ∧ GInv x ∧ doneV x = true ∧ x.used = max top sv) (fun q => q.1 = true)) := by
  refine PO.loop _ ?_
  rintro n _ ⟨i, hh, x, told, rfl, rfl, hi, T, J⟩
  unfold law13_SendSure_l1 P.law13_SendSure_l1
  dsimp only
  have I := J.inv
  have w := T.ex.wf
  have hcl := came_len I
  have hll := I.ok.lostLen
  obtain ⟨sb, sl, sc, S⟩ := T.str
  -- is it done?
  refine PO.join (fun q => ∃ h1, q = ((sv, (fates, (some ⟨p, 0, some 0⟩, (top, (told, ((i : Int), !doneV x)))))), h1) ∧ EX hh h1 ∧ (doneV x = false → i < 200)) ?_ ?_
  · refine PO.condD (fun hc => ?_) (fun hc => ?_)
    · refine PO.call (Done_f w S (by omega)) ?_
      rintro q h1 ⟨e, x1⟩
      have e : q = _ := e
      subst e
      exact .retL ⟨h1, rfl, x1, fun _ => by omega⟩
    · have := J.mu (by omega)
      exfalso
      omega
  rintro _ ⟨h1, rfl, x1, hi2⟩
  dsimp only
  have T1 := T.kx x1
  have S1 := S.kx w x1
  refine PO.condN (fun hd => ?_) (fun hd => ?_)
  · -- one step
    have hi2 := hi2 hd
    refine PO.join (fun q => ∃ (h2 : H) (y : SS) (told' : Bool), q = ((sv, (fates, (some ⟨p, 0, some 0⟩, (top, (told', (i : Int)))))), h2) ∧ SI h0 h2 p y ∧ SJ y sv top told' (i + 1)) ?_ ?_
    · -- the fate
      refine PO.join (fun q => ∃ lost : Bool, q = ((sv, (fates, (some ⟨p, 0, some 0⟩, (top, (told, ((i : Int), lost)))))), h1) ∧ (lost = true → i < 60)) ?_ ?_
      · rw [r.len]
        refine PO.condD (fun hc => PO.condD (fun hc2 => ?_) (fun hc2 => .retL ⟨false, rfl, fun g => by cases g⟩)) (fun hc => .retL ⟨false, rfl, fun g => by cases g⟩)
        exact PO.ixI (RdI.ex T1.ex r) (by omega) (by omega) fun a ha => PO.op ha (.retL ⟨_, rfl, fun _ => by omega⟩)
      rintro _ ⟨lost, rfl, hlost⟩
      dsimp only
      simp only [add_add]
      refine PO.call (Turn_f x1.wf S1) ?_
      rintro ⟨⟨a1, a2, a3, a4, a5, a6, a7, a8, a9⟩, ok⟩ h2 ⟨u2, e2, t0, t1⟩
      have e2 : ok = turnV x := e2
      have hpb := S1.box.blt
      refine PO.boxF (x := (a1, a2, a3, a4, a5, a6, a7, a8, a9)) rfl u2.wf fun h3 x3 B3 z3 => ?_
      have hs2 := u2.size
      subst e2
      refine PO.cond (fun ht => ?_) (fun ht => ?_)
      · -- the end is told
        obtain ⟨hfd, S2⟩ := t1 ht
        have T2 := T1.upd u2 ⟨sb, sl, sc, S2⟩
        have S3 := S2.kx u2.wf x3
        have T3 := T2.kx x3
        have htv : x.td = true ∧ x.sure ≤ x.used := by
          unfold turnV at ht; rw [J.rst] at ht; simp at ht; exact ht
        have htc : x.tc = false := by have := J.tdc; rw [htv.1] at this; simpa using this.symm
        obtain ⟨f1, f2, f3, f4, f5, f6, f7⟩ := hfd.e
        have f3 : a3 = x.used := f3
        have f4 : a4 = x.code := f4
        have f5 : a5 = x.sure := f5
        have hsv := J.svE
        refine PO.join (fun q => q = ((sv, (fates, (some ⟨p, 0, some 0⟩, (top, ((i : Int), (lost, (some ⟨h2.size, 0, some 0⟩, false))))))), h3)) ?_ ?_
        · refine PO.ptr (PO.ldI (i := 0 + 1) S3.box rfl (PO.condD (fun g => ?_) fun _ => PO.ldI (i := 2) B3 rfl (PO.ptr (PO.ldI (i := 0 + 1) S3.box rfl (PO.condNE (fun g => absurd f3 g) fun _ => PO.ldI (i := 4) B3 rfl (PO.condNE (fun g => absurd (by show a5 = sv; rw [f5, hsv]) g) fun _ => PO.ldI (i := 3) B3 rfl (PO.condNE (fun g => absurd (by show a4 = 5; rw [f4, J.code]) g) fun _ => PO.ldI (i := 2) B3 rfl (PO.ptr (PO.ldI (i := 0 + 0) S3.box rfl (.retL ?_))))))))))
          · have g : x.used < sv := g
            omega
          · have := I.ul
            have : decide (a3 > x.limit) = false := decide_eq_false (by omega)
            show _ = _
            dsimp only
            rw [this]
        · rintro _ rfl
          dsimp only
          refine PO.condF ?_
          have I2 := I.turn true false x.tc
          have e0 : ({ x with tt := true, td := false } : SS) = { x with tt := true, td := false, tc := x.tc } := rfl
          have R2 : SRng { x with tt := true, td := false } := ⟨I.ok.rng.l0, I.ok.rng.u0, I.ok.rng.bl⟩
          refine PO.cond (fun hl => ?_) (fun hl => ?_)
          · refine ld9 B3 ?_
            refine PO.call (Lost_f x3.wf S3 R2 (by show x.lost.length ≤ _; omega) (by show x.came.length ≤ _; omega) (rfr_sm I) hfd) ?_
            rintro _ h4 ⟨sl4, S4, u4⟩
            rw [lose_turn J.rst htc] at S4
            have J' : SJ { x with tt := true, td := true } sv top true (i + 1) := J.step (I.turn true true x.tc) rfl rfl rfl rfl rfl (by show true = !x.tc; rw [htc]; rfl) (fun _ => rfl) (fun _ => by show sv ≤ x.used; omega) (.inl rfl) rfl (fun _ => by show x.lost.length ≤ _; omega) (fun h6 => by have := hlost hl; omega)
            exact .retL ⟨h4, _, true, rfl, T3.upd u4 ⟨sb, sl4, sc, S4⟩, J'⟩
          · refine ld9 B3 ?_
            refine PO.call (Acked_f x3.wf S3 R2 (by show x.lost.length ≤ _; omega) (by show x.came.length ≤ _; omega) (rfr_sm I) hfd) ?_
            rintro _ h4 ⟨sl4, sc4, S4, u4⟩
            rw [ack_turn J.rst] at S4
            have J' : SJ { x with tt := true, tc := true, td := false } sv top true (i + 1) := J.step (I.turn true false true) rfl rfl rfl rfl rfl rfl (fun _ => rfl) (fun _ => by show sv ≤ x.used; omega) (.inl rfl) rfl (fun _ => by show x.lost.length ≤ _; omega) (fun h6 => by
              have h1 : muS { x with tt := true, tc := true, td := false } = 120 * (rbS x + flS x + 0) + unS x := rfl
              have h2 : muS x = 120 * (rbS x + flS x + 1) + unS x := by unfold muS tnS; rw [htc]; rfl
              omega)
            exact .retL ⟨h4, _, true, rfl, T3.upd u4 ⟨sb, sl4, sc4, S4⟩, J'⟩
      · -- bytes
        have S2 := t0 ht
        have T2 := T1.upd u2 ⟨sb, sl, sc, S2⟩
        have S3 := S2.kx u2.wf x3
        have T3 := T2.kx x3
        have hmay : mayS x = x.sure := by unfold mayS; rw [J.rst]; rfl
        have hsv := J.svE
        refine PO.call (Next_f x3.wf S3 I.ok 150 500 (by omega)) ?_
        rintro ⟨⟨b1, b2, b3, b4, b5, b6, b7, b8, b9⟩, fresh, ok'⟩ h4 ⟨u4, hq⟩
        refine PO.boxF (x := (b1, b2, b3, b4, b5, b6, b7, b8, b9)) rfl u4.wf fun h5 x5 B5 z5 => ?_
        rcases hq with ⟨e1, _, hn, S4⟩ | ⟨e1, f, u, hp, _, fa, sl', S4⟩
        · have e1 : ok' = false := e1
          subst e1
          refine PO.condT ?_
          obtain ⟨n1, n2⟩ := nopick150 I J.id J.bl hn
          have S5 := S4.kx u4.wf x5
          have hu0 := I.ok.rng.u0
          -- what is sure came, or the limit is reached
          have key : x.used < x.sure ∧ leftV x = 0 ∧ told = false := by
            have hss := I.ok.sure
            have hlt : x.used < x.sure := by
              rcases Int.lt_or_le x.used x.sure with g | g
              · exact g
              · exfalso
                have hg : gapS 0 x.sure x.came = [] := (gapS_nil I.nc (Int.le_refl _) (by omega) (by have := I.ok.rng.bl; omega)).2 fun m m0 m1 => by
                  rcases I.cov m m0 (by omega) with c | ⟨q, hq, c, d⟩
                  · exact c
                  · have := first_none n1 q hq
                    omega
                have htd : x.td = false := by
                  unfold turnV at ht; rw [J.rst] at ht
                  simp at ht
                  cases htd : x.td with
                  | false => rfl
                  | true => have := ht htd; omega
                have htc : x.tc = true := by have := J.tdc; rw [htd] at this; simpa using this.symm
                have : doneV x = true := by unfold doneV; rw [J.rst, htc, hg]; simp
                have hd : doneV x = false := hd
                rw [hd] at this; cases this
            refine ⟨hlt, ?_, ?_⟩
            · unfold topV at n2; rw [hmay] at n2
              have : 0 ≤ leftV x := by unfold leftV; omega
              omega
            · cases ht : told with
              | false => rfl
              | true => have := J.tu ht; omega
          obtain ⟨k1, k2, k3⟩ := key
          refine PO.join (fun q => q.1 = true) ?_ ?_
          · subst k3
            refine PO.condT (PO.ptr (PO.ldI (i := 0 + 1) S5.box rfl (PO.condD (fun _ => PO.ptr ?_) fun g => absurd (show x.used < sv by omega) g)))
            rw [addA_zero]
            refine PO.callE (Left_f S5 I.ok.rng) (.retL ?_)
            show (leftV x == 0) = true
            rw [k2]; rfl
          · rintro ⟨q, h6⟩ hq
            have hq : q = true := hq
            subst hq
            exact .retR rfl
        · have e1 : ok' = true := e1
          subst e1
          have P := hp.picked I.ok
          refine PO.condF ?_
          have S5 := S4.kx u4.wf x5
          have T4 := T3.upd u4 ⟨sb, sl', sc, S4⟩
          have T5 := T4.kx x5
          have hends : b7 = false := by
            have : b7 = endsV x u := fa.rd.e.2.2.2.2.2.2
            rw [this]; unfold endsV; rw [J.fin]; rfl
          have hoff : b3 = f := fa.rd.e.2.2.1
          have f0 := P.f0; have fu := P.fu; have ub := P.ub; have hbl := I.ok.rng.bl; have hss := I.ok.sure
          have hlen : (b8.len : Int) = u - f := by
            have h1 : b8.len = (sfr x f u).data.length := RdB.len fa.rd.data
            have h2 := sfr_len (x := x) f0 fu ub
            omega
          have hum : u ≤ x.sure := by
            rcases P.um with g | ⟨g1, g2, g3⟩
            · rw [hmay] at g; exact g
            · rcases P.len with g | ⟨_, _, _, g, _⟩
              · omega
              · unfold endsV at g; rw [J.fin] at g; cases g
          refine PO.join (fun q => q = ((sv, (fates, (some ⟨p, 0, some 0⟩, (top, (told, ((i : Int), (lost, (some ⟨h4.size, 0, some 0⟩, false)))))))), h5)) ?_ ?_
          · refine PO.ldB (i := 6) B5 rfl (PO.cond (fun g => ?_) fun _ => PO.ldI (i := 2) B5 rfl (PO.ldL (i := 7) B5 rfl (PO.letO (.retL ?_))))
            · have g : b7 = true := g
              rw [hends] at g; cases g
            · show _ = _
              dsimp only
              rw [hoff, hlen, decide_eq_false]
              rw [w64 (by omega) (by omega)]
              split <;> omega
          · rintro _ rfl
            dsimp only
            refine PO.condF ?_
            have Rn : SRng (nextX x f u) := by
              have hfr := P.fresh; have hl0 := I.ok.rng.l0; have hu0 := I.ok.rng.u0
              exact ⟨hl0, ⟨by show 0 ≤ max x.used u; omega, by show max x.used u ≤ 4611686018427387903; omega⟩, hbl⟩
            have hdl : (dropS f u x.lost).length ≤ 10000 := by
              have h1 : (dropS f u x.lost).length ≤ 2 * x.lost.length := by
                unfold dropS
                split
                · exact dropR_length _ _ _
                · omega
              omega
            refine PO.cond (fun hl => ?_) (fun hl => ?_)
            · refine ld9 B5 ?_
              refine PO.call (Lost_f x5.wf S5 Rn hdl (by show x.came.length ≤ _; omega) (pick_sm I hp) fa.rd.hd) ?_
              rintro _ h6 ⟨sl6, S6, u6⟩
              obtain ⟨I6, m1, m2, m3, m4, m5, m6, m7, m8, m9, m10, m11, m12, m13, m14, _⟩ := I.losing hp rfl
              have hln := lose_len I J.rst J.id J.bl J.fin hp m2 m4
              have J' := J.step (told' := told) I6 m5 m8 m9 m10 m14 (by rw [m12, m13]; exact J.tdc) (by rw [m13]; exact J.tcT) (fun g => by have := J.tu g; omega) (by rw [J.svE] at hln; exact hln.2) m6 (fun _ => hln.1) (fun h6 => by have := hlost hl; omega)
              exact .retL ⟨h6, _, told, rfl, T5.upd u6 ⟨sb, sl6, sc, S6⟩, J'⟩
            · refine ld9 B5 ?_
              refine PO.call (Acked_f x5.wf S5 Rn hdl (by show x.came.length ≤ _; omega) (pick_sm I hp) fa.rd.hd) ?_
              rintro _ h6 ⟨sl6, sc6, S6, u6⟩
              obtain ⟨I6, m1, m2, m3, m4, m5, m6, m7, m8, m9, m10, m11, m12, m13⟩ := I.acked hp rfl
              have hmu := mu_ack I J.rst J.id J.bl J.fin hp m1 m2 m3 m6 m9 m12
              have J' := J.step (told' := told) I6 m4 m7 m8 m9 m13 (by rw [m11, m12]; exact J.tdc) (by rw [m12]; exact J.tcT) (fun g => by have := J.tu g; omega) (by rw [J.svE] at hmu; exact hmu.2.2) m5 (fun _ => hmu.2.1) (fun _ => hmu.1)
              exact .retL ⟨h6, _, told, rfl, T5.upd u6 ⟨sb, sl6, sc6, S6⟩, J'⟩
    · rintro _ ⟨h2, y, told', rfl, T2, J2⟩
      refine .retL ⟨_, ?_, i + 1, h2, y, told', ?_, rfl, by omega, T2, J2⟩
      · omega
      · rw [w64 (n := (i : Int) + 1) (by omega) (by omega)]; rfl
  · have htc := done_tc J.fin hd
    have htd := J.tcT htc
    subst htd
    refine .retR ⟨h1, x, rfl, T1, I, hd, ?_⟩
    have := J.tu rfl
    rcases J.used with g | g <;> omega
theorem lostS_3 {x : SS} {v : FV} (h1 : v.id = x.id) (h2 : v.kind = 3) (h3 : endedV x v = false) : lostS x v = { x with lost := addsL (gapS (sentV x v).1 (sentV x v).2 x.came) x.lost } := by
  unfold lostS
  rw [if_neg (by simp [h1]), if_pos h2, h3]; rfl
theorem SendSure (size ahead sure limit : Int) (fates : Sl) (h : H) (w : WF h) (g1 : RNG size) (g2 : RNG ahead) (g3 : RNG sure) (g4 : RNG limit) (zs : List Int) (hr : RdI .i64 h fates zs) (hz : zs.length * 8 ≤ 140737488351232) (hzr : ∀ n ∈ zs, -9223372036854775808 ≤ n ∧ n ≤ 9223372036854775807) :
    ∃ h', law13_SendSure size ahead sure limit fates h = some (true, h') := by
  refine PO.law ?_
  unfold law13_SendSure P.law13_SendSure
  refine PO.call (SNew_f w 2) ?_
  rintro _ h1 ⟨rfl, S1, x1⟩
  refine PO.join (fun q => ∃ h2, q = ((size, (ahead, (sure, (limit, (fates, (some ⟨h.size, 0, some 0⟩, false)))))), h2) ∧ EX h1 h2) ?_ ?_
  · refine PO.call (known13_f x1.wf) ?_
    rintro _ h2 ⟨rfl, x2⟩
    exact PO.condF (PO.op (x := false) rfl (.retL ⟨h2, rfl, x2⟩))
  rintro _ ⟨h2, rfl, x2⟩
  dsimp only
  refine PO.condF ?_
  have n0 : 0 ≤ size % 500 := Int.emod_nonneg _ (by omega)
  have n1 : size % 500 < 500 := Int.emod_lt_of_pos _ (by omega)
  refine PO.callE (pick_f size 500 (by omega) (by omega) h2) ?_
  obtain ⟨N, hN⟩ : ∃ N : Nat, size % 500 = N := ⟨(size % 500).toNat, by omega⟩
  rw [hN] at n0 n1 ⊢
  refine PO.call (Text_f x2.wf (l := []) (rd_nil 1 h2) (by simp) N (by omega)) ?_
  rintro s3 h3 ⟨b3, x3, _⟩
  have tl := textL_length [] N
  have S3 := S1.kx x1.wf (x2.trans x3)
  have hpb := S1.box.blt
  refine PO.call (Write_f x3.wf S3 (buf_nil 1 h3) (fun a ha => by simp at ha) b3.rd rfl rfl (by simp [ss0]; omega)) ?_
  rintro _ h4 ⟨rfl, ⟨sb4, S4, _, _⟩, g4, k4, u4, v4⟩
  have x4 : EX h h4 := v4.ex0 (u4.ex0 ((x1.trans x2).trans x3) fun A hA e => by omega) fun A hA e => by omega
  have hl : ([] ++ textL [] N : List UInt8).length = N := by simp [tl]
  generalize hb : ([] ++ textL [] N : List UInt8) = bs at *
  obtain ⟨x, hx⟩ : ∃ x : SS, x = { ss0 2 with b := bs } := ⟨_, rfl⟩
  have S4 : StrA h.size h4 h.size x sb4 ⟨none, 0, 0⟩ ⟨none, 0, 0⟩ := by rw [hx]; rw [← hb]; exact S4
  have I : GInv x := by
    subst hx
    refine ⟨⟨⟨by simp [ss0], by simp [ss0], by show bs.length ≤ 4000; omega⟩, trivial, by show (0 : Int) ≤ 0 ∧ (0 : Int) ≤ (bs.length : Int); omega, by show (0 : Int) ≤ (bs.length : Int); omega⟩, by show okN 2; unfold okN; omega, trivial, fun n a b => ?_, fun n a => absurd a (by simp [ss0, mem_nil]), by simp [ss0]⟩
    have b : n < 0 := b
    omega
  have hxl : x.b.length = N := by rw [hx]; exact hl
  have hxf : x.finished = false ∧ x.reset = false ∧ x.used = 0 ∧ x.lost = [] ∧ x.came = [] ∧ x.limit = 400 ∧ x.id = 2 ∧ x.tc = false := by rw [hx]; exact ⟨rfl, rfl, rfl, rfl, rfl, rfl, rfl, rfl⟩
  obtain ⟨q1, q2, q3, q4, q5, q6, q7, q8⟩ := hxf
  clear hx hb
  have m0 : 0 ≤ ahead % 120 := Int.emod_nonneg _ (by omega)
  have m1 : ahead % 120 < 120 := Int.emod_lt_of_pos _ (by omega)
  refine PO.callE (pick_f ahead 120 (by omega) (by omega) h4) ?_
  refine PO.call (Next_f x4.wf S4 I.ok 200 (ahead % 120) (by omega)) ?_
  rintro ⟨⟨a1, a2, a3, a4, a5, a6, a7, a8, a9⟩, fresh, ok⟩ h5 ⟨u5, hq⟩
  have x5 : EX h h5 := u5.ex0 x4 fun A hA e => by omega
  refine PO.boxF (x := (a1, a2, a3, a4, a5, a6, a7, a8, a9)) rfl u5.wf fun h6 x6 B6 z6 => ?_
  have x6' := x5.trans x6
  -- behind the first one: the state, and how it is after Lost
  obtain ⟨y, sl5, S5, hyu, hyb, hyr, hyf, hyc, hyl, hyi, hytc, hIy, hlost⟩ : ∃ (y : SS) (sl5 : Sl), StrA h.size h5 h.size y sb4 sl5 ⟨none, 0, 0⟩ ∧ (0 ≤ y.used ∧ y.used ≤ y.b.length) ∧ y.b = x.b ∧ y.reset = false ∧ y.finished = false ∧ y.came = [] ∧ y.limit = 400 ∧ y.id = 2 ∧ y.tc = false ∧ SRng y ∧
      ((ok = false ∧ y = x) ∨ (ok = true ∧ ∃ f u, PickV x 200 (ahead % 120) f u ∧ FHd (a1, a2, a3, a4, a5, a6, a7, a8, a9) (sfr x f u) ∧ y = nextX x f u)) := by
    rcases hq with ⟨e1, _, _, S5⟩ | ⟨e1, f, u, hp, _, fa, sl', S5⟩
    · exact ⟨x, _, S5, by have := I.ok.ub; omega, rfl, q2, q1, q5, q6, q7, q8, I.ok.rng, .inl ⟨e1, rfl⟩⟩
    · have P := hp.picked I.ok
      have := P.ub; have := P.f0; have := P.fu; have hfr := P.fresh; have hub := I.ok.ub; have hu0 := I.ok.rng.u0; have hl0 := I.ok.rng.l0
      refine ⟨nextX x f u, sl', S5, ⟨by show 0 ≤ max x.used u; omega, by show max x.used u ≤ (x.b.length : Int); omega⟩, rfl, q2, q1, q5, q6, q7, q8, ⟨hl0, ⟨by show 0 ≤ max x.used u; omega, by show max x.used u ≤ 4611686018427387903; omega⟩, I.ok.rng.bl⟩, .inr ⟨e1, f, u, hp, fa.rd.hd, rfl⟩⟩
  have S6 := S5.kx u5.wf x6
  simp only [add_add]
  refine PO.ptr (PO.ldI (i := 0 + 1) S6.box rfl ?_)
  rw [w64 (n := (N : Int) + 1) (by omega) (by omega)]
  have s0 : 0 ≤ sure % ((N : Int) + 1) := Int.emod_nonneg _ (by omega)
  have s1 : sure % ((N : Int) + 1) < (N : Int) + 1 := Int.emod_lt_of_pos _ (by omega)
  refine PO.callE (pick_f sure _ (by omega) (by omega) h6) ?_
  generalize sure % ((N : Int) + 1) = sv at *
  have hyl2 : y.b.length = N := by rw [hyb]; exact hxl
  have hdn : doneV y = false := by unfold doneV; rw [hyf, hyr]; rfl
  refine PO.call (Reset_f x6'.wf S6 (by rw [hyc]; simp) (code := 5) (sure := sv) (by omega) (by omega) hdn hyr) ?_
  rintro _ h7 ⟨rfl, S7, u7⟩
  have x7 : EX h h7 := u7.ex0 x6' fun A hA e => by omega
  refine PO.condNE (fun g => absurd rfl g) fun _ => ?_
  -- the first one is lost
  refine PO.join (fun q => ∃ (h8 : H) (z : SS) (sl8 : Sl), q = ((sv, (limit, (fates, (some ⟨h.size, 0, some 0⟩, y.used)))), h8) ∧ EX h h8 ∧ StrA h.size h8 h.size z sb4 sl8 ⟨none, 0, 0⟩ ∧ GInv z ∧ z.lost.length ≤ 1 ∧ z.used = y.used ∧ z.limit = 400 ∧ z.id = 2 ∧ z.finished = false ∧ z.reset = true ∧ z.sure = sv ∧ z.code = 5 ∧ z.td = true ∧ z.tc = false ∧ z.b.length = N) ?_ ?_
  · rcases hlost with ⟨e, rfl⟩ | ⟨e, f, u, hp, hfd, rfl⟩
    · subst e
      refine PO.condF (.retL ⟨h7, _, sl5, rfl, x7, S7, ?_, by show y.lost.length ≤ 1; rw [q4]; simp, rfl, q6, q7, q1, rfl, rfl, rfl, rfl, rfl, hxl⟩)
      exact ⟨⟨⟨I.ok.rng.l0, I.ok.rng.u0, I.ok.rng.bl⟩, I.ok.nrl, by show 0 ≤ sv ∧ sv ≤ (y.b.length : Int); omega, I.ok.ub⟩, I.id, I.nc, I.cov, I.dis, I.ul⟩
    · subst e
      have B7 := B6.up x6'.wf u7 (by have := S5.box.blt; omega)
      have hsm := pick_sm I hp
      have R7 : SRng { nextX x f u with code := 5, reset := true, sure := sv, tt := false, td := true, tc := false } := ⟨hIy.l0, hIy.u0, hIy.bl⟩
      refine PO.condT (PO.ldF B7 ?_)
      refine PO.call (Lost_f x7.wf S7 R7 (by show (dropS f u x.lost).length ≤ _; rw [q4]; unfold dropS; split <;> simp [dropR]) (by show x.came.length ≤ _; rw [q5]; simp) hsm hfd) ?_
      rintro _ h8 ⟨sl8, S8, u8⟩
      have hends : endsV x u = false := by unfold endsV; rw [q1]; rfl
      obtain ⟨I8, g1, g2, g3, g4, g5, g6, g7, g8, g9, g10, g11, g12, g13, g14, g15⟩ := I.losing hp rfl
      have P := hp.picked I.ok
      have hps := pick_sent I hp
      have hpe : endedV { nextX x f u with code := 5, reset := true, sure := sv, tt := false, td := true, tc := false } (sfr x f u) = false := by
        unfold endedV
        show (endsV x u && _ && _) = false
        rw [hends]; rfl
      have hpe2 : endedV (nextX x f u) (sfr x f u) = false := by
        unfold endedV
        show (endsV x u && _ && _) = false
        rw [hends]; rfl
      have eA : lostS { nextX x f u with code := 5, reset := true, sure := sv, tt := false, td := true, tc := false } (sfr x f u) = { lostS (nextX x f u) (sfr x f u) with code := 5, reset := true, sure := sv, tt := false, td := true, tc := false } := by
        rw [lostS_3 rfl rfl hpe, lostS_3 rfl rfl hpe2]; rfl
      rw [eA] at S8
      refine .retL ⟨h8, _, sl8, rfl, u8.ex0 x7 fun A hA e => by omega, S8, ?_, ?_, g4, g7.trans q6, g5.trans q7, g8.trans q1, rfl, rfl, rfl, rfl, rfl, by show (lostS (nextX x f u) (sfr x f u)).b.length = N; rw [g6]; exact hxl⟩
      · exact ⟨⟨⟨I8.ok.rng.l0, I8.ok.rng.u0, I8.ok.rng.bl⟩, I8.ok.nrl, by show 0 ≤ sv ∧ sv ≤ ((lostS (nextX x f u) (sfr x f u)).b.length : Int); rw [g6]; omega, I8.ok.ub⟩, I8.id, I8.nc, I8.cov, I8.dis, I8.ul⟩
      · show (lostS (nextX x f u) (sfr x f u)).lost.length ≤ 1
        rw [g2, q4]
        have := addS_len f u (dropS f u [])
        have : (dropS f u []).length = 0 := by unfold dropS; split <;> rfl
        omega
  rintro _ ⟨h8, z, sl8, rfl, x8, S8, I8, k1, k2, k3, k4, k5, k6, k7, k8, k9, k10, k11⟩
  dsimp only
  have l0 : 0 ≤ limit % 200 := Int.emod_nonneg _ (by omega)
  have l1 : limit % 200 < 200 := Int.emod_lt_of_pos _ (by omega)
  refine PO.ptr (PO.callE (pick_f limit 200 (by omega) (by omega) h8) ?_)
  rw [w64 (n := 400 + limit % 200) (by omega) (by omega), addA_zero]
  refine PO.call (Raise_f x8.wf S8 (400 + limit % 200)) ?_
  rintro _ h9 ⟨S9, u9⟩
  have x9 : EX h h9 := u9.ex0 x8 fun A hA e => by omega
  obtain ⟨v, hv, hvf⟩ : ∃ v, v = raiseV (400 + limit % 200) z ∧ (v.used = z.used ∧ v.lost = z.lost ∧ v.came = z.came ∧ v.b = z.b ∧ v.id = z.id ∧ v.finished = z.finished ∧ v.reset = z.reset ∧ v.sure = z.sure ∧ v.code = z.code ∧ v.td = z.td ∧ v.tc = z.tc ∧ z.limit ≤ v.limit ∧ v.limit ≤ 4611686018427387903) := by
    refine ⟨_, rfl, ?_⟩
    unfold raiseV
    split
    · exact ⟨rfl, rfl, rfl, rfl, rfl, rfl, rfl, rfl, rfl, rfl, rfl, Int.le_refl _, by omega⟩
    · exact ⟨rfl, rfl, rfl, rfl, rfl, rfl, rfl, rfl, rfl, rfl, rfl, by show z.limit ≤ 400 + limit % 200; omega, by show 400 + limit % 200 ≤ _; omega⟩
  rw [← hv] at S9
  obtain ⟨v1, v2, v3, v4, v5, v6, v7, v8, v9, v10, v11, v12, v13⟩ := hvf
  clear hv
  have Iv : GInv v := by
    have := I8.ok.rng.u0; have := I8.ul
    exact ⟨⟨⟨by omega, by rw [v1]; exact I8.ok.rng.u0, by rw [v4]; exact I8.ok.rng.bl⟩, by rw [v1, v2]; exact I8.ok.nrl, by rw [v8, v4]; exact I8.ok.sure, by rw [v1, v4]; exact I8.ok.ub⟩, by rw [v5]; exact I8.id, by rw [v1, v3]; exact I8.nc, by rw [v1, v2, v3]; exact I8.cov, by rw [v2, v3]; exact I8.dis, by omega⟩
  have J : SJ v sv y.used false 0 := ⟨Iv, v5.trans k4, v6.trans k5, v7.trans k6, v8.trans k7, v9.trans k8, by rw [v10, v11, k9, k10]; rfl, (fun g => by rw [v11, k10] at g; cases g), (fun g => by cases g), .inl (v1.trans k2), by omega, by rw [v4, k11]; omega, fun _ => by rw [v2]; exact k1, fun g => by omega⟩
  refine PO.join (fun q => ∃ (hh : H) (x : SS), q = ((sv, (some ⟨h.size, 0, some 0⟩, (y.used, true))), hh) ∧ SI h hh h.size x ∧ GInv x ∧ doneV x = true ∧ x.used = max y.used sv) (sure_l1 w hr (by omega) (p := h.size) (sv := sv) (top := y.used) 200 _ ⟨0, h9, v, false, rfl, rfl, by omega, ⟨x9, _, _, _, S9⟩, J⟩) ?_
  rintro _ ⟨ha, xa, rfl, Ta, Ia, da, ua⟩
  dsimp only
  obtain ⟨_, _, _, Sa⟩ := Ta.str
  have hca := came_len Ia
  refine PO.call (Done_f Ta.ex.wf Sa (by omega)) ?_
  rintro q hb ⟨e, xb⟩
  have e : q = _ := e
  rw [da] at e
  subst e
  refine PO.condT (PO.condT (PO.ptr (PO.ldI (i := 0 + 1) (Sa.kx Ta.ex.wf xb).box rfl (.ret ?_))))
  show (xa.used == (if sv > y.used then sv else y.used)) = true
  rw [ua, beq_iff_eq]
  split <;> omega
end Go.Proofs.Ytaebjajbogedkaa.T

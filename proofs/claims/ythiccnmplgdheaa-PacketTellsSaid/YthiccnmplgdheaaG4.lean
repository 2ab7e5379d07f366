/- Lemmas about the typed texts (joined: S11 SSpan1 S12). -/
import Derived.Test.YthiccnmplgdheaaG3
set_option linter.unusedVariables false
set_option linter.unusedSimpArgs false
namespace Go.Abs
open Go
section
variable {α : Type} {Q : α -> Prop} {h : H} {f : H -> Option α} {mask n0 i k : Nat} {ob : AObj} {cs : List (Nat × AObj)}
theorem PO.letGrow (w : WF h) (p : ∀ h1, EX h h1 -> h1.size = h.size + k -> WF h1 -> (∀ i, i < k -> h1.objs.get (h.size + i) = none) -> PO (f h1) Q) : PO (letH (growIf h k) f) Q := by
  refine p _ (ex_growIf w k) (growIf_size h k) (ex_growIf w k).wf fun i hi => ?_
  rw [growIf_eq]
  exact w.top _ (Nat.le_add_right _ _)
theorem PO.letTick (w : WF h) (p : ∀ h1, EX h h1 -> h1.size = h.size -> WF h1 -> PO (f h1) Q) : PO (letH (tickIf k h) f) Q := by
  refine p _ (ex_tick w k) ?_ (ex_tick w k).wf
  unfold tickIf; cases k.beq 0 <;> rfl
theorem PO.addNil (p : PO (f h) Q) : PO (letH (addP mask n0 [] h) f) Q := p
theorem PO.addOff (hm : mask.testBit i = false) (p : PO (letH (addP mask n0 cs h) f) Q) : PO (letH (addP mask n0 ((i, ob) :: cs) h) f) Q := by rw [addP_off hm]; exact p
theorem PO.addOld (hn : h.objs.get (n0 + i) ≠ none) (p : PO (letH (addP mask n0 cs h) f) Q) : PO (letH (addP mask n0 ((i, ob) :: cs) h) f) Q := by
  cases hm : mask.testBit i with
  | false => exact .addOff hm p
  | true => rw [addP_old hm hn]; exact p
end
/-- a heap with one row more, at a block that is reserved -/
structure NW (B : Nat) (h h' : H) : Prop where
  up : UP (· = B) h h'
  non : h.objs.get B = none
  size : h'.size = h.size
theorem NW.wf {B : Nat} {h h' : H} (n : NW B h h') : WF h' := n.up.wf
theorem NW.kb {B b : Nat} {h h' : H} {l : List Value} (n : NW B h h') (x : Box h b l) : Box h' b l := by
  refine Box.ku n.up (fun e => ?_) x
  obtain ⟨t, c, h1, _⟩ := x.get
  rw [e, n.non] at h1; simp at h1
theorem NW.ldk {B : Nat} {h h' : H} (n : NW B h h') {a : Addr} {v : Value} (hlt : a.block < h.size) (e : ldCell h a = some v) : ldCell h' a = some v := by
  refine n.up.ld hlt (fun x => ?_) e
  rw [ldCell_eq, x, n.non] at e; simp [ldO] at e
theorem NW.kr {B sz : Nat} {h h' : H} {s : Sl} {l : List Value} (n : NW B h h') (r : Rd sz h s l) : Rd sz h' s l :=
  ⟨r.len, r.nil, fun a ha i v hi => let ⟨h1, h2⟩ := r.ld a ha i v hi; ⟨by rw [n.size]; exact h1, n.ldk (a := add a i) h1 h2⟩, r.cap⟩
/-- cells of other kinds lie elsewhere -/
theorem Rd.kbox {sz b : Nat} {h h' : H} {s : Sl} {l L : List Value} (w : WF h) (B : Box h b L) (u : UP (· = b) h h') (hd : ∀ v ∈ l, v ∉ L) (r : Rd sz h s l) : Rd sz h' s l :=
  ⟨r.len, r.nil, fun a ha i v hi => by
    obtain ⟨h1, h2⟩ := r.ld a ha i v hi
    refine ⟨Nat.lt_of_lt_of_le h1 u.size, u.ld (a := add a i) h1 (fun e => ?_) h2⟩
    have e' : a.block = b := e
    obtain ⟨t, c, g1, g2⟩ := B.get
    rw [ldCell_eq] at h2
    simp only [add, e', g1] at h2
    unfold ldO at h2
    simp only at h2
    split at h2
    · rename_i sp hsp
      split at h2
      · rename_i cl hcl
        have hlt := w.arr b _ g1 _ _ hcl
        simp only at hlt
        have hg := g2 (a.off + i) _ (List.getElem?_eq_getElem hlt)
        rw [hg] at hcl
        cases hcl
        simp only [Nat.zero_le, Nat.ble_eq, show Nat.ble 0 sp = true by simp, cond_true, Option.some.injEq] at h2
        exact hd v (List.mem_of_getElem? hi) (h2 ▸ List.getElem_mem hlt)
      · simp at h2
    · simp at h2, r.cap⟩
theorem RdB.kbox {b : Nat} {h h' : H} {s : Sl} {l : List UInt8} {L : List Value} (w : WF h) (B : Box h b L) (u : UP (· = b) h h') (hd : ∀ v ∈ L, ∀ n, v ≠ .int .u8 n) (r : RdB h s l) : RdB h' s l :=
  Rd.kbox w B u (fun v hv hL => by
    unfold vB at hv
    obtain ⟨n, _, e⟩ := List.mem_map.1 hv
    exact hd v hL _ e.symm) r
theorem NW.ld {B : Nat} {h h' : H} (n : NW B h h') (w : WF h) {a : Addr} {v : Value} (e : ldCell h a = some v) : ldCell h' a = some v := by
  refine n.up.ld (lt_of_ld w e) (fun x => ?_) e
  rw [ldCell_eq, x, n.non] at e; simp [ldO] at e
theorem NW.rd {B sz : Nat} {h h' : H} {s : Sl} {l : List Value} (n : NW B h h') (w : WF h) (r : Rd sz h s l) : Rd sz h' s l :=
  ⟨r.len, r.nil, fun a ha i v hi => let ⟨h1, h2⟩ := r.ld a ha i v hi; ⟨by rw [n.size]; exact h1, n.ld w h2⟩, r.cap⟩
theorem NW.buf {B sz : Nat} {h h' : H} {s : Sl} {l : List Value} (n : NW B h h') (w : WF h) (r : Buf sz h s l) : Buf sz h' s l := by
  refine ⟨n.rd w r.rd, ?_⟩
  rcases r.tip with ht | ⟨a, q, e, h1, h2, h3, h4, h5, h6, h7⟩
  · exact .inl ht
  · exact .inr ⟨a, q, e, h1, (n.up.same _ (lt_of_get w h2) (fun x => by rw [x, n.non] at h2; simp at h2)).trans h2, h3, h4, by rw [n.up.nro]; exact h5, h6, h7⟩
theorem NW.ex0 {B : Nat} {h0 h h' : H} (n : NW B h h') (x : EX h0 h) (hB : h0.size <= B) : EX h0 h' := n.up.ex0 x (fun A hA e => by omega)
theorem EX.nn {C : Nat} {h h' : H} (x : EX h h') (hC : C < h.size) (e : h.objs.get C = none) : h'.objs.get C = none := (x.same C hC).trans e
theorem Box.ne {h : H} {b : Nat} {l : List Value} (B : Box h b l) : h.objs.get b ≠ none := by
  obtain ⟨e, c, h1, _⟩ := B.get; rw [h1]; simp
theorem Box.rd {h : H} {b sz n cap : Nat} {l : List Value} (B : Box h b l) (w : WF h) (hl : l.length = n * sz) (hc : CapOK sz n cap) : Rd sz h ⟨some ⟨b, 0, some 0⟩, n, cap⟩ l := by
  refine ⟨hl, fun h => by simp at h, fun a ha i v hi => ?_, fun _ => hc⟩
  simp only [Option.some.injEq] at ha
  subst ha
  exact ⟨B.lt w, B.ld hi⟩
theorem Box.buf {h : H} {b sz n : Nat} {l : List Value} (B : Box h b l) (w : WF h) (hl : l.length = n * sz) (hn : n < B63) : Buf sz h ⟨some ⟨b, 0, some 0⟩, n, n⟩ l := by
  refine ⟨B.rd w hl (by unfold CapOK; rw [capK_exact hn]; exact Nat.le_refl _), .inr ?_⟩
  obtain ⟨e, c, h1, h2⟩ := B.get
  exact ⟨_, _, 0, rfl, h1, rfl, rfl, B.nro, by simp only [Nat.zero_add]; exact hl.symm, by simp only [capK_exact hn]⟩
section
variable {α : Type} {Q : α -> Prop} {h : H} {f : H -> Option α} {mask n0 i k : Nat} {cs : List (Nat × AObj)}
theorem PO.addNew {e : TypeId} {vs : List Value} (w : WF h) (hm : mask.testBit i = true) (hn : h.objs.get (n0 + i) = none) (hB : n0 + i < h.size) (hr : h.nro <= n0 + i) (p : ∀ h1, NW (n0 + i) h h1 -> Box h1 (n0 + i) vs -> PO (letH (addP mask n0 cs h1) f) Q) : PO (letH (addP mask n0 ((i, row e vs) :: cs) h) f) Q := by
  rw [addP_new hm hn]
  refine p _ ⟨⟨Nat.le_refl _, rfl, wf_at w hB e vs, fun A hA hne => by rw [newAt_get, if_neg hne], rfl⟩, hn, rfl⟩ (box_at hr hB e vs)
theorem PO.ixI {k : IntKind} {s : Sl} {zs : List Int} {j : Int} {g : Addr -> Option α} (r : RdI k h s zs) (h0 : 0 <= j) (h1 : j < zs.length) (p : ∀ a, Abs.ldI k h a = some (zs.getD j.toNat 0) -> PO (g a) Q) : PO (bindO (ixT 1 s j) g) Q := by
  obtain ⟨a, _, e, e2⟩ := r.at h0 h1
  exact .op e (p _ e2)
theorem PO.ixB {s : Sl} {zs : List UInt8} {j : Int} {g : Addr -> Option α} (r : RdB h s zs) (h0 : 0 <= j) (h1 : j < zs.length) (p : ∀ a, Abs.ldI .u8 h a = some ((zs.getD j.toNat 0).toNat : Int) -> PO (g a) Q) : PO (bindO (ixT 1 s j) g) Q := by
  obtain ⟨a, _, e, e2⟩ := r.at h0 h1
  exact .op e (p _ e2)
theorem PO.chk' {b : Bool} {x y : Option α} (h : b = true) (k : PO x Q) : PO (condK b x y) Q := by subst h; exact k
theorem PO.chkV {v : Value} {x : Option α} (hp : plain v = true) (p : PO x Q) : PO (condK (veq v v) x none) Q := .chk (plain_veq hp) p
end
abbrev Run := Int × Int
/-- runs that rise and do not touch: above lo, up to e -/
def Nrm : Int -> Int -> List Run -> Prop
  | _, _, [] => True
  | lo, e, r :: l => lo < r.1 /\ r.1 < r.2 /\ r.2 <= e /\ Nrm r.2 e l
def mem (l : List Run) (n : Int) : Prop := ∃ r ∈ l, r.1 <= n /\ n < r.2
instance (l : List Run) (n : Int) : Decidable (mem l n) := by unfold mem; infer_instance
theorem Nrm.mono : ∀ {l : List Run} {lo lo' e e' : Int}, Nrm lo e l -> lo' <= lo -> e <= e' -> Nrm lo' e' l
  | [], _, _, _, _, _, _, _ => trivial
  | r :: l, lo, lo', e, e', ⟨h1, h2, h3, h4⟩, a, b => ⟨by omega, h2, by omega, Nrm.mono h4 (Int.le_refl _) b⟩
def runsV : List Run -> List Value
  | [] => []
  | r :: l => .int .i64 r.1 :: .int .i64 r.2 :: runsV l
theorem runsV_app : ∀ (a b : List Run), runsV (a ++ b) = runsV a ++ runsV b
  | [], b => rfl
  | r :: a, b => by simp [runsV, runsV_app a b]
theorem runsV_length : ∀ l : List Run, (runsV l).length = l.length * 2
  | [] => rfl
  | r :: l => by simp [runsV, runsV_length l]; omega
theorem runsV_oneC : ∀ l : List Run, (runsV l).all oneC = true
  | [] => rfl
  | r :: l => by simp [runsV, oneC, runsV_oneC l]
theorem runsV_get : ∀ (l : List Run) (j : Nat), j < l.length -> (runsV l)[j * 2]? = some (.int .i64 (l.getD j (0, 0)).1) /\ (runsV l)[j * 2 + 1]? = some (.int .i64 (l.getD j (0, 0)).2)
  | r :: l, 0, _ => ⟨rfl, rfl⟩
  | r :: l, j + 1, h => by
    have := runsV_get l j (by simpa using h)
    rw [show (j + 1) * 2 = j * 2 + 1 + 1 by omega]
    simpa [runsV] using this
def RdR (h : H) (s : Sl) (l : List Run) : Prop := Rd 2 h s (runsV l)
def BufR (h : H) (s : Sl) (l : List Run) : Prop := Buf 2 h s (runsV l)
theorem RdR.len {h : H} {s : Sl} {l : List Run} (r : RdR h s l) : s.len = l.length := by
  have := Rd.len r; rw [runsV_length] at this; omega
theorem RdR.ex {h h' : H} {s : Sl} {l : List Run} (x : EX h h') (r : RdR h s l) : RdR h' s l := Rd.ex x r
theorem BufR.rd {h : H} {s : Sl} {l : List Run} (r : BufR h s l) : RdR h s l := Buf.rd r
theorem BufR.ex {h h' : H} {s : Sl} {l : List Run} (w : WF h) (x : EX h h') (r : BufR h s l) : BufR h' s l := Buf.ex w x r
theorem ldCells2 {h : H} {a : Addr} {u v : Value} (h1 : ldCell h (add a 0) = some u) (h2 : ldCell h (add a 1) = some v) : ldCells h a 2 = some [u, v] := by
  rw [addA_zero] at h1
  simp only [ldCells, h1, h2]
theorem PO.ixR {α : Type} {Q : α -> Prop} {h : H} {s : Sl} {l : List Run} {j : Int} {g : Addr -> Option α} (r : RdR h s l) (h0 : 0 <= j) (h1 : j < l.length)
    (p : ∀ a b, s.base = some b -> a = add b (j.toNat * 2) -> Abs.ldZ [.int .i64, .int .i64] h a = some (l.getD j.toNat (0, 0)) -> Abs.ldI .i64 h (add a 0) = some (l.getD j.toNat (0, 0)).1 -> Abs.ldI .i64 h (add a 1) = some (l.getD j.toNat (0, 0)).2 -> PO (g a) Q) : PO (bindO (ixT 2 s j) g) Q := by
  obtain ⟨a, ha, e⟩ := ixT_ok r h0 (by rw [RdR.len r]; exact h1)
  obtain ⟨g1, g2⟩ := runsV_get l j.toNat (by omega)
  have l1 : ldCell h (add (add a (j.toNat * 2)) 0) = some (.int .i64 (l.getD j.toNat (0, 0)).1) := by rw [add_add]; exact (Rd.ld r a ha _ _ g1).2
  have l2 : ldCell h (add (add a (j.toNat * 2)) 1) = some (.int .i64 (l.getD j.toNat (0, 0)).2) := by rw [add_add]; exact (Rd.ld r a ha _ _ g2).2
  exact .op e (p _ a ha rfl (ldZ_of (zs := [.int .i64, .int .i64]) (x := l.getD j.toNat (0, 0)) (ldCells2 l1 l2)) (ldI_of l1) (ldI_of l2))
theorem PO.ixA {α : Type} {Q : α -> Prop} {n sz : Nat} {a : Addr} {i : Int} {g : Addr -> Option α} (h0 : 0 <= i) (h1 : i < n) (p : PO (g (add a (i.toNat * sz))) Q) : PO (bindO (ixAT n sz a i) g) Q := .op (ixAT_ok a h0 h1) p
theorem PO.appR1 {α : Type} {Q : α -> Prop} {h0 h : H} {out : Sl} {l : List Run} {x y : Int} {g : Sl -> H -> Option α} (hb : BufR h out l) (hx : EX h0 h) (hf : Fr h0.size out) (hl : l.length + 1 <= 2 ^ 42)
    (k : ∀ out1 h2, BufR h2 out1 (l ++ [(x, y)]) -> EX h0 h2 -> Fr h0.size out1 -> KP h h2 -> PO (g out1 h2) Q) : PO (newO (row 36 [.int .i64 x, .int .i64 y]) h fun b h1 => bind2 (appT 36 2 16 h1 out ⟨some ⟨b, 0, some 0⟩, 1, 1⟩) g) Q := by
  refine PO.newB hx.wf fun h1 x1 B1 z1 w1 => ?_
  have r1 : RdR h1 ⟨some ⟨h.size, 0, some 0⟩, 1, 1⟩ [(x, y)] := B1.rd w1 rfl (by unfold CapOK; rw [capK_exact (by unfold B63; omega)]; exact Nat.le_refl _)
  have hb1 : BufR h1 out l := hb.ex hx.wf x1
  have hlen := RdR.len hb1.rd
  obtain ⟨s', h', e, k1, x2, b2, _, f2⟩ := appT_ok (e := 36) (bytes := 16) (by omega) (by unfold B63; omega) w1 hb1 r1 (runsV_oneC _) (by simp only; omega) (by simp only; omega)
  refine PO.callE e (k s' h' ?_ (x2 _ (hx.trans x1) hf) (f2 _ (hx.trans x1).size hf) ((x1.kp hx.wf).trans k1))
  unfold BufR; rw [runsV_app]; exact b2
theorem Box.r1 {h : H} {b : Nat} {r : Run} (B : Box h b [.int .i64 r.1, .int .i64 r.2]) (w : WF h) : RdR h ⟨some ⟨b, 0, some 0⟩, 1, 1⟩ [r] := B.rd w rfl (by unfold CapOK; rw [capK_exact (by unfold B63; omega)]; exact Nat.le_refl _)
theorem RdR.mono {h h' : H} {s : Sl} {l : List Run} (x : KP h h') (r : RdR h s l) : RdR h' s l := Rd.mono r x
end Go.Abs

/- Lemmas about the typed texts (joined: SRR4 SRR5 SRefB). -/
import Derived.Test.YthiccnmplgdheaaG21
import Derived.Test.YthiccnmplgdheaaG22
import Derived.Test.YthiccnmplgdheaaG13
import Derived.Test.YthiccnmplgdheaaG17
import Derived.Test.YthiccnmplgdheaaG18
set_option linter.unusedVariables false
set_option linter.unusedSimpArgs false
namespace Go.Proofs.Ythiccnmplgdheaa.T
open Go Go.Abs Go.Proofs
def cntV (k : Int) : Nat := if k = 3 then 3 else if k = 4 then 4 else if k = 5 \/ k = 7 \/ k = 8 then 2 else if k = 6 \/ k = 10 \/ k = 11 \/ k = 12 then 1 else 0
def badF (k : Int) (i : Nat) (n : Int) : Prop := ((k = 3 /\ i = 2) \/ (k = 8 /\ i = 1)) /\ n > 1
instance (k : Int) (i : Nat) (n : Int) : Decidable (badF k i n) := by unfold badF; infer_instance
def pL (k : Int) : Nat -> Nat -> RP (List Int)
  | _, 0, l => .inr ([], l)
  | i, c + 1, l => if (tk l).2.2 = 0 then (if badF k i (tk l).1 then .inl 2 else match pL k (i + 1) c (tk l).2.1 with
    | .inl e => .inl e
    | .inr (ns, r) => .inr ((tk l).1 :: ns, r)) else .inl 3
def valL (k : Int) (ns : List Int) (d : List UInt8) : FV :=
  if k = 3 then ⟨k, ns.getD 0 0, ns.getD 1 0, 0, 0, 0, decide (ns.getD 2 0 = 1), d, []⟩
  else if k = 4 then ⟨k, ns.getD 0 0, ns.getD 2 0, ns.getD 1 0, ns.getD 3 0, 0, false, d, []⟩
  else if k = 5 \/ k = 7 then ⟨k, ns.getD 0 0, 0, ns.getD 1 0, 0, 0, false, d, []⟩
  else if k = 6 \/ k = 12 then ⟨k, 0, 0, ns.getD 0 0, 0, 0, false, d, []⟩
  else if k = 8 then ⟨k, 0, 0, ns.getD 0 0, 0, 0, decide (ns.getD 1 0 = 1), d, []⟩
  else if k = 10 \/ k = 11 then ⟨k, ns.getD 0 0, 0, 0, 0, 0, false, d, []⟩
  else ⟨k, 0, 0, 0, 0, 0, false, d, []⟩
def rawL (k : Int) : RP FV := bindP (pL k 0 (cntV k)) fun ns => if k = 3 \/ k = 9 then bindP pData fun d => retP (valL k ns d) else retP (valL k ns [])
theorem pFlag_tk (l : List UInt8) : pFlag l = if (tk l).2.2 = 0 then (if (tk l).1 > 1 then .inl 2 else .inr (decide ((tk l).1 = 1), (tk l).2.1)) else .inl 3 := by
  unfold pFlag; rw [pT1_tk]
  by_cases h : (tk l).2.2 = 0
  · rw [if_pos h, if_pos h]; rfl
  · rw [if_neg h, if_neg h]
theorem rawL_eq (k : Int) (h1 : 1 <= k) (h2 : k <= 12) (h3 : k ≠ 2) : rawP k = rawL k := by
  funext l
  have t2 : ∀ l, pT 2 l = if (tk l).2.2 = 0 then (match pT 1 (tk l).2.1 with
    | .inl e => .inl e
    | .inr (ns, r) => .inr ((tk l).1 :: ns, r)) else .inl 3 := fun l => pT_succ 1 l
  have t3 : ∀ l, pT 3 l = if (tk l).2.2 = 0 then (match pT 2 (tk l).2.1 with
    | .inl e => .inl e
    | .inr (ns, r) => .inr ((tk l).1 :: ns, r)) else .inl 3 := fun l => pT_succ 2 l
  have t4 : ∀ l, pT 4 l = if (tk l).2.2 = 0 then (match pT 3 (tk l).2.1 with
    | .inl e => .inl e
    | .inr (ns, r) => .inr ((tk l).1 :: ns, r)) else .inl 3 := fun l => pT_succ 3 l
  rcases (by omega : k = 1 \/ k = 3 \/ k = 4 \/ k = 5 \/ k = 6 \/ k = 7 \/ k = 8 \/ k = 9 \/ k = 10 \/ k = 11 \/ k = 12) with rfl | rfl | rfl | rfl | rfl | rfl | rfl | rfl | rfl | rfl | rfl
  all_goals
    simp (config := { decide := true }) only [rawP, rawL, cntV, valL, bindP, retP, pL, badF, t4, t3, t2, pT1_tk, pFlag_tk, if_true, if_false, true_and, false_and, and_false, or_false, false_or]
    first
      | done
      | rfl
      | (by_cases a0 : (tk l).2.2 = 0 <;> by_cases a1 : (tk (tk l).2.1).2.2 = 0 <;> by_cases a2 : (tk (tk (tk l).2.1).2.1).2.2 = 0 <;> by_cases a3 : (tk (tk (tk (tk l).2.1).2.1).2.1).2.2 = 0 <;> by_cases c1 : (tk (tk l).2.1).1 > 1 <;> by_cases c2 : (tk (tk (tk l).2.1).2.1).1 > 1 <;> simp [a0, a1, a2, a3, c1, c2])
theorem spK_RSp : ∀ (n : Nat) (p : Option Int) (l : List UInt8) (s : List Run) (r : List UInt8), (∀ q, p = some q -> okN q) -> spK n p l = .inr (s, r) -> RSp p s /\ s.length = n
  | 0, p, l, s, r, hp, e => by
    simp [spK] at e
    obtain ⟨rfl, rfl⟩ := e
    exact ⟨trivial, rfl⟩
  | n + 1, p, l, s, r, hp, e => by
    unfold spK at e
    rw [pT1_tk] at e
    have o1 := tk_ok l
    unfold okN at o1
    split at e
    · cases e
    rename_i ns r1 e1
    split at e1
    · simp only [Sum.inr.injEq, Prod.mk.injEq] at e1
      obtain ⟨rfl, rfl⟩ := e1
      simp only [List.getD_cons_zero] at e
      generalize (tk l).1 = v1 at *
      generalize (tk l).2.1 = t1 at *
      have o2 := tk_ok t1
      unfold okN at o2
      rw [pT1_tk] at e
      split at e
      · cases e
      rename_i hb
      split at e
      · cases e
      rename_i ms r2 e2
      split at e2
      · simp only [Sum.inr.injEq, Prod.mk.injEq] at e2
        obtain ⟨rfl, rfl⟩ := e2
        simp only [List.getD_cons_zero] at e
        generalize (tk t1).1 = v2 at *
        split at e
        · cases e
        rename_i hg
        have hl : (0 <= lastV p v1 /\ lastV p v1 <= 4611686018427387903) /\ ∀ q, p = some q -> 2 <= q - lastV p v1 := by
          cases p with
          | none => exact ⟨o1, fun q hq => by cases hq⟩
          | some q =>
            have hq := hp q rfl
            unfold okN at hq
            simp [badP] at hb
            refine ⟨by show 0 <= q - v1 /\ q - v1 <= _; omega, fun q' hq' => ?_⟩
            cases hq'
            show 2 <= q - (q - v1); omega
        generalize lastV p v1 = la at *
        cases hs : spK n (some (la - v2)) (tk t1).2.1 with
        | inl e' => rw [hs] at e; cases e
        | inr z =>
          obtain ⟨q, r3⟩ := z
          rw [hs] at e
          simp only [Sum.inr.injEq, Prod.mk.injEq] at e
          obtain ⟨rfl, rfl⟩ := e
          have ih := spK_RSp n _ _ _ _ (fun q hq => by cases hq; unfold okN; omega) hs
          refine ⟨⟨⟨?_, ?_⟩, ?_, hl.2, ih.1⟩, by simp [ih.2]⟩
          · show okN (la - v2); unfold okN; omega
          · show okN la; unfold okN; omega
          · show la - v2 <= la; omega
      · cases e2
    · cases e1
theorem pSpans_FR {l r : List UInt8} {s : List Run} (e : pSpans l = .inr (s, r)) : FR ⟨2, 0, 0, 0, 0, 0, false, [], s⟩ := by
  unfold pSpans at e
  split at e
  · cases e
  rename_i ns r1 e1
  split at e
  · cases e
  rename_i hc
  have h := spK_RSp _ _ _ _ _ (fun q hq => by cases hq) e
  have hl := h.2
  refine ⟨⟨⟨show (1 : Int) <= 2 by decide, show (2 : Int) <= 12 by decide⟩, ?_, ⟨ok0, ok0, ok0, ok0⟩, Nat.zero_le _⟩, ?_⟩
  · unfold sameV bareV; simp
  · show RSs s
    exact ⟨h.1, by omega, by omega⟩
/-- the reader's rows: the answer's, the frame's, the numbers' -/
structure RJ3 (h : H) (b1 b2 b3 : Nat) (h' : H) (L L3 : List Value) (rest : Sl) (l : List UInt8) : Prop where
  ex : EX h h'
  o1 : h.size <= b1
  o2 : b1 < b2
  o3 : b2 < b3
  x0 : Box h' b1 (f9L f90)
  fb : Box h' b2 L
  lb : Box h' b3 L3
  rd : RdB h' rest l
  nu : noU8 L
theorem RJ3.cast {h h' : H} {b1 b2 b3 : Nat} {L L' L3 : List Value} {rest : Sl} {l : List UInt8} (J : RJ3 h b1 b2 b3 h' L L3 rest l) (e : L = L') : RJ3 h b1 b2 b3 h' L' L3 rest l := e ▸ J
theorem RJ3.step {h h' h2 : H} {b1 b2 b3 : Nat} {L L3 : List Value} {rest rest2 : Sl} {l l2 : List UInt8} (J : RJ3 h b1 b2 b3 h' L L3 rest l) (x : EX h' h2) (r : RdB h2 rest2 l2) : RJ3 h b1 b2 b3 h2 L L3 rest2 l2 :=
  ⟨J.ex.trans x, J.o1, J.o2, J.o3, Box.kx x J.x0, Box.kx x J.fb, Box.kx x J.lb, r, J.nu⟩
section
variable {α : Type} {Q : α -> Prop} {h h' : H} {b1 b2 b3 i : Nat} {L L3 : List Value} {rest : Sl} {l : List UInt8}
theorem RJ3.stF {v : Value} {f : H -> Option α} (J : RJ3 h b1 b2 b3 h' L L3 rest l) (hi : i < L.length) (ho : oneC v = true) (hv : ∀ n, v ≠ .int .u8 n) (p : ∀ h2, RJ3 h b1 b2 b3 h2 (L.set i v) L3 rest l -> UP (· = b2) h' h2 -> PO (f h2) Q) : PO (bindO (Abs.st1 h' (Abs.add ⟨b2, 0, some 0⟩ i) v) f) Q :=
  PO.st1 J.fb J.ex.wf hi ho fun h2 B u z w => p h2 ⟨u.ex0 J.ex (fun A hA e => by have := J.o1; have := J.o2; omega), J.o1, J.o2, J.o3, Box.ku u (by have := J.o2; omega) J.x0, B, Box.ku u (by have := J.o3; omega) J.lb, RdB.kbox J.ex.wf J.fb u J.nu J.rd, fun x hx n => by
    rcases List.mem_or_eq_of_mem_set hx with hx | hx
    · exact J.nu x hx n
    · rw [hx]; exact hv n⟩ u
theorem RJ3.stL {v : Value} {f : H -> Option α} (J : RJ3 h b1 b2 b3 h' L L3 rest l) (hn : noU8 L3) (hi : i < L3.length) (ho : oneC v = true) (p : ∀ h2, RJ3 h b1 b2 b3 h2 L (L3.set i v) rest l -> PO (f h2) Q) : PO (bindO (Abs.st1 h' (Abs.add ⟨b3, 0, some 0⟩ i) v) f) Q :=
  PO.st1 J.lb J.ex.wf hi ho fun h2 B u z w => p h2 ⟨u.ex0 J.ex (fun A hA e => by have := J.o1; have := J.o2; have := J.o3; omega), J.o1, J.o2, J.o3, Box.ku u (by have := J.o2; have := J.o3; omega) J.x0, Box.ku u (by have := J.o3; omega) J.fb, B, RdB.kbox J.ex.wf J.lb u hn J.rd, J.nu⟩
/-- the frame, copied into the answer's row -/
theorem out_f {y : F9} {g : F9 -> H -> Option α} (x : EX h h') (o1 : h.size <= b1) (x0 : Box h' b1 (f9L f90)) (fb : Box h' b2 (f9L y)) (k : ∀ h2, EX h h2 -> UP (· = b1) h' h2 -> PO (g y h2) Q) :
    PO (bindO (Abs.ldZ [.int .i64, .int .i64, .int .i64, .int .i64, .int .i64, .int .i64, .bool, .sl, .sl] h' ⟨b2, 0, some 0⟩) fun y => bindO (Abs.stZ [.int .i64, .int .i64, .int .i64, .int .i64, .int .i64, .int .i64, .bool, .sl, .sl] h' ⟨b1, 0, some 0⟩ y) fun h4 => bindO (Abs.ldZ [.int .i64, .int .i64, .int .i64, .int .i64, .int .i64, .int .i64, .bool, .sl, .sl] h4 ⟨b1, 0, some 0⟩) fun z => g z h4) Q :=
  PO.ldF fb (PO.stZ x0 x.wf rfl rfl fun h2 B2 u2 z2 w2 => PO.ldF (x := y) B2 (k h2 (u2.ex0 x (fun A hA e => by omega)) u2))
end
def padV (ns : List Int) : List Value := (ns ++ List.replicate (4 - ns.length) 0).map (.int .i64)
theorem padV_set : ∀ (ns : List Int) (n : Int), ns.length < 4 -> (padV ns).set ns.length (.int .i64 n) = padV (ns ++ [n])
  | [], n, _ => rfl
  | [_], n, _ => rfl
  | [_, _], n, _ => rfl
  | [_, _, _], n, _ => rfl
  | _ :: _ :: _ :: _ :: _, n, h => absurd h (by simp only [List.length_cons]; omega)
theorem padV_length (ns : List Int) (h : ns.length <= 4) : (padV ns).length = 4 := by unfold padV; simp; omega
theorem noU8_pad (ns : List Int) : noU8 (padV ns) := by
  intro v hv m
  unfold padV at hv
  obtain ⟨n, _, rfl⟩ := List.mem_map.1 hv
  simp
theorem pL_length (k : Int) : ∀ (c i : Nat) (l : List UInt8) (ns : List Int) (r : List UInt8), pL k i c l = .inr (ns, r) -> ns.length = c /\ r.length <= l.length
  | 0, i, l, ns, r, e => by simp [pL] at e; obtain ⟨rfl, rfl⟩ := e; exact ⟨rfl, Nat.le_refl _⟩
  | c + 1, i, l, ns, r, e => by
    unfold pL at e
    split at e
    · rename_i h0
      have := tk_lt l h0
      split at e
      · cases e
      · split at e
        · cases e
        · rename_i q r' hq
          simp only [Sum.inr.injEq, Prod.mk.injEq] at e
          obtain ⟨rfl, rfl⟩ := e
          have ih := pL_length k c _ _ _ _ hq
          exact ⟨by simp [ih.1], by omega⟩
    · cases e
theorem rread_loop {h : H} {b1 b2 b3 : Nat} {k : Int} {y : F9} (C : Nat) (hC : C <= 4) : ∀ (c i : Nat) (rest : Sl) (l : List UInt8) (acc : List Int) (h' : H), i + c = C -> acc.length = i -> RJ3 h b1 b2 b3 h' (f9L y) (padV acc) rest l -> l.length <= 2 ^ 38 ->
    PO (loopO ref1_read_l1 ((some ⟨b1, 0, some 0⟩, (some ⟨b2, 0, some 0⟩, (k, (rest, ((C : Int), (some ⟨b3, 0, some 0⟩, (i : Int))))))), h')) (Sum.elim
      (fun st => ∃ rest' h'' ns r, st = ((some ⟨b1, 0, some 0⟩, (some ⟨b2, 0, some 0⟩, (k, (rest', some ⟨b3, 0, some 0⟩)))), h'') /\ pL k i c l = .inr (ns, r) /\ RJ3 h b1 b2 b3 h'' (f9L y) (padV (acc ++ ns)) rest' r)
      (fun a => (∃ e, pL k i c l = .inl e) /\ a.1.2.2 ≠ 0 /\ EX h a.2))
  | 0, i, rest, l, acc, h', hc, ha, J, hl => by
    refine PO.loop1 ?_
    unfold ref1_read_l1 P.ref1_read_l1
    refine .condD (fun c => ?_) (fun c => .retR ⟨rest, h', [], l, rfl, rfl, by rw [List.append_nil]; exact J⟩)
    have c' : (i : Int) < (C : Int) := c
    omega
  | c + 1, i, rest, l, acc, h', hc, ha, J, hl => by
    refine PO.loop1 ?_
    unfold ref1_read_l1 P.ref1_read_l1
    refine .condD (fun _ => ?_) (fun cc => absurd (show (i : Int) < (C : Int) by omega) cc)
    refine PO.call (RTake_po J.ex.wf J.rd (by omega)) fun a h1 ⟨e1, e2, r1, x1⟩ => ?_
    obtain ⟨a1, a2, a3⟩ := a
    simp only at e1 e2 r1 x1
    subst e1 e2
    have J1 := J.step x1 r1
    have hlt := tk_lt l
    refine .condNE (fun hne => .ptr (PO.ldF J1.fb (.ptr (PO.stZ J1.x0 J1.ex.wf rfl rfl fun h2 B2 u2 z2 w2 => PO.inr (PO.inr (.ptr (PO.ldF (x := y) B2 (.ret ⟨⟨3, ?_⟩, hne, u2.ex0 J1.ex (fun A hA e => by have := J1.o1; omega)⟩)))))))) (fun he => ?_)
    · unfold pL; rw [if_neg hne]
    have hlt' := hlt he
    unfold pL
    rw [if_pos he]
    generalize (tk l).1 = v at *
    generalize (tk l).2.1 = t at *
    refine .ptr (PO.ixA (by omega) (by omega) (J1.stL (noU8_pad acc) (by rw [padV_length _ (by omega)]; simp; omega) rfl fun h3 J3 => ?_))
    rw [Int.toNat_natCast, Nat.mul_one, <- ha, padV_set acc v (by omega)] at J3
    refine PO.join (fun st => st = ((some ⟨b1, 0, some 0⟩, (some ⟨b2, 0, some 0⟩, (k, (a2, ((C : Int), (some ⟨b3, 0, some 0⟩, ((i : Int), decide (badF k i v)))))))), h3)) ?_ ?_
    · have hb : ∀ {b : Bool}, (b = true ↔ badF k i v) -> (((some ⟨b1, 0, some 0⟩ : Option Addr), ((some ⟨b2, 0, some 0⟩ : Option Addr), (k, (a2, ((C : Int), ((some ⟨b3, 0, some 0⟩ : Option Addr), ((i : Int), b))))))), h3) = ((some ⟨b1, 0, some 0⟩, (some ⟨b2, 0, some 0⟩, (k, (a2, ((C : Int), (some ⟨b3, 0, some 0⟩, ((i : Int), decide (badF k i v)))))))), h3) := by
        intro b hh
        cases b with
        | true => rw [decide_eq_true (hh.1 rfl)]
        | false => rw [decide_eq_false (fun hn => by have := hh.2 hn; cases this)]
      repeat' (refine PO.condE (fun e => ?_) (fun e => ?_))
      all_goals refine PO.retL (hb ?_)
      all_goals unfold badF
      all_goals (first | (rw [decide_eq_true_eq]; omega) | (simp only [Bool.false_eq_true, false_iff]; omega))
    rintro _ rfl
    dsimp only
    refine .condD (fun hb => .ptr (PO.ldF J3.fb (.ptr (PO.stZ J3.x0 J3.ex.wf rfl rfl fun h2 B2 u2 z2 w2 => PO.inr (PO.inr (.ptr (PO.ldF (x := y) B2 (.ret ⟨⟨2, ?_⟩, (by decide : (2 : Int) ≠ 0), u2.ex0 J3.ex (fun A hA e => by have := J3.o1; omega)⟩)))))))) (fun hb => .retL ?_)
    · rw [if_pos hb]
    rw [if_neg hb, w64 (n := (i : Int) + 1) (by omega) (by omega)]
    have ih := rread_loop (k := k) C hC c (i + 1) a2 t (acc ++ [v]) h3 (by omega) (by simp [ha]) J3 (by omega)
    refine PO.mono ih ?_
    rintro (st | a) hp
    · obtain ⟨rest', h4, ns, r, e, hq, J4⟩ := hp
      refine ⟨rest', h4, v :: ns, r, e, ?_, ?_⟩
      · rw [hq]
      · rw [List.append_assoc] at J4; exact J4
    · obtain ⟨⟨e, hq⟩, h2, h3⟩ := hp
      exact ⟨⟨e, by rw [hq]⟩, h2, h3⟩
theorem valL_d (k : Int) (ns : List Int) (d : List UInt8) : valL k ns d = ⟨(valL k ns []).kind, (valL k ns []).id, (valL k ns []).off, (valL k ns []).a, (valL k ns []).b, (valL k ns []).note, (valL k ns []).fin, d, []⟩ := by
  unfold valL; (repeat' split) <;> rfl
def yV (k : Int) (ns : List Int) (s : Sl) : F9 := ((valL k ns []).kind, (valL k ns []).id, (valL k ns []).off, (valL k ns []).a, (valL k ns []).b, (valL k ns []).note, (valL k ns []).fin, s, ⟨none, 0, 0⟩)
theorem yV_frd {h : H} {k : Int} {ns : List Int} {s : Sl} {d : List UInt8} (r : RdB h s d) : FRd h (yV k ns s) (valL k ns d) := by
  rw [valL_d]; exact ⟨⟨rfl, rfl, rfl, rfl, rfl, rfl, rfl⟩, r, rdR_nil _⟩
theorem cntV_le (k : Int) : cntV k <= 4 := by unfold cntV; (repeat' split) <;> omega
theorem rawP_out {k : Int} (hk : k < 1 \/ k > 12) (l : List UInt8) : bindP (rawP k) finF l = .inl 2 := by
  unfold rawP
  rw [if_neg (by omega), if_neg (by omega), if_neg (by omega), if_neg (by omega), if_neg (by omega), if_neg (by omega), if_neg (by omega), if_neg (by omega)]
  simp only [bindP, retP, finF]
  rw [if_neg]
  intro hh
  have h1 : 1 <= k := hh.1.1.1
  have h2 : k <= 12 := hh.1.1.2
  omega
/-- what the reader of one frame answers -/
def RQ (l : List UInt8) (h : H) (a : (F9 × Sl × Int) × H) : Prop := EX h a.2 /\ match pFrame l with | .inr (v, r) => a.1.2.2 = 0 /\ FRd a.2 a.1.1 v /\ RdB a.2 a.1.2.1 r | .inl _ => a.1.2.2 ≠ 0
theorem RQ.fail {l : List UInt8} {h : H} {a : (F9 × Sl × Int) × H} (e : ∃ e, pFrame l = .inl e) (h1 : a.1.2.2 ≠ 0) (x : EX h a.2) : RQ l h a := by
  obtain ⟨e, he⟩ := e
  refine ⟨x, ?_⟩
  rw [he]; exact h1
theorem RQ.ok {l r : List UInt8} {v : FV} {h : H} {a : (F9 × Sl × Int) × H} (e : pFrame l = .inr (v, r)) (h1 : a.1.2.2 = 0) (h2 : FRd a.2 a.1.1 v) (h3 : RdB a.2 a.1.2.1 r) (x : EX h a.2) : RQ l h a := by
  refine ⟨x, ?_⟩
  rw [e]; exact ⟨h1, h2, h3⟩
set_option maxHeartbeats 4000000 in
theorem ref1_read_f {h : H} (w : WF h) {b : Sl} {l : List UInt8} (hr : RdB h b l) (hl : l.length <= 2 ^ 38) : PO (ref1_read b h) (RQ l h) := by
  unfold ref1_read P.ref1_read
  refine PO.newB w fun g0 x0 B0 z0 w0 => PO.newB w0 fun g1 x1 B1 z1 w1 => PO.stZ B1 w1 rfl rfl fun g2 B2 u2 z2 w2 => ?_
  have y2 : EX h g2 := u2.ex0 (x0.trans x1) (fun A hA e => by omega)
  have X2 : Box g2 h.size (f9L f90) := Box.ku u2 (by omega) (Box.kx x1 B0)
  have F2 : Box g2 g0.size (f9L f90) := B2
  refine PO.call (RTake_po w2 (hr.ex y2) (by omega)) fun a g3 ⟨e1, e2, r3, x3⟩ => ?_
  obtain ⟨k, a2, a3⟩ := a
  simp only at e1 e2 r3 x3
  subst e2
  have F3 := Box.kx x3 F2
  have X3 := Box.kx x3 X2
  have y3 := y2.trans x3
  have hp : pFrame l = if (tk l).2.2 = 0 then bindP (rawP (tk l).1) finF (tk l).2.1 else Sum.inl 3 := by
    unfold pFrame
    unfold bindP
    rw [pT1_tk]
    by_cases h0 : (tk l).2.2 = 0
    · rw [if_pos h0, if_pos h0]; rfl
    · rw [if_neg h0, if_neg h0]
  refine .condNE (fun hne => out_f y3 (Nat.le_refl _) X3 F3 fun h4 x4 u4 => .ret (RQ.fail ⟨3, ?_⟩ hne x4)) (fun he => ?_)
  · rw [hp, if_neg hne]
  rw [if_pos he, <- e1] at hp
  have hlt := tk_lt l he
  generalize (tk l).2.1 = t at *
  clear e1 he
  refine PO.join (fun st => st = ((some ⟨h.size, 0, some 0⟩, (some ⟨g0.size, 0, some 0⟩, (k, (a2, decide (k < 1 \/ k > 12))))), g3)) ?_ ?_
  · refine .condD (fun c => .retL ?_) (fun c => .retL ?_)
    · rw [decide_eq_true (Or.inl c)]
    · have : decide (k > 12) = decide (k < 1 \/ k > 12) := decide_eq_decide.2 (by omega)
      rw [this]
  rintro _ rfl
  dsimp only
  refine .condD (fun c => .ptr (out_f y3 (Nat.le_refl _) X3 F3 fun h4 x4 u4 => .ret (RQ.fail ⟨2, ?_⟩ (by decide : (2 : Int) ≠ 0) x4))) (fun c => ?_)
  · rw [hp, rawP_out c]
  refine .ptr (PO.st1 F3 y3.wf (by decide) rfl fun g4 F4 u4 z4 w4 => ?_)
  have F4' : Box g4 g0.size (f9L (k, 0, 0, 0, 0, 0, false, ⟨none, 0, 0⟩, ⟨none, 0, 0⟩)) := F4
  have X4 := Box.ku u4 (show ¬ h.size = g0.size by omega) X3
  have r4 := RdB.kbox y3.wf F3 u4 (noU8_f9 _) r3
  have y4 : EX h g4 := u4.ex0 y3 (fun A hA e => by omega)
  have hg4 := F4.blt
  refine .condE (fun k2 => ?_) (fun k2 => ?_)
  · subst k2
    refine PO.call (RSpans_f y4.wf r4 (by omega)) fun a g5 ⟨x5, hq⟩ => ?_
    obtain ⟨s1, s2, e5⟩ := a
    have y5 := y4.trans x5
    refine .ptr (PO.st1 (Box.kx x5 F4') y5.wf (by decide) rfl fun g6 F6 u6 z6 w6 => ?_)
    have F6' : Box g6 g0.size (f9L (2, 0, 0, 0, 0, 0, false, ⟨none, 0, 0⟩, s1)) := F6
    have y6 : EX h g6 := u6.ex0 y5 (fun A hA e => by omega)
    refine .ptr (out_f y6 (Nat.le_refl _) (Box.ku u6 (show ¬ h.size = g0.size by omega) (Box.kx x5 X4)) F6' fun g7 x7 u7 => .ret ?_)
    have hraw : rawP 2 = bindP pSpans fun s => retP ⟨2, 0, 0, 0, 0, 0, false, [], s⟩ := by unfold rawP; rw [if_pos rfl]
    rw [hraw] at hp
    simp only [bindP] at hp
    cases hs : pSpans t with
    | inl e =>
      rw [hs] at hp hq
      exact RQ.fail ⟨e, hp⟩ hq x7
    | inr q =>
      obtain ⟨d, r⟩ := q
      rw [hs] at hp hq
      obtain ⟨q1, q2, q3, q4⟩ := hq
      have q2' : RdR g5 s1 d := q2
      have q3' : RdB g5 s2 r := q3
      have q4' : Fr g4.size s1 := q4
      have hfr := pSpans_FR hs
      simp only [retP, finF] at hp
      rw [if_pos hfr] at hp
      have rr6 : RdB g6 s2 r := RdB.kbox y5.wf (Box.kx x5 F4') u6 (noU8_f9 _) q3'
      refine RQ.ok hp q1 ⟨⟨rfl, rfl, rfl, rfl, rfl, rfl, rfl⟩, rdB_nil _, Rd.up (Rd.up q2' u6 (fun a ha e => by have := q4' a ha; omega)) u7 (fun a ha e => by have := q4' a ha; omega)⟩ (RdB.kbox y6.wf (Box.ku u6 (show ¬ h.size = g0.size by omega) (Box.kx x5 X4)) u7 (noU8_f9 _) rr6) x7
  have hk1 : 1 <= k /\ k <= 12 := by omega
  have hix : ixIT .i64 [0, 0, 0, 3, 4, 2, 1, 2, 2, 0, 1, 1, 1] k = some (cntV k : Int) := by
    rcases (by omega : k = 1 \/ k = 3 \/ k = 4 \/ k = 5 \/ k = 6 \/ k = 7 \/ k = 8 \/ k = 9 \/ k = 10 \/ k = 11 \/ k = 12) with rfl | rfl | rfl | rfl | rfl | rfl | rfl | rfl | rfl | rfl | rfl <;> rfl
  have hc4 := cntV_le k
  refine .op hix (PO.newB y4.wf fun g5 x5 B5 z5 w5 => ?_)
  have J5 : RJ3 h h.size g0.size g4.size g5 (f9L (k, 0, 0, 0, 0, 0, false, ⟨none, 0, 0⟩, ⟨none, 0, 0⟩)) (padV []) a2 t := ⟨y4.trans x5, Nat.le_refl _, by omega, hg4, Box.kx x5 X4, Box.kx x5 F4', B5, r4.ex x5, noU8_f9 _⟩
  have hlp := rread_loop (k := k) (cntV k) hc4 (cntV k) 0 a2 t [] g5 (by omega) rfl J5 (by omega)
  refine PO.joinD (PO.mono hlp ?_)
  clear hlp
  rw [rawL_eq k hk1.1 hk1.2 k2] at hp
  rintro (st | a) hq
  rotate_left
  · obtain ⟨⟨e, hq⟩, hne, xx⟩ := hq
    refine RQ.fail ⟨e, ?_⟩ hne xx
    rw [hp]; simp only [rawL, bindP]; rw [hq]
  obtain ⟨rest', g6, ns, r, rfl, hpl, J6⟩ := hq
  rw [List.nil_append] at J6
  have hns := pL_length k _ _ _ _ _ hpl
  have hraw : rawL k t = (if k = 3 \/ k = 9 then bindP pData fun d => retP (valL k ns d) else retP (valL k ns [])) r := by
    simp only [rawL, bindP]; rw [hpl]
  generalize g4.size = b3 at *
  generalize g0.size = b2 at *
  refine PO.join (fun st => ∃ g7, st = ((some ⟨h.size, 0, some 0⟩, (some ⟨b2, 0, some 0⟩, (k, rest'))), g7) /\ RJ3 h h.size b2 b3 g7 (f9L (yV k ns ⟨none, 0, 0⟩)) (padV ns) rest' r) ?_ ?_
  · have hn := hns.1
    dsimp only
    clear hraw hpl hns hp J5 B5 x5 hix r4 X4 F4' F4 F3 X3 r3 F2 X2 B2 B1 B0 hc4
    rcases (by omega : k = 1 \/ k = 3 \/ k = 4 \/ k = 5 \/ k = 6 \/ k = 7 \/ k = 8 \/ k = 9 \/ k = 10 \/ k = 11 \/ k = 12) with rfl | rfl | rfl | rfl | rfl | rfl | rfl | rfl | rfl | rfl | rfl
    all_goals (rcases ns with _ | ⟨n0, _ | ⟨n1, _ | ⟨n2, _ | ⟨n3, _ | ⟨n4, q⟩⟩⟩⟩⟩)
    all_goals (try (exfalso; simp [cntV] at hn; done))
    all_goals clear hn
    all_goals (repeat' (first
      | refine PO.ptr ?_
      | refine PO.condT ?_
      | refine PO.condF ?_
      | refine PO.ixA (by omega) (by omega) ?_
      | refine PO.ldI (RJ3.lb (by assumption)) rfl ?_
      | refine RJ3.stF (by assumption) (Nat.le_of_ble_eq_true rfl) rfl (by intro n hn; cases hn) (fun h2 t u => ?_)
      | refine PO.retL ⟨_, rfl, RJ3.cast (by assumption) ?_⟩))
    all_goals rfl
  rintro _ ⟨g7, rfl, J7⟩
  dsimp only
  refine PO.join (fun st => ∃ y v g8 rest2 r2, st = ((some ⟨h.size, 0, some 0⟩, (some ⟨b2, 0, some 0⟩, rest2)), g8) /\ RJ3 h h.size b2 b3 g8 (f9L y) (padV ns) rest2 r2 /\ FRd g8 y v /\ v.data.length <= 120 /\ v.spans = [] /\ rawL k t = .inr (v, r2)) ?_ ?_
  · refine PO.join (fun st => st = ((some ⟨h.size, 0, some 0⟩, (some ⟨b2, 0, some 0⟩, (rest', decide (k = 3 \/ k = 9)))), g7)) ?_ ?_
    · refine .condE (fun c => .retL ?_) (fun c => .retL ?_)
      · rw [decide_eq_true (Or.inl c)]
      · have : (k == 9) = decide (k = 3 \/ k = 9) := decide_eq_decide.2 (by omega)
        rw [this]
    rintro _ rfl
    dsimp only
    refine .condD (fun c => ?_) (fun c => .retL ⟨yV k ns ⟨none, 0, 0⟩, valL k ns [], g7, rest', r, rfl, J7, yV_frd (rdB_nil _), ?_, ?_, ?_⟩)
    · rw [if_pos c] at hraw
      refine PO.call (RData_f J7.ex.wf J7.rd (by omega)) fun a g8 ⟨x8, hq⟩ => ?_
      obtain ⟨s1, s2, e8⟩ := a
      have J8 := J7.step x8 (J7.rd.ex x8)
      refine .ptr (RJ3.stF J8 (Nat.le_of_ble_eq_true rfl) rfl (by intro n hn; cases hn) fun g9 J9 u9 => ?_)
      have J9' : RJ3 h h.size b2 b3 g9 (f9L (yV k ns s1)) (padV ns) rest' r := J9
      cases hd : pData r with
      | inl e =>
        rw [hd] at hq
        have hq' : e8 ≠ 0 := hq
        refine .condNE (fun hne => .ptr (PO.ldF J9'.fb (.ptr (PO.stZ J9'.x0 J9'.ex.wf rfl rfl fun h2 B2 u2 z2 w2 => PO.inr (.ptr (PO.ldF (x := yV k ns s1) B2 (.ret (RQ.fail ⟨e, ?_⟩ hne (u2.ex0 J9'.ex (fun A hA e => by omega))))))))) ) (fun he => absurd he hq')
        rw [hp]; simp only [bindP]; rw [hraw]; simp only [bindP]; rw [hd]
      | inr q =>
        obtain ⟨d, r2⟩ := q
        rw [hd] at hq
        obtain ⟨q1, q2, q3⟩ := hq
        have q1' : e8 = 0 := q1
        have q2' : RdB g8 s1 d := q2
        have q3' : RdB g8 s2 r2 := q3
        have hd120 : d.length <= 120 := by
          unfold pData at hd
          split at hd
          · cases hd
          · split at hd
            · cases hd
            · split at hd
              · cases hd
              · simp only [Sum.inr.injEq, Prod.mk.injEq] at hd
                rw [<- hd.1, List.length_take]; omega
        refine .condNE (fun hne => absurd q1' hne) (fun he => .retL ⟨yV k ns s1, valL k ns d, g9, s2, r2, rfl, ?_, yV_frd ?_, ?_, ?_, ?_⟩)
        · exact ⟨J9'.ex, J9'.o1, J9'.o2, J9'.o3, J9'.x0, J9'.fb, J9'.lb, RdB.kbox J8.ex.wf J8.fb u9 J8.nu q3', J9'.nu⟩
        · exact RdB.kbox J8.ex.wf J8.fb u9 J8.nu q2'
        · rw [valL_d]; exact hd120
        · rw [valL_d]
        · rw [hraw]; simp only [bindP]; rw [hd]; rfl
    · rw [valL_d]; exact Nat.zero_le _
    · rw [valL_d]
    · rw [hraw, if_neg c]; rfl
  rintro _ ⟨y, v, g8, rest2, r2, rfl, J8, hf, hd120, hsp, hrw⟩
  dsimp only
  have hp2 : pFrame l = finF v r2 := by rw [hp]; simp only [bindP]; rw [hrw]
  refine .ptr (PO.ldF J8.fb (PO.call (RRightF_f J8.ex.wf hf (by omega) (by rw [hsp]; simp)) fun a g9 ⟨ea, x9⟩ => ?_))
  subst ea
  have J9 := J8.step x9 (J8.rd.ex x9)
  unfold finF at hp2
  refine .condND (fun hn => .ptr (out_f J9.ex (Nat.le_refl _) J9.x0 J9.fb fun h4 x4 u4 => .ret (RQ.fail ⟨2, ?_⟩ (by decide : (2 : Int) ≠ 0) x4))) (fun hv => .ptr (out_f J9.ex (Nat.le_refl _) J9.x0 J9.fb fun h4 x4 u4 => .ret (RQ.ok (v := v) (r := r2) ?_ rfl ?_ ?_ x4)))
  · rw [hp2, if_neg hn]
  · rw [hp2, if_pos hv]
  · have hf9 := hf.ex x9
    refine ⟨hf9.e, RdB.kbox J9.ex.wf J9.x0 u4 (noU8_f9 _) hf9.data, ?_⟩
    have hs9 := hf9.spans
    rw [hsp] at hs9 ⊢
    exact ⟨Rd.len hs9, Rd.nil hs9, fun a ha i v hi => by simp [runsV] at hi, Rd.cap hs9⟩
  · exact RdB.kbox J9.ex.wf J9.x0 u4 (noU8_f9 _) J9.rd
theorem RMask_po {h : H} {b : Sl} {l : List UInt8} {key num : Int} (w : WF h) (hr : RdB h b l) (hl : l.length <= 2 ^ 47) (hk : U64 key) : PO (ref1_Mask key num b h) (fun (a, h1) => EX h h1 /\ RdB h1 a (mk (stepV key num) 0 l) /\ Fr h.size a) := by
  unfold ref1_Mask P.ref1_Mask
  have hlen := RdB.len hr
  have rs := stepV_rng key num
  refine PO.joinD (PO.loop (fun m st => ∃ (i : Nat) (out : Sl) (h' : H), st = ((key, (num, (b, (out, (i : Int))))), h') /\ m + i = l.length /\ BufB h' out (mk (stepV key num) 0 (l.take i)) /\ EX h h' /\ Fr h.size out) ?_ l.length _ ⟨0, ⟨none, 0, 0⟩, h, rfl, rfl, buf_nil 1 h, EX.refl w, fr_nil _⟩)
  rintro m st ⟨i, out, h', rfl, hm, hb, hx, hf⟩
  unfold P.ref1_Mask_l1
  refine .condD (fun c => ?_) (fun c => .retR ?_)
  · have hi : i < l.length := by omega
    have ht := take_succ_getD l 0 hi
    have hnz := hx.wf.nro
    refine PO.letGrow hx.wf fun g1 x1 z1 w1 n1 => ?_
    refine PO.ixB (hr.ex (hx.trans x1)) (by omega) (by omega) fun a e1 => .op e1 ?_
    rw [Int.toNat_natCast] at e1 ⊢
    refine .callE (RStep_f _ _ hk.1 hk.2 _) ?_
    rw [stepV_wrap]
    refine .callE (RStep_f _ _ rs.1 rs.2 _) ?_
    rw [stepV_wrap, upper8 _ (stepV_rng _ _), xor8]
    refine .letO ?_
    generalize hv : l.getD i 0 ^^^ UInt8.ofNat ((stepV (stepV key num) (i : Int)).toNat / 4294967296) = v
    refine PO.addNew (vs := vB [v]) w1 (by decide) (n1 15 (by omega)) (by omega) (by rw [x1.nro]; omega) fun g2 N2 B2 => .addNil ?_
    have bb : BufB g2 ⟨some ⟨h'.size + 15, 0, some 0⟩, 1, 1⟩ [v] := Box.buf (sz := 1) (n := 1) B2 N2.wf rfl (by unfold B63; omega)
    have y2 : EX h' g2 := N2.ex0 x1 (by omega)
    have hll := mk_length (stepV key num) (l.take i) 0
    have hlt : (l.take i).length = i := by rw [List.length_take]; omega
    obtain ⟨out1, h3, e3, kp3, x3, b3, _, f3⟩ := appB_ok (e := 5) N2.wf (hb.ex hx.wf y2) bb.rd (by rw [hll, hlt]; simp; omega)
    refine .callE e3 (.addOff (by decide) (.addNil (.op e1 (.chk (beq_self_eq_true _) (.addOff (by decide) (.addNil (.op e1 (.chk (beq_self_eq_true _) (.addOld (kp3.som _ B2.ne) (.addNil ?_))))))))))
    have x03 := x3 _ (hx.trans y2) hf
    refine PO.letTick x03.wf fun g5 x5 z5 w5 => .retL ⟨m - 1, by omega, i + 1, out1, g5, ?_, by omega, ?_, x03.trans x5, f3 _ (hx.trans y2).size hf⟩
    · rw [w64 (n := (i : Int) + 1) (by omega) (by omega)]; rfl
    · have he : mk (stepV key num) 0 (l.take i) ++ [v] = mk (stepV key num) 0 (l.take (i + 1)) := by
        rw [ht, mk_append, hlt, <- hv]; simp [mk]
      rw [<- he]
      exact b3.ex x03.wf x5
  · have : i = l.length := by omega
    subst this
    rw [List.take_of_length_le (Nat.le_refl _)] at hb
    exact PO.ret (b := (out, h')) ⟨hx, hb.rd, hf⟩
theorem RClose_po {h : H} {head body : Sl} {hl bl : List UInt8} {key num : Int} (w : WF h) (h1 : RdB h head hl) (h2 : RdB h body bl) (l1 : hl.length <= 2 ^ 47) (l2 : bl.length + 8 <= 2 ^ 47) (hk : U64 key) :
    PO (ref1_Close key num head body h) (fun (a, h1) => EX h h1 /\ RdB h1 a (closeV key num hl bl)) := by
  unfold ref1_Close P.ref1_Close
  have rs := stepV_rng key num
  have hml := mk_length (stepV key num) bl 0
  refine PO.call (RMask_po (num := num) w h2 (by omega) hk) fun m g1 ⟨x1, r1, f1⟩ => ?_
  refine PO.newB x1.wf fun g2 x2 B2 z2 w2 => ?_
  have b2 : BufB g2 ⟨some ⟨g1.size, 0, some 0⟩, 0, 0⟩ [] := Box.buf (sz := 1) (n := 0) B2 w2 rfl (by unfold B63; omega)
  obtain ⟨s3, g3, e3, k3, x3, b3, _, f3⟩ := appB_ok (e := 5) w2 b2 (r1.ex x2) (by simp; omega)
  have y3 : EX g1 g3 := x3 g1 x2 (fun a ha => by cases ha; exact Nat.le_refl _)
  have fr3 := f3 g1.size x2.size (fun a ha => by cases ha; exact Nat.le_refl _)
  rw [List.nil_append] at b3
  refine .callE e3 (.callE (RStep_f _ _ hk.1 hk.2 _) ?_)
  rw [stepV_wrap]
  have x03 := x1.trans y3
  refine PO.newB (l := [head, m].map encSl) x03.wf fun g4 x4 B4 z4 w4 => ?_
  have rS : RdS g4 ⟨some ⟨g3.size, 0, some 0⟩, 2, 2⟩ [head, m] := Box.rdS (n := 2) B4 w4 rfl (by unfold B63; omega)
  have rr : RdBs g4 [head, m] [hl, mk (stepV key num) 0 bl] := ⟨⟨(h1.ex x03).ex x4, l1⟩, ⟨(r1.ex y3).ex x4, by omega⟩, trivial⟩
  refine .callE (RTag_f rS rr (by simp) rs) ?_
  obtain ⟨t, g5, e5, x5, b5, _⟩ := Eight_f w4 (tagV_rng [hl, mk (stepV key num) 0 bl] _ rs)
  have x35 := x4.trans x5
  have hbl := be_length 8 (tagV (stepV key num) [hl, mk (stepV key num) 0 bl]).toNat
  obtain ⟨u, g6, e6, _, x6, b6, _, _⟩ := appB_ok (e := 5) x5.wf (b3.ex y3.wf x35) b5.rd (by omega)
  exact .callE e5 (.callE e6 (.ret ⟨x1.trans (x6 _ (y3.trans x35) fr3), b6.rd⟩))
theorem rdB_parts' {h : H} {s : Sl} {l : List UInt8} (r : RdB h s l) {n : Nat} (hn : n <= l.length) :
    (∃ s', slT 1 h s none (some (n : Int)) none = some s' /\ RdB h s' (l.take n) /\ s' = slV 1 s 0 n) /\ (∃ s', slT 1 h s (some (n : Int)) none none = some s' /\ RdB h s' (l.drop n) /\ s' = slV 1 s n s.len) := by
  constructor
  · obtain ⟨s', e, r', _, v, _⟩ := sl_hi (hi := (n : Int)) (by omega) (by unfold B63; omega) r (by omega) (by rw [r.len]; omega)
    refine ⟨s', e, ?_, by simpa using v⟩
    unfold RdB vB
    rw [List.map_take]
    simpa [vB] using r'
  · obtain ⟨s', e, r', _, v, _⟩ := sl_lo (lo := (n : Int)) (by omega) (by unfold B63; omega) r (by omega) (by rw [r.len]; omega)
    refine ⟨s', e, ?_, by simpa using v⟩
    unfold RdB vB
    rw [List.map_drop]
    simpa [vB] using r'
theorem ROpen_po {h : H} {head sealed : Sl} {hl l : List UInt8} {key num : Int} (w : WF h) (h1 : RdB h head hl) (h2 : RdB h sealed l) (l1 : hl.length <= 2 ^ 47) (l2 : l.length <= 2 ^ 47) (hk : U64 key) :
    PO (ref1_Open key num head sealed h) (fun (a, h1) => EX h h1 /\ a.2 = (openV key num hl l).isSome /\ RdB h1 a.1 ((openV key num hl l).getD [])) := by
  unfold ref1_Open P.ref1_Open openV
  have rs := stepV_rng key num
  have hnz := w.nro
  rw [h2.len, w64 (by omega) (by omega)]
  have htg : ∀ n, be 8 (tagV (stepV key num) [hl, l.take n]).toNat = tagL key num hl (l.take n) := fun n => rfl
  refine PO.join (fun st => ∃ h', st = ((key, (num, (sealed, ((l.length : Int) - 8, decide (¬ (8 <= l.length /\ tagL key num hl (l.take (l.length - 8)) = l.drop (l.length - 8))))))), h') /\ EX h h') ?_ ?_
  · refine PO.letGrow w fun g1 x1 z1 w1 n1 => ?_
    refine .condD (fun c => PO.letTick w1 fun g2 x2 z2 w2 => .retL ⟨g2, ?_, x1.trans x2⟩) (fun c => ?_)
    · rw [decide_eq_true (show ¬ (8 <= l.length /\ _) from fun hh => by have := hh.1; omega)]
    · obtain ⟨n, hn⟩ : ∃ n, l.length = n + 8 := ⟨l.length - 8, by omega⟩
      rw [show ((l.length : Nat) : Int) - 8 = (n : Int) by omega, show l.length - 8 = n by omega]
      refine .callE (RStep_f _ _ hk.1 hk.2 _) ?_
      rw [stepV_wrap]
      obtain ⟨⟨s1, e1, r1, v1⟩, ⟨t1, f1, q1, u1⟩⟩ := rdB_parts' (h2.ex x1) (n := n) (by omega)
      refine .op e1 (PO.addNew (vs := [head, s1].map encSl) w1 (by decide) (n1 11 (by omega)) (by omega) (by rw [x1.nro]; omega) fun g2 N2 B2 => .addNil ?_)
      have y2 : EX h g2 := N2.ex0 x1 (by omega)
      have rS : RdS g2 ⟨some ⟨h.size + 11, 0, some 0⟩, 2, 2⟩ [head, s1] := Box.rdS (n := 2) B2 N2.wf rfl (by unfold B63; omega)
      have htk : (l.take n).length = n := by rw [List.length_take]; omega
      have rr : RdBs g2 [head, s1] [hl, l.take n] := ⟨⟨h1.ex y2, l1⟩, ⟨NW.kr N2 r1, by omega⟩, trivial⟩
      refine .callE (RTag_f rS rr (by simp) rs) (.addOld B2.ne (.addNil ?_))
      obtain ⟨x3, g, e3, x3', b3, _⟩ := Eight_f y2.wf (tagV_rng [hl, l.take n] _ rs)
      have hs2 := (Box.kx x3' B2).ne
      obtain ⟨⟨s2, e2, r2, v2⟩, ⟨t2, f2, q2, u2⟩⟩ := rdB_parts' (h2.ex y2) (n := n) (by omega)
      obtain ⟨⟨s4, e4, r4, v4⟩, ⟨t4, f4, q4, u4⟩⟩ := rdB_parts' ((h2.ex y2).ex x3') (n := n) (by omega)
      have y21 : t2 = t1 := by rw [u1, u2]
      have y41 : t4 = t1 := by rw [u1, u4]
      subst y21
      subst y41
      refine .callE e3 (.addOld hs2 (.addNil (.callE (strT_ok b3.rd) (.addOff (by decide) (.addNil (.op f4 (.addOff (by decide) (.addNil (.callE (strT_ok q4) ?_)))))))))
      refine .addOff (by decide) (.addNil (.callE (strT_ok q2) (.chk (beq_self_eq_true _) ?_)))
      refine .addOff (by decide) (.addNil (.callE (strT_ok q1) (.chk (beq_self_eq_true _) ?_)))
      refine .addOff (by decide) (.addNil (.callE (strT_ok q1) (.chk (beq_self_eq_true _) ?_)))
      refine .addOff (by decide) (.addNil (.op f2 (.chk (slEq_self _) ?_)))
      refine .addOff (by decide) (.addNil (.op f1 (.chk (slEq_self _) ?_)))
      refine .addOff (by decide) (.addNil (.op f1 (.chk (slEq_self _) ?_)))
      refine .addOff (by decide) (.addNil (.op e1 (.chk (slEq_self _) (.addOld hs2 (.addNil (PO.letTick x3'.wf fun g5 x5 z5 w5 => .retL ⟨g5, ?_, (y2.trans x3').trans x5⟩))))))
      rw [bs_eq, htg]
      have : (!decide (tagL key num hl (l.take n) = l.drop n)) = decide (¬ (8 <= l.length /\ tagL key num hl (l.take n) = l.drop n)) := by
        rw [<- decide_not]; exact decide_eq_decide.2 ⟨fun a b => a b.2, fun a b => a ⟨by omega, b⟩⟩
      rw [this]
  · rintro _ ⟨h', rfl, xx⟩
    dsimp only
    refine .condD (fun c => .ret ⟨xx, ?_, ?_⟩) (fun c => ?_)
    · split
      · rfl
      · rename_i h8
        rw [if_neg (fun e => c ⟨by omega, e⟩)]; rfl
    · split
      · exact rdB_nil _
      · rename_i h8
        rw [if_neg (fun e => c ⟨by omega, e⟩)]; exact rdB_nil _
    · have hc := Decidable.byContradiction c
      obtain ⟨n, hn⟩ : ∃ n, l.length = n + 8 := ⟨l.length - 8, by omega⟩
      rw [show ((l.length : Nat) : Int) - 8 = (n : Int) by omega]
      rw [show l.length - 8 = n by omega] at hc ⊢
      obtain ⟨⟨s1, e1, r1, v1⟩, _⟩ := rdB_parts' (h2.ex xx) (n := n) (by omega)
      refine .op e1 (PO.call (RMask_po (num := num) xx.wf r1 (by simp; omega) hk) fun m g1 ⟨x1, rm, f1⟩ => .ret ⟨xx.trans x1, ?_, ?_⟩)
      · rw [if_neg (by omega), if_pos hc.2]; rfl
      · rw [if_neg (by omega), if_pos hc.2]; exact rm
end Go.Proofs.Ythiccnmplgdheaa.T

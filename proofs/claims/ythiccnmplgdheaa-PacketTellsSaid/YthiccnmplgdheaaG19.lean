/- Lemmas about the typed texts (joined: SRead2 SRead3 SRead4). -/
import Derived.Test.YthiccnmplgdheaaG18
set_option linter.unusedVariables false
set_option linter.unusedSimpArgs false
namespace Go.Proofs.Ythiccnmplgdheaa.T
open Go Go.Abs Go.Proofs
def badP : Option Int -> Int -> Bool
  | none, _ => false
  | some q, n => decide (n < 2) || decide (n > q)
def lastV : Option Int -> Int -> Int
  | none, n => n
  | some q, n => q - n
def spK : Nat -> Option Int -> RP (List Run)
  | 0, _, l => .inr ([], l)
  | k + 1, p, l => match pT 1 l with
    | .inl e => .inl e
    | .inr (ns, r) => if badP p (ns.getD 0 0) then .inl 2 else match pT 1 r with
      | .inl e => .inl e
      | .inr (ms, r2) => if ms.getD 0 0 > lastV p (ns.getD 0 0) then .inl 2 else match spK k (some (lastV p (ns.getD 0 0) - ms.getD 0 0)) r2 with
        | .inl e => .inl e
        | .inr (q, r3) => .inr ((lastV p (ns.getD 0 0) - ms.getD 0 0, lastV p (ns.getD 0 0)) :: q, r3)
def pSpans : RP (List Run) := fun l => match pT 1 l with
  | .inl e => .inl e
  | .inr (ns, r) => if ns.getD 0 0 < 1 \/ ns.getD 0 0 > 8 then .inl 2 else spK (ns.getD 0 0).toNat none r
theorem PO.appR1u {α : Type} {Q : α -> Prop} {h : H} {out : Sl} {l : List Run} {x y : Int} {n : Nat} {g : Sl -> H -> Option α} (w : WF h) (hb : BufR h out l) (hn : h.nro <= n) (hn2 : n <= h.size) (hf : Fr n out) (hl : l.length + 1 <= 2 ^ 42)
    (k : ∀ out1 h2, BufR h2 out1 (l ++ [(x, y)]) -> UP (fun A => n <= A) h h2 -> Fr n out1 -> KP h h2 -> PO (g out1 h2) Q) : PO (newO (row 36 [.int .i64 x, .int .i64 y]) h fun b h1 => bind2 (appT 36 2 16 h1 out ⟨some ⟨b, 0, some 0⟩, 1, 1⟩) g) Q := by
  refine PO.newB w fun h1 x1 B1 z1 w1 => ?_
  have r1 : RdR h1 ⟨some ⟨h.size, 0, some 0⟩, 1, 1⟩ [(x, y)] := B1.rd w1 rfl (by unfold CapOK; rw [capK_exact (by unfold B63; omega)]; exact Nat.le_refl _)
  have hb1 : BufR h1 out l := hb.ex w x1
  have hlen := RdR.len hb1.rd
  obtain ⟨s', h', e, k1, x2, b2, _, f2⟩ := appT_ok (e := 36) (bytes := 16) (by omega) (by unfold B63; omega) w1 hb1 r1 (runsV_oneC _) (by simp only; omega) (by simp only; omega)
  refine PO.callE e (k s' h' ?_ (x1.trans_up (up_of_ex w1 x2 k1 (by rw [x1.nro]; exact hn) (by omega) hf)) (f2 _ (by omega) hf) ((x1.kp w).trans k1))
  unfold BufR; rw [runsV_app]; exact b2
theorem RdrA.kp {h h' : H} {b n : Nat} {st : RSt} (k : KP h h') (u : UP (fun A => n <= A) h h') (hb : b < n) (R : RdrA h b st) : RdrA h' b st := by
  have key : ∀ l e, RdrS h b l e -> RdrS h' b l e := fun l e ⟨s, B, rd⟩ => ⟨s, Box.ku u (by omega) B, RdB.mono rd k⟩
  cases st with
  | inl e => obtain ⟨h1, l, h2, h3⟩ := R; exact ⟨h1, l, h2, key _ _ h3⟩
  | inr l => exact ⟨R.1, key _ _ R.2⟩
def cons' (acc : List Run) : Int ⊕ (List Run × List UInt8) -> Int ⊕ (List Run × List UInt8)
  | .inl e => .inl e
  | .inr (q, r) => .inr (acc ++ q, r)
/-- what the reader of spans is at -/
def SpI (F : Int ⊕ (List Run × List UInt8)) (N : Int) (acc : List Run) (m : Nat) : RSt -> Prop
  | .inl e => F = .inl e
  | .inr l => N <= 8 /\ (acc.length : Int) <= N /\ F = cons' acc (spK (N.toNat - acc.length) (lst none acc) l) /\ (∀ r ∈ acc, okN r.1) /\ m = N.toNat - acc.length + 1
theorem lst_getD : ∀ (l : List Run) (p : Option Int), l ≠ [] -> lst p l = some (l.getD (l.length - 1) (0, 0)).1
  | [r], p, _ => rfl
  | r :: q :: l, p, _ => by
    have := lst_getD (q :: l) (some r.1) (by simp)
    simpa [lst] using this
/-- the reader's state behind a step that was checked -/
theorem RdrA.st0 {h : H} {b : Nat} {st : RSt} (R : RdrA h b st) : ∃ s e, Box h b [encSl s, .int .i64 e] /\ (e = 0 ↔ ∃ l, st = .inr l) := by
  cases st with
  | inl e => obtain ⟨he, l, _, s, B, _⟩ := R; exact ⟨s, e, B, by simp [he]⟩
  | inr l => obtain ⟨_, s, B, _⟩ := R; exact ⟨s, 0, B, by simp⟩
theorem spans_loop {b nb : Nat} {g : H} {N : Int} {F : Int ⊕ (List Run × List UInt8)} (hb : b < g.size) (hnb : nb < g.size) (hne : ¬ b = nb) (wg : WF g) :
    ∀ (m : Nat) (st : ((Option Addr × (Option Addr × (Sl × Int))) × H)), (∃ (k : Nat) (out : Sl) (h' : H) (acc : List Run) (s : RSt), st = ((some ⟨b, 0, some 0⟩, (some ⟨nb, 0, some 0⟩, (out, (k : Int)))), h') /\ RdrA h' b s /\ BufR h' out acc /\ acc.length = k /\ k <= 9 /\ Box h' nb [.int .i64 N] /\ UP (· = b) g h' /\ Fr g.size out /\ SpI F N acc m s) ->
    PO (frame_reader_spans_l1 st) (Sum.elim (fun s' => ∃ n', n' < m /\ ∃ (k : Nat) (out : Sl) (h' : H) (acc : List Run) (s : RSt), s' = ((some ⟨b, 0, some 0⟩, (some ⟨nb, 0, some 0⟩, (out, (k : Int)))), h') /\ RdrA h' b s /\ BufR h' out acc /\ acc.length = k /\ k <= 9 /\ Box h' nb [.int .i64 N] /\ UP (· = b) g h' /\ Fr g.size out /\ SpI F N acc n' s)
      (Sum.elim (fun a => ∃ acc, RdR a.2 a.1 acc /\ acc.length <= 9 /\ isV F acc /\ RdrA a.2 b (stO F) /\ UP (· = b) g a.2 /\ Fr g.size a.1) (fun _ => False))) := by
  rintro m _ ⟨k, out, h', acc, s, rfl, R, hbuf, hacc, hk9, Bn, U, hf, hI⟩
  unfold frame_reader_spans_l1 P.frame_reader_spans_l1
  refine PO.join (fun st => ∃ c : Bool, st = ((some ⟨b, 0, some 0⟩, (some ⟨nb, 0, some 0⟩, (out, ((k : Int), c)))), h') /\ (c = true ↔ ((k : Int) < N /\ ∃ l, s = .inr l))) ?_ ?_
  · refine .ptr (.ldI0 Bn rfl (.condD (fun c => .ptr ?_) (fun c => .retL ⟨_, rfl, ?_⟩)))
    · obtain ⟨sl, e, B, he⟩ := R.st0
      refine .ldI B rfl (.retL ⟨_, rfl, ?_⟩)
      rw [beq_iff_eq]
      exact ⟨fun h0 => ⟨c, he.1 h0⟩, fun h0 => he.2 h0.2⟩
    · simp; intro hh; exact absurd hh c
  rintro _ ⟨c, rfl, hc⟩
  refine .cond (fun ct => ?_) (fun cf => .retR ⟨acc, hbuf.rd, by omega, ?_, ?_, U, hf⟩)
  · obtain ⟨hkN, l, rfl⟩ := hc.1 ct
    obtain ⟨hN8, haN, hF, hall, hm⟩ := hI
    have w' := U.wf
    have hgs := U.size
    refine PO.newB w' fun h2 x2 B2 z2 w2 => PO.newB w2 fun h3 x3 B3 z3 w3 => PO.st10 (Box.kx x3 B2) w3 (by simp) rfl fun h4 C4 u4 z4 w4 => ?_
    refine PO.st10 (Box.ku u4 (by omega) B3) w4 (by simp) rfl fun h5 D5 u5 z5 w5 => ?_
    have C5 : Box h5 h'.size [.int .i64 0] := Box.ku u5 (by omega) C4
    have D5' : Box h5 h2.size [.int .i64 0] := D5
    have y5 : EX h' h5 := u5.ex0 (u4.ex0 (x2.trans x3) (fun A hA e => by omega)) (fun A hA e => by omega)
    refine PO.take1 (k := 0) w5 (R.ex y5) C5 (noU8_1 0) ⟨0, rfl, ok0⟩ (by omega) (by omega) fun n1 h7 hn1 C7 R7 V7 u7 => ?_
    have C7' : Box h7 h'.size [.int .i64 n1] := C7
    have U7 : UP (· = b) h' h7 := y5.trans_up u7 |>.mono (fun A hA e => by rcases e with e | e; exact e; omega)
    have D7 : Box h7 h2.size [.int .i64 0] := Box.ku u7 (by omega) D5'
    generalize hs7 : stO (stp (.inr l) (pT 1)) = s7 at R7
    have hrd : ∀ {hh : H}, UP (· = b) h' hh -> RdR hh out acc := fun u => Rd.up hbuf.rd u (fun a ha e => by have := hf a ha; omega)
    have hp1 : 0 < k -> lst none acc = some (acc.getD (k - 1) (0, 0)).1 := fun h0 => by rw [<- hacc]; exact lst_getD acc none (by intro e; subst e; simp at hacc; omega)
    have hp0 : k = 0 -> lst none acc = none := fun h0 => by have : acc = [] := List.eq_nil_of_length_eq_zero (by omega); subst this; rfl
    have hwk : 0 < k -> IntKind.wrap .i64 ((k : Int) - 1) = ((k - 1 : Nat) : Int) := fun h0 => by rw [w64 (by omega) (by omega)]; omega
    refine PO.join (fun st => ∃ (la : Int) (h8 : H) (s8 : RSt), st = ((some ⟨b, 0, some 0⟩, (some ⟨nb, 0, some 0⟩, (out, ((k : Int), (some ⟨h'.size, 0, some 0⟩, some ⟨h2.size, 0, some 0⟩))))), h8) /\ s8 = (if badP (lst none acc) n1 then failS 2 s7 else s7) /\ (badP (lst none acc) n1 = false -> la = lastV (lst none acc) n1) /\ Box h8 h'.size [.int .i64 la] /\ Box h8 h2.size [.int .i64 0] /\ RdrA h8 b s8 /\ UP (· = b) h' h8) ?_ ?_
    · refine .condD (fun ck => ?_) (fun ck => .retL ⟨n1, h7, s7, rfl, ?_, ?_, C7', D7, R7, U7⟩)
      · have ck' : 0 < k := by have : (k : Int) > 0 := ck; omega
        rw [hp1 ck', hwk ck']
        have hqm := getD_mem acc (0, 0) (show k - 1 < acc.length by omega)
        have hq := hall _ hqm
        generalize hqq : (acc.getD (k - 1) (0, 0)).1 = q at *
        refine PO.join (fun st => ∃ (h8 : H), st = ((some ⟨b, 0, some 0⟩, (some ⟨nb, 0, some 0⟩, (out, ((k : Int), (some ⟨h'.size, 0, some 0⟩, some ⟨h2.size, 0, some 0⟩))))), h8) /\ Box h8 h'.size [.int .i64 n1] /\ Box h8 h2.size [.int .i64 0] /\ RdrA h8 b (if badP (some q) n1 then failS 2 s7 else s7) /\ UP (· = b) h' h8) ?_ ?_
        · refine PO.join (fun st => st = ((some ⟨b, 0, some 0⟩, (some ⟨nb, 0, some 0⟩, (out, ((k : Int), (some ⟨h'.size, 0, some 0⟩, (some ⟨h2.size, 0, some 0⟩, badP (some q) n1)))))), h7)) ?_ ?_
          · refine .ldI0 C7' rfl (.condD (fun c2 => .retL ?_) (fun c2 => .ldI0 C7' rfl (.ixR (hrd U7) (by omega) (by omega) fun a1 _ _ _ _ e1 _ => .ixA (by omega) (by omega) ?_)))
            · have c2' : n1 < 2 := c2
              rw [show badP (some q) n1 = true by simp [badP, c2']]
            · simp only [Int.toNat_natCast, hqq] at e1
              have c2' : ¬ n1 < 2 := c2
              refine .op e1 (.retL ?_)
              rw [show badP (some q) n1 = decide (n1 > q) by simp [badP, c2']]
          · rintro _ rfl
            refine .cond (fun cb => PO.call (fail_f U7.wf R7 (by decide)) fun _ h8 ⟨R8, u8⟩ => .retL ⟨h8, rfl, Box.ku u8 (by omega) C7', Box.ku u8 (by omega) D7, by rw [cb]; exact R8, U7.trans u8 (fun A _ e => e)⟩) (fun cb => .retL ⟨h7, rfl, C7', D7, by rw [cb]; exact R7, U7⟩)
        · rintro _ ⟨h8, rfl, C8, D8, R8, U8⟩
          show PO (bindO (ixT 2 out (IntKind.wrap .i64 ((k : Int) - 1))) _) _
          rw [hwk ck']
          refine .ixR (hrd U8) (by omega) (by omega) fun a1 _ _ _ _ e1 _ => .ixA (by omega) (by omega) ?_
          simp only [Int.toNat_natCast, hqq] at e1
          refine .op e1 (.ptr (.ldI0 C8 rfl (.ptr (PO.st10 C8 U8.wf (by simp) rfl fun h9 C9 u9 z9 w9 => .retL ⟨_, h9, _, rfl, rfl, ?_, C9, Box.ku u9 (by omega) D8, R8.up U8.wf C8 (noU8_1 _) (by omega) u9, ?_⟩))))
          · intro hb0
            unfold okN at hq hn1
            rw [w64 (by omega) (by omega)]; rfl
          · exact ⟨Nat.le_trans U8.size u9.size, u9.nro.trans U8.nro, w9, fun A hA hn => (u9.same A (Nat.lt_of_lt_of_le hA U8.size) (by omega)).trans (U8.same A hA hn), u9.st.trans U8.st⟩
      · have ck' : k = 0 := by have : ¬ (k : Int) > 0 := ck; omega
        rw [hp0 ck']; rfl
      · have ck' : k = 0 := by have : ¬ (k : Int) > 0 := ck; omega
        rw [hp0 ck']; intro _; rfl
    · rintro _ ⟨la, h8, s8, rfl, hs8, hla, C8, D8, R8, U8⟩
      have hbb := R8.blt
      refine PO.take1 (k := 0) U8.wf R8 D8 (noU8_1 0) ⟨0, rfl, ok0⟩ (by omega) hbb fun n2 h10 hn2 D10 R10 V10 u10 => ?_
      have D10' : Box h10 h2.size [.int .i64 n2] := D10
      have C10 : Box h10 h'.size [.int .i64 la] := Box.ku u10 (by omega) C8
      have U10 : UP (· = b) h' h10 := U8.trans u10 (fun A hA e => by rcases e with e | e; exact e; omega)
      generalize hs10 : stO (stp s8 (pT 1)) = s10 at R10
      refine PO.join (fun st => ∃ (h11 : H), st = ((some ⟨b, 0, some 0⟩, (some ⟨nb, 0, some 0⟩, (out, ((k : Int), (some ⟨h'.size, 0, some 0⟩, some ⟨h2.size, 0, some 0⟩))))), h11) /\ Box h11 h'.size [.int .i64 la] /\ Box h11 h2.size [.int .i64 n2] /\ RdrA h11 b (if n2 > la then failS 2 s10 else s10) /\ UP (· = b) h' h11) ?_ ?_
      · refine .ptr (.ldI0 D10' rfl (.ptr (.ldI0 C10 rfl (.condD (fun cb => PO.call (fail_f U10.wf R10 (by decide)) fun _ h8 ⟨R8, u8⟩ => .retL ⟨h8, rfl, Box.ku u8 (by omega) C10, Box.ku u8 (by omega) D10', by rw [if_pos cb]; exact R8, U10.trans u8 (fun A _ e => e)⟩) (fun cb => .retL ⟨h10, rfl, C10, D10', by rw [if_neg cb]; exact R10, U10⟩)))))
      · rintro _ ⟨h11, rfl, C11, D11, R11, U11⟩
        have hb11 : BufR h11 out acc := Buf.up w' hbuf U11 (fun a ha e => by have := hf a ha; omega)
        refine .ptr (.ldI0 C11 rfl (.ptr (.ldI0 D11 rfl (.ptr (.ldI0 C11 rfl ?_)))))
        refine PO.appR1u (n := g.size) U11.wf hb11 (by rw [U11.nro, U.nro]; exact wg.nro) (by have := U11.size; omega) hf (by omega) fun out1 h12 b12 u12 f12 k12 => .retL ?_
        have R12 := R11.kp k12 u12 hb
        have hwi : IntKind.wrap .i64 ((k : Int) + 1) = ((k + 1 : Nat) : Int) := by rw [w64 (by omega) (by omega)]; rfl
        rw [hwi]
        have U12 : UP (· = b) g h12 := ⟨by have := U11.size; have := u12.size; omega, u12.nro.trans (U11.nro.trans U.nro), u12.wf, fun A hA hn => (u12.same A (by have := U11.size; omega) (by omega)).trans ((U11.same A (by omega) hn).trans (U.same A hA hn)), u12.st.trans (U11.st.trans U.st)⟩
        have Bn12 : Box h12 nb [.int .i64 N] := Box.ku u12 (by omega) (Box.ku U11 (fun e => hne e.symm) Bn)
        refine ⟨m - 1, by omega, k + 1, out1, h12, _, _, rfl, R12, b12, by simp [hacc], by omega, Bn12, U12, f12, ?_⟩
        obtain ⟨j, hj⟩ : ∃ j, N.toNat - acc.length = j + 1 := ⟨N.toNat - acc.length - 1, by omega⟩
        have hqok : ∀ q, lst none acc = some q -> okN q := by
          intro q hq
          rcases Nat.eq_zero_or_pos k with h0 | h0
          · rw [hp0 h0] at hq; simp at hq
          · rw [hp1 h0] at hq; cases hq
            exact hall _ (getD_mem acc (0, 0) (by omega))
        rw [hj] at hF
        simp only [spK] at hF
        rw [show stp (.inr l) (pT 1) = pT 1 l from rfl] at hs7 V7
        cases hp : pT 1 l with
        | inl e =>
          rw [hp] at hs7 hF
          have e7 : s7 = .inl e := hs7.symm
          subst e7
          have e8 : s8 = .inl e := by rw [hs8]; split <;> rfl
          subst e8
          have e10 : s10 = .inl e := hs10.symm
          subst e10
          simp only [failS, ite_self]
          exact hF
        | inr x =>
          obtain ⟨ns, r⟩ := x
          rw [hp] at hs7 hF
          have hv := V7 ns r hp
          subst hv
          have e7 : s7 = .inr r := hs7.symm
          subst e7
          simp only [List.getD_cons_zero] at hF
          cases hbd : badP (lst none acc) n1 with
          | true =>
            rw [hbd] at hs8 hF
            have e8 : s8 = .inl 2 := hs8
            subst e8
            have e10 : s10 = .inl 2 := hs10.symm
            subst e10
            simp only [failS, ite_self]
            exact hF
          | false =>
            rw [hbd] at hs8 hF
            have e8 : s8 = .inr r := hs8
            subst e8
            have hlv := hla hbd
            rw [<- hlv] at hF
            rw [show stp (.inr r) (pT 1) = pT 1 r from rfl] at hs10 V10
            cases hp2 : pT 1 r with
            | inl e =>
              rw [hp2] at hs10 hF
              have e10 : s10 = .inl e := hs10.symm
              subst e10
              simp only [failS, ite_self]
              exact hF
            | inr x =>
              obtain ⟨ms, r2⟩ := x
              rw [hp2] at hs10 hF
              have hv2 := V10 ms r2 hp2
              subst hv2
              have e10 : s10 = .inr r2 := hs10.symm
              subst e10
              simp only [List.getD_cons_zero, Bool.false_eq_true, if_false] at hF
              by_cases hgt : n2 > la
              · rw [if_pos hgt] at hF ⊢
                exact hF
              · rw [if_neg hgt] at hF ⊢
                have hlaok : okN la := by
                  rw [hlv]
                  unfold okN at hn1 ⊢
                  cases hl : lst none acc with
                  | none => exact hn1
                  | some q =>
                    have hq := hqok q hl
                    rw [hl] at hbd
                    unfold okN at hq
                    simp [badP] at hbd
                    simp only [lastV]
                    omega
                unfold okN at hlaok hn2
                rw [w64 (n := la - n2) (by omega) (by omega)]
                refine ⟨hN8, by simp only [List.length_append, List.length_singleton]; omega, ?_, ?_, by simp only [List.length_append, List.length_singleton]; omega⟩
                · rw [lst_snoc, show N.toNat - (acc ++ [(la - n2, la)]).length = j by simp only [List.length_append, List.length_singleton]; omega, hF]
                  cases spK j (some (la - n2)) r2 with
                  | inl e => rfl
                  | inr y => simp [cons']
                · intro y hy
                  rcases List.mem_append.1 hy with hy | hy
                  · exact hall y hy
                  · simp at hy; subst hy; unfold okN; simp only; omega
  · cases s with
    | inl e => intro x r hx; rw [show F = .inl e from hI] at hx; simp at hx
    | inr l =>
      obtain ⟨hN8, haN, hF, _, _⟩ := hI
      have : ¬ (k : Int) < N := fun hh => by rw [hc.2 ⟨hh, l, rfl⟩] at cf; simp at cf
      have h0 : N.toNat - acc.length = 0 := by omega
      rw [h0] at hF
      intro x r hx
      rw [hF] at hx
      simp [spK, cons'] at hx
      exact hx.1.symm
  · cases s with
    | inl e => rw [show F = .inl e from hI]; exact R
    | inr l =>
      obtain ⟨hN8, haN, hF, _, _⟩ := hI
      have : ¬ (k : Int) < N := fun hh => by rw [hc.2 ⟨hh, l, rfl⟩] at cf; simp at cf
      have h0 : N.toNat - acc.length = 0 := by omega
      rw [h0] at hF
      rw [hF]
      exact R
def spansK : Int ⊕ (List Int × List UInt8) -> Int ⊕ (List Run × List UInt8)
  | .inl e => .inl e
  | .inr (ns, r) => if ns.getD 0 0 < 1 \/ ns.getD 0 0 > 8 then .inl 2 else spK (ns.getD 0 0).toNat none r
theorem stp_pSpans (st : RSt) : stp st pSpans = spansK (stp st (pT 1)) := by
  cases st with
  | inl e => rfl
  | inr l =>
    show pSpans l = spansK (pT 1 l)
    unfold pSpans
    cases pT 1 l <;> rfl
theorem rspans_f {h : H} {b : Nat} {st : RSt} (w : WF h) (R : RdrA h b st) : PO (frame_reader_spans (some ⟨b, 0, some 0⟩) h) (fun (a, h1) => (∃ d, RdR h1 a d /\ d.length <= 9 /\ isV (stp st pSpans) d) /\ RdrA h1 b (stO (stp st pSpans)) /\ UP (· = b) h h1 /\ Fr h.size a) := by
  unfold frame_reader_spans
  have hb := R.blt
  refine PO.newB w fun h1 x1 B1 z1 w1 => PO.st10 B1 w1 (by simp) rfl fun h2 B2 u2 z2 w2 => ?_
  have y2 : EX h h2 := u2.ex0 x1 (fun A hA e => by omega)
  have B2' : Box h2 h.size [.int .i64 0] := B2
  refine PO.take1 (k := 0) w2 (R.ex y2) B2' (noU8_1 0) ⟨0, rfl, ok0⟩ (by omega) (by omega) fun n h3 hn T3 R3 V3 u3 => ?_
  have T3' : Box h3 h.size [.int .i64 n] := T3
  have U3 : UP (· = b) h h3 := y2.trans_up u3 |>.mono (fun A hA e => by rcases e with e | e; exact e; omega)
  have hsz3 := T3'.blt
  rw [stp_pSpans]
  generalize hs3 : stO (stp st (pT 1)) = s3 at R3
  refine PO.join (fun st => ∃ h4, st = ((some ⟨b, 0, some 0⟩, some ⟨h.size, 0, some 0⟩), h4) /\ Box h4 h.size [.int .i64 n] /\ RdrA h4 b (if n < 1 \/ n > 8 then failS 2 s3 else s3) /\ UP (· = b) h h4) ?_ ?_
  · refine PO.join (fun st => st = ((some ⟨b, 0, some 0⟩, (some ⟨h.size, 0, some 0⟩, decide (n < 1 \/ n > 8))), h3)) ?_ ?_
    · refine .ldI0 T3' rfl (.condD (fun c => .retL ?_) (fun c => .ldI0 T3' rfl (.retL ?_)))
      · have c' : n < 1 := c
        rw [decide_eq_true (show n < 1 \/ n > 8 from .inl c')]
      · have c' : ¬ n < 1 := c
        rw [show decide (n < 1 \/ n > 8) = decide (n > 8) by simp [c']]
    · rintro _ rfl
      refine .condD (fun c => PO.call (fail_f U3.wf R3 (by decide)) fun _ h4 ⟨R4, u4⟩ => .retL ⟨h4, rfl, Box.ku u4 (by omega) T3', by rw [if_pos c]; exact R4, U3.trans u4 (fun A _ e => e)⟩) (fun c => .retL ⟨h3, rfl, T3', by rw [if_neg c]; exact R3, U3⟩)
  · rintro _ ⟨h4, rfl, T4, R4, U4⟩
    have hsz4 := T4.blt
    refine PO.joinD (PO.mono (P := Sum.elim (fun a => ∃ acc, RdR a.2 a.1 acc /\ acc.length <= 9 /\ isV (spansK (stp st (pT 1))) acc /\ RdrA a.2 b (stO (spansK (stp st (pT 1)))) /\ UP (· = b) h4 a.2 /\ Fr h4.size a.1) (fun _ => False)) ?_ ?_)
    · refine PO.loop (fun m st' => ∃ (k : Nat) (out : Sl) (h' : H) (acc : List Run) (s : RSt), st' = ((some ⟨b, 0, some 0⟩, (some ⟨h.size, 0, some 0⟩, (out, (k : Int)))), h') /\ RdrA h' b s /\ BufR h' out acc /\ acc.length = k /\ k <= 9 /\ Box h' h.size [.int .i64 n] /\ UP (· = b) h4 h' /\ Fr h4.size out /\ SpI (spansK (stp st (pT 1))) n acc m s) (spans_loop (by omega) hsz4 (by omega) U4.wf) (n.toNat + 1) _ ⟨0, _, h4, [], _, rfl, R4, buf_nil 2 h4, rfl, by omega, T4, UP.refl U4.wf, fr_nil _, ?_⟩
      cases hq : stp st (pT 1) with
      | inl e =>
        rw [hq] at hs3
        have e3 : s3 = .inl e := hs3.symm
        subst e3
        simp only [failS, ite_self]
        exact rfl
      | inr q =>
        obtain ⟨ns, r⟩ := q
        have hv := V3 ns r hq
        subst hv
        rw [hq] at hs3
        have e3 : s3 = .inr r := hs3.symm
        subst e3
        by_cases hc : n < 1 \/ n > 8
        · rw [if_pos hc]
          show spansK (.inr ([n], r)) = _
          simp only [spansK, List.getD_cons_zero]
          rw [if_pos hc]
        · rw [if_neg hc]
          refine ⟨by omega, by simp; omega, ?_, by simp, by simp⟩
          simp only [spansK, List.getD_cons_zero]
          rw [if_neg hc]
          show _ = cons' [] (spK (n.toNat - 0) none r)
          rw [Nat.sub_zero]
          cases spK n.toNat none r with
          | inl e => rfl
          | inr y => simp [cons']
    · rintro (⟨out, h5⟩ | _) hp
      · obtain ⟨acc, g1, g2, g3, g4, g5, g6⟩ := hp
        exact .ret ⟨⟨acc, g1, g2, g3⟩, g4, U4.trans g5 (fun A _ e => e), Fr.mono g6 U4.size⟩
      · exact hp.elim
def bindP {α β : Type} (p : RP α) (f : α -> RP β) : RP β := fun l => match p l with
  | .inl e => .inl e
  | .inr (a, r) => f a r
def retP {α : Type} (a : α) : RP α := fun l => .inr (a, l)
theorem stp_bind {α β : Type} {st : RSt} {p : RP α} {a : α} (f : α -> RP β) (V : isV (stp st p) a) : stp st (bindP p f) = stp (stO (stp st p)) (f a) := by
  cases st with
  | inl e => rfl
  | inr l =>
    simp only [stp, bindP]
    cases hp : p l with
    | inl e => rfl
    | inr x =>
      obtain ⟨y, r⟩ := x
      have := V y r hp
      subst this
      rfl
theorem stp_ret {α : Type} (st : RSt) (a : α) : stO (stp st (retP a)) = st /\ isV (stp st (retP a)) a := by
  cases st with
  | inl e => exact ⟨rfl, fun x l e => by simp [stp] at e⟩
  | inr l => exact ⟨rfl, fun x l e => by simp [stp, retP] at e; exact e.1.symm⟩
def finF (v : FV) : RP FV := fun l => if FR v then .inr (v, l) else .inl 2
def rawP (k : Int) : RP FV :=
  if k = 2 then bindP pSpans fun s => retP ⟨k, 0, 0, 0, 0, 0, false, [], s⟩
  else if k = 3 then bindP (pT 2) fun ns => bindP pFlag fun fl => bindP pData fun d => retP ⟨k, ns.getD 0 0, ns.getD 1 0, 0, 0, 0, fl, d, []⟩
  else if k = 4 then bindP (pT 4) fun ns => retP ⟨k, ns.getD 0 0, ns.getD 2 0, ns.getD 1 0, ns.getD 3 0, 0, false, [], []⟩
  else if k = 5 \/ k = 7 then bindP (pT 2) fun ns => retP ⟨k, ns.getD 0 0, 0, ns.getD 1 0, 0, 0, false, [], []⟩
  else if k = 6 \/ k = 12 then bindP (pT 1) fun ns => retP ⟨k, 0, 0, ns.getD 0 0, 0, 0, false, [], []⟩
  else if k = 8 then bindP (pT 1) fun ns => bindP pFlag fun fl => retP ⟨k, 0, 0, ns.getD 0 0, 0, 0, fl, [], []⟩
  else if k = 9 then bindP pData fun d => retP ⟨k, 0, 0, 0, 0, 0, false, d, []⟩
  else if k = 10 \/ k = 11 then bindP (pT 1) fun ns => retP ⟨k, ns.getD 0 0, 0, 0, 0, 0, false, [], []⟩
  else retP ⟨k, 0, 0, 0, 0, 0, false, [], []⟩
def pFrame : RP FV := bindP (pT 1) fun ns => bindP (rawP (ns.getD 0 0)) finF
theorem noU8_f9 (y : F9) : noU8 (f9L y) := by
  intro v hv n
  simp only [f9L, List.mem_cons, List.not_mem_nil, or_false] at hv
  rcases hv with rfl | rfl | rfl | rfl | rfl | rfl | rfl | rfl | rfl <;> simp
theorem PO.takeF {α : Type} {Q : α -> Prop} {h : H} {b t n : Nat} {y : F9} {st : RSt} {g : Unit -> H -> Option α} (ks : List Nat) (hn : ks.length = n) (hn9 : n <= 9) (w : WF h) (R : RdrA h b st) (T : Box h t (f9L y)) (hI : ∀ k ∈ ks, IntAt (f9L y) k) (hbt : ¬ b = t)
    (p : ∀ ns h1, ns.length = n -> (∀ x ∈ ns, okN x) -> Box h1 t (setAll (f9L y) ks ns) -> RdrA h1 b (stO (stp st (pT n))) -> isV (stp st (pT n)) ns -> UP (fun A => A = b \/ A = t) h h1 -> PO (g () h1) Q) :
    PO (newO (row 171 ((ks.map fun k => some (⟨t, 0 + k, some 0⟩ : Addr)).map .pointer)) h fun q h2 => bind2 (frame_reader_take (some ⟨b, 0, some 0⟩) ⟨some ⟨q, 0, some 0⟩, n, n⟩ h2) g) Q := by
  refine PO.newB w fun h2 x2 B2 z2 w2 => ?_
  have hT := T.blt
  have hb := R.blt
  refine PO.call (take_f (n := n) hbt (by omega) (by omega) ks hn hn9 n 0 h2 (f9L y) st (by omega) w2 (R.ex x2) (Box.kx x2 T) (noU8_f9 y) hI B2) fun _ h1 ⟨ns, g1, g2, g3, g4, g5, g6⟩ => ?_
  exact p ns h1 g1 g2 g3 g4 g5 (x2.trans_up g6)
/-- a frame that is being read -/
structure FB (h0 : H) (b t : Nat) (st : RSt) (h : H) (y : F9) (v : FV) : Prop where
  up : UP (· = b) h0 h
  box : Box h t (f9L y)
  rdr : RdrA h b st
  frd : FRd h y v
  fd : Fr (t + 1) y.2.2.2.2.2.2.2.1
  fs : Fr (t + 1) y.2.2.2.2.2.2.2.2
  ld : v.data.length <= 120
  ls : v.spans.length <= 9
def FJ (h0 : H) (b t rb : Nat) (F : Int ⊕ (FV × List UInt8)) (s : (Option Addr × Option Addr × Option Addr) × H) : Prop :=
  s.1 = (some ⟨b, 0, some 0⟩, some ⟨rb, 0, some 0⟩, some ⟨t, 0, some 0⟩) /\ ∃ y v, FB h0 b t (stO F) s.2 y v /\ isV F v
/-- what is written into the frame that is being read -/
theorem FB.st {α : Type} {Q : α -> Prop} {h0 h : H} {b t i : Nat} {st : RSt} {y : F9} {v : FV} {x : Value} {f : H -> Option α} (B : FB h0 b t st h y v) (hb : b < h0.size) (ht : h0.size <= t) (hi : i < 9) (ho : oneC x = true)
    (p : ∀ h1, Box h1 t ((f9L y).set i x) -> RdrA h1 b st -> UP (· = b) h0 h1 -> UP (· = t) h h1 -> PO (f h1) Q) : PO (bindO (Abs.st1 h (add ⟨t, 0, some 0⟩ i) x) f) Q :=
  PO.st1 B.box B.up.wf (by simpa using hi) ho fun h1 B1 u1 z1 w1 => p h1 B1 (B.rdr.up B.up.wf B.box (noU8_f9 y) (by omega) u1)
    ⟨Nat.le_trans B.up.size u1.size, u1.nro.trans B.up.nro, w1, fun A hA hn => (u1.same A (Nat.lt_of_lt_of_le hA B.up.size) (by omega)).trans (B.up.same A hA hn), u1.st.trans B.up.st⟩ u1
theorem FB.upU {h0 h h1 : H} {b t : Nat} {st : RSt} {y : F9} {v : FV} (B : FB h0 b t st h y v) (ht : h0.size <= t) (u : UP (fun A => A = b \/ A = t) h h1) : UP (· = b) h0 h1 :=
  ⟨Nat.le_trans B.up.size u.size, u.nro.trans B.up.nro, u.wf, fun A hA hn => (u.same A (Nat.lt_of_lt_of_le hA B.up.size) (by omega)).trans (B.up.same A hA hn), u.st.trans B.up.st⟩
theorem fjOut {h0 h : H} {b t rb : Nat} {F : Int ⊕ (FV × List UInt8)} {st : RSt} {y : F9} {v : FV} (B : FB h0 b t st h y v) (hF : stO F = st) (V : isV F v) : FJ h0 b t rb F ((some ⟨b, 0, some 0⟩, some ⟨rb, 0, some 0⟩, some ⟨t, 0, some 0⟩), h) := ⟨rfl, y, v, hF ▸ B, V⟩
theorem retOut {st st' : RSt} {p : RP FV} {v : FV} (h : stp st p = stp st' (retP v)) : stO (stp st p) = st' /\ isV (stp st p) v := by rw [h]; exact stp_ret st' v
theorem leafI {α : Type} {Q : α -> Prop} {h0 h : H} {b t rb n : Nat} {k : Int} {st : RSt} {y0 : F9} {v0 : FV} (B : FB h0 b t st h y0 v0) (hb : b < h0.size) (ht : h0.size <= t) (ks : List Nat) (hn : ks.length = n) (hn9 : n <= 9) (hI : ∀ k ∈ ks, IntAt (f9L y0) k) (yy : List Int -> F9) (mk : List Int -> FV)
    (hraw : rawP k = bindP (pT n) fun ns => retP (mk ns)) (hset : ∀ ns : List Int, ns.length = n -> setAll (f9L y0) ks ns = f9L (yy ns)) (hfr : ∀ ns h, FRd h (yy ns) (mk ns) /\ Fr (t + 1) (yy ns).2.2.2.2.2.2.2.1 /\ Fr (t + 1) (yy ns).2.2.2.2.2.2.2.2 /\ (mk ns).data.length <= 120 /\ (mk ns).spans.length <= 9) :
    PO (newO (row 171 ((ks.map fun k => some (⟨t, 0 + k, some 0⟩ : Addr)).map .pointer)) h fun q h2 => bind2 (frame_reader_take (some ⟨b, 0, some 0⟩) ⟨some ⟨q, 0, some 0⟩, n, n⟩ h2) fun _ h1 => some (Sum.inl ((some ⟨b, 0, some 0⟩, some ⟨rb, 0, some 0⟩, some ⟨t, 0, some 0⟩), h1))) (Sum.elim (FJ h0 b t rb (stp st (rawP k))) Q) := by
  refine PO.takeF ks hn hn9 B.up.wf B.rdr B.box hI (by omega) fun ns h5 hl hok T5 R5 V5 u5 => ?_
  rw [hset ns hl] at T5
  obtain ⟨f1, f2, f3, f4, f5⟩ := hfr ns h5
  obtain ⟨o1, o2⟩ := retOut (p := rawP k) (v := mk ns) (by rw [hraw]; exact stp_bind _ V5)
  exact .retL (fjOut ⟨B.upU ht u5, T5, R5, f1, f2, f3, f4, f5⟩ o1 o2)
theorem rframe_f {h : H} {b : Nat} {l : List UInt8} (w : WF h) (R : RdrA h b (.inr l)) : PO (frame_reader_frame (some ⟨b, 0, some 0⟩) h) (fun (x, h1) => (∃ v, FRd h1 x v /\ isV (pFrame l) v) /\ RdrA h1 b (stO (pFrame l)) /\ UP (· = b) h h1 /\ Fr h.size x.2.2.2.2.2.2.2.1 /\ Fr h.size x.2.2.2.2.2.2.2.2) := by
  unfold frame_reader_frame
  have hb := R.blt
  refine PO.newB w fun g0 x0 B0 z0 w0 => PO.newB w0 fun g1 x1 B1 z1 w1 => ?_
  have hne : ¬ b = g0.size := by omega
  refine PO.takeF (y := f90) [0] rfl (by omega) w1 ((R.ex x0).ex x1) B1 (by intro k hk; simp at hk; subst hk; exact ⟨0, rfl, ok0⟩) hne fun ns h3 hns hok T3 R3 V3 u3 => ?_
  obtain ⟨k, rfl⟩ : ∃ k, ns = [k] := by
    match ns, hns with
    | [k], _ => exact ⟨k, rfl⟩
  generalize hs3 : stO (stp (.inr l) (pT 1)) = s3 at R3
  have T3' : Box h3 g0.size (f9L (k, 0, 0, 0, 0, 0, false, ⟨none, 0, 0⟩, ⟨none, 0, 0⟩)) := T3
  have U3 : UP (· = b) g0 h3 := (x1.trans_up u3).mono (fun A hA e => by
    rcases e with e | e
    · exact e
    · exact absurd hA (by rw [e]; exact Nat.lt_irrefl _))
  have F3 : FB g0 b g0.size s3 h3 (k, 0, 0, 0, 0, 0, false, ⟨none, 0, 0⟩, ⟨none, 0, 0⟩) ⟨k, 0, 0, 0, 0, 0, false, [], []⟩ := ⟨U3, T3', R3, ⟨⟨rfl, rfl, rfl, rfl, rfl, rfl, rfl⟩, rdB_nil _, rdR_nil _⟩, fr_nil _, fr_nil _, by simp, by simp⟩
  have hb0 : b < g0.size := by omega
  have hle : g0.size <= g0.size := Nat.le_refl _
  have hraw : stp (.inr l) (bindP (pT 1) fun ns => bindP (rawP (ns.getD 0 0)) finF) = stp s3 (bindP (rawP k) finF) := by rw [stp_bind _ V3, hs3]; rfl
  refine PO.join (FJ g0 b g0.size h.size (stp s3 (rawP k))) ?_ ?_
  · refine .ldI T3' rfl ?_
    repeat' (refine .condE (fun e => ?_) (fun e => ?_))
    all_goals dsimp only at *
    all_goals (try (exfalso; omega))
    · refine PO.call (rspans_f U3.wf R3) fun a h4 ⟨⟨d, rd, hd, V4⟩, R4, u4, f4⟩ => ?_
      have B4 : FB g0 b g0.size _ h4 (k, 0, 0, 0, 0, 0, false, ⟨none, 0, 0⟩, ⟨none, 0, 0⟩) ⟨k, 0, 0, 0, 0, 0, false, [], []⟩ := ⟨U3.trans u4 (fun A _ e => e), Box.ku u4 (fun e => hne e.symm) T3', R4, ⟨⟨rfl, rfl, rfl, rfl, rfl, rfl, rfl⟩, rdB_nil _, rdR_nil _⟩, fr_nil _, fr_nil _, by simp, by simp⟩
      refine B4.st hb0 hle (by omega) rfl fun h5 T5 R5 U5 u5 => ?_
      have T5' : Box h5 g0.size (f9L (k, 0, 0, 0, 0, 0, false, ⟨none, 0, 0⟩, a)) := T5
      have hfa : Fr (g0.size + 1) a := f4.mono T3'.blt
      obtain ⟨o1, o2⟩ := retOut (p := rawP k) (v := ⟨k, 0, 0, 0, 0, 0, false, [], d⟩) (by unfold rawP; rw [if_pos e]; exact stp_bind _ V4)
      exact .retL (fjOut (v := ⟨k, 0, 0, 0, 0, 0, false, [], d⟩) ⟨U5, T5', R5, ⟨⟨rfl, rfl, rfl, rfl, rfl, rfl, rfl⟩, rdB_nil _, Rd.up rd u5 (fun p hp => by have := hfa p hp; omega)⟩, fr_nil _, hfa, by simp, hd⟩ o1 o2)
    · refine PO.takeF [1, 2] rfl (by omega) U3.wf R3 T3' (by intro j hj; simp at hj; rcases hj with rfl | rfl <;> exact ⟨0, rfl, ok0⟩) hne fun ns h5 hl hok T5 R5 V5 u5 => ?_
      obtain ⟨a, c, rfl⟩ : ∃ a c, ns = [a, c] := by
        match ns, hl with
        | [a, c], _ => exact ⟨a, c, rfl⟩
      have T5' : Box h5 g0.size (f9L (k, a, c, 0, 0, 0, false, ⟨none, 0, 0⟩, ⟨none, 0, 0⟩)) := T5
      have U5 := F3.upU hle u5
      refine PO.call (rflag_f U5.wf R5) fun fl h6 ⟨R6, V6, u6⟩ => ?_
      have B6 : FB g0 b g0.size _ h6 (k, a, c, 0, 0, 0, false, ⟨none, 0, 0⟩, ⟨none, 0, 0⟩) ⟨k, a, c, 0, 0, 0, false, [], []⟩ := ⟨U5.trans u6 (fun A _ e => e), Box.ku u6 (fun e => hne e.symm) T5', R6, ⟨⟨rfl, rfl, rfl, rfl, rfl, rfl, rfl⟩, rdB_nil _, rdR_nil _⟩, fr_nil _, fr_nil _, by simp, by simp⟩
      refine B6.st hb0 hle (by omega) rfl fun h7 T7 R7 U7 u7 => ?_
      have T7' : Box h7 g0.size (f9L (k, a, c, 0, 0, 0, fl, ⟨none, 0, 0⟩, ⟨none, 0, 0⟩)) := T7
      refine PO.call (rdata_f U7.wf R7) fun s8 h8 ⟨⟨d, rd, hd, V8⟩, R8, u8, f8⟩ => ?_
      have B8 : FB g0 b g0.size _ h8 (k, a, c, 0, 0, 0, fl, ⟨none, 0, 0⟩, ⟨none, 0, 0⟩) ⟨k, a, c, 0, 0, 0, fl, [], []⟩ := ⟨U7.trans u8 (fun A _ e => e), Box.ku u8 (fun e => hne e.symm) T7', R8, ⟨⟨rfl, rfl, rfl, rfl, rfl, rfl, rfl⟩, rdB_nil _, rdR_nil _⟩, fr_nil _, fr_nil _, by simp, by simp⟩
      refine B8.st hb0 hle (by omega) rfl fun h9 T9 R9 U9 u9 => ?_
      have T9' : Box h9 g0.size (f9L (k, a, c, 0, 0, 0, fl, s8, ⟨none, 0, 0⟩)) := T9
      have hfa : Fr (g0.size + 1) s8 := f8.mono T7'.blt
      obtain ⟨o1, o2⟩ := retOut (p := rawP k) (v := ⟨k, a, c, 0, 0, 0, fl, d, []⟩) (by
        unfold rawP
        rw [if_neg (by omega), if_pos (by assumption), stp_bind _ V5]
        exact (stp_bind _ V6).trans (stp_bind _ V8))
      exact .retL (fjOut (v := ⟨k, a, c, 0, 0, 0, fl, d, []⟩) ⟨U9, T9', R9, ⟨⟨rfl, rfl, rfl, rfl, rfl, rfl, rfl⟩, Rd.up rd u9 (fun p hp => by have := hfa p hp; omega), rdR_nil _⟩, hfa, fr_nil _, hd, by simp⟩ o1 o2)
    · exact leafI F3 hb0 hle [1, 3, 2, 4] rfl (by omega) (by intro j hj; simp at hj; rcases hj with rfl | rfl | rfl | rfl <;> exact ⟨0, rfl, ok0⟩) (fun ns => (k, ns.getD 0 0, ns.getD 2 0, ns.getD 1 0, ns.getD 3 0, 0, false, ⟨none, 0, 0⟩, ⟨none, 0, 0⟩)) (fun ns => ⟨k, ns.getD 0 0, ns.getD 2 0, ns.getD 1 0, ns.getD 3 0, 0, false, [], []⟩) (by unfold rawP; rw [if_neg (by omega), if_neg (by omega), if_pos (by omega)]) (by intro ns hl; match ns, hl with | [_, _, _, _], _ => rfl) (fun ns h => ⟨⟨⟨rfl, rfl, rfl, rfl, rfl, rfl, rfl⟩, rdB_nil _, rdR_nil _⟩, fr_nil _, fr_nil _, by simp, by simp⟩)
    · exact leafI F3 hb0 hle [1, 3] rfl (by omega) (by intro j hj; simp at hj; rcases hj with rfl | rfl <;> exact ⟨0, rfl, ok0⟩) (fun ns => (k, ns.getD 0 0, 0, ns.getD 1 0, 0, 0, false, ⟨none, 0, 0⟩, ⟨none, 0, 0⟩)) (fun ns => ⟨k, ns.getD 0 0, 0, ns.getD 1 0, 0, 0, false, [], []⟩) (by unfold rawP; rw [if_neg (by omega), if_neg (by omega), if_neg (by omega), if_pos (by omega)]) (by intro ns hl; match ns, hl with | [_, _], _ => rfl) (fun ns h => ⟨⟨⟨rfl, rfl, rfl, rfl, rfl, rfl, rfl⟩, rdB_nil _, rdR_nil _⟩, fr_nil _, fr_nil _, by simp, by simp⟩)
    · exact leafI F3 hb0 hle [1, 3] rfl (by omega) (by intro j hj; simp at hj; rcases hj with rfl | rfl <;> exact ⟨0, rfl, ok0⟩) (fun ns => (k, ns.getD 0 0, 0, ns.getD 1 0, 0, 0, false, ⟨none, 0, 0⟩, ⟨none, 0, 0⟩)) (fun ns => ⟨k, ns.getD 0 0, 0, ns.getD 1 0, 0, 0, false, [], []⟩) (by unfold rawP; rw [if_neg (by omega), if_neg (by omega), if_neg (by omega), if_pos (by omega)]) (by intro ns hl; match ns, hl with | [_, _], _ => rfl) (fun ns h => ⟨⟨⟨rfl, rfl, rfl, rfl, rfl, rfl, rfl⟩, rdB_nil _, rdR_nil _⟩, fr_nil _, fr_nil _, by simp, by simp⟩)
    · exact leafI F3 hb0 hle [3] rfl (by omega) (by intro j hj; simp at hj; subst hj; exact ⟨0, rfl, ok0⟩) (fun ns => (k, 0, 0, ns.getD 0 0, 0, 0, false, ⟨none, 0, 0⟩, ⟨none, 0, 0⟩)) (fun ns => ⟨k, 0, 0, ns.getD 0 0, 0, 0, false, [], []⟩) (by unfold rawP; rw [if_neg (by omega), if_neg (by omega), if_neg (by omega), if_neg (by omega), if_pos (by omega)]) (by intro ns hl; match ns, hl with | [_], _ => rfl) (fun ns h => ⟨⟨⟨rfl, rfl, rfl, rfl, rfl, rfl, rfl⟩, rdB_nil _, rdR_nil _⟩, fr_nil _, fr_nil _, by simp, by simp⟩)
    · exact leafI F3 hb0 hle [3] rfl (by omega) (by intro j hj; simp at hj; subst hj; exact ⟨0, rfl, ok0⟩) (fun ns => (k, 0, 0, ns.getD 0 0, 0, 0, false, ⟨none, 0, 0⟩, ⟨none, 0, 0⟩)) (fun ns => ⟨k, 0, 0, ns.getD 0 0, 0, 0, false, [], []⟩) (by unfold rawP; rw [if_neg (by omega), if_neg (by omega), if_neg (by omega), if_neg (by omega), if_pos (by omega)]) (by intro ns hl; match ns, hl with | [_], _ => rfl) (fun ns h => ⟨⟨⟨rfl, rfl, rfl, rfl, rfl, rfl, rfl⟩, rdB_nil _, rdR_nil _⟩, fr_nil _, fr_nil _, by simp, by simp⟩)
    · refine PO.takeF [3] rfl (by omega) U3.wf R3 T3' (by intro j hj; simp at hj; subst hj; exact ⟨0, rfl, ok0⟩) hne fun ns h5 hl hok T5 R5 V5 u5 => ?_
      obtain ⟨a, rfl⟩ : ∃ a, ns = [a] := by
        match ns, hl with
        | [a], _ => exact ⟨a, rfl⟩
      have T5' : Box h5 g0.size (f9L (k, 0, 0, a, 0, 0, false, ⟨none, 0, 0⟩, ⟨none, 0, 0⟩)) := T5
      have U5 := F3.upU hle u5
      refine PO.call (rflag_f U5.wf R5) fun fl h6 ⟨R6, V6, u6⟩ => ?_
      have B6 : FB g0 b g0.size _ h6 (k, 0, 0, a, 0, 0, false, ⟨none, 0, 0⟩, ⟨none, 0, 0⟩) ⟨k, 0, 0, a, 0, 0, false, [], []⟩ := ⟨U5.trans u6 (fun A _ e => e), Box.ku u6 (fun e => hne e.symm) T5', R6, ⟨⟨rfl, rfl, rfl, rfl, rfl, rfl, rfl⟩, rdB_nil _, rdR_nil _⟩, fr_nil _, fr_nil _, by simp, by simp⟩
      refine B6.st hb0 hle (by omega) rfl fun h7 T7 R7 U7 u7 => ?_
      have T7' : Box h7 g0.size (f9L (k, 0, 0, a, 0, 0, fl, ⟨none, 0, 0⟩, ⟨none, 0, 0⟩)) := T7
      obtain ⟨o1, o2⟩ := retOut (p := rawP k) (v := ⟨k, 0, 0, a, 0, 0, fl, [], []⟩) (by
        unfold rawP
        rw [if_neg (by omega), if_neg (by omega), if_neg (by omega), if_neg (by omega), if_neg (by omega), if_pos (by omega), stp_bind _ V5]
        exact stp_bind _ V6)
      exact .retL (fjOut (v := ⟨k, 0, 0, a, 0, 0, fl, [], []⟩) ⟨U7, T7', R7, ⟨⟨rfl, rfl, rfl, rfl, rfl, rfl, rfl⟩, rdB_nil _, rdR_nil _⟩, fr_nil _, fr_nil _, by simp, by simp⟩ o1 o2)
    · refine PO.call (rdata_f U3.wf R3) fun s8 h8 ⟨⟨d, rd, hd, V8⟩, R8, u8, f8⟩ => ?_
      have B8 : FB g0 b g0.size _ h8 (k, 0, 0, 0, 0, 0, false, ⟨none, 0, 0⟩, ⟨none, 0, 0⟩) ⟨k, 0, 0, 0, 0, 0, false, [], []⟩ := ⟨U3.trans u8 (fun A _ e => e), Box.ku u8 (fun e => hne e.symm) T3', R8, ⟨⟨rfl, rfl, rfl, rfl, rfl, rfl, rfl⟩, rdB_nil _, rdR_nil _⟩, fr_nil _, fr_nil _, by simp, by simp⟩
      refine B8.st hb0 hle (by omega) rfl fun h9 T9 R9 U9 u9 => ?_
      have T9' : Box h9 g0.size (f9L (k, 0, 0, 0, 0, 0, false, s8, ⟨none, 0, 0⟩)) := T9
      have hfa : Fr (g0.size + 1) s8 := f8.mono T3'.blt
      obtain ⟨o1, o2⟩ := retOut (p := rawP k) (v := ⟨k, 0, 0, 0, 0, 0, false, d, []⟩) (by
        unfold rawP
        rw [if_neg (by omega), if_neg (by omega), if_neg (by omega), if_neg (by omega), if_neg (by omega), if_neg (by omega), if_pos (by omega)]
        exact stp_bind _ V8)
      exact .retL (fjOut (v := ⟨k, 0, 0, 0, 0, 0, false, d, []⟩) ⟨U9, T9', R9, ⟨⟨rfl, rfl, rfl, rfl, rfl, rfl, rfl⟩, Rd.up rd u9 (fun p hp => by have := hfa p hp; omega), rdR_nil _⟩, hfa, fr_nil _, hd, by simp⟩ o1 o2)
    · exact leafI F3 hb0 hle [1] rfl (by omega) (by intro j hj; simp at hj; subst hj; exact ⟨0, rfl, ok0⟩) (fun ns => (k, ns.getD 0 0, 0, 0, 0, 0, false, ⟨none, 0, 0⟩, ⟨none, 0, 0⟩)) (fun ns => ⟨k, ns.getD 0 0, 0, 0, 0, 0, false, [], []⟩) (by unfold rawP; rw [if_neg (by omega), if_neg (by omega), if_neg (by omega), if_neg (by omega), if_neg (by omega), if_neg (by omega), if_neg (by omega), if_pos (by omega)]) (by intro ns hl; match ns, hl with | [_], _ => rfl) (fun ns h => ⟨⟨⟨rfl, rfl, rfl, rfl, rfl, rfl, rfl⟩, rdB_nil _, rdR_nil _⟩, fr_nil _, fr_nil _, by simp, by simp⟩)
    · exact leafI F3 hb0 hle [1] rfl (by omega) (by intro j hj; simp at hj; subst hj; exact ⟨0, rfl, ok0⟩) (fun ns => (k, ns.getD 0 0, 0, 0, 0, 0, false, ⟨none, 0, 0⟩, ⟨none, 0, 0⟩)) (fun ns => ⟨k, ns.getD 0 0, 0, 0, 0, 0, false, [], []⟩) (by unfold rawP; rw [if_neg (by omega), if_neg (by omega), if_neg (by omega), if_neg (by omega), if_neg (by omega), if_neg (by omega), if_neg (by omega), if_pos (by omega)]) (by intro ns hl; match ns, hl with | [_], _ => rfl) (fun ns h => ⟨⟨⟨rfl, rfl, rfl, rfl, rfl, rfl, rfl⟩, rdB_nil _, rdR_nil _⟩, fr_nil _, fr_nil _, by simp, by simp⟩)
    · obtain ⟨o1, o2⟩ := retOut (st := s3) (st' := s3) (p := rawP k) (v := ⟨k, 0, 0, 0, 0, 0, false, [], []⟩) (by
        unfold rawP
        rw [if_neg (by omega), if_neg (by omega), if_neg (by omega), if_neg (by omega), if_neg (by omega), if_neg (by omega), if_neg (by omega), if_neg (by omega)])
      exact .retL (fjOut F3 o1 o2)
  · rintro ⟨st, h5⟩ ⟨es, y, v, B5, V5⟩
    have es' : st = (some ⟨b, 0, some 0⟩, some ⟨h.size, 0, some 0⟩, some ⟨g0.size, 0, some 0⟩) := es
    subst es'
    have B5' : FB g0 b g0.size (stO (stp s3 (rawP k))) h5 y v := B5
    have U5 := B5'.up
    have hF : pFrame l = stp (stO (stp s3 (rawP k))) (finF v) := by
      show stp (.inr l) (bindP (pT 1) fun ns => bindP (rawP (ns.getD 0 0)) finF) = _
      rw [hraw]; exact stp_bind _ V5
    generalize stO (stp s3 (rawP k)) = s5 at *
    have hld := B5'.ld
    have hls := B5'.ls
    refine PO.join (fun st => ∃ h6, st = ((some ⟨h.size, 0, some 0⟩, some ⟨g0.size, 0, some 0⟩), h6) /\ Box h6 g0.size (f9L y) /\ RdrA h6 b (stO (pFrame l)) /\ isV (pFrame l) v /\ FRd h6 y v /\ UP (· = b) g0 h6) ?_ ?_
    · refine .ptr (PO.ldF B5'.box (PO.call (FRight_f U5.wf B5'.frd (by omega) (by omega)) fun a h6 ⟨ea, x6⟩ => ?_))
      subst ea
      have T6 := Box.kx x6 B5'.box
      have R6 := B5'.rdr.ex x6
      have fr6 := B5'.frd.ex x6
      refine .condND (fun hn => PO.call (fail_f x6.wf R6 (by decide)) fun _ h7 ⟨R7, u7⟩ => .retL ⟨h7, rfl, Box.ku u7 (fun e => hne e.symm) T6, ?_, ?_, ⟨fr6.e, Rd.up fr6.data u7 (fun a ha e => by have := B5'.fd a ha; omega), Rd.up fr6.spans u7 (fun a ha e => by have := B5'.fs a ha; omega)⟩, (U5.ex x6).trans u7 (fun A _ e => e)⟩) (fun hv => .retL ⟨h6, rfl, T6, ?_, ?_, fr6, U5.ex x6⟩)
      · rw [hF]
        cases s5 with
        | inl e => exact R7
        | inr r => simpa [stp, finF, hn, stO, failS] using R7
      · rw [hF]
        intro x r hx
        cases s5 with
        | inl e => simp [stp] at hx
        | inr r => simp [stp, finF, hn] at hx
      · rw [hF]
        cases s5 with
        | inl e => exact R6
        | inr r => simpa [stp, finF, hv, stO] using R6
      · rw [hF]
        intro x r hx
        cases s5 with
        | inl e => simp [stp] at hx
        | inr r => simp [stp, finF, hv] at hx; exact hx.1.symm
    · rintro _ ⟨h6, rfl, T6, R6, V6, fr6, U6⟩
      have hhb : ¬ h.size = b := by omega
      have B6 : Box h6 h.size (f9L f90) := Box.ku U6 hhb B0
      refine .ptr (PO.ldF T6 (.ptr ?_))
      refine PO.stZ B6 U6.wf rfl rfl fun h7 B7 u7 z7 w7 => .ptr (PO.ldF (x := y) B7 (.ret ⟨⟨v, ⟨fr6.e, Rd.up fr6.data u7 (fun a ha e => by have := B5'.fd a ha; omega), Rd.up fr6.spans u7 (fun a ha e => by have := B5'.fs a ha; omega)⟩, V6⟩, R6.up U6.wf B6 (noU8_f9 _) (by omega) u7, ?_, fun a ha => ?_, fun a ha => ?_⟩))
      · exact ⟨by have := x0.size; have := U6.size; have := u7.size; omega, u7.nro.trans (U6.nro.trans x0.nro), w7, fun A hA hn => (u7.same A (by have := U6.size; omega) (by omega)).trans ((U6.same A (by omega) hn).trans (x0.same A hA)), u7.st.trans (U6.st.trans x0.st)⟩
      · have := B5'.fd a ha; omega
      · have := B5'.fs a ha; omega
/-- a parser: takes from the front; what lies behind matters only where it says 'short' (3) -/
structure Good {α : Type} (p : RP α) : Prop where
  shr : ∀ l a r, p l = .inr (a, r) -> r.length <= l.length
  ext : ∀ l a r x, p l = .inr (a, r) -> p (l ++ x) = .inr (a, r ++ x)
  err : ∀ l e, p l = .inl e -> e = 3 \/ (e = 2 /\ ∀ x, p (l ++ x) = .inl e)
theorem Good.bind {α β : Type} {p : RP α} {f : α -> RP β} (hp : Good p) (hf : ∀ a, Good (f a)) : Good (bindP p f) := by
  refine ⟨fun l b r e => ?_, fun l b r x e => ?_, fun l e h => ?_⟩
  · simp only [bindP] at e
    cases hq : p l with
    | inl e' => rw [hq] at e; simp at e
    | inr y =>
      obtain ⟨a, r'⟩ := y
      rw [hq] at e
      exact Nat.le_trans ((hf a).shr _ _ _ e) (hp.shr _ _ _ hq)
  · simp only [bindP] at e ⊢
    cases hq : p l with
    | inl e' => rw [hq] at e; simp at e
    | inr y =>
      obtain ⟨a, r'⟩ := y
      rw [hq] at e
      rw [hp.ext _ _ _ x hq]
      exact (hf a).ext _ _ _ x e
  · simp only [bindP] at h ⊢
    cases hq : p l with
    | inl e' =>
      rw [hq] at h
      cases h
      rcases hp.err _ _ hq with h3 | ⟨h2, hx⟩
      · exact .inl h3
      · exact .inr ⟨h2, fun x => by rw [hx x]⟩
    | inr y =>
      obtain ⟨a, r'⟩ := y
      rw [hq] at h
      rcases (hf a).err _ _ h with h3 | ⟨h2, hx⟩
      · exact .inl h3
      · exact .inr ⟨h2, fun x => by rw [hp.ext _ _ _ x hq]; exact hx x⟩
theorem Good.ret {α : Type} (a : α) : Good (retP a) :=
  ⟨fun l b r e => by simp [retP] at e; rw [e.2]; exact Nat.le_refl _, fun l b r x e => by simp [retP] at e ⊢; simp [e.1, e.2], fun l e h => by simp [retP] at h⟩
def failP {α : Type} : RP α := fun _ => .inl 2
theorem Good.fail {α : Type} : Good (failP (α := α)) := ⟨fun l b r e => by simp [failP] at e, fun l b r x e => by simp [failP] at e, fun l e h => by simp only [failP, Sum.inl.injEq] at h; exact .inr ⟨h.symm, fun x => by rw [<- h]; rfl⟩⟩
theorem Good.ite {α : Type} {c : Prop} [Decidable c] {p q : RP α} (hp : Good p) (hq : Good q) : Good (if c then p else q) := by split <;> assumption
theorem tk_ext (l x : List UInt8) (h : (tk l).2.2 = 0) : tk (l ++ x) = ((tk l).1, (tk l).2.1 ++ x, 0) := by
  cases l with
  | nil => simp [tk] at h
  | cons b t =>
    simp only [tk, List.cons_append, List.length_append] at h ⊢
    split at h
    · simp at h
    · rename_i hlt
      rw [if_neg (by omega), if_neg hlt]
      have : tsz b - 1 <= t.length := by omega
      rw [List.take_append_of_le_length this, List.drop_append_of_le_length this]
theorem tk_lt (l : List UInt8) (h : (tk l).2.2 = 0) : (tk l).2.1.length < l.length := by
  cases l with
  | nil => simp [tk] at h
  | cons b t =>
    simp only [tk] at h ⊢
    split at h
    · simp at h
    · rename_i hlt
      rw [if_neg hlt]; simp; omega
theorem Good.pT : ∀ n, Good (pT n)
  | 0 => ⟨fun l a r e => by simp [T.pT, tks] at e; rw [e.2]; exact Nat.le_refl _, fun l a r x e => by simp [T.pT, tks] at e ⊢; simp [e.1, e.2], fun l e h => by simp [T.pT, tks] at h⟩
  | n + 1 => by
    have ih := Good.pT n
    refine ⟨fun l a r e => ?_, fun l a r x e => ?_, fun l e h => ?_⟩
    · rw [pT_succ] at e
      split at e
      · rename_i h0
        cases hq : T.pT n (tk l).2.1 with
        | inl e' => rw [hq] at e; simp at e
        | inr y =>
          rw [hq] at e
          simp only [Sum.inr.injEq, Prod.mk.injEq] at e
          have h1 := ih.shr _ y.1 y.2 hq
          have h2 := tk_lt l h0
          rw [<- e.2]; omega
      · simp at e
    · rw [pT_succ] at e ⊢
      split at e
      · rename_i h0
        rw [tk_ext l x h0]
        simp only [if_true]
        cases hq : T.pT n (tk l).2.1 with
        | inl e' => rw [hq] at e; simp at e
        | inr y =>
          rw [hq] at e
          simp only [Sum.inr.injEq, Prod.mk.injEq] at e
          rw [ih.ext _ y.1 y.2 x hq]
          simp [<- e.1, <- e.2]
      · simp at e
    · rw [pT_succ] at h
      split at h
      · rename_i h0
        cases hq : T.pT n (tk l).2.1 with
        | inl e' =>
          rw [hq] at h
          cases h
          rcases ih.err _ _ hq with h3 | ⟨h2, hx⟩
          · exact .inl h3
          · refine .inr ⟨h2, fun x => ?_⟩
            rw [pT_succ, tk_ext l x h0]
            simp only [if_true]
            rw [hx x]
        | inr y => rw [hq] at h; simp at h
      · simp only [Sum.inl.injEq] at h; exact .inl h.symm
theorem pFlag_eq : pFlag = bindP (pT 1) fun ns => if ns.getD 0 0 > 1 then failP else retP (decide (ns.getD 0 0 = 1)) := by
  funext l
  simp only [pFlag, bindP]
  cases pT 1 l with
  | inl e => rfl
  | inr y => simp only; split <;> rfl
def dataP (n : Int) : RP (List UInt8) := fun r => if n > (r.length : Int) then .inl 3 else .inr (r.take n.toNat, r.drop n.toNat)
theorem pData_eq : pData = bindP (pT 1) fun ns => if ns.getD 0 0 > 120 then failP else dataP (ns.getD 0 0) := by
  funext l
  simp only [pData, bindP]
  cases pT 1 l with
  | inl e => rfl
  | inr y => simp only; split <;> rfl
theorem Good.dataP (n : Int) : Good (dataP n) := by
  refine ⟨fun l a r e => ?_, fun l a r x e => ?_, fun l e h => ?_⟩
  · simp only [T.dataP] at e
    split at e
    · simp at e
    · simp at e; rw [<- e.2]; simp
  · simp only [T.dataP] at e ⊢
    split at e
    · simp at e
    · rename_i hn
      simp only [Sum.inr.injEq, Prod.mk.injEq] at e
      rw [if_neg (by simp; omega), List.take_append_of_le_length (by omega), List.drop_append_of_le_length (by omega), e.1, e.2]
  · simp only [T.dataP] at h
    split at h
    · simp only [Sum.inl.injEq] at h; exact .inl h.symm
    · simp at h
theorem spK_eq (k : Nat) (p : Option Int) : spK (k + 1) p = bindP (pT 1) fun ns => if badP p (ns.getD 0 0) then failP else bindP (pT 1) fun ms => if ms.getD 0 0 > lastV p (ns.getD 0 0) then failP else bindP (spK k (some (lastV p (ns.getD 0 0) - ms.getD 0 0))) fun q => retP ((lastV p (ns.getD 0 0) - ms.getD 0 0, lastV p (ns.getD 0 0)) :: q) := by
  funext l
  simp only [spK, bindP]
  cases pT 1 l with
  | inl e => rfl
  | inr y =>
    simp only
    split
    · rfl
    · cases hq : pT 1 y.2 with
      | inl e => simp only [bindP, hq]
      | inr z =>
        simp only [bindP, hq]
        split
        · rfl
        · cases hz : spK k (some (lastV p (y.1.getD 0 0) - z.1.getD 0 0)) z.2 <;> simp only [bindP, hz] <;> rfl
theorem Good.spK : ∀ (k : Nat) (p : Option Int), Good (spK k p)
  | 0, p => Good.ret []
  | k + 1, p => by
    rw [spK_eq]
    exact (Good.pT 1).bind fun ns => .ite .fail ((Good.pT 1).bind fun ms => .ite .fail ((Good.spK k _).bind fun q => .ret _))
theorem pSpans_eq : pSpans = bindP (pT 1) fun ns => if ns.getD 0 0 < 1 \/ ns.getD 0 0 > 8 then failP else spK (ns.getD 0 0).toNat none := by
  funext l
  simp only [pSpans, bindP]
  cases pT 1 l with
  | inl e => rfl
  | inr y => simp only; split <;> rfl
theorem Good.pSpans : Good pSpans := by rw [pSpans_eq]; exact (Good.pT 1).bind fun ns => .ite .fail (.spK _ _)
theorem Good.pFlag : Good pFlag := by rw [pFlag_eq]; exact (Good.pT 1).bind fun ns => .ite .fail (.ret _)
theorem Good.pData : Good pData := by rw [pData_eq]; exact (Good.pT 1).bind fun ns => .ite .fail (.dataP _)
theorem Good.rawP (k : Int) : Good (rawP k) := by
  unfold T.rawP
  exact .ite (Good.pSpans.bind fun _ => .ret _) (.ite ((Good.pT 2).bind fun _ => Good.pFlag.bind fun _ => Good.pData.bind fun _ => .ret _) (.ite ((Good.pT 4).bind fun _ => .ret _) (.ite ((Good.pT 2).bind fun _ => .ret _) (.ite ((Good.pT 1).bind fun _ => .ret _) (.ite ((Good.pT 1).bind fun _ => Good.pFlag.bind fun _ => .ret _) (.ite (Good.pData.bind fun _ => .ret _) (.ite ((Good.pT 1).bind fun _ => .ret _) (.ret _))))))))
theorem finF_eq (v : FV) : finF v = if FR v then retP v else failP := by
  funext l; unfold finF; split <;> rfl
theorem Good.finF (v : FV) : Good (finF v) := by rw [finF_eq]; exact .ite (.ret _) .fail
theorem pFrame_lt {l : List UInt8} {v : FV} {r : List UInt8} (h : pFrame l = .inr (v, r)) : r.length < l.length := by
  simp only [pFrame, bindP] at h
  cases hq : pT 1 l with
  | inl e => rw [hq] at h; simp at h
  | inr y =>
    obtain ⟨ns, r1⟩ := y
    rw [hq] at h
    have h1 : r1.length < l.length := by
      rw [pT_succ] at hq
      split at hq
      · rename_i h0
        have := tk_lt l h0
        simp [pT, tks] at hq
        rw [<- hq.2]; exact this
      · simp at hq
    have h2 := ((Good.rawP (ns.getD 0 0)).bind Good.finF).shr r1 v r h
    omega
end Go.Proofs.Ythiccnmplgdheaa.T

import Derived.Test.YtfbmgjanplnabaaBD
/- bund.Encode: the walk where the pool is one. -/
namespace Go.Proofs.Ytfbmgjanplnabaa
open Go.RowKit Go.Proofs.YtfbmgjanplnabaaW.PrintWords Go.Proofs.YtfbmgjanplnabaaW.PrintLast Go.Proofs.YtfbmgjanplnabaaW.PrintMore
set_option linter.unusedVariables false
set_option linter.unusedSimpArgs false

theorem EInv.next {w1 w4 : World} {L : List Value} {W : World} {vp : Value} (l : Loc) (j : Nat) {ps : List (List Int)} {b : List Int} {st : List Int × Bool} (hp : ps = partsn l j) (hb : b = encI (its l j)) (hs : st = (encI (its l j), badn l j || badI (its l j)))
    (h : EInv w1 w4 L W vp (rfs l (j + 1)) st.2 (ps ++ [b])) : EInv w1 w4 L W vp (rfs l (j + 1)) (badn l (j + 1)) (partsn l (j + 1)) := by
  subst hp hb hs
  unfold badn partsn
  exact h
theorem enc_true {l : Loc} (h1 : isPool (gp (texts l)) = true) (h2 : (bads l || badI (head l)) = false) : encOk l = true := by unfold encOk; rw [h1, h2]; rfl
theorem enc_false {l : Loc} (h2 : (bads l || badI (head l)) = true) : encOk l = false := by unfold encOk; rw [h2]; simp
set_option maxHeartbeats 8000000 in
set_option maxRecDepth 100000 in
theorem encode_ok (l : Loc) (L : List Value) (w : World) (hL : RdL w l L) (hF : Few l) (hz : l.s.ok) (hp : isPool (gp (texts l)) = true) :
    Calls Try.prog 11 #[.agg L.toArray] w (encPost l w) := by
  have HL := Aside0.mk hL
  obtain ⟨Ar, cr, Ac, cc, Ak, ck, rfl, h1, h2, h3, h4, h5, h6⟩ := hL
  have HF := Aside0.mk hF
  have HP := Aside0.mk hp
  have HZ := Aside0.mk hz
  clear hF hp hz h1 h2 h3 h4 h5 h6
  have hmf := run_makeFunc
  unfold lcells at HL ⊢
  go_enter Try.func11, Try.ntmps11
  go_wp2_with fail
  have HB1 := Aside0.mk ((Below.refl w.heap.size w).alloc (Nat.le_refl _) (.cells (lcells l (.slice Ar l.rules.length cr) (.slice Ac l.curs.length cc) (.slice Ak l.comps.length ck)).toArray 29))
  have HBX := Aside0.mk (blk_new w (.cells (lcells l (.slice Ar l.rules.length cr) (.slice Ac l.curs.length cc) (.slice Ak l.comps.length ck)).toArray 29))
  have HL1 := Aside0.mk (HL.out.below HB1.out)
  have HSZ1 := Aside0.mk (size_alloc w (.cells (lcells l (.slice Ar l.rules.length cr) (.slice Ac l.curs.length cc) (.slice Ak l.comps.length ck)).toArray 29))
  unfold lcells at HB1 HL1 HBX HSZ1
  obtain ⟨g1, hg1⟩ : ∃ g, w.heap.size = g := ⟨_, rfl⟩
  rw [hg1] at HBX HSZ1 ⊢
  have HG1 := Aside0.mk hg1
  generalize hw1 : w.alloc _ = w1 at HB1 HL1 HBX HSZ1 ⊢
  clear hg1 hw1 HL
  refine (texts_calls l _ _ HL1.out HF.out).mono ?_
  rintro e w2 ⟨v, rfl, ho, hb⟩
  obtain ⟨A, c, rfl, hr⟩ := RdS_of ho
  have HR := Aside0.mk hr
  have HB2 := Aside0.mk hb
  obtain ⟨ts, hts⟩ : ∃ ts, texts l = ts := ⟨_, rfl⟩
  have HTS := Aside0.mk hts
  have HB16 := Aside0.mk (texts_bound l HF.out)
  rw [hts] at HR HP HB16 ⊢
  clear ho hb hr hts
  go_wp2_with fail
  refine (gather_calls ts A c _ HR.out HB16.out).mono ?_
  rintro e w3 ⟨Ap, np, cp, Ag, cg, rfl, hnp, h3, h4, h5, h6, hb⟩
  have HB3 := Aside0.mk (below_then HB2.out HB2.out.size hb)
  have HR3 := Aside0.mk h5
  have HG3 := Aside0.mk h6
  have HC3 := Aside0.mk h4
  have HPL : Aside0 ((gp ts).length * 16 ≤ 140737488351232) := ⟨by have := gp_length ts; have := HB16.out; omega⟩
  obtain ⟨ps, hps⟩ : ∃ ps, gp ts = ps := ⟨_, rfl⟩
  have HPS := Aside0.mk hps
  rw [hps] at HP HR3 hnp HPL
  subst hnp
  clear h3 h4 h5 h6 hb hps HR HB2
  go_wp2_with fail
  refine (putPool_ok ps Ap cp _ HR3.out HPL.out HP.out).mono ?_
  rintro e w4 ⟨vp, rfl, ho, hb⟩
  obtain ⟨Ax, mx, cx, hvp⟩ := R_slice' ho
  subst hvp
  have HB4 := Aside0.mk (below_then HB3.out HB3.out.size hb)
  have HG4 := Aside0.mk (Kd.C_below HG3.out hb)
  have HOP := Aside0.mk (Kd.R_lower ho HB3.out.size)
  have hx := blk_below HBX.out HB4.out (by have := HSZ1.out; omega)
  have hx0 := blk_cell hx 0
  have hx1 := blk_cell hx 1
  have hx2 := blk_cell hx 2
  have hx3 := blk_cell hx 3
  have hx4 := blk_cell hx 4
  have hx5 := blk_cell hx 5
  have hx6 := blk_cell hx 6
  have hx7 := blk_cell hx 7
  have hx8 := blk_cell hx 8
  have hx9 := blk_cell hx 9
  have hx10 := blk_cell hx 10
  have hx11 := blk_cell hx 11
  have hx12 := blk_cell hx 12
  have hx13 := blk_cell hx 13
  have hx14 := blk_cell hx 14
  simp only [List.getElem?_toArray, List.getElem?_cons_zero, List.getElem?_cons_succ] at hx0 hx1 hx2 hx3 hx4 hx5 hx6 hx7 hx8 hx9 hx10 hx11 hx12 hx13 hx14
  clear hx ho hb HB3 HR3 HG3 HBX
  go_wp2_with fail
  have HW : Aside0 (EInv w1 w4 (lcells l (.slice Ar l.rules.length cr) (.slice Ac l.curs.length cc) (.slice Ak l.comps.length ck)) _ (.slice (some ⟨w4.heap.size + 1, 0, none⟩) 1 1) (rf0 l) false [poolBytes ps]) :=
    ⟨EInv.start (vq := .slice Ax mx cx) (cells := wcells (.slice none 0 0) (.slice Ag (rf0 l).length cg) (lcells l (.slice Ar l.rules.length cr) (.slice Ac l.curs.length cc) (.slice Ak l.comps.length ck)) false) HB4.out HOP.out (by unfold rf0; rw [HTS.out, gr_length]; exact HG4.out) (by unfold rf0; rw [HTS.out, gr_length]; exact HC3.out) rfl⟩
  have hln : (rf0 l).length = ts.length := by unfold rf0; rw [HTS.out, gr_length]
  rw [hln] at HW
  obtain ⟨g, hg⟩ : ∃ g, w4.heap.size = g := ⟨_, rfl⟩
  unfold wcells lcells at HW
  simp only [List.cons_append, List.nil_append] at HW
  have HG := Aside0.mk hg
  rw [hg] at HW ⊢
  unfold funcs at HW
  generalize hW0 : ((w4.alloc _).alloc _).alloc _ = W0 at HW ⊢
  clear hW0 hln hx0 hx1 hx2 hx3 hx4 hx5 hx6 hx7 hx8 hx9 hx10 hx11 hx12 hx13 hx14 HOP HG4 HC3 HPL
  have HSEC : Aside0 (∀ (j : Nat) (hj : j < 5) (w : World) (bad : Bool)
    (hS : WR w4 (lcells l (.slice Ar l.rules.length cr) (.slice Ac l.curs.length cc) (.slice Ak l.comps.length ck)) w (rfs l j) ([], bad)),
    Calls Try.prog (24 + j) #[.pointer (some ⟨w4.heap.size, 0, none⟩)] w (secPost w4 (lcells l (.slice Ar l.rules.length cr) (.slice Ac l.curs.length cc) (.slice Ak l.comps.length ck)) (rfs l (j + 1)) (its l j) bad w)) := by
    have hr4 := HL1.out.below HB4.out
    unfold RdL at hr4
    obtain ⟨Ar', cr', Ac', cc', Ak', ck', e, h1, h2, h3, h4, h5, h6⟩ := hr4
    unfold lcells at e
    injection e with _ e
    injection e with _ e
    injection e with _ e
    injection e with _ e
    injection e with _ e
    injection e with _ e
    injection e with _ e
    injection e with _ e
    injection e with _ e
    injection e with _ e
    injection e with _ e
    injection e with _ e
    injection e with e1 e
    injection e with e2 e
    injection e with e3 e
    injection e1 with e1 _ e1'
    injection e2 with e2 _ e2'
    injection e3 with e3 _ e3'
    subst e1 e1' e2 e2' e3 e3'
    exact ⟨secs w4 l _ _ _ _ _ _ h4 h5 h6 HF.out HZ.out⟩
  have HWL : Aside0 (EInv w1 w4 (lcells l (.slice Ar l.rules.length cr) (.slice Ac l.curs.length cc) (.slice Ak l.comps.length ck)) W0 (.slice (some ⟨g + 1, 0, none⟩) 1 1) (rf0 l) false [poolBytes ps]) := HW
  have hLL : (lcells l (.slice Ar l.rules.length cr) (.slice Ac l.curs.length cc) (.slice Ak l.comps.length ck)).length = 15 := rfl
  generalize lcells l (.slice Ar l.rules.length cr) (.slice Ac l.curs.length cc) (.slice Ak l.comps.length ck) = L at HSEC HWL hLL
  have HLL := Aside0.mk hLL
  clear HW hLL HL1
  rw [hg] at HSEC
  clear hg
  have HPN : Aside0 (partsn l 0 = [poolBytes ps]) := ⟨by unfold partsn; rw [HTS.out, HPS.out]⟩
  rw [← HPN.out] at HWL
  have HPP : Aside0 (isPool (gp (texts l)) = true) := ⟨by rw [HTS.out, HPS.out]; exact HP.out⟩
  clear HTS HP HPS HB16 HB4 HPN hmf
  go_loopw [9, 11, 46] (fun v9 _ i W => ∃ j : Nat, j ≤ 5 ∧ i = .int .i64 j ∧ (∃ A m c, v9 = .slice A m c) ∧ Aside0 (EInv w1 w4 L W v9 (rfs l j) (badn l j) (partsn l j))) (fun _ _ i _ => 5 - (intOf i).toNat)
  case atStart => exact ⟨0, by omega, rfl, ⟨_, _, _, rfl⟩, HWL⟩
  case round =>
    clear HWL
    obtain ⟨j, hj, rfl, ⟨A9, m9, c9, rfl⟩, HE⟩ := hrel
    by_cases hlt : j < 5
    · have hf := HE.out.fn
      have hfj := blk_cell hf j
      have hE2 := HE.out
      obtain ⟨⟨vb, hb0⟩, hbf, hbb, hbl⟩ := HE.out.wb.blk HLL.out
      have HEM := Aside0.mk (hE2.set (.slice none 0 0) [] (Kd.R_nil _ _ _ _ _))
      clear HE hbb
      rcases (by omega : j = 0 ∨ j = 1 ∨ j = 2 ∨ j = 3 ∨ j = 4) with rfl | rfl | rfl | rfl | rfl
      · skip
        (rw [List.getElem?_toArray, funcs_get _ _ (by decide)] at hfj
         rw [HG.out] at hb0 hbf hf hfj hbl HEM
         clear hf hE2
         go_wp2_with fail
         have HC := HSEC.out 0 (by decide) _ _ (HEM.out.wr)
         refine HC.mono ?_
         rintro e w6 ⟨rfl, hw6, hg6⟩
         have hM6 := HEM.out.call hw6 hg6
         obtain ⟨Ab, mb, cb, hb6, ho6⟩ := hM6.wr.cell0
         have HM6 := Aside0.mk hM6
         have HP6 := Aside0.mk (hM6.part ho6)
         have ho9 := HM6.out.own
         have hbl6 := HM6.out.wr.bel.2
         rw [HG.out] at hb6 HP6 ho9 hbl6
         have HO9 := Aside0.mk ho9
         have HS6 : Aside0 (w1.heap.size ≤ w6.heap.size) := ⟨HM6.out.below.size⟩
         have HT6 := Aside0.mk hbl6
         clear hw6 hg6 hM6 ho6 HEM hb0 hbf hfj hbl HC ho9 hbl6
         go_wp2_with ((with_reducible refine gate_builtin (b := .append) (xs := #[.tmp 55, .tmp 60]) rfl ?_); at_builtin; go_must (refine appP (w0 := w1) w1.heap.size g rfl (.tmp 55) (.tmp 60) rfl (.slice A9 m9 c9) (partsn l 0) (.slice Ab mb cb) (encI (its l 0)) rfl rfl HO9.out HP6.out HM6.out.below HS6.out HT6.out (by rw [partsn_length]; decide) ?_); intro v7 w7 ho7 hb7 hgr7 hat7; have HE7 := Aside0.mk (EInv.next l 0 rfl rfl rfl (HM6.out.appended (by rw [HG.out]; exact ho7) hb7 hgr7 hat7)); obtain ⟨A7, m7, c7, hv7⟩ := R_slice' ho7; subst hv7; clear ho7 hb7 hgr7 hat7)
         clear HM6 HP6 HO9 HS6 HT6
         go_roundw
         case rel => exact ⟨0 + 1, by omega, rfl, ⟨_, _, _, rfl⟩, HE7⟩
         case measure => simp [intOf])
      · skip
        (rw [List.getElem?_toArray, funcs_get _ _ (by decide)] at hfj
         rw [HG.out] at hb0 hbf hf hfj hbl HEM
         clear hf hE2
         go_wp2_with fail
         have HC := HSEC.out 1 (by decide) _ _ (HEM.out.wr)
         refine HC.mono ?_
         rintro e w6 ⟨rfl, hw6, hg6⟩
         have hM6 := HEM.out.call hw6 hg6
         obtain ⟨Ab, mb, cb, hb6, ho6⟩ := hM6.wr.cell0
         have HM6 := Aside0.mk hM6
         have HP6 := Aside0.mk (hM6.part ho6)
         have ho9 := HM6.out.own
         have hbl6 := HM6.out.wr.bel.2
         rw [HG.out] at hb6 HP6 ho9 hbl6
         have HO9 := Aside0.mk ho9
         have HS6 : Aside0 (w1.heap.size ≤ w6.heap.size) := ⟨HM6.out.below.size⟩
         have HT6 := Aside0.mk hbl6
         clear hw6 hg6 hM6 ho6 HEM hb0 hbf hfj hbl HC ho9 hbl6
         go_wp2_with ((with_reducible refine gate_builtin (b := .append) (xs := #[.tmp 55, .tmp 60]) rfl ?_); at_builtin; go_must (refine appP (w0 := w1) w1.heap.size g rfl (.tmp 55) (.tmp 60) rfl (.slice A9 m9 c9) (partsn l 1) (.slice Ab mb cb) (encI (its l 1)) rfl rfl HO9.out HP6.out HM6.out.below HS6.out HT6.out (by rw [partsn_length]; decide) ?_); intro v7 w7 ho7 hb7 hgr7 hat7; have HE7 := Aside0.mk (EInv.next l 1 rfl rfl rfl (HM6.out.appended (by rw [HG.out]; exact ho7) hb7 hgr7 hat7)); obtain ⟨A7, m7, c7, hv7⟩ := R_slice' ho7; subst hv7; clear ho7 hb7 hgr7 hat7)
         clear HM6 HP6 HO9 HS6 HT6
         go_roundw
         case rel => exact ⟨1 + 1, by omega, rfl, ⟨_, _, _, rfl⟩, HE7⟩
         case measure => simp [intOf])
      · skip
        (rw [List.getElem?_toArray, funcs_get _ _ (by decide)] at hfj
         rw [HG.out] at hb0 hbf hf hfj hbl HEM
         clear hf hE2
         go_wp2_with fail
         have HC := HSEC.out 2 (by decide) _ _ (HEM.out.wr)
         refine HC.mono ?_
         rintro e w6 ⟨rfl, hw6, hg6⟩
         have hM6 := HEM.out.call hw6 hg6
         obtain ⟨Ab, mb, cb, hb6, ho6⟩ := hM6.wr.cell0
         have HM6 := Aside0.mk hM6
         have HP6 := Aside0.mk (hM6.part ho6)
         have ho9 := HM6.out.own
         have hbl6 := HM6.out.wr.bel.2
         rw [HG.out] at hb6 HP6 ho9 hbl6
         have HO9 := Aside0.mk ho9
         have HS6 : Aside0 (w1.heap.size ≤ w6.heap.size) := ⟨HM6.out.below.size⟩
         have HT6 := Aside0.mk hbl6
         clear hw6 hg6 hM6 ho6 HEM hb0 hbf hfj hbl HC ho9 hbl6
         go_wp2_with ((with_reducible refine gate_builtin (b := .append) (xs := #[.tmp 55, .tmp 60]) rfl ?_); at_builtin; go_must (refine appP (w0 := w1) w1.heap.size g rfl (.tmp 55) (.tmp 60) rfl (.slice A9 m9 c9) (partsn l 2) (.slice Ab mb cb) (encI (its l 2)) rfl rfl HO9.out HP6.out HM6.out.below HS6.out HT6.out (by rw [partsn_length]; decide) ?_); intro v7 w7 ho7 hb7 hgr7 hat7; have HE7 := Aside0.mk (EInv.next l 2 rfl rfl rfl (HM6.out.appended (by rw [HG.out]; exact ho7) hb7 hgr7 hat7)); obtain ⟨A7, m7, c7, hv7⟩ := R_slice' ho7; subst hv7; clear ho7 hb7 hgr7 hat7)
         clear HM6 HP6 HO9 HS6 HT6
         go_roundw
         case rel => exact ⟨2 + 1, by omega, rfl, ⟨_, _, _, rfl⟩, HE7⟩
         case measure => simp [intOf])
      · skip
        (rw [List.getElem?_toArray, funcs_get _ _ (by decide)] at hfj
         rw [HG.out] at hb0 hbf hf hfj hbl HEM
         clear hf hE2
         go_wp2_with fail
         have HC := HSEC.out 3 (by decide) _ _ (HEM.out.wr)
         refine HC.mono ?_
         rintro e w6 ⟨rfl, hw6, hg6⟩
         have hM6 := HEM.out.call hw6 hg6
         obtain ⟨Ab, mb, cb, hb6, ho6⟩ := hM6.wr.cell0
         have HM6 := Aside0.mk hM6
         have HP6 := Aside0.mk (hM6.part ho6)
         have ho9 := HM6.out.own
         have hbl6 := HM6.out.wr.bel.2
         rw [HG.out] at hb6 HP6 ho9 hbl6
         have HO9 := Aside0.mk ho9
         have HS6 : Aside0 (w1.heap.size ≤ w6.heap.size) := ⟨HM6.out.below.size⟩
         have HT6 := Aside0.mk hbl6
         clear hw6 hg6 hM6 ho6 HEM hb0 hbf hfj hbl HC ho9 hbl6
         go_wp2_with ((with_reducible refine gate_builtin (b := .append) (xs := #[.tmp 55, .tmp 60]) rfl ?_); at_builtin; go_must (refine appP (w0 := w1) w1.heap.size g rfl (.tmp 55) (.tmp 60) rfl (.slice A9 m9 c9) (partsn l 3) (.slice Ab mb cb) (encI (its l 3)) rfl rfl HO9.out HP6.out HM6.out.below HS6.out HT6.out (by rw [partsn_length]; decide) ?_); intro v7 w7 ho7 hb7 hgr7 hat7; have HE7 := Aside0.mk (EInv.next l 3 rfl rfl rfl (HM6.out.appended (by rw [HG.out]; exact ho7) hb7 hgr7 hat7)); obtain ⟨A7, m7, c7, hv7⟩ := R_slice' ho7; subst hv7; clear ho7 hb7 hgr7 hat7)
         clear HM6 HP6 HO9 HS6 HT6
         go_roundw
         case rel => exact ⟨3 + 1, by omega, rfl, ⟨_, _, _, rfl⟩, HE7⟩
         case measure => simp [intOf])
      · skip
        (rw [List.getElem?_toArray, funcs_get _ _ (by decide)] at hfj
         rw [HG.out] at hb0 hbf hf hfj hbl HEM
         clear hf hE2
         go_wp2_with fail
         have HC := HSEC.out 4 (by decide) _ _ (HEM.out.wr)
         refine HC.mono ?_
         rintro e w6 ⟨rfl, hw6, hg6⟩
         have hM6 := HEM.out.call hw6 hg6
         obtain ⟨Ab, mb, cb, hb6, ho6⟩ := hM6.wr.cell0
         have HM6 := Aside0.mk hM6
         have HP6 := Aside0.mk (hM6.part ho6)
         have ho9 := HM6.out.own
         have hbl6 := HM6.out.wr.bel.2
         rw [HG.out] at hb6 HP6 ho9 hbl6
         have HO9 := Aside0.mk ho9
         have HS6 : Aside0 (w1.heap.size ≤ w6.heap.size) := ⟨HM6.out.below.size⟩
         have HT6 := Aside0.mk hbl6
         clear hw6 hg6 hM6 ho6 HEM hb0 hbf hfj hbl HC ho9 hbl6
         go_wp2_with ((with_reducible refine gate_builtin (b := .append) (xs := #[.tmp 55, .tmp 60]) rfl ?_); at_builtin; go_must (refine appP (w0 := w1) w1.heap.size g rfl (.tmp 55) (.tmp 60) rfl (.slice A9 m9 c9) (partsn l 4) (.slice Ab mb cb) (encI (its l 4)) rfl rfl HO9.out HP6.out HM6.out.below HS6.out HT6.out (by rw [partsn_length]; decide) ?_); intro v7 w7 ho7 hb7 hgr7 hat7; have HE7 := Aside0.mk (EInv.next l 4 rfl rfl rfl (HM6.out.appended (by rw [HG.out]; exact ho7) hb7 hgr7 hat7)); obtain ⟨A7, m7, c7, hv7⟩ := R_slice' ho7; subst hv7; clear ho7 hb7 hgr7 hat7)
         clear HM6 HP6 HO9 HS6 HT6
         go_roundw
         case rel => exact ⟨4 + 1, by omega, rfl, ⟨_, _, _, rfl⟩, HE7⟩
         case measure => simp [intOf])
    · obtain rfl : j = 5 := by omega
      clear HSEC
      have hbd := HE.out
      rw [partsn_five, badn_five] at hbd
      have HE5 := Aside0.mk hbd
      obtain ⟨⟨vb, hb0⟩, hbf, hbb, hbl⟩ := HE.out.wb.blk HLL.out
      rw [HG.out] at hb0 hbf hbl
      clear HE hbd hbb
      have HH := Aside0.mk (HE5.out.head HLL.out)
      have hcv := Lib.run_convert_bytes_const (P := Try.prog) wr 32 5 magicCells 4 4 Try.underlying32 Try.underlying5
      unfold magicCells at HH hcv
      simp only [List.size_toArray, List.length_cons, List.length_nil, Nat.reduceAdd] at hcv
      rw [HG.out] at HH
      have hb1 := Lib.cell?_alloc_marked (.cells #[.int .u8 69, .int .u8 88, .int .u8 76, .int .u8 66] 5 (4, 5)) hb0
      have hfz := (World.frozen?_alloc_past (w := wr) (.cells #[.int .u8 69, .int .u8 88, .int .u8 76, .int .u8 66] 5 (4, 5)) g 0 hbl).trans hbf
      clear HE5 hb0 hbf hbl
      go_wp2_with fail
      refine HH.out.mono ?_
      rintro e w6 ⟨rfl, hM⟩
      have HM6 := Aside0.mk hM
      clear hM HH hcv hb1 hfz
      go_wp2_with fail
      rw [← HG.out]
      refine (number_WR w4 L HLL.out _ _ _ 6 2 (.inr (.inl rfl)) HM6.out.wr ?_).mono ?_
      · exact Nat.le_trans (wnum_length _ _) (show 4 + 4 ≤ 140737488355000 by decide)
      rintro e w7 ⟨rfl, hs7, hg7⟩
      have HM7 := Aside0.mk (HM6.out.call hs7 hg7)
      rw [HG.out]
      clear HM6 hs7 hg7
      go_wp2_with fail
      have hm6 : m9 = 6 ∧ A9 = A9 := by
        obtain ⟨A', c', e, _⟩ := Kd.R_reads HM7.out.own
        injection e with _ e2 _
        exact ⟨e2, rfl⟩
      obtain ⟨rfl, _⟩ := hm6
      rw [show ((6 : Nat) : Int) = 6 from rfl]
      have HPT : Aside0 ((parts l).flatten.length ≤ 3000000) := ⟨parts_length l HF.out HPP.out⟩
      have HM8 : Aside0 (EMid w1 w4 L w7 (.slice A9 6 c9) (rfs l 5) (wrt (magic, bads l) ([(1, 2), (6, 2)] ++ hdIt 56 ((parts l).take 0))) (parts l)) := ⟨HM7.out⟩
      clear HM7
      go_loopw [12, 14, 74] (fun v12 _ i W => ∃ k : Nat, k ≤ 6 ∧ i = .int .i64 k ∧ v12 = .int .i64 (56 + sumLen (parts l) k : Nat) ∧ Aside0 (EMid w1 w4 L W (.slice A9 6 c9) (rfs l 5) (wrt (magic, bads l) ([(1, 2), (6, 2)] ++ hdIt 56 ((parts l).take k))) (parts l))) (fun _ _ i _ => 6 - (intOf i).toNat)
      case atStart => exact ⟨0, by omega, rfl, rfl, HM8⟩
      case round =>
        clear HM8
        obtain ⟨k, hk, rfl, rfl, HM⟩ := hrel
        by_cases hlt : k < 6
        · obtain ⟨A', c', e, _, hr⟩ := Kd.R_reads HM.out.own
          injection e with e1 e2 e3
          subst e1 e3
          obtain ⟨ad, A0, c0, rfl, hcell, hc0, _⟩ := at_BB hr k hlt
          have hit := hdIt_succ (parts l) 56 k hlt
          have hsum := sumLen_succ (parts l) k hlt
          have hle := sumLen_le (parts l) (k + 1)
          have hgd : (parts l).getD k [] = (parts l)[k] := by rw [List.getD_eq_getElem?_getD, List.getElem?_eq_getElem (show k < (parts l).length from hlt)]; rfl
          rw [hgd] at hcell hsum hc0
          obtain ⟨p, hp⟩ : ∃ p, (parts l)[k] = p := ⟨_, rfl⟩
          rw [hp] at hit hcell hsum hc0
          have hpt := HPT.out
          obtain ⟨s, hs⟩ : ∃ s, sumLen (parts l) k = s := ⟨_, rfl⟩
          rw [hs] at hit hsum ⊢
          have hb1 : s + p.length ≤ 3000000 := by omega
          have HIT := Aside0.mk hit
          have HSUM := Aside0.mk hsum
          obtain ⟨st, hst⟩ : ∃ st, wrt (magic, bads l) ([(1, 2), (6, 2)] ++ hdIt 56 ((parts l).take k)) = st := ⟨_, rfl⟩
          have HLN : Aside0 (st.1.length ≤ 4 + 4 * 14) := ⟨by
            rw [← hst]
            refine Nat.le_trans (wrt_length _ _) ?_
            rw [List.length_append, hdIt_length, List.length_take]
            show 4 + 4 * (2 + 2 * min k 6) ≤ 60
            omega⟩
          rw [hst] at HM
          have HST := Aside0.mk hst
          clear hit hsum hle hgd hp hs hst hr hpt e2
          go_wp2_with fail
          rw [← HG.out]
          refine (number_WR w4 L HLL.out _ _ _ _ 4 (.inr (.inr rfl)) HM.out.wr (by have := HLN.out; omega)).mono ?_
          rintro e w8 ⟨rfl, hs8, hg8⟩
          have HM9 := Aside0.mk (HM.out.call hs8 hg8)
          rw [HG.out]
          clear HM hs8 hg8 hcell
          go_wp2_with fail
          rw [← HG.out]
          refine (number_WR w4 L HLL.out _ _ _ _ 4 (.inr (.inr rfl)) HM9.out.wr (Nat.le_trans (wnum_length _ _) (by have := HLN.out; omega))).mono ?_
          rintro e w9 ⟨rfl, hs9, hg9⟩
          have HM10 := Aside0.mk (HM9.out.call hs9 hg9)
          rw [HG.out]
          clear HM9 hs9 hg9
          go_wp2_with fail
          go_roundw
          case rel =>
            refine ⟨k + 1, by omega, by go_num, ?_, ⟨?_⟩⟩
            · rw [HSUM.out]
              have : ((56 + (s + p.length) : Nat) : Int) = 56 + (s : Int) + (p.length : Int) := by omega
              rw [this]
            · rw [HIT.out, ← List.append_assoc, wrt_append, HST.out, wrt_cons, wrt_cons, wrt_nil]
              have : ((56 + s : Nat) : Int) = 56 + (s : Int) := by omega
              rw [this]
              exact HM10.out
          case measure => simp [intOf]; omega
        · obtain rfl : k = 6 := by omega
          have hh : (parts l).take 6 = parts l := List.take_of_length_le (Nat.le_refl 6)
          have hm := HM.out
          rw [hh] at hm
          have hm2 : EMid w1 w4 L wr (.slice A9 6 c9) (rfs l 5) (wrt (magic, bads l) (head l)) (parts l) := hm
          rw [wrt_eq] at hm2
          have HMF := Aside0.mk hm2
          obtain ⟨Ab, mb, cb, hb6, ho6⟩ := hm2.wr.cell0
          have HOB := Aside0.mk (Kd.R_lower ho6 (show w1.heap.size ≤ w4.heap.size + 1 from Nat.le_succ_of_le hm2.le))
          obtain ⟨_, _, hbb, hbl⟩ := hm2.wr.forget.blk HLL.out
          rw [HG.out] at hb6 hbb hbl
          clear hh hm hm2 HM ho6
          cases hbad : (bads l || badI (head l)) with
          | true =>
            have HBAD := Aside0.mk hbad
            simp only [hbad] at hbb
            clear hbad
            go_wp2
            go_ret2
            refine ⟨below_then HB1.out HB1.out.size HMF.out.below, ?_⟩
            rw [enc_false HBAD.out]
            exact rfl
          | false =>
            have HBAD := Aside0.mk hbad
            simp only [hbad] at hbb
            clear hbad
            obtain ⟨A', c', e, _, hr⟩ := Kd.R_reads HMF.out.own
            injection e with e1 e2 e3
            subst e1 e3
            have HRB := Aside0.mk hr
            obtain ⟨ys, hys⟩ : ∃ ys, (parts l).flatten = ys := ⟨_, rfl⟩
            obtain ⟨xs, hxs⟩ : ∃ xs, magic ++ encI (head l) = xs := ⟨_, rfl⟩
            obtain ⟨zs, hzs⟩ : ∃ zs, xs ++ ys = zs := ⟨_, rfl⟩
            have HYL : Aside0 (ys.length ≤ 3000000) := ⟨by rw [← hys]; exact HPT.out⟩
            have HXL : Aside0 (xs.length ≤ 4 + 4 * 14) := ⟨by
              rw [← hxs, List.length_append]
              have h1 := encI_length (head l)
              have h2 : (head l).length = 14 := by unfold head; rw [List.length_append, hdIt_length]; rfl
              rw [h2] at h1
              have h3 : magic.length = 4 := rfl
              omega⟩
            have HZL : Aside0 (zs.length + 4 ≤ 140737488355328) := ⟨by rw [← hzs, List.length_append]; have := HYL.out; have := HXL.out; omega⟩
            have HBO : Aside0 (body l = zs) := ⟨by unfold body; rw [hys, hxs, hzs]⟩
            have HZ := Aside0.mk hzs
            have HCC : Aside0 (∀ W, RdBB W A9 (parts l) → Calls Try.prog 31 #[.slice A9 6 c9] W fun e w' => ∃ v, e = .returned v ∧ OwnB w' W.heap.size v ys ∧ Below W.heap.size W w') := ⟨fun W h => by
              have := concat_calls (parts l) A9 c9 W h (by rw [hys]; have := HYL.out; omega)
              rw [hys] at this
              exact this⟩
            simp only [hxs] at HOB
            have HBW := Aside0.mk HMF.out.below
            have HBN := Aside0.mk HMF.out.le
            clear hr hys hxs hzs e2 HMF HPT
            go_wp2_with fail
            go_region_law (first
              | (go_simp; go_at_call 31; refine (HCC.out _ (Kd.C_drew HRB.out)).mono ?_; rintro e w10 ⟨v, rfl, ho, hb⟩; have HBx := Aside0.mk (below_then HBW.out.drew HBW.out.drew.size hb); have HOx := Aside0.mk (Kd.R_below (Kd.R_drew HOB.out) hb); have hb7 := (hb.cell (p := ⟨g, 0, none⟩) hbl).trans hb6; have ho3 := Kd.R_lower ho (Nat.zero_le _); obtain ⟨A2, c2, hv, hcc, hrd⟩ := Kd.R_reads ho; subst hv; have HRx := Aside0.mk hrd; clear ho hb ho3 hcc hrd; go_simp)
              | (refine appB_step (w0 := w1) w1.heap.size (by rfl) (.tmp 97) (.tmp 99) rfl (.slice Ab mb cb) xs ys _ _ rfl rfl HOx.out HRx.out HBx.out HBx.out.size (by have := HXL.out; have := HYL.out; omega) ?_; intro v1 w11 ho hb _ _; rw [HZ.out] at ho; obtain ⟨A3, c3, hv, hcc, hrd⟩ := Kd.R_reads ho; subst hv; have HRy := Aside0.mk hrd; have HBy := Aside0.mk hb; have HCy := Aside0.mk hcc; clear ho hb hcc hrd)
              | (go_simp; go_at_call 30; refine (crcPut_calls zs _ _ _ HRy.out HZL.out).mono ?_; rintro e w12 ⟨v, rfl, ho, hb⟩; have HBz := Aside0.mk (below_then HBy.out HBy.out.size hb); have HOz := Aside0.mk (Kd.R_lower ho HBy.out.size); clear ho hb; go_simp))
            all_goals go_wp2
            all_goals go_ret2
            all_goals refine ⟨below_then HB1.out HB1.out.size HBz.out, ?_⟩
            all_goals rw [enc_true HPP.out HBAD.out]
            all_goals exact ⟨_, rfl, by unfold enc; rw [HBO.out]; exact Kd.R_lower HOz.out HB1.out.size⟩

theorem encode_calls (l : Loc) (L : List Value) (w : World) (hL : RdL w l L) (hF : Few l) (hz : l.s.ok) : Calls Try.prog 11 #[.agg L.toArray] w (encPost l w) := by
  cases hp : isPool (gp (texts l)) with
  | true => exact encode_ok l L w hL hF hz hp
  | false =>
    refine (encode_bad l L w hL hF hp).mono ?_
    rintro e w' ⟨rfl, hb⟩
    refine ⟨hb, ?_⟩
    have : encOk l = false := by unfold encOk; rw [hp]; rfl
    rw [this]
end Go.Proofs.Ytfbmgjanplnabaa

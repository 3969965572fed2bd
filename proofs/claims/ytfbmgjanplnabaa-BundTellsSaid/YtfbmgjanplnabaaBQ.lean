import Derived.Test.YtfbmgjanplnabaaBP
/- exergueref16.Texts: a locale's texts. -/
namespace Go.Proofs.Ytfbmgjanplnabaa
open Go.RowKit Go.Proofs.YtfbmgjanplnabaaW.PrintWords Go.Proofs.YtfbmgjanplnabaaW.PrintLast Go.Proofs.YtfbmgjanplnabaaW.PrintMore
set_option linter.unusedVariables false
set_option linter.unusedSimpArgs false

theorem blkv {w : World} {g : Nat} {L : List Value} {t : TypeId} (h : w.heap[g]? = some (.cells L.toArray t (0, 0))) {j : Nat} {v : Value} (hv : L[j]? = some v) : w.cell? ⟨g, j, none⟩ = some v := by
  rw [blk_cell h, List.getElem?_toArray, hv]
set_option maxHeartbeats 1600000 in
set_option maxRecDepth 100000 in
theorem refTexts_calls (l : Loc) (L : List Value) (w : World) (hL : RdL w l L) (hF : Few l) :
    Calls Try.prog 20 #[.agg L.toArray] w fun e w' => ∃ v, e = .returned v ∧ OwnS w' w.heap.size v (texts l) ∧ Below w.heap.size w w' := by
  have HF := Aside0.mk hF
  have hf1 : l.rules.length ≤ 65535 := hF.1
  have hf2 : l.curs.length ≤ 65535 := hF.2.1
  have hf3 : l.comps.length ≤ 65535 := hF.2.2
  obtain ⟨Ar, cr, Ac, cc, Ak, ck, rfl, _, _, _, hr, hc, hk⟩ := hL
  have hblk := blk_new w (.cells (lcells l (.slice Ar l.rules.length cr) (.slice Ac l.curs.length cc) (.slice Ak l.comps.length ck)).toArray 29)
  have hb1 := (Below.refl w.heap.size w).alloc (Nat.le_refl _) (.cells (lcells l (.slice Ar l.rules.length cr) (.slice Ac l.curs.length cc) (.slice Ak l.comps.length ck)).toArray 29)
  have hsz := size_alloc w (.cells (lcells l (.slice Ar l.rules.length cr) (.slice Ac l.curs.length cc) (.slice Ak l.comps.length ck)).toArray 29)
  obtain ⟨L, hLe⟩ : ∃ L, lcells l (.slice Ar l.rules.length cr) (.slice Ac l.curs.length cc) (.slice Ak l.comps.length ck) = L := ⟨_, rfl⟩
  have l0 : L[0]? = some (.string l.tag) := by rw [← hLe]; rfl
  have l8 : L[8]? = some (.string l.p0) := by rw [← hLe]; rfl
  have l9 : L[9]? = some (.string l.p1) := by rw [← hLe]; rfl
  have l10 : L[10]? = some (.string l.p2) := by rw [← hLe]; rfl
  have l11 : L[11]? = some (.string l.p3) := by rw [← hLe]; rfl
  have l12 : L[12]? = some (.slice Ar l.rules.length cr) := by rw [← hLe]; rfl
  have l13 : L[13]? = some (.slice Ac l.curs.length cc) := by rw [← hLe]; rfl
  have l14 : L[14]? = some (.slice Ak l.comps.length ck) := by rw [← hLe]; rfl
  rw [hLe] at hblk hb1 hsz ⊢
  obtain ⟨w1, hw1⟩ : ∃ w1, w.alloc (.cells L.toArray 29) = w1 := ⟨_, rfl⟩
  rw [hw1] at hblk hb1 hsz
  have c0 := blkv hblk l0
  have c8 := blkv hblk l8
  have c9 := blkv hblk l9
  have c10 := blkv hblk l10
  have c11 := blkv hblk l11
  have HR := Aside0.mk (Kd.C_below hr hb1)
  have HC := Aside0.mk (Kd.C_below hc hb1)
  have HK := Aside0.mk (Kd.C_below hk hb1)
  have HKB : Aside0 (∀ W, Below w1.heap.size w1 W → W.heap[w.heap.size]? = some (.cells L.toArray 29 (0, 0))) := ⟨fun W h => blk_below hblk h (blk_lt hblk)⟩
  have H12 := Aside0.mk l12
  have H13 := Aside0.mk l13
  have H14 := Aside0.mk l14
  have HB1 := Aside0.mk hb1
  clear hr hc hk hblk hb1 hsz hLe l0 l8 l9 l10 l11 l12 l13 l14 hF
  go_enter Try.func20, Try.ntmps20
  go_wp2_with fail
  have hsz1 := size_alloc w1 (.cells #[.string l.tag, .string l.p0, .string l.p1, .string l.p2, .string l.p3] 9)
  have HO0 := Aside0.mk (own_litS w1 w1.heap.size [l.tag, l.p0, l.p1, l.p2, l.p3] (Nat.le_refl _) (by simp))
  have HB0 := Aside0.mk ((Below.refl w1.heap.size w1).alloc (Nat.le_refl _) (.cells #[.string l.tag, .string l.p0, .string l.p1, .string l.p2, .string l.p3] 9))
  have HS : Aside0 (∀ W, Below w1.heap.size w1 W → Below w.heap.size w W) := ⟨fun W h => below_then HB1.out HB1.out.size h⟩
  obtain ⟨B, hB⟩ : ∃ B, w1.heap.size = B := ⟨_, rfl⟩
  obtain ⟨g, hg⟩ : ∃ g, w.heap.size = g := ⟨_, rfl⟩
  have HBE := Aside0.mk hB
  have HGE := Aside0.mk hg
  rw [hg] at HKB ⊢
  rw [hB] at HO0 HB0 HKB HS ⊢
  clear c0 c8 c9 c10 c11 hw1 hsz1 hB hg
  have HO1 : Aside0 (OwnS (w1.alloc (.cells #[.string l.tag, .string l.p0, .string l.p1, .string l.p2, .string l.p3] 9)) B (.slice (some ⟨B, 0, none⟩) 5 5) ([l.tag, l.p0, l.p1, l.p2, l.p3] ++ ruT (l.rules.take 0))) := ⟨HO0.out⟩
  clear HO0
  go_loopw [3, 4] (fun v i W => ∃ k : Nat, k ≤ l.rules.length ∧ i = .int .i64 k ∧ Aside0 (OwnS W B v ([l.tag, l.p0, l.p1, l.p2, l.p3] ++ ruT (l.rules.take k))) ∧ Aside0 (Below B w1 W)) (fun _ i _ => l.rules.length - (intOf i).toNat)
  case atStart => exact ⟨0, by omega, rfl, HO1, HB0⟩
  case round =>
    clear HO1 HB0
    obtain ⟨k, hk, rfl, HO, HB⟩ := hrel
    have d12 := blkv (HKB.out _ HB.out) H12.out
    by_cases hlt : k < l.rules.length
    · have hrr := Kd.C_below HR.out (HBE.out.symm ▸ HB.out)
      obtain ⟨b, off, rfl, _⟩ := C_plainA pos_Rl hrr (Nat.lt_of_le_of_lt (Nat.zero_le k) hlt)
      obtain ⟨ad, e, _, h1⟩ := at_Rl hrr k hlt
      injection e with e
      subst e
      rw [plain_add, ← Nat.add_assoc] at h1
      obtain ⟨s, hs⟩ : ∃ s, l.rules[k].2 = s := ⟨_, rfl⟩
      have HT : Aside0 (ruT (l.rules.take (k + 1)) = ruT (l.rules.take k) ++ [s]) := ⟨by rw [ruT_succ l.rules k hlt, hs]⟩
      rw [hs] at h1
      have HLN : Aside0 (([l.tag, l.p0, l.p1, l.p2, l.p3] ++ ruT (l.rules.take k)).length ≤ 70000) := ⟨by rw [List.length_append]; unfold ruT; rw [List.length_map, List.length_take]; simp; omega⟩
      have HSW : Aside0 (B ≤ wr.heap.size) := ⟨by have := HB.out.size; rw [HBE.out] at this; exact this⟩
      obtain ⟨Av, mv, cv, rfl⟩ := R_slice' HO.out
      clear hrr hs
      go_wp2_with ((with_reducible refine gate_builtin (b := .append) (xs := #[.tmp 29, .tmp 36]) rfl ?_); at_builtin; refine appSS (w0 := w1) B rfl (.tmp 29) (.tmp 36) rfl (.slice Av mv cv) _ [s] (some ⟨wr.heap.size, 0, none⟩) 1 rfl rfl (Kd.R_alloc HO.out _) (C_blkS [s] (blk_new _ _) (by simp)) (HB.out.alloc HSW.out _) (Nat.le_trans HSW.out (by simp)) (by have := HLN.out; simp only [List.length_singleton]; omega) ?_; intro v2 w3 ho hb hg; have HO2 := Aside0.mk ho; have HB2 := Aside0.mk hb; clear ho hb hg)
      go_roundw
      case rel => exact ⟨k + 1, by omega, by go_num, ⟨by rw [HT.out, ← List.append_assoc]; exact HO2.out⟩, HB2⟩
      case measure => simp [intOf]; omega
    · obtain rfl : k = l.rules.length := by omega
      have ho := HO.out
      rw [List.take_length] at ho
      obtain ⟨xs1, hxs⟩ : ∃ xs, [l.tag, l.p0, l.p1, l.p2, l.p3] ++ ruT l.rules = xs := ⟨_, rfl⟩
      rw [hxs] at ho
      have HX1 := Aside0.mk hxs
      have HL1 : Aside0 (xs1.length ≤ 70000) := ⟨by rw [← hxs, List.length_append]; unfold ruT; rw [List.length_map]; simp; omega⟩
      have HO1 : Aside0 (OwnS wr B _ (xs1 ++ cuT (l.curs.take 0))) := ⟨by rw [List.take_zero]; exact (List.append_nil xs1).symm ▸ ho⟩
      clear HO hxs ho
      go_wp2_with fail
      clear d12
      go_loopw [3, 5] (fun v i W => ∃ k : Nat, k ≤ l.curs.length ∧ i = .int .i64 k ∧ Aside0 (OwnS W B v (xs1 ++ cuT (l.curs.take k))) ∧ Aside0 (Below B w1 W)) (fun _ i _ => l.curs.length - (intOf i).toNat)
      case atStart => exact ⟨0, by omega, rfl, HO1, HB⟩
      case round =>
        clear HO1 HB
        obtain ⟨k, hk, rfl, HO, HB⟩ := hrel
        have d13 := blkv (HKB.out _ HB.out) H13.out
        by_cases hlt : k < l.curs.length
        · have HRR : Aside0 (∀ W, Below B w1 W → kCu.C W Ac l.curs.length l.curs) := ⟨fun W h => Kd.C_below HC.out (HBE.out.symm ▸ h)⟩
          obtain ⟨b, off, rfl, _⟩ := C_plainA pos_Cu (HRR.out _ HB.out) (Nat.lt_of_le_of_lt (Nat.zero_le k) hlt)
          obtain ⟨s, hs⟩ : ∃ s, l.curs[k].1 = s := ⟨_, rfl⟩
          obtain ⟨t, ht⟩ : ∃ s, l.curs[k].2.1 = s := ⟨_, rfl⟩
          have HCL : Aside0 (∀ W, Below B w1 W → W.cell? ⟨b, off + k * 3, none⟩ = some (.string s) ∧ W.cell? ⟨b, off + k * 3 + 1, none⟩ = some (.string t)) := ⟨fun W h => by
            obtain ⟨ad, e, h1, h2, _⟩ := at_Cu (HRR.out _ h) k hlt
            injection e with e
            subst e
            rw [plain_add] at h1 h2
            rw [← Nat.add_assoc] at h2
            rw [hs] at h1
            rw [ht] at h2
            exact ⟨h1, h2⟩⟩
          have h1 := (HCL.out _ HB.out).1
          have HT : Aside0 (cuT (l.curs.take (k + 1)) = cuT (l.curs.take k) ++ ([s] ++ [t])) := ⟨by rw [cuT_succ l.curs k hlt, hs, ht]; rfl⟩
          have HLN : Aside0 ((xs1 ++ cuT (l.curs.take k)).length ≤ 210000) := ⟨by have := HL1.out; rw [List.length_append, cuT_length, List.length_take]; omega⟩
          have HSW : Aside0 (B ≤ wr.heap.size) := ⟨by have := HB.out.size; rw [HBE.out] at this; exact this⟩
          obtain ⟨Av, mv, cv, rfl⟩ := R_slice' HO.out
          obtain ⟨ys, hys⟩ : ∃ ys, xs1 ++ cuT (l.curs.take k) = ys := ⟨_, rfl⟩
          rw [hys] at HO HLN
          have HYS := Aside0.mk hys
          clear hs ht hys
          go_wp2_with (first
            | ((with_reducible refine gate_builtin (b := .append) (xs := #[.tmp 45, .tmp 52]) rfl ?_); at_builtin; refine appSS (w0 := w1) B rfl (.tmp 45) (.tmp 52) rfl (.slice Av mv cv) ys [s] (some ⟨wr.heap.size, 0, none⟩) 1 rfl rfl (Kd.R_alloc HO.out _) (C_blkS [s] (blk_new _ _) (by simp)) (HB.out.alloc HSW.out _) (Nat.le_trans HSW.out (by simp)) (by have := HLN.out; simp only [List.length_singleton]; omega) ?_; intro v2 w3 ho hb hg; obtain ⟨A2, m2, c2, hv⟩ := R_slice' ho; subst hv; have HO2 := Aside0.mk ho; have HB2 := Aside0.mk hb; have e13 := blkv (HKB.out _ hb) H13.out; have h2 := (HCL.out _ hb).2; have HSW2 := Aside0.mk (Nat.le_trans HSW.out (Nat.le_trans (by simp) hg.size)); clear ho hb hg d13 h1)
            | ((with_reducible refine gate_builtin (b := .append) (xs := #[.tmp 54, .tmp 61]) rfl ?_); at_builtin; refine appSS (w0 := w1) B rfl (.tmp 54) (.tmp 61) rfl (.slice A2 m2 c2) (ys ++ [s]) [t] (some ⟨w3.heap.size, 0, none⟩) 1 rfl rfl (Kd.R_alloc HO2.out _) (C_blkS [t] (blk_new _ _) (by simp)) (HB2.out.alloc HSW2.out _) (Nat.le_trans HSW2.out (by simp)) (by have := HLN.out; rw [List.length_append]; simp only [List.length_singleton]; omega) ?_; intro v4 w5 ho hb hg; have HO4 := Aside0.mk ho; have HB4 := Aside0.mk hb; clear ho hb hg e13 h2))
          go_roundw
          case rel => exact ⟨k + 1, by omega, by go_num, ⟨by rw [HT.out, ← List.append_assoc, HYS.out, ← List.append_assoc]; exact HO4.out⟩, HB4⟩
          case measure => simp [intOf]; omega
        · obtain rfl : k = l.curs.length := by omega
          have ho := HO.out
          rw [List.take_length] at ho
          obtain ⟨xs2, hxs⟩ : ∃ xs, xs1 ++ cuT l.curs = xs := ⟨_, rfl⟩
          rw [hxs] at ho
          have HX2 := Aside0.mk hxs
          have HL2 : Aside0 (xs2.length ≤ 210000) := ⟨by have := HL1.out; rw [← hxs, List.length_append, cuT_length]; omega⟩
          have HO1 : Aside0 (OwnS wr B _ (xs2 ++ cmT (l.comps.take 0))) := ⟨by rw [List.take_zero]; exact (List.append_nil xs2).symm ▸ ho⟩
          clear HO hxs ho
          go_wp2_with fail
          clear d13
          go_loopw [3, 6] (fun v i W => ∃ k : Nat, k ≤ l.comps.length ∧ i = .int .i64 k ∧ Aside0 (OwnS W B v (xs2 ++ cmT (l.comps.take k))) ∧ Aside0 (Below B w1 W)) (fun _ i _ => l.comps.length - (intOf i).toNat)
          case atStart => exact ⟨0, by omega, rfl, HO1, HB⟩
          case round =>
            clear HO1 HB
            obtain ⟨k, hk, rfl, HO, HB⟩ := hrel
            have d14 := blkv (HKB.out _ HB.out) H14.out
            by_cases hlt : k < l.comps.length
            · have hrr := Kd.C_below HK.out (HBE.out.symm ▸ HB.out)
              obtain ⟨b, off, rfl, _⟩ := C_plainA pos_Cm hrr (Nat.lt_of_le_of_lt (Nat.zero_le k) hlt)
              obtain ⟨ad, e, _, _, h1⟩ := at_Cm hrr k hlt
              injection e with e
              subst e
              rw [plain_add, ← Nat.add_assoc] at h1
              obtain ⟨s, hs⟩ : ∃ s, l.comps[k].2.2 = s := ⟨_, rfl⟩
              have HT : Aside0 (cmT (l.comps.take (k + 1)) = cmT (l.comps.take k) ++ [s]) := ⟨by rw [cmT_succ l.comps k hlt, hs]⟩
              rw [hs] at h1
              have HLN : Aside0 ((xs2 ++ cmT (l.comps.take k)).length ≤ 300000) := ⟨by have := HL2.out; rw [List.length_append]; unfold cmT; rw [List.length_map, List.length_take]; omega⟩
              have HSW : Aside0 (B ≤ wr.heap.size) := ⟨by have := HB.out.size; rw [HBE.out] at this; exact this⟩
              obtain ⟨Av, mv, cv, rfl⟩ := R_slice' HO.out
              clear hrr hs
              go_wp2_with ((with_reducible refine gate_builtin (b := .append) (xs := #[.tmp 70, .tmp 77]) rfl ?_); at_builtin; refine appSS (w0 := w1) B rfl (.tmp 70) (.tmp 77) rfl (.slice Av mv cv) _ [s] (some ⟨wr.heap.size, 0, none⟩) 1 rfl rfl (Kd.R_alloc HO.out _) (C_blkS [s] (blk_new _ _) (by simp)) (HB.out.alloc HSW.out _) (Nat.le_trans HSW.out (by simp)) (by have := HLN.out; simp only [List.length_singleton]; omega) ?_; intro v2 w3 ho hb hg; have HO2 := Aside0.mk ho; have HB2 := Aside0.mk hb; clear ho hb hg)
              go_roundw
              case rel => exact ⟨k + 1, by omega, by go_num, ⟨by rw [HT.out, ← List.append_assoc]; exact HO2.out⟩, HB2⟩
              case measure => simp [intOf]; omega
            · obtain rfl : k = l.comps.length := by omega
              have ho := HO.out
              rw [List.take_length] at ho
              have HTX : Aside0 (xs2 ++ cmT l.comps = texts l) := ⟨by unfold texts; rw [← HX2.out, ← HX1.out]⟩
              have HOE : Aside0 (OwnS wr g _ (texts l)) := ⟨by
                have h := Kd.R_lower ho (show g ≤ B by have := HB1.out.size; rw [HBE.out, HGE.out] at this; exact this)
                rw [HTX.out] at h
                exact h⟩
              have HBF : Aside0 (Below g w wr) := ⟨HGE.out ▸ HS.out _ HB.out⟩
              clear ho HO HTX
              go_wp2
              go_ret
              exact ⟨_, rfl, by rw [HGE.out]; exact HOE.out, by rw [HGE.out]; exact HBF.out⟩
end Go.Proofs.Ytfbmgjanplnabaa
/- exergueref16.may: are a locale's numbers such? -/
namespace Go.Proofs.Ytfbmgjanplnabaa
open Go.RowKit Go.Proofs.YtfbmgjanplnabaaW.PrintWords Go.Proofs.YtfbmgjanplnabaaW.PrintLast Go.Proofs.YtfbmgjanplnabaaW.PrintMore
set_option linter.unusedVariables false
set_option linter.unusedSimpArgs false

theorem may_neg {l : Loc} (z : Int) (hz : z ∈ syNums l.s) (h : ¬ 0 ≤ z) : mayB l = false := by
  unfold mayB
  have : (syNums l.s).all (fun z => decide (0 ≤ z)) = false := by
    rw [List.all_eq_false]
    exact ⟨z, hz, by simpa using h⟩
  rw [this, Bool.false_and]
theorem may_rule {l : Loc} (r : Rl) (hr : r ∈ l.rules) (h : fits r.1 1 = false) : mayB l = false := by
  unfold mayB
  have : l.rules.all (fun r => fits r.1 1) = false := by
    rw [List.all_eq_false]
    exact ⟨r, hr, by rw [h]; decide⟩
  rw [this, Bool.false_and, Bool.and_false]
theorem may_cur {l : Loc} (r : Cu) (hr : r ∈ l.curs) (h : fits r.2.2 1 = false) : mayB l = false := by
  unfold mayB
  have : l.curs.all (fun r => fits r.2.2 1) = false := by
    rw [List.all_eq_false]
    exact ⟨r, hr, by rw [h]; decide⟩
  rw [this, Bool.false_and, Bool.and_false, Bool.and_false]
theorem may_comp {l : Loc} (r : Cm) (hr : r ∈ l.comps) (h : (fits r.1 1 && fits r.2.1 1) = false) : mayB l = false := by
  unfold mayB
  have : l.comps.all (fun r => fits r.1 1 && fits r.2.1 1) = false := by
    rw [List.all_eq_false]
    exact ⟨r, hr, by rw [h]; decide⟩
  rw [this, Bool.and_false, Bool.and_false, Bool.and_false]
theorem may_yes {l : Loc} (h1 : ∀ z ∈ syNums l.s, 0 ≤ z) (h2 : ∀ r ∈ l.rules, fits r.1 1 = true) (h3 : ∀ r ∈ l.curs, fits r.2.2 1 = true) (h4 : ∀ r ∈ l.comps, (fits r.1 1 && fits r.2.1 1) = true) : mayB l = true := by
  unfold mayB
  have a1 : (syNums l.s).all (fun z => decide (0 ≤ z)) = true := by rw [List.all_eq_true]; intro z hz; simpa using h1 z hz
  have a2 : l.rules.all (fun r => fits r.1 1) = true := by rw [List.all_eq_true]; exact h2
  have a3 : l.curs.all (fun r => fits r.2.2 1) = true := by rw [List.all_eq_true]; exact h3
  have a4 : l.comps.all (fun r => fits r.1 1 && fits r.2.1 1) = true := by rw [List.all_eq_true]; exact h4
  rw [a1, a2, a3, a4]
  rfl
set_option maxHeartbeats 3200000 in
set_option maxRecDepth 100000 in
theorem may_calls (l : Loc) (L : List Value) (w : World) (hL : RdL w l L) (hF : Few l) :
    Calls Try.prog 38 #[.agg L.toArray] w fun e w' => e = .returned (.bool (mayB l)) ∧ Below w.heap.size w w' := by
  have hf1 : l.rules.length ≤ 65535 := hF.1
  have hf2 : l.curs.length ≤ 65535 := hF.2.1
  have hf3 : l.comps.length ≤ 65535 := hF.2.2
  obtain ⟨Ar, cr, Ac, cc, Ak, ck, rfl, _, _, _, hr, hc, hk⟩ := hL
  have hblk := blk_new w (.cells (lcells l (.slice Ar l.rules.length cr) (.slice Ac l.curs.length cc) (.slice Ak l.comps.length ck)).toArray 29)
  have hb1 := (Below.refl w.heap.size w).alloc (Nat.le_refl _) (.cells (lcells l (.slice Ar l.rules.length cr) (.slice Ac l.curs.length cc) (.slice Ak l.comps.length ck)).toArray 29)
  obtain ⟨L, hLe⟩ : ∃ L, lcells l (.slice Ar l.rules.length cr) (.slice Ac l.curs.length cc) (.slice Ak l.comps.length ck) = L := ⟨_, rfl⟩
  obtain ⟨z0, hz0⟩ : ∃ z, l.s.z0 = z := ⟨_, rfl⟩
  obtain ⟨z1, hz1⟩ : ∃ z, l.s.z1 = z := ⟨_, rfl⟩
  obtain ⟨z2, hz2⟩ : ∃ z, l.s.z2 = z := ⟨_, rfl⟩
  obtain ⟨z3, hz3⟩ : ∃ z, l.s.z3 = z := ⟨_, rfl⟩
  obtain ⟨z4, hz4⟩ : ∃ z, l.s.z4 = z := ⟨_, rfl⟩
  obtain ⟨z5, hz5⟩ : ∃ z, l.s.z5 = z := ⟨_, rfl⟩
  obtain ⟨z6, hz6⟩ : ∃ z, l.s.z6 = z := ⟨_, rfl⟩
  have l1 : L[1]? = some (.int .i32 z0) := by rw [← hLe, ← hz0]; rfl
  have l2 : L[2]? = some (.int .i32 z1) := by rw [← hLe, ← hz1]; rfl
  have l3 : L[3]? = some (.int .i32 z2) := by rw [← hLe, ← hz2]; rfl
  have l4 : L[4]? = some (.int .i32 z3) := by rw [← hLe, ← hz3]; rfl
  have l5 : L[5]? = some (.int .i32 z4) := by rw [← hLe, ← hz4]; rfl
  have l6 : L[6]? = some (.int .i32 z5) := by rw [← hLe, ← hz5]; rfl
  have l7 : L[7]? = some (.int .i32 z6) := by rw [← hLe, ← hz6]; rfl
  have l12 : L[12]? = some (.slice Ar l.rules.length cr) := by rw [← hLe]; rfl
  have l13 : L[13]? = some (.slice Ac l.curs.length cc) := by rw [← hLe]; rfl
  have l14 : L[14]? = some (.slice Ak l.comps.length ck) := by rw [← hLe]; rfl
  have HSY : Aside0 (syNums l.s = [z0, z1, z2, z3, z4, z5, z6]) := ⟨by unfold syNums; rw [hz0, hz1, hz2, hz3, hz4, hz5, hz6]⟩
  rw [hLe] at hblk hb1 ⊢
  obtain ⟨w1, hw1⟩ : ∃ w1, w.alloc (.cells L.toArray 29) = w1 := ⟨_, rfl⟩
  rw [hw1] at hblk hb1
  have c1 := blkv hblk l1
  have c2 := blkv hblk l2
  have c3 := blkv hblk l3
  have c4 := blkv hblk l4
  have c5 := blkv hblk l5
  have c6 := blkv hblk l6
  have c7 := blkv hblk l7
  have hb2 := (Below.refl w1.heap.size w1).alloc (Nat.le_refl _) (.cells #[.int .i32 z0, .int .i32 z1, .int .i32 z2, .int .i32 z3, .int .i32 z4, .int .i32 z5, .int .i32 z6] 23)
  have hblk2 := blk_new w1 (.cells #[.int .i32 z0, .int .i32 z1, .int .i32 z2, .int .i32 z3, .int .i32 z4, .int .i32 z5, .int .i32 z6] 23)
  obtain ⟨w2, hw2⟩ : ∃ w2, w1.alloc (.cells #[.int .i32 z0, .int .i32 z1, .int .i32 z2, .int .i32 z3, .int .i32 z4, .int .i32 z5, .int .i32 z6] 23) = w2 := ⟨_, rfl⟩
  rw [hw2] at hb2 hblk2
  have hkb := blk_below hblk hb2 (blk_lt hblk)
  have d12 := blkv hkb l12
  have d13 := blkv hkb l13
  have d14 := blkv hkb l14
  have s0 := blk_cell hblk2 0
  have s1 := blk_cell hblk2 1
  have s2 := blk_cell hblk2 2
  have s3 := blk_cell hblk2 3
  have s4 := blk_cell hblk2 4
  have s5 := blk_cell hblk2 5
  have s6 := blk_cell hblk2 6
  simp only [List.getElem?_toArray, List.getElem?_cons_zero, List.getElem?_cons_succ] at s0 s1 s2 s3 s4 s5 s6
  have HR := Aside0.mk (Kd.C_below (Kd.C_below hr hb1) hb2)
  have HC := Aside0.mk (Kd.C_below (Kd.C_below hc hb1) hb2)
  have HK := Aside0.mk (Kd.C_below (Kd.C_below hk hb1) hb2)
  have HW := Aside0.mk (below_then hb1 hb1.size hb2)
  clear hr hc hk hblk hblk2 hkb hb1 hb2 hLe l1 l2 l3 l4 l5 l6 l7 l12 l13 l14 hF hz0 hz1 hz2 hz3 hz4 hz5 hz6
  by_cases g0 : 0 ≤ z0
  case neg =>
    have HE := Aside0.mk (may_neg z0 (by rw [HSY.out]; simp) g0)
    go_enter Try.func38, Try.ntmps38
    go_wp2
    go_ret
    exact ⟨by rw [HE.out]; rfl, HW.out⟩
  by_cases g1 : 0 ≤ z1
  case neg =>
    have HE := Aside0.mk (may_neg z1 (by rw [HSY.out]; simp) g1)
    go_enter Try.func38, Try.ntmps38
    go_wp2
    go_ret
    exact ⟨by rw [HE.out]; rfl, HW.out⟩
  by_cases g2 : 0 ≤ z2
  case neg =>
    have HE := Aside0.mk (may_neg z2 (by rw [HSY.out]; simp) g2)
    go_enter Try.func38, Try.ntmps38
    go_wp2
    go_ret
    exact ⟨by rw [HE.out]; rfl, HW.out⟩
  by_cases g3 : 0 ≤ z3
  case neg =>
    have HE := Aside0.mk (may_neg z3 (by rw [HSY.out]; simp) g3)
    go_enter Try.func38, Try.ntmps38
    go_wp2
    go_ret
    exact ⟨by rw [HE.out]; rfl, HW.out⟩
  by_cases g4 : 0 ≤ z4
  case neg =>
    have HE := Aside0.mk (may_neg z4 (by rw [HSY.out]; simp) g4)
    go_enter Try.func38, Try.ntmps38
    go_wp2
    go_ret
    exact ⟨by rw [HE.out]; rfl, HW.out⟩
  by_cases g5 : 0 ≤ z5
  case neg =>
    have HE := Aside0.mk (may_neg z5 (by rw [HSY.out]; simp) g5)
    go_enter Try.func38, Try.ntmps38
    go_wp2
    go_ret
    exact ⟨by rw [HE.out]; rfl, HW.out⟩
  by_cases g6 : 0 ≤ z6
  case neg =>
    have HE := Aside0.mk (may_neg z6 (by rw [HSY.out]; simp) g6)
    go_enter Try.func38, Try.ntmps38
    go_wp2
    go_ret
    exact ⟨by rw [HE.out]; rfl, HW.out⟩
  have HZ : Aside0 (∀ z ∈ syNums l.s, 0 ≤ z) := ⟨fun z hz => by
    rw [HSY.out] at hz
    simp at hz
    rcases hz with rfl | rfl | rfl | rfl | rfl | rfl | rfl <;> assumption⟩
  go_enter Try.func38, Try.ntmps38
  go_wp2_with fail
  clear c1 c2 c3 c4 c5 c6 c7 s0 s1 s2 s3 s4 s5 s6 g0 g1 g2 g3 g4 g5 g6 hw1 hw2
  go_loop [4, 5] (fun i _ => ∃ k : Nat, k ≤ l.rules.length ∧ i = .int .i64 k ∧ Aside0 (∀ r ∈ l.rules.take k, fits r.1 1 = true)) (fun i _ => l.rules.length - (intOf i).toNat)
  case atStart => exact ⟨0, by omega, rfl, ⟨by simp⟩⟩
  case round =>
    obtain ⟨k, hk, rfl, HN⟩ := hrel
    by_cases hlt : k < l.rules.length
    · obtain ⟨b, off, rfl, _⟩ := C_plainA pos_Rl HR.out (Nat.lt_of_le_of_lt (Nat.zero_le k) hlt)
      obtain ⟨ad, e, h1, _⟩ := at_Rl HR.out k hlt
      injection e with e
      subst e
      rw [plain_add] at h1
      obtain ⟨r, hr⟩ : ∃ r, l.rules[k] = r := ⟨_, rfl⟩
      rw [hr] at h1
      have hmem : r ∈ l.rules := hr ▸ List.getElem_mem hlt
      go_wp2_with fail
      cases hf : fits r.1 1 with
      | false =>
        have HE := Aside0.mk (may_rule r hmem hf)
        refine (byteful_calls r.1 w2).mono ?_
        rintro e w' ⟨rfl, rfl⟩
        rw [hf]
        clear hr hmem hf HN
        go_wp2
        go_ret
        exact ⟨by rw [HE.out]; rfl, HW.out⟩
      | true =>
        have HN2 : Aside0 (∀ r ∈ l.rules.take (k + 1), fits r.1 1 = true) := ⟨fun x hx => by
          rw [List.take_succ_eq_append_getElem hlt, List.mem_append, List.mem_singleton, hr] at hx
          rcases hx with hx | rfl
          · exact HN.out x hx
          · exact hf⟩
        refine (byteful_calls r.1 w2).mono ?_
        rintro e w' ⟨rfl, rfl⟩
        rw [hf]
        clear hr hmem hf HN
        go_wp2
        go_round
        case rel => exact ⟨k + 1, by omega, by go_num, HN2⟩
        case measure => simp [intOf]; omega
    · obtain rfl : k = l.rules.length := by omega
      have H2 : Aside0 (∀ r ∈ l.rules, fits r.1 1 = true) := ⟨by have := HN.out; rwa [List.take_length] at this⟩
      clear HN
      go_wp2_with fail
      clear d12
      go_loop [6, 7] (fun i _ => ∃ k : Nat, k ≤ l.curs.length ∧ i = .int .i64 k ∧ Aside0 (∀ r ∈ l.curs.take k, fits r.2.2 1 = true)) (fun i _ => l.curs.length - (intOf i).toNat)
      case atStart => exact ⟨0, by omega, rfl, ⟨by simp⟩⟩
      case round =>
        obtain ⟨k, hk, rfl, HN⟩ := hrel
        by_cases hlt : k < l.curs.length
        · obtain ⟨b, off, rfl, _⟩ := C_plainA pos_Cu HC.out (Nat.lt_of_le_of_lt (Nat.zero_le k) hlt)
          obtain ⟨ad, e, _, _, h1⟩ := at_Cu HC.out k hlt
          injection e with e
          subst e
          rw [plain_add, ← Nat.add_assoc] at h1
          obtain ⟨r, hr⟩ : ∃ r, l.curs[k] = r := ⟨_, rfl⟩
          rw [hr] at h1
          have hmem : r ∈ l.curs := hr ▸ List.getElem_mem hlt
          go_wp2_with fail
          cases hf : fits r.2.2 1 with
          | false =>
            have HE := Aside0.mk (may_cur r hmem hf)
            refine (byteful_calls r.2.2 w2).mono ?_
            rintro e w' ⟨rfl, rfl⟩
            rw [hf]
            clear hr hmem hf HN
            go_wp2
            go_ret
            exact ⟨by rw [HE.out]; rfl, HW.out⟩
          | true =>
            have HN2 : Aside0 (∀ r ∈ l.curs.take (k + 1), fits r.2.2 1 = true) := ⟨fun x hx => by
              rw [List.take_succ_eq_append_getElem hlt, List.mem_append, List.mem_singleton, hr] at hx
              rcases hx with hx | rfl
              · exact HN.out x hx
              · exact hf⟩
            refine (byteful_calls r.2.2 w2).mono ?_
            rintro e w' ⟨rfl, rfl⟩
            rw [hf]
            clear hr hmem hf HN
            go_wp2
            go_round
            case rel => exact ⟨k + 1, by omega, by go_num, HN2⟩
            case measure => simp [intOf]; omega
        · obtain rfl : k = l.curs.length := by omega
          have H3 : Aside0 (∀ r ∈ l.curs, fits r.2.2 1 = true) := ⟨by have := HN.out; rwa [List.take_length] at this⟩
          clear HN
          go_wp2_with fail
          clear d13
          go_loop [8, 9] (fun i _ => ∃ k : Nat, k ≤ l.comps.length ∧ i = .int .i64 k ∧ Aside0 (∀ r ∈ l.comps.take k, (fits r.1 1 && fits r.2.1 1) = true)) (fun i _ => l.comps.length - (intOf i).toNat)
          case atStart => exact ⟨0, by omega, rfl, ⟨by simp⟩⟩
          case round =>
            obtain ⟨k, hk, rfl, HN⟩ := hrel
            by_cases hlt : k < l.comps.length
            · obtain ⟨b, off, rfl, _⟩ := C_plainA pos_Cm HK.out (Nat.lt_of_le_of_lt (Nat.zero_le k) hlt)
              obtain ⟨ad, e, h1, h2, _⟩ := at_Cm HK.out k hlt
              injection e with e
              subst e
              rw [plain_add] at h1 h2
              rw [← Nat.add_assoc] at h2
              obtain ⟨r, hr⟩ : ∃ r, l.comps[k] = r := ⟨_, rfl⟩
              rw [hr] at h1 h2
              have hmem : r ∈ l.comps := hr ▸ List.getElem_mem hlt
              go_wp2_with fail
              cases hf : fits r.1 1 with
              | false =>
                have HE := Aside0.mk (may_comp r hmem (by rw [hf]; rfl))
                refine (byteful_calls r.1 w2).mono ?_
                rintro e w' ⟨rfl, rfl⟩
                rw [hf]
                clear hr hmem hf HN
                go_wp2
                go_ret
                exact ⟨by rw [HE.out]; rfl, HW.out⟩
              | true =>
                refine (byteful_calls r.1 w2).mono ?_
                rintro e w' ⟨rfl, rfl⟩
                rw [hf]
                have HF1 := Aside0.mk hf
                clear hf
                go_wp2_with fail
                cases hf : fits r.2.1 1 with
                | false =>
                  have HE := Aside0.mk (may_comp r hmem (by rw [hf, Bool.and_false]))
                  refine (byteful_calls r.2.1 w2).mono ?_
                  rintro e w' ⟨rfl, rfl⟩
                  rw [hf]
                  clear hr hmem hf HN
                  go_wp2
                  go_ret
                  exact ⟨by rw [HE.out]; rfl, HW.out⟩
                | true =>
                  have HN2 : Aside0 (∀ r ∈ l.comps.take (k + 1), (fits r.1 1 && fits r.2.1 1) = true) := ⟨fun x hx => by
                    rw [List.take_succ_eq_append_getElem hlt, List.mem_append, List.mem_singleton, hr] at hx
                    rcases hx with hx | rfl
                    · exact HN.out x hx
                    · rw [HF1.out, hf]; rfl⟩
                  refine (byteful_calls r.2.1 w2).mono ?_
                  rintro e w' ⟨rfl, rfl⟩
                  rw [hf]
                  clear hr hmem hf HN
                  go_wp2
                  go_round
                  case rel => exact ⟨k + 1, by omega, by go_num, HN2⟩
                  case measure => simp [intOf]; omega
            · obtain rfl : k = l.comps.length := by omega
              have H4 : Aside0 (∀ r ∈ l.comps, (fits r.1 1 && fits r.2.1 1) = true) := ⟨by have := HN.out; rwa [List.take_length] at this⟩
              have HE := Aside0.mk (may_yes HZ.out H2.out H3.out H4.out)
              clear HN
              go_wp2
              go_ret
              exact ⟨by rw [HE.out]; rfl, HW.out⟩
end Go.Proofs.Ytfbmgjanplnabaa

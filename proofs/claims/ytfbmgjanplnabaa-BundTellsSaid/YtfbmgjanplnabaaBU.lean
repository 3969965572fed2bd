import Derived.Test.YtfbmgjanplnabaaBT
import Derived.Deep.CutBlock
import Derived.Deep.DeepCutAuto
import Derived.Test.YtfbmgjanplnabaaBK
import Derived.Deep.QuietTactic
import Derived.BigQuiet
/- exergueref16.locale: the walk. -/
namespace Go.Proofs.Ytfbmgjanplnabaa
open Go.RowKit Go.Proofs.YtfbmgjanplnabaaW.PrintWords Go.Proofs.YtfbmgjanplnabaaW.PrintLast Go.Proofs.YtfbmgjanplnabaaW.PrintMore
set_option linter.unusedVariables false
set_option linter.unusedSimpArgs false
attribute [local go_sem ↓] Ld_eq St_eq

set_option maxHeartbeats 12800000 in
set_option maxRecDepth 100000 in
theorem refLocale_calls (xs : List Int) (A : Option Addr) (c : Nat) (w : World) (hx : RdB w A xs) (hc : xs.length ≤ c) (hby : Bytes xs) (hm : xs.length ≤ 1000000) :
    Calls Try.prog 42 #[.slice A xs.length c] w (locQ xs w) := by
  have HX := Aside0.mk hx
  have HBY := Aside0.mk hby
  have hz0 := blk_alloc (blk_new w (.cells ZC.toArray 29)) (.cells ZC.toArray 29)
  have hz1 := blk_new1 w (.cells ZC.toArray 29) (.cells ZC.toArray 29)
  have hb2 := ((Below.refl w.heap.size w).alloc (Nat.le_refl _) (.cells ZC.toArray 29)).alloc (Below.refl w.heap.size w |>.alloc (Nat.le_refl _) (.cells ZC.toArray 29)).size (.cells ZC.toArray 29)
  have hsz : ((w.alloc (.cells ZC.toArray 29)).alloc (.cells ZC.toArray 29)).heap.size = w.heap.size + 2 := by simp
  have hst : (St (.pointer (some ⟨w.heap.size + 1, 0, none⟩)) (.agg ZC.toArray)).run Try.prog ((w.alloc (.cells ZC.toArray 29)).alloc (.cells ZC.toArray 29)) = .ok () ((w.alloc (.cells ZC.toArray 29)).alloc (.cells ZC.toArray 29)) := by
    have := store29 (w := w.alloc (.cells ZC.toArray 29)) (c := ZC.toArray) (M := ZC) rfl rfl (by simp [Value.oneCell'])
    rw [size_alloc] at this
    exact this
  obtain ⟨w2, hw2⟩ : ∃ w2, (w.alloc (.cells ZC.toArray 29)).alloc (.cells ZC.toArray 29) = w2 := ⟨_, rfl⟩
  rw [hw2] at hz0 hz1 hb2 hsz hst
  obtain ⟨g, hg⟩ : ∃ g, w.heap.size = g := ⟨_, rfl⟩
  rw [hg] at hz0 hz1 hb2 hsz hst
  have HG := Aside0.mk hg
  have HW2 := Aside0.mk hw2
  have HZ0 := Aside0.mk hz0
  have HZ1 := Aside0.mk hz1
  have HB2 := Aside0.mk hb2
  have HSZ := Aside0.mk hsz
  have HC1 := Aside0.mk (refTakePool_calls xs A c 56 w2 (Kd.C_below hx (hg.symm ▸ hb2)) hc hby hm)
  clear hx hc hby hz0 hz1 hb2 hsz
  go_enter Try.func42, Try.ntmps42
  go_wp2_with fail
  refine HC1.out.mono ?_
  rintro e w3 ⟨vp, pool, q0, k0, rfl, hpo, hq0, hb, hor⟩
  obtain ⟨b0, e1, e2, hX⟩ : ∃ b0, (k0 == 0) = !b0 ∧ (k0 != 0) = b0 ∧ Cn (locP xs) b0 ((txtP xs pool q0).bind fun t => locS xs pool t.1 t.2) := by
    rcases hor with ⟨h1, h2, h3⟩ | ⟨h1, h2, h3⟩
    · exact ⟨false, by rw [h1]; rfl, h2, .inl ⟨rfl, locP_start h3⟩⟩
    · exact ⟨true, by rw [h1]; rfl, h2, .inr ⟨rfl, locP_stop h3⟩⟩
  rw [HSZ.out] at hpo
  obtain ⟨Ap, cp, rfl, _, hpr⟩ := Kd.R_reads hpo
  have HPO := Aside0.mk hpo
  have HB3 := Aside0.mk hb
  have HBW3 := Aside0.mk (below_then HB2.out (by rw [HSZ.out]; omega) hb)
  have HX0 := Aside0.mk hX
  have HC2 := Aside0.mk (rtext_calls pool Ap cp xs A c q0 b0 w3 hpr (Kd.C_below HX.out (HG.out.symm ▸ HBW3.out)) HBY.out hq0)
  unfold rdr at HC2
  clear hor hX hpo hpr hb HC1 hst hw2 hg
  go_wp2_with fail
  refine HC2.out.mono ?_
  rintro e w4 ⟨tag, q1, b1, rfl, ht, hq1, hb⟩
  have HX1 := Aside0.mk (HX0.out.step ht)
  have HB4 := Aside0.mk (below_then HB3.out HB3.out.size hb)
  have hl5 := LI.start (A := A) (n := xs.length) (c := c) HZ0.out HZ1.out HSZ.out HB2.out HB4.out (Kd.R_below HPO.out hb) q1 b1
  have c0 := hl5.rcell.1
  have c1 := hl5.rcell.2.1
  have c2 := hl5.rcell.2.2
  have HC3 := Aside0.mk (signs_calls xs A c q1 b1 _ (Kd.C_below HX.out (HG.out.symm ▸ hl5.below)) HBY.out hq1)
  unfold rdr at HC3
  have HL5 := Aside0.mk hl5
  obtain ⟨t9, ht9⟩ : ∃ t, w4.heap.size = t := ⟨_, rfl⟩
  obtain ⟨w5, hw5⟩ : ∃ w5, w4.alloc (.cells #[.slice A xs.length c, .int .i64 q1, .bool b1] 101) = w5 := ⟨_, rfl⟩
  rw [hw5] at HL5 HC3 c0 c1 c2
  rw [ht9] at HL5 c0 c1 c2
  clear hl5 hb ht HC2 HB3 HBW3 HX0 HPO HZ0 HZ1 HB2 HSZ HW2 HB4
  go_wp2_with fail
  refine HC3.out.mono ?_
  rintro e w6 ⟨zs, q2, b2, rfl, hz7, hzr, ht, hq2, hb⟩
  have HX2 := Aside0.mk (HX1.out.step ht)
  obtain ⟨z0, z1, z2, z3, z4, z5, z6, rfl⟩ := list7 hz7
  have HZR := Aside0.mk hzr
  have hl6 := HL5.out.call hb
  have hgl : g + 1 < w6.heap.size := by have := hl6.size; omega
  have hl8 := ((hl6.alloc (.cells #[.int .i32 z0, .int .i32 z1, .int .i32 z2, .int .i32 z3, .int .i32 z4, .int .i32 z5, .int .i32 z6] 23)).alloc (.cells #[.slice A xs.length c, .int .i64 q2, .bool b2] 101)).over (blk_new1 w6 (.cells #[.slice A xs.length c, .int .i64 q2, .bool b2] 101) _) (by have := hl6.size; omega)
  have hk10 := blk_alloc (blk_new w6 (.cells #[.int .i32 z0, .int .i32 z1, .int .i32 z2, .int .i32 z3, .int .i32 z4, .int .i32 z5, .int .i32 z6] 23)) (.cells #[.slice A xs.length c, .int .i64 q2, .bool b2] 101)
  obtain ⟨w8, hw8⟩ : ∃ w8, (w6.alloc (.cells #[.int .i32 z0, .int .i32 z1, .int .i32 z2, .int .i32 z3, .int .i32 z4, .int .i32 z5, .int .i32 z6] 23)).alloc (.cells #[.slice A xs.length c, .int .i64 q2, .bool b2] 101) = w8 := ⟨_, rfl⟩
  rw [hw8] at hl8 hk10
  have HL8 := Aside0.mk (set7l _ (hl8.setl (tag' := tag) (S' := [0, 0, 0, 0, 0, 0, 0]) (P' := [⟨#[]⟩, ⟨#[]⟩, ⟨#[]⟩, ⟨#[]⟩]) 0 (.string tag) rfl) z0 z1 z2 z3 z4 z5 z6)
  have d0 := blk_cell hk10 0
  have d1 := blk_cell hk10 1
  have d2 := blk_cell hk10 2
  have d3 := blk_cell hk10 3
  have d4 := blk_cell hk10 4
  have d5 := blk_cell hk10 5
  have d6 := blk_cell hk10 6
  have l0 := hl8.cell 0
  have f0 := hl8.free 0
  have l1 := hl8.cell 1
  have f1 := hl8.free 1
  have l2 := hl8.cell 2
  have f2 := hl8.free 2
  have l3 := hl8.cell 3
  have f3 := hl8.free 3
  have l4 := hl8.cell 4
  have f4 := hl8.free 4
  have l5 := hl8.cell 5
  have f5 := hl8.free 5
  have l6 := hl8.cell 6
  have f6 := hl8.free 6
  have l7 := hl8.cell 7
  have f7 := hl8.free 7
  simp only [List.getElem?_toArray, List.getElem?_cons_zero, List.getElem?_cons_succ, dcells, List.map_cons, List.map_nil, List.cons_append, List.nil_append] at d0 d1 d2 d3 d4 d5 d6 l0 l1 l2 l3 l4 l5 l6 l7
  have HT10 : Aside0 (g + 1 + 1 < w6.heap.size + 1) := ⟨by omega⟩
  clear hl8 hk10 hl6 hb ht HC3 HL5 HX1 hz7 hzr c0 c1 c2 hw5 ht9
  go_wp2_with fail
  obtain ⟨t11, ht11⟩ : ∃ t, w6.heap.size + 1 = t := ⟨_, rfl⟩
  obtain ⟨t10, ht10⟩ : ∃ t, w6.heap.size = t := ⟨_, rfl⟩
  rw [ht11] at HL8 ⊢
  rw [ht10]
  have HG2 : Aside0 (g + 1 < t11) := ⟨by have := HT10.out; omega⟩
  obtain ⟨S, hS⟩ : ∃ S, [z0, z1, z2, z3, z4, z5, z6] = S := ⟨_, rfl⟩
  have HS7 : Aside0 (S.length = 7) := ⟨by rw [← hS]; rfl⟩
  rw [hS] at HL8 HX2 HZR
  have HXT := Aside0.mk (show Cn (locP xs) b2 ((rep (txtP xs pool) 4 q2).bind fun q => locA xs pool tag S q.1 q.2) from HX2.out)
  clear d0 d1 d2 d3 d4 d5 d6 l0 l1 l2 l3 l4 l5 l6 l7 f0 f1 f2 f3 f4 f5 f6 f7 hw8 ht10 ht11 HT10 HX2 hgl hS
  go_loopw [12] (fun i W => ∃ (k p : Nat) (b : Bool) (acc : List ByteArray), k ≤ 4 ∧ i = .int .i64 k ∧ p ≤ xs.length ∧ Aside0 (LI w g A xs.length c (.slice Ap pool.length cp) pool W t11 p b tag S (acc ++ List.replicate (4 - k) ⟨#[]⟩) (.slice none 0 0) (.slice none 0 0) (.slice none 0 0) [] [] []) ∧ Aside0 (acc.length = k) ∧ Aside0 (RepT (txtP xs pool) 4 q2 b2 acc k p b)) (fun i _ => 4 - (intOf i).toNat)
  case atStart => exact ⟨0, q2, b2, [], by omega, rfl, hq2, HL8, ⟨rfl⟩, ⟨RepT.start _ _ _ _⟩⟩
  case round =>
    clear HL8
    obtain ⟨k, p, b, acc, hk, rfl, hp, HL, HA, HR⟩ := hrel
    obtain ⟨c0, c1, c2⟩ := HL.out.rcell
    by_cases hlt : k < 4
    · have HC := Aside0.mk (rtext_calls pool Ap cp xs A c p b wr (own_rdS HL.out.pl) (Kd.C_below HX.out (HG.out.symm ▸ HL.out.below)) HBY.out hp)
      unfold rdr at HC
      go_wp2_with fail
      refine HC.out.mono ?_
      rintro e w4 ⟨s, p2, b3, rfl, ht, hp2, hb⟩
      have hl5 := (HL.out.call hb).alloc (.cells #[.slice A xs.length c, .int .i64 p2, .bool b3] 101)
      have hk5 := blk_new w4 (.cells #[.slice A xs.length c, .int .i64 p2, .bool b3] 101)
      have hgl : t11 < w4.heap.size := blk_lt (HL.out.call hb).rd
      obtain ⟨w5, hw5⟩ : ∃ w5, w4.alloc (.cells #[.slice A xs.length c, .int .i64 p2, .bool b3] 101) = w5 := ⟨_, rfl⟩
      rw [hw5] at hl5 hk5
      obtain ⟨c0, c1, c2⟩ := hl5.rcell
      have f0 := blk_free hl5.rd 0
      have f1 := blk_free hl5.rd 1
      have f2 := blk_free hl5.rd 2
      have e0 := blk_cell hk5 0
      have e1 := blk_cell hk5 1
      have e2 := blk_cell hk5 2
      simp only [List.getElem?_toArray, List.getElem?_cons_zero, List.getElem?_cons_succ] at e0 e1 e2
      have fk := hl5.free (8 + k)
      obtain ⟨vk, dk⟩ : ∃ v, w5.cell? ⟨g + 1, 8 + k, none⟩ = some v := ⟨_, (hl5.cell (8 + k)).trans (dcells_get2 tag S _ _ _ _ HS7.out k (by rw [List.length_append, List.length_replicate, HA.out]; omega))⟩
      have hg2 := HG2.out
      have HL2 := Aside0.mk ((hl5.setl (8 + k) (.string s) (P' := (acc ++ [s]) ++ List.replicate (4 - (k + 1)) ⟨#[]⟩) (S' := S) (tag' := tag) (by
        have := dcells_pat tag S acc (4 - (k + 1)) (.slice none 0 0) (.slice none 0 0) (.slice none 0 0) s HS7.out
        rw [HA.out, show 4 - (k + 1) + 1 = 4 - k by omega] at this
        exact this)).move p2 b3)
      have HR2 := Aside0.mk (HR.out.step hlt ht)
      have HA2 : Aside0 ((acc ++ [s]).length = k + 1) := ⟨by rw [List.length_append, HA.out]; rfl⟩
      clear hl5 hk5 hb ht HC HL HR HA
      go_wp2
      go_roundw
      case rel => exact ⟨k + 1, p2, b3, _, by omega, by go_num, hp2, HL2, HA2, HR2⟩
      case measure => simp [intOf]; omega
    · obtain rfl : k = 4 := by omega
      have HX4 := Aside0.mk (HXT.out.step HR.out.end_)
      rw [show 4 - 4 = 0 from rfl, List.replicate_zero, List.append_nil] at HL
      obtain ⟨P, hP⟩ : ∃ P, acc = P := ⟨_, rfl⟩
      rw [hP] at HL HX4 HA
      have HP4 := HA
      clear HXT HR hP
      have HC := Aside0.mk (rtake_calls 2 (.inr (.inl rfl)) xs A c p b wr (Kd.C_below HX.out (HG.out.symm ▸ HL.out.below)) HBY.out hp)
      unfold rdr at HC
      go_wp2_with fail
      refine HC.out.mono ?_
      rintro e w4 ⟨n, p2, b3, rfl, ht, hn, hp2, hb⟩
      have HFEW := Aside0.mk (tot_few HBY.out ht)
      have HX5 := Aside0.mk (HX4.out.many ht)
      have hl5 := ((HL.out.call hb).alloc (.cells #[.slice A xs.length c, .int .i64 p2, .bool b3] 101)).over (blk_new w4 _) (by have := (HL.out.call hb).size; omega)
      have HL5 := Aside0.mk hl5
      have HG3 : Aside0 (g + 1 < w4.heap.size) := ⟨by have := (HL.out.call hb).size; omega⟩
      obtain ⟨w5, hw5⟩ : ∃ w5, w4.alloc (.cells #[.slice A xs.length c, .int .i64 p2, .bool b3] 101) = w5 := ⟨_, rfl⟩
      obtain ⟨t16, ht16⟩ : ∃ t, w4.heap.size = t := ⟨_, rfl⟩
      rw [hw5, ht16] at HL5
      rw [ht16] at HG3
      clear hl5 hb ht HC HL HX4 HG2 c0 c1 c2
      go_upto_block 2 with fail
      go_cut [17, 18, 19, 20, 21] from 86 to 115 (fun _ _ _ _ _ W => ∃ (p : Nat) (b : Bool) (R : List Rl) (vr : Value), p ≤ xs.length ∧ R.length ≤ 65535 ∧ Aside0 (LI w g A xs.length c (.slice Ap pool.length cp) pool W t16 p b tag S P vr (.slice none 0 0) (.slice none 0 0) R [] []) ∧ Aside0 (Cn (locP xs) b (locB xs pool tag S P R p)))
      case first =>
        go_wp2_with fail
        go_loopw [17] (fun i W => ∃ (k p : Nat) (b : Bool) (acc : List Rl) (vr : Value), k ≤ n ∧ i = .int .i64 k ∧ p ≤ xs.length ∧ Aside0 (LI w g A xs.length c (.slice Ap pool.length cp) pool W t16 p b tag S P vr (.slice none 0 0) (.slice none 0 0) acc [] []) ∧ Aside0 (acc.length = k ∧ acc.length ≤ 65535) ∧ Aside0 (RepT (rulP xs pool) n p2 b3 acc k p b)) (fun i _ => n - (intOf i).toNat)
        case atStart => exact ⟨0, p2, b3, [], _, by omega, rfl, hp2, HL5, ⟨rfl, Nat.zero_le _⟩, ⟨RepT.start _ _ _ _⟩⟩
        case round =>
          clear HL5
          obtain ⟨k, p, b, acc, vr, hk, rfl, hp, HL, HA, HR⟩ := hrel
          obtain ⟨c0, c1, c2⟩ := HL.out.rcell
          by_cases hlt : k < n
          case neg =>
            obtain rfl : k = n := by omega
            have HX6 := Aside0.mk (HX5.out.step HR.out.end_)
            have hal := HA.out.2
            go_wp2
            go_meet
            case rel => exact ⟨p, b, acc, vr, hp, hal, HL, HX6⟩
          cases b with
          | true =>
            have HX6 := Aside0.mk (HX5.out.step (HR.out.bad (acc' := acc)))
            have hal := HA.out.2
            go_wp2
            go_meet
            case rel => exact ⟨p, true, acc, vr, hp, hal, HL, HX6⟩
          | false =>
            obtain rfl : b3 = false := HR.out.good
            have HN5 := Aside0.mk (HFEW.out rfl)
            have HC1 := Aside0.mk (rtake_calls 1 (.inl rfl) xs A c p false wr (Kd.C_below HX.out (HG.out.symm ▸ HL.out.below)) HBY.out hp)
            unfold rdr at HC1
            go_wp2_with fail
            refine HC1.out.mono ?_
            rintro e wa ⟨a, p3, b4, rfl, ht1, ha, hp3, hb1⟩
            have hlb := (HL.out.call hb1).alloc (.cells #[.slice A xs.length c, .int .i64 p3, .bool b4] 101)
            have hkb := blk_new wa (.cells #[.slice A xs.length c, .int .i64 p3, .bool b4] 101)
            have hsa := (HL.out.call hb1).size
            obtain ⟨wb, hwb⟩ : ∃ wb, wa.alloc (.cells #[.slice A xs.length c, .int .i64 p3, .bool b4] 101) = wb := ⟨_, rfl⟩
            rw [hwb] at hlb hkb
            have e0 := blk_cell hkb 0
            have e1 := blk_cell hkb 1
            have e2 := blk_cell hkb 2
            simp only [List.getElem?_toArray, List.getElem?_cons_zero, List.getElem?_cons_succ] at e0 e1 e2
            have HC2 := Aside0.mk (rtext_calls pool Ap cp xs A c p3 b4 wb (own_rdS hlb.pl) (Kd.C_below HX.out (HG.out.symm ▸ hlb.below)) HBY.out hp3)
            unfold rdr at HC2
            have HLB := Aside0.mk hlb
            have HT1 := Aside0.mk ht1
            clear hlb hkb hb1 ht1 HC1 HL c0 c1 c2
            go_wp2_with fail
            refine HC2.out.mono ?_
            rintro e wc ⟨s, p4, b5, rfl, ht2, hp4, hb2⟩
            have hld := (HLB.out.call hb2).alloc (.cells #[.slice A xs.length c, .int .i64 p4, .bool b5] 101)
            have hkd := blk_new wc (.cells #[.slice A xs.length c, .int .i64 p4, .bool b5] 101)
            have htc : t16 < wc.heap.size := blk_lt (HLB.out.call hb2).rd
            obtain ⟨wd, hwd⟩ : ∃ wd, wc.alloc (.cells #[.slice A xs.length c, .int .i64 p4, .bool b5] 101) = wd := ⟨_, rfl⟩
            rw [hwd] at hld hkd
            have HLD := Aside0.mk hld
            have HKD := Aside0.mk hkd
            obtain ⟨Av, mv, cv, rfl⟩ := R_slice' hld.rr
            have hv12 := (hld.cell 12).trans (dcells_12 tag S P _ _ _ HS7.out HP4.out)
            have HR2 := Aside0.mk (HR.out.step hlt (tot_rul HT1.out ht2))
            have HSZ : Aside0 (g + 2 ≤ wd.heap.size) := ⟨by have := hld.size; omega⟩
            have HBN : Aside0 ((acc.length + 1) * 24 ≤ 140737488355328) := ⟨by have := HA.out.2; omega⟩
            have HA2 : Aside0 ((acc ++ [((a : Int), s)]).length = k + 1 ∧ (acc ++ [((a : Int), s)]).length ≤ 65535) := ⟨by rw [List.length_append, HA.out.1]; have := HN5.out; simp; omega⟩
            have hg3 := HG3.out
            clear hld hkd hb2 ht2 HC2 HLB HT1 HA HR hsa e0 e1 e2
            go_wp2_with ((with_reducible refine gate_builtin (b := .append) (xs := #[.tmp 108, .tmp 112]) rfl ?_); at_builtin; refine Kd.R_append kRl (w0 := wd) (g + 2) rfl (.tmp 108) (.tmp 112) 25 57 (.agg #[.int .i64 0, .string ⟨#[]⟩]) 24 rfl Try.underlying25 info57 rfl (by decide) (by decide) (.slice Av mv cv) acc ((a : Int), s) [.int .i64 a, .string s] (fun _ => True) (fun _ => False) rfl rfl ⟨[.int .i64 a], [.string s], rfl, rfl, rfl⟩ (fun _ h => h.elim) (fun _ _ => trivial) HLD.out.rr (Below.refl _ _) HSZ.out HBN.out ?_; intro v1 we ho hbe hge hate; have hbl := blk_grown HLD.out.lb hge (fun e => by have := own_ge HLD.out.rr _ e.symm; omega); have he12 := blk_cell hbl 12; rw [List.getElem?_toArray, dcells_12 tag S P _ _ _ HS7.out HP4.out] at he12; have hf12 := blk_free hbl 12; have hrd := blk_grown HLD.out.rd hge (Kd.R_ne HLD.out.rr HLD.out.rd (by decide)); have r0 := blk_cell hrd 0; have r1 := blk_cell hrd 1; have r2 := blk_cell hrd 2; have s0 := blk_free hrd 0; have s1 := blk_free hrd 1; have s2 := blk_free hrd 2; have hkd := blk_grown HKD.out hge (Kd.R_ne HLD.out.rr HKD.out (by decide)); have e0 := blk_cell hkd 0; have e1 := blk_cell hkd 1; have e2 := blk_cell hkd 2; simp only [List.getElem?_toArray, List.getElem?_cons_zero, List.getElem?_cons_succ] at r0 r1 r2 e0 e1 e2; have HLE := Aside0.mk ((HLD.out.stored hge (fun k hk => ⟨own_ge HLD.out.rr k hk, fun e => Kd.R_ne HLD.out.rr HLD.out.rd (by decide) (by rw [hk, e])⟩) (R_two HLD.out.pl rfl HLD.out.rr (by decide) hge) 12 v1 (dcells_set12 tag S P _ _ _ v1 HS7.out HP4.out) ho (R_two HLD.out.rc rfl HLD.out.rr (by decide) hge) (R_two HLD.out.rk rfl HLD.out.rr (by decide) hge)).move p4 b5); obtain ⟨A1, m1, k1, hv1⟩ := R_slice' ho; subst hv1; clear ho hbe hge hate hbl hrd hkd)
            go_roundw
            case rel => exact ⟨k + 1, p4, b5, _, _, by omega, by go_num, hp4, HLE, HA2, HR2⟩
            case measure => simp [intOf]; omega
      case rest =>
        obtain ⟨p, b, R, vr, hp, hRl, HL, HXR⟩ := hcut
        clear HFEW HX5 HG3
        obtain ⟨c0, c1, c2⟩ := HL.out.rcell
        have HC := Aside0.mk (rtake_calls 2 (.inr (.inl rfl)) xs A c p b wc (Kd.C_below HX.out (HG.out.symm ▸ HL.out.below)) HBY.out hp)
        unfold rdr at HC
        go_wp2_with fail
        refine HC.out.mono ?_
        rintro e v4 ⟨n6, p6, b6, rfl, ht, hn6, hp6, hb⟩
        have HFEW := Aside0.mk (tot_few HBY.out ht)
        have HX5 := Aside0.mk (HXR.out.many ht)
        have hl5 := ((HL.out.call hb).alloc (.cells #[.slice A xs.length c, .int .i64 p6, .bool b6] 101)).over (blk_new v4 _) (by have := (HL.out.call hb).size; omega)
        have HL5 := Aside0.mk hl5
        have HG3 : Aside0 (g + 1 < v4.heap.size) := ⟨by have := (HL.out.call hb).size; omega⟩
        obtain ⟨v5, hv5⟩ : ∃ v5, v4.alloc (.cells #[.slice A xs.length c, .int .i64 p6, .bool b6] 101) = v5 := ⟨_, rfl⟩
        obtain ⟨t23, htn⟩ : ∃ t, v4.heap.size = t := ⟨_, rfl⟩
        rw [hv5, htn] at HL5
        rw [htn] at HG3
        clear hl5 hb ht HC HL HXR c0 c1 c2
        go_upto_block 4 with fail
        go_cut [24, 25, 26, 27, 28, 29, 30] from 121 to 157 (fun _ _ _ _ _ _ _ W => ∃ (p : Nat) (b : Bool) (acc : List Cu) (vn : Value), p ≤ xs.length ∧ acc.length ≤ 65535 ∧ Aside0 (LI w g A xs.length c (.slice Ap pool.length cp) pool W t23 p b tag S P vr vn (.slice none 0 0) R acc []) ∧ Aside0 (Cn (locP xs) b (locC xs pool tag S P R acc p)))
        case first =>
          go_wp2_with fail
          go_loopw [24] (fun i W => ∃ (k p : Nat) (b : Bool) (acc : List Cu) (vn : Value), k ≤ n6 ∧ i = .int .i64 k ∧ p ≤ xs.length ∧ Aside0 (LI w g A xs.length c (.slice Ap pool.length cp) pool W t23 p b tag S P vr vn (.slice none 0 0) R acc []) ∧ Aside0 (acc.length = k ∧ acc.length ≤ 65535) ∧ Aside0 (RepT (curP xs pool) n6 p6 b6 acc k p b)) (fun i _ => n6 - (intOf i).toNat)
          case atStart => exact ⟨0, p6, b6, [], _, by omega, rfl, hp6, HL5, ⟨rfl, Nat.zero_le _⟩, ⟨RepT.start _ _ _ _⟩⟩
          case round =>
            clear HL5
            obtain ⟨k, p, b, acc, vn, hk, rfl, hp, HL, HA, HR⟩ := hrel
            obtain ⟨c0, c1, c2⟩ := HL.out.rcell
            by_cases hlt : k < n6
            case neg =>
              obtain rfl : k = n6 := by omega
              have HX6 := Aside0.mk (HX5.out.step HR.out.end_)
              have hal := HA.out.2
              go_wp2
              go_meet
              case rel => exact ⟨p, b, acc, vn, hp, hal, HL, HX6⟩
            cases b with
            | true =>
              have HX6 := Aside0.mk (HX5.out.step (HR.out.bad (acc' := acc)))
              have hal := HA.out.2
              go_wp2
              go_meet
              case rel => exact ⟨p, true, acc, vn, hp, hal, HL, HX6⟩
            | false =>
              obtain rfl : b6 = false := HR.out.good
              have HN5 := Aside0.mk (HFEW.out rfl)
              have HC0 := Aside0.mk (rtext_calls pool Ap cp xs A c p false wr (own_rdS HL.out.pl) (Kd.C_below HX.out (HG.out.symm ▸ HL.out.below)) HBY.out hp)
              unfold rdr at HC0
              go_wp2_with fail
              refine HC0.out.mono ?_
              rintro e wa0 ⟨cd, q0, d0, rfl, ht0, hq0, hb0⟩
              have hl0 := (HL.out.call hb0).alloc (.cells #[.slice A xs.length c, .int .i64 q0, .bool d0] 101)
              have hk0 := blk_new wa0 (.cells #[.slice A xs.length c, .int .i64 q0, .bool d0] 101)
              have htc0 : t23 < wa0.heap.size := blk_lt (HL.out.call hb0).rd
              obtain ⟨wb0, hwb0⟩ : ∃ wb, wa0.alloc (.cells #[.slice A xs.length c, .int .i64 q0, .bool d0] 101) = wb := ⟨_, rfl⟩
              rw [hwb0] at hl0 hk0
              have e0 := blk_cell hk0 0
              have e1 := blk_cell hk0 1
              have e2 := blk_cell hk0 2
              simp only [List.getElem?_toArray, List.getElem?_cons_zero, List.getElem?_cons_succ] at e0 e1 e2
              have HLL0 := Aside0.mk hl0
              have HT0 := Aside0.mk ht0
              clear hl0 hk0 hb0 ht0 HC0 HL c0 c1 c2
              have HC1 := Aside0.mk (rtext_calls pool Ap cp xs A c q0 d0 wb0 (own_rdS HLL0.out.pl) (Kd.C_below HX.out (HG.out.symm ▸ HLL0.out.below)) HBY.out hq0)
              unfold rdr at HC1
              go_wp2_with fail
              refine HC1.out.mono ?_
              rintro e wa1 ⟨sg, q1, d1, rfl, ht1, hq1, hb1⟩
              have hl1 := (HLL0.out.call hb1).alloc (.cells #[.slice A xs.length c, .int .i64 q1, .bool d1] 101)
              have hk1 := blk_new wa1 (.cells #[.slice A xs.length c, .int .i64 q1, .bool d1] 101)
              have htc1 : t23 < wa1.heap.size := blk_lt (HLL0.out.call hb1).rd
              obtain ⟨wb1, hwb1⟩ : ∃ wb, wa1.alloc (.cells #[.slice A xs.length c, .int .i64 q1, .bool d1] 101) = wb := ⟨_, rfl⟩
              rw [hwb1] at hl1 hk1
              have e0 := blk_cell hk1 0
              have e1 := blk_cell hk1 1
              have e2 := blk_cell hk1 2
              simp only [List.getElem?_toArray, List.getElem?_cons_zero, List.getElem?_cons_succ] at e0 e1 e2
              have HLL1 := Aside0.mk hl1
              have HT1 := Aside0.mk ht1
              clear hl1 hk1 hb1 ht1 HC1 HLL0 
              have HC2 := Aside0.mk (rtake_calls 1 (.inl rfl) xs A c q1 d1 wb1 (Kd.C_below HX.out (HG.out.symm ▸ HLL1.out.below)) HBY.out hq1)
              unfold rdr at HC2
              go_wp2_with fail
              refine HC2.out.mono ?_
              rintro e wa2 ⟨dg, q2, d2, rfl, ht2, ha2, hq2, hb2⟩
              have hl2 := (HLL1.out.call hb2).alloc (.cells #[.slice A xs.length c, .int .i64 q2, .bool d2] 101)
              have hk2 := blk_new wa2 (.cells #[.slice A xs.length c, .int .i64 q2, .bool d2] 101)
              have htc2 : t23 < wa2.heap.size := blk_lt (HLL1.out.call hb2).rd
              obtain ⟨wb2, hwb2⟩ : ∃ wb, wa2.alloc (.cells #[.slice A xs.length c, .int .i64 q2, .bool d2] 101) = wb := ⟨_, rfl⟩
              rw [hwb2] at hl2 hk2
              have HLD := Aside0.mk hl2
              have HKD := Aside0.mk hk2
              have HT2 := Aside0.mk ht2
              obtain ⟨Av, mv, cv, rfl⟩ := R_slice' hl2.rc
              have hvc := (hl2.cell 13).trans (dcells_13 tag S P _ _ _ HS7.out HP4.out)
              have HR2 := Aside0.mk (HR.out.step hlt (tot_cur HT0.out HT1.out HT2.out))
              have HSZ : Aside0 (g + 2 ≤ wb2.heap.size) := ⟨by have := hl2.size; omega⟩
              have HBN : Aside0 ((acc.length + 1) * 40 ≤ 140737488355328) := ⟨by have := HA.out.2; omega⟩
              have HA2 : Aside0 ((acc ++ [(cd, (sg, (dg : Int)))]).length = k + 1 ∧ (acc ++ [(cd, (sg, (dg : Int)))]).length ≤ 65535) := ⟨by rw [List.length_append, HA.out.1]; have := HN5.out; simp; omega⟩
              have hg3 := HG3.out
              clear hl2 hk2 hb2 ht2 HC2 HLL1 HT0 HT1 HT2 HA HR
              go_wp2_with ((with_reducible refine gate_builtin (b := .append) (xs := #[.tmp 149, .tmp 154]) rfl ?_); at_builtin; refine Kd.R_append kCu (w0 := wb2) (g + 2) rfl (.tmp 149) (.tmp 154) 26 59 (.agg #[.string ⟨#[]⟩, .string ⟨#[]⟩, .int .i64 0]) 40 rfl Try.underlying26 info59 rfl (by decide) (by decide) (.slice Av mv cv) acc (cd, (sg, (dg : Int))) [.string cd, .string sg, .int .i64 dg] (fun _ => True) (fun _ => False) rfl rfl ⟨[.string cd], [.string sg, .int .i64 dg], rfl, rfl, ⟨[.string sg], [.int .i64 dg], rfl, rfl, rfl⟩⟩ (fun _ h => h.elim) (fun _ _ => trivial) HLD.out.rc (Below.refl _ _) HSZ.out HBN.out ?_; intro v1 we ho hbe hge hate; have hbl := blk_grown HLD.out.lb hge (fun e => by have := own_ge HLD.out.rc _ e.symm; omega); have hec := blk_cell hbl 13; rw [List.getElem?_toArray, dcells_13 tag S P _ _ _ HS7.out HP4.out] at hec; have hfc := blk_free hbl 13; have hrd := blk_grown HLD.out.rd hge (Kd.R_ne HLD.out.rc HLD.out.rd (by decide)); have r0 := blk_cell hrd 0; have r1 := blk_cell hrd 1; have r2 := blk_cell hrd 2; have s0 := blk_free hrd 0; have s1 := blk_free hrd 1; have s2 := blk_free hrd 2; have hkd := blk_grown HKD.out hge (Kd.R_ne HLD.out.rc HKD.out (by decide)); have e0 := blk_cell hkd 0; have e1 := blk_cell hkd 1; have e2 := blk_cell hkd 2; simp only [List.getElem?_toArray, List.getElem?_cons_zero, List.getElem?_cons_succ] at r0 r1 r2 e0 e1 e2; have HLE := Aside0.mk ((HLD.out.stored hge (fun k hk => ⟨own_ge HLD.out.rc k hk, fun e => Kd.R_ne HLD.out.rc HLD.out.rd (by decide) (by rw [hk, e])⟩) (R_two HLD.out.pl rfl HLD.out.rc (by decide) hge) 13 v1 (dcells_set13 tag S P _ _ _ v1 HS7.out HP4.out) (R_two HLD.out.rr rfl HLD.out.rc (by decide) hge) ho (R_two HLD.out.rk rfl HLD.out.rc (by decide) hge)).move q2 d2); obtain ⟨A1, m1, k1, hv1⟩ := R_slice' ho; subst hv1; clear ho hbe hge hate hbl hrd hkd)
              go_roundw
              case rel => exact ⟨k + 1, q2, d2, _, _, by omega, by go_num, hq2, HLE, HA2, HR2⟩
              case measure => simp [intOf]; omega
        case rest =>
          obtain ⟨p, b, C, vc, hp, hCl, HL, HXR⟩ := hcut
          clear HFEW HX5 HG3
          obtain ⟨c0, c1, c2⟩ := HL.out.rcell
          have HC := Aside0.mk (rtake_calls 2 (.inr (.inl rfl)) xs A c p b wc (Kd.C_below HX.out (HG.out.symm ▸ HL.out.below)) HBY.out hp)
          unfold rdr at HC
          go_wp2_with fail
          refine HC.out.mono ?_
          rintro e v4 ⟨n7, p7, b7, rfl, ht, hn7, hp7, hb⟩
          have HFEW := Aside0.mk (tot_few HBY.out ht)
          have HX5 := Aside0.mk (HXR.out.many ht)
          have hl5 := ((HL.out.call hb).alloc (.cells #[.slice A xs.length c, .int .i64 p7, .bool b7] 101)).over (blk_new v4 _) (by have := (HL.out.call hb).size; omega)
          have HL5 := Aside0.mk hl5
          have HG3 : Aside0 (g + 1 < v4.heap.size) := ⟨by have := (HL.out.call hb).size; omega⟩
          obtain ⟨v5, hv5⟩ : ∃ v5, v4.alloc (.cells #[.slice A xs.length c, .int .i64 p7, .bool b7] 101) = v5 := ⟨_, rfl⟩
          obtain ⟨t32, htn⟩ : ∃ t, v4.heap.size = t := ⟨_, rfl⟩
          rw [hv5, htn] at HL5
          rw [htn] at HG3
          clear hl5 hb ht HC HL HXR c0 c1 c2
          go_upto_block 6 with fail
          go_cut [33, 34, 35, 36, 37, 38, 39] from 163 to 198 (fun _ _ _ _ _ _ _ W => ∃ (p : Nat) (b : Bool) (acc : List Cm) (vn : Value), p ≤ xs.length ∧ acc.length ≤ 65535 ∧ Aside0 (LI w g A xs.length c (.slice Ap pool.length cp) pool W t32 p b tag S P vr vc vn R C acc) ∧ Aside0 (Cn (locP xs) b (locD xs pool tag S P R C acc p)))
          case first =>
            go_wp2_with fail
            go_loopw [33] (fun i W => ∃ (k p : Nat) (b : Bool) (acc : List Cm) (vn : Value), k ≤ n7 ∧ i = .int .i64 k ∧ p ≤ xs.length ∧ Aside0 (LI w g A xs.length c (.slice Ap pool.length cp) pool W t32 p b tag S P vr vc vn R C acc) ∧ Aside0 (acc.length = k ∧ acc.length ≤ 65535) ∧ Aside0 (RepT (cmpP xs pool) n7 p7 b7 acc k p b)) (fun i _ => n7 - (intOf i).toNat)
            case atStart => exact ⟨0, p7, b7, [], _, by omega, rfl, hp7, HL5, ⟨rfl, Nat.zero_le _⟩, ⟨RepT.start _ _ _ _⟩⟩
            case round =>
              clear HL5
              obtain ⟨k, p, b, acc, vn, hk, rfl, hp, HL, HA, HR⟩ := hrel
              obtain ⟨c0, c1, c2⟩ := HL.out.rcell
              by_cases hlt : k < n7
              case neg =>
                obtain rfl : k = n7 := by omega
                have HX6 := Aside0.mk (HX5.out.step HR.out.end_)
                have hal := HA.out.2
                go_wp2
                go_meet
                case rel => exact ⟨p, b, acc, vn, hp, hal, HL, HX6⟩
              cases b with
              | true =>
                have HX6 := Aside0.mk (HX5.out.step (HR.out.bad (acc' := acc)))
                have hal := HA.out.2
                go_wp2
                go_meet
                case rel => exact ⟨p, true, acc, vn, hp, hal, HL, HX6⟩
              | false =>
                obtain rfl : b7 = false := HR.out.good
                have HN5 := Aside0.mk (HFEW.out rfl)
                have HC0 := Aside0.mk (rtake_calls 1 (.inl rfl) xs A c p false wr (Kd.C_below HX.out (HG.out.symm ▸ HL.out.below)) HBY.out hp)
                unfold rdr at HC0
                go_wp2_with fail
                refine HC0.out.mono ?_
                rintro e wa0 ⟨mg, q0, d0, rfl, ht0, ha0, hq0, hb0⟩
                have hl0 := (HL.out.call hb0).alloc (.cells #[.slice A xs.length c, .int .i64 q0, .bool d0] 101)
                have hk0 := blk_new wa0 (.cells #[.slice A xs.length c, .int .i64 q0, .bool d0] 101)
                have htc0 : t32 < wa0.heap.size := blk_lt (HL.out.call hb0).rd
                obtain ⟨wb0, hwb0⟩ : ∃ wb, wa0.alloc (.cells #[.slice A xs.length c, .int .i64 q0, .bool d0] 101) = wb := ⟨_, rfl⟩
                rw [hwb0] at hl0 hk0
                have e0 := blk_cell hk0 0
                have e1 := blk_cell hk0 1
                have e2 := blk_cell hk0 2
                simp only [List.getElem?_toArray, List.getElem?_cons_zero, List.getElem?_cons_succ] at e0 e1 e2
                have HLL0 := Aside0.mk hl0
                have HT0 := Aside0.mk ht0
                clear hl0 hk0 hb0 ht0 HC0 HL c0 c1 c2
                have HC1 := Aside0.mk (rtake_calls 1 (.inl rfl) xs A c q0 d0 wb0 (Kd.C_below HX.out (HG.out.symm ▸ HLL0.out.below)) HBY.out hq0)
                unfold rdr at HC1
                go_wp2_with fail
                refine HC1.out.mono ?_
                rintro e wa1 ⟨ct, q1, d1, rfl, ht1, ha1, hq1, hb1⟩
                have hl1 := (HLL0.out.call hb1).alloc (.cells #[.slice A xs.length c, .int .i64 q1, .bool d1] 101)
                have hk1 := blk_new wa1 (.cells #[.slice A xs.length c, .int .i64 q1, .bool d1] 101)
                have htc1 : t32 < wa1.heap.size := blk_lt (HLL0.out.call hb1).rd
                obtain ⟨wb1, hwb1⟩ : ∃ wb, wa1.alloc (.cells #[.slice A xs.length c, .int .i64 q1, .bool d1] 101) = wb := ⟨_, rfl⟩
                rw [hwb1] at hl1 hk1
                have e0 := blk_cell hk1 0
                have e1 := blk_cell hk1 1
                have e2 := blk_cell hk1 2
                simp only [List.getElem?_toArray, List.getElem?_cons_zero, List.getElem?_cons_succ] at e0 e1 e2
                have HLL1 := Aside0.mk hl1
                have HT1 := Aside0.mk ht1
                clear hl1 hk1 hb1 ht1 HC1 HLL0 
                have HC2 := Aside0.mk (rtext_calls pool Ap cp xs A c q1 d1 wb1 (own_rdS HLL1.out.pl) (Kd.C_below HX.out (HG.out.symm ▸ HLL1.out.below)) HBY.out hq1)
                unfold rdr at HC2
                go_wp2_with fail
                refine HC2.out.mono ?_
                rintro e wa2 ⟨sx, q2, d2, rfl, ht2, hq2, hb2⟩
                have hl2 := (HLL1.out.call hb2).alloc (.cells #[.slice A xs.length c, .int .i64 q2, .bool d2] 101)
                have hk2 := blk_new wa2 (.cells #[.slice A xs.length c, .int .i64 q2, .bool d2] 101)
                have htc2 : t32 < wa2.heap.size := blk_lt (HLL1.out.call hb2).rd
                obtain ⟨wb2, hwb2⟩ : ∃ wb, wa2.alloc (.cells #[.slice A xs.length c, .int .i64 q2, .bool d2] 101) = wb := ⟨_, rfl⟩
                rw [hwb2] at hl2 hk2
                have HLD := Aside0.mk hl2
                have HKD := Aside0.mk hk2
                have HT2 := Aside0.mk ht2
                obtain ⟨Av, mv, cv, rfl⟩ := R_slice' hl2.rk
                have hvc := (hl2.cell 14).trans (dcells_14 tag S P _ _ _ HS7.out HP4.out)
                have HR2 := Aside0.mk (HR.out.step hlt (tot_cmp HT0.out HT1.out HT2.out))
                have HSZ : Aside0 (g + 2 ≤ wb2.heap.size) := ⟨by have := hl2.size; omega⟩
                have HBN : Aside0 ((acc.length + 1) * 32 ≤ 140737488355328) := ⟨by have := HA.out.2; omega⟩
                have HA2 : Aside0 ((acc ++ [((mg : Int), ((ct : Int), sx))]).length = k + 1 ∧ (acc ++ [((mg : Int), ((ct : Int), sx))]).length ≤ 65535) := ⟨by rw [List.length_append, HA.out.1]; have := HN5.out; simp; omega⟩
                have hg3 := HG3.out
                clear hl2 hk2 hb2 ht2 HC2 HLL1 HT0 HT1 HT2 HA HR
                go_wp2_with ((with_reducible refine gate_builtin (b := .append) (xs := #[.tmp 190, .tmp 195]) rfl ?_); at_builtin; refine Kd.R_append kCm (w0 := wb2) (g + 2) rfl (.tmp 190) (.tmp 195) 27 61 (.agg #[.int .i64 0, .int .i64 0, .string ⟨#[]⟩]) 32 rfl Try.underlying27 info61 rfl (by decide) (by decide) (.slice Av mv cv) acc ((mg : Int), ((ct : Int), sx)) [.int .i64 mg, .int .i64 ct, .string sx] (fun _ => True) (fun _ => False) rfl rfl ⟨[.int .i64 mg], [.int .i64 ct, .string sx], rfl, rfl, ⟨[.int .i64 ct], [.string sx], rfl, rfl, rfl⟩⟩ (fun _ h => h.elim) (fun _ _ => trivial) HLD.out.rk (Below.refl _ _) HSZ.out HBN.out ?_; intro v1 we ho hbe hge hate; have hbl := blk_grown HLD.out.lb hge (fun e => by have := own_ge HLD.out.rk _ e.symm; omega); have hec := blk_cell hbl 14; rw [List.getElem?_toArray, dcells_14 tag S P _ _ _ HS7.out HP4.out] at hec; have hfc := blk_free hbl 14; have hrd := blk_grown HLD.out.rd hge (Kd.R_ne HLD.out.rk HLD.out.rd (by decide)); have r0 := blk_cell hrd 0; have r1 := blk_cell hrd 1; have r2 := blk_cell hrd 2; have s0 := blk_free hrd 0; have s1 := blk_free hrd 1; have s2 := blk_free hrd 2; have hkd := blk_grown HKD.out hge (Kd.R_ne HLD.out.rk HKD.out (by decide)); have e0 := blk_cell hkd 0; have e1 := blk_cell hkd 1; have e2 := blk_cell hkd 2; simp only [List.getElem?_toArray, List.getElem?_cons_zero, List.getElem?_cons_succ] at r0 r1 r2 e0 e1 e2; have HLE := Aside0.mk ((HLD.out.stored hge (fun k hk => ⟨own_ge HLD.out.rk k hk, fun e => Kd.R_ne HLD.out.rk HLD.out.rd (by decide) (by rw [hk, e])⟩) (R_two HLD.out.pl rfl HLD.out.rk (by decide) hge) 14 v1 (dcells_set14 tag S P _ _ _ v1 HS7.out HP4.out) (R_two HLD.out.rr rfl HLD.out.rk (by decide) hge) (R_two HLD.out.rc rfl HLD.out.rk (by decide) hge) ho).move q2 d2); obtain ⟨A1, m1, k1, hv1⟩ := R_slice' ho; subst hv1; clear ho hbe hge hate hbl hrd hkd)
                go_roundw
                case rel => exact ⟨k + 1, q2, d2, _, _, by omega, by go_num, hq2, HLE, HA2, HR2⟩
                case measure => simp [intOf]; omega
          case rest =>
          obtain ⟨p, b, M, vk, hp, hMl, HL, HXR⟩ := hcut
          clear HFEW HX5 HG3
          have HOK : Aside0 (((!b) = true ∧ locP xs = some (mkLoc tag S P R C M)) ∨ ((!b) = false ∧ locP xs = none)) := ⟨by
            rcases HXR.out with ⟨h1, h2⟩ | ⟨h1, h2⟩
            · exact .inl ⟨by rw [h1]; rfl, h2⟩
            · exact .inr ⟨by rw [h1]; rfl, h2⟩⟩
          obtain ⟨W1, D, hD, hDe, hld, hst, hg1, hct, hrd, hfew, hsok, hbel⟩ := HL.out.finish HS7.out HP4.out HZR.out hRl hCl hMl
          have c2 := HL.out.rcell.2.2
          have HRD := Aside0.mk hrd
          have HFW := Aside0.mk hfew
          have HSO := Aside0.mk hsok
          have HBE := Aside0.mk hbel
          have HG1 := Aside0.mk hg1
          have HD := Aside0.mk hD
          clear HL HXR hD hDe hrd hfew hsok hbel hg1
          go_wp2_with fail
          go_region
          go_wp2
          obtain ⟨v0, v1, v2, v3, v4, v5, v6, v7, v8, v9, v10, v11, v12, v13, v14, rfl⟩ := list15 HD.out
          refine bodyPost_ret (results_l42 _ g _ rfl v0 v1 v2 v3 v4 v5 v6 v7 v8 v9 v10 v11 v12 v13 v14 _ rfl HG1.out) rfl ⟨_, _, _, rfl, HRD.out.lower (by rw [HG.out]; omega), HFW.out, HSO.out, ?_, HOK.out⟩
          rw [HG.out]
          exact HBE.out
end Go.Proofs.Ytfbmgjanplnabaa
/- exergueref08.Cut. -/
namespace Go.Proofs.Ytfbmgjanplnabaa
open Go.RowKit Go.Proofs.YtfbmgjanplnabaaW.PrintWords Go.Proofs.YtfbmgjanplnabaaW.PrintLast Go.Proofs.YtfbmgjanplnabaaW.PrintMore
set_option linter.unusedVariables false
set_option linter.unusedSimpArgs false

theorem refCut_short (xs : List Int) (A : Option Addr) (c : Nat) (w : World) (hm : xs.length < 4) :
    Calls Try.prog 41 #[.slice A xs.length c] w fun e w' => e = .returned (.tuple #[.slice none 0 0, .int .i64 2]) ∧ w = w' := by
  go_enter Try.func41, Try.ntmps41
  go_wp2
  go_ret2
  exact ⟨rfl, rfl⟩
theorem le4_sum {s y0 y1 y2 y3 : Int} (h0 : 0 ≤ s) (h1 : s < 4294967296) (a0 : 0 ≤ y0 ∧ y0 < 256) (a1 : 0 ≤ y1 ∧ y1 < 256) (a2 : 0 ≤ y2 ∧ y2 < 256) (a3 : 0 ≤ y3 ∧ y3 < 256) : [y0, y1, y2, y3] = le4 s ↔ y0 + y1 * 256 + y2 * 65536 + y3 * 16777216 = s := by
  unfold le4
  simp only [List.cons.injEq, and_true]
  omega
set_option maxHeartbeats 1600000 in
set_option maxRecDepth 100000 in
theorem refCut_body (xs : List Int) (y0 y1 y2 y3 : Int) (A : Option Addr) (c : Nat) (w : World) (hx : RdB w A (xs ++ [y0, y1, y2, y3])) (hc : (xs ++ [y0, y1, y2, y3]).length ≤ c) (hby : Bytes (xs ++ [y0, y1, y2, y3])) (hm : xs.length ≤ 1000000) :
    Calls Try.prog 41 #[.slice A (xs.length + 4) c] w fun e w' => (if [y0, y1, y2, y3] = le4 (crcOn 0 xs) then e = .returned (.tuple #[.slice A xs.length c, .int .i64 0]) else e = .returned (.tuple #[.slice none 0 0, .int .i64 6])) ∧ RdB w A xs ∧ Below w.heap.size w w' := by
  obtain ⟨i0, hi, _, hsz, _⟩ := info_parts info5
  have hlen : (xs ++ [y0, y1, y2, y3]).length = xs.length + 4 := by rw [List.length_append]; rfl
  obtain ⟨hcut2, hA2, hC2⟩ := print_take_of (P := Try.prog) (Value.int .u8) 0 32 5 .i64 Try.underlying32 hi hsz A c (xs ++ [y0, y1, y2, y3]) (xs.length : Int) (by omega) (by omega) hc
  have hx2 := Kd.C_of_reads (h1 := fun _ => rfl) (hA2 _ (Kd.reads_of_C hx))
  simp only [Int.toNat_natCast, List.take_left] at hcut2 hx2
  rw [hlen] at hcut2
  have HX2 := Aside0.mk hx2
  have hbx : Bytes xs := fun z hz => hby z (List.mem_append_left _ hz)
  have hcr := crcOn_range xs hbx
  obtain ⟨b, off, rfl, hcell⟩ := at_RdB hx 0 (by simp)
  have hc0 : w.cell? ⟨b, off + xs.length, none⟩ = some (.int .u8 y0) := (hcell xs.length (by simp)).trans (by simp)
  have hc1 : w.cell? ⟨b, off + (xs.length + 1), none⟩ = some (.int .u8 y1) := (hcell (xs.length + 1) (by simp)).trans (by simp [List.getElem_append_right])
  have hc2 : w.cell? ⟨b, off + (xs.length + 2), none⟩ = some (.int .u8 y2) := (hcell (xs.length + 2) (by simp)).trans (by simp [List.getElem_append_right])
  have hc3 : w.cell? ⟨b, off + (xs.length + 3), none⟩ = some (.int .u8 y3) := (hcell (xs.length + 3) (by simp)).trans (by simp [List.getElem_append_right])
  have a0 := hby y0 (by simp)
  have a1 := hby y1 (by simp)
  have a2 := hby y2 (by simp)
  have a3 := hby y3 (by simp)
  obtain ⟨s, hs⟩ : ∃ s, crcOn 0 xs = s := ⟨_, rfl⟩
  rw [hs] at hcr
  have hiff := le4_sum hcr.1 hcr.2 a0 a1 a2 a3
  have HS := Aside0.mk hs
  have HBX := Aside0.mk hbx
  have g0 := a0.1
  have g1 := a1.1
  have g2 := a2.1
  have g3 := a3.1
  have k0 := a0.2
  have k1 := a1.2
  have k2 := a2.2
  have k3 := a3.2
  rw [hs]
  have HIFF := Aside0.mk hiff
  clear hx hc hby hx2 hbx hlen hA2 hC2 hi hsz hcell hs hiff a0 a1 a2 a3
  have HDR : Aside0 (∀ nq, Below w.heap.size w (w.drewN nq)) := ⟨fun nq => by
    have h := Below.refl w.heap.size w
    exact ⟨h.os, h.tape, h.output, h.size, h.block⟩⟩
  have HDC : Aside0 (∀ nq, RdB (w.drewN nq) (some ⟨b, off, none⟩) xs) := ⟨fun nq => Kd.C_below HX2.out (HDR.out nq)⟩
  by_cases heq : y0 + y1 * 256 + y2 * 65536 + y3 * 16777216 = s
  · simp only [if_pos (HIFF.out.2 heq)]
    go_enter Try.func41, Try.ntmps41
    go_wp2_with fail
    go_quiet (fail)
    go_wp2_with (go_at_call 35; refine (refOf_calls xs _ c _ (HDC.out _) HBX.out).mono ?_; rintro e w' ⟨rfl, rfl⟩; rw [HS.out])
    go_ret2
    exact ⟨rfl, HX2.out, HDR.out _⟩
  · simp only [if_neg (fun h => heq (HIFF.out.1 h))]
    go_enter Try.func41, Try.ntmps41
    go_wp2_with fail
    go_quiet (fail)
    go_wp2_with (go_at_call 35; refine (refOf_calls xs _ c _ (HDC.out _) HBX.out).mono ?_; rintro e w' ⟨rfl, rfl⟩; rw [HS.out])
    go_ret2
    exact ⟨rfl, HX2.out, HDR.out _⟩
end Go.Proofs.Ytfbmgjanplnabaa
/- exergueref16.Decode. -/
namespace Go.Proofs.Ytfbmgjanplnabaa
open Go.RowKit Go.Proofs.YtfbmgjanplnabaaW.PrintWords Go.Proofs.YtfbmgjanplnabaaW.PrintLast Go.Proofs.YtfbmgjanplnabaaW.PrintMore
set_option linter.unusedVariables false
set_option linter.unusedSimpArgs false
attribute [local go_sem ↓] Ld_eq St_eq

set_option maxHeartbeats 1600000 in
theorem results_l16 (W : World) (g2 : Nat) (tmps : Array Value) (ht : tmps[2]? = some (.pointer (some ⟨g2, 0, none⟩))) (v0 v1 v2 v3 v4 v5 v6 v7 v8 v9 v10 v11 v12 v13 v14 u : Value) (ht3 : tmps[3]? = some u) (h : W.heap[g2]? = some (.cells #[v0, v1, v2, v3, v4, v5, v6, v7, v8, v9, v10, v11, v12, v13, v14] 29 (0, 0))) : (results Try.f16 tmps).run Try.prog W = .ok (.tuple #[.agg #[v0, v1, v2, v3, v4, v5, v6, v7, v8, v9, v10, v11, v12, v13, v14], u]) W := by
  have h0 := blk_cell h 0
  have h1 := blk_cell h 1
  have h2 := blk_cell h 2
  have h3 := blk_cell h 3
  have h4 := blk_cell h 4
  have h5 := blk_cell h 5
  have h6 := blk_cell h 6
  have h7 := blk_cell h 7
  have h8 := blk_cell h 8
  have h9 := blk_cell h 9
  have h10 := blk_cell h 10
  have h11 := blk_cell h 11
  have h12 := blk_cell h 12
  have h13 := blk_cell h 13
  have h14 := blk_cell h 14
  simp only [List.getElem?_toArray, List.getElem?_cons_zero, List.getElem?_cons_succ] at h0 h1 h2 h3 h4 h5 h6 h7 h8 h9 h10 h11 h12 h13 h14
  clear h
  simp [results, Try.results16, go_sem, ht, ht3, h0, h1, h2, h3, h4, h5, h6, h7, h8, h9, h10, h11, h12, h13, h14]
/-- What the document's Decode answers. -/
def rdecQ (xs : List Int) (w : World) (e : Ending) (w' : World) : Prop :=
  ∃ (N : List Value) (n : Loc) (k : Int), e = .returned (.tuple #[.agg N.toArray, .int .i64 k]) ∧ RdL w' n N ∧ Below w.heap.size w w' ∧ (match decode xs with
    | .inl l => k = 0 ∧ n = l
    | .inr c => k = c ∧ n = zloc)
theorem encU {l : Loc} {w : World} {e : Ending} {w' : World} (h : encPost l w e w') : ∃ (A : Option Addr) (ys : List Int) (c : Nat) (k : Int), e = .returned (.tuple #[.slice A ys.length c, .int .i64 k]) ∧ RdB w' A ys ∧ Below w.heap.size w w' ∧ ((encOk l = true ∧ (k == 0) = true ∧ (k != 0) = false ∧ ys = enc l) ∨ (encOk l = false ∧ (k == 0) = false ∧ (k != 0) = true)) := by
  obtain ⟨hb, he⟩ := h
  cases ho : encOk l with
  | true =>
    rw [ho] at he
    obtain ⟨v, rfl, hv⟩ := he
    obtain ⟨A, c, rfl, _, hr⟩ := Kd.R_reads hv
    exact ⟨A, _, c, 0, rfl, hr, hb, .inl ⟨rfl, rfl, rfl, rfl⟩⟩
  | false =>
    rw [ho] at he
    exact ⟨none, [], 0, 1, he, Kd.C_nil _ _, hb, .inr ⟨rfl, rfl, rfl⟩⟩
/-- The result's variable stands empty. -/
structure DZ (w : World) (g : Nat) (W : World) : Prop where
  kz : W.heap[g]? = some (.cells ZC.toArray 29 (0, 0))
  below : Below g w W
theorem DZ.call {w W W' : World} {g : Nat} (h : DZ w g W) (hg : g ≤ W.heap.size) (hb : Below W.heap.size W W') : DZ w g W' := ⟨blk_below h.kz hb (blk_lt h.kz), below_then h.below hg hb⟩
theorem DZ.store {w W : World} {g : Nat} (h : DZ w g W) : (St (.pointer (some ⟨g, 0, none⟩)) (.agg ZC.toArray)).run Try.prog W = .ok () W := by
  have hs := run_storeVar_row (P := Try.prog) W g 29 29 ZC.toArray ZC.toArray h.kz (by rw [size29]; rfl) rfl (by simp [Value.oneCell'])
  rw [setRow_self W g ZC.toArray 29 (0, 0) h.kz] at hs
  simp only [St, Instr.storeAt, Instr.sureAddr, Sem.run_bind, Sem.run_pure, Result.andThen_ok, hs]
theorem rdecQ_no {xs : List Int} {w W : World} {g : Nat} {k : Int} (hd : decode xs = .inr k) (hg : w.heap.size = g) (h : DZ w g W) : rdecQ xs w (.returned (.tuple #[.agg ZC.toArray, .int .i64 k])) W :=
  ⟨ZC, zloc, k, rfl, zloc_reads W, by rw [hg]; exact h.below, by rw [hd]; exact ⟨rfl, rfl⟩⟩
set_option maxHeartbeats 1600000 in
set_option maxRecDepth 100000 in
/-- Cut refuses. -/
theorem refDecode_refused (xs : List Int) (A : Option Addr) (n c : Nat) (w : World) (k : Int) (hd : decode xs = .inr k) (hk : k = 2 ∨ k = 6) (HC : ∀ W, Below w.heap.size w W → Calls Try.prog 41 #[.slice A n c] W fun e w' => e = .returned (.tuple #[.slice none 0 0, .int .i64 k]) ∧ Below W.heap.size W w') :
    Calls Try.prog 16 #[.slice A n c] w (rdecQ xs w) := by
  have hz := blk_new w (.cells ZC.toArray 29)
  have hb1 := (Below.refl w.heap.size w).alloc (Nat.le_refl _) (.cells ZC.toArray 29)
  have HC1 := Aside0.mk (HC _ hb1)
  obtain ⟨w1, hw1⟩ : ∃ w1, w.alloc (.cells ZC.toArray 29) = w1 := ⟨_, rfl⟩
  rw [hw1] at hz hb1 HC1
  obtain ⟨g, hg⟩ : ∃ g, w.heap.size = g := ⟨_, rfl⟩
  rw [hg] at hz hb1
  have HZ : Aside0 (DZ w g w1) := ⟨hz, hb1⟩
  have HGS : Aside0 (g ≤ w1.heap.size) := ⟨by have := hb1.size; rw [hg] at this; exact this⟩
  have HNO : Aside0 (∀ W, DZ w g W → rdecQ xs w (.returned (.tuple #[.agg ZC.toArray, .int .i64 k])) W) := ⟨fun W h => rdecQ_no hd hg h⟩
  clear HC hz hb1 hd
  rcases hk with rfl | rfl
  all_goals
    go_enter Try.func16, Try.ntmps16
    go_wp2_with fail
    refine HC1.out.mono ?_
    rintro e w2 ⟨rfl, hb⟩
    have HZ2 := Aside0.mk (HZ.out.call HGS.out hb)
    have hst := HZ2.out.store
    clear hb HC1
    go_wp2
    exact bodyPost_ret (results_l16 _ g _ rfl _ _ _ _ _ _ _ _ _ _ _ _ _ _ _ _ rfl HZ2.out.kz) rfl (HNO.out _ HZ2.out)
theorem DZ.put {w W : World} {g : Nat} {l : Loc} {L : List Value} (h : DZ w g W) (hL : OwnL W (g + 1) l L) : ∃ W1, (St (.pointer (some ⟨g, 0, none⟩)) (.agg L.toArray)).run Try.prog W = .ok () W1 ∧ W1.heap[g]? = some (.cells L.toArray 29 (0, 0)) ∧ RdL W1 l L ∧ Below g w W1 := by
  have hs := run_storeVar_row (P := Try.prog) W g 29 29 ZC.toArray L.toArray h.kz (by rw [size29]; simp [hL.reads.length]) (by simp [hL.reads.length]) hL.reads.one
  have hgr := grownBy_setRow W g L.toArray
  obtain ⟨vr, vc, vk, rfl, h1, h2, h3⟩ := hL
  refine ⟨W.setRow g _, ?_, setRow_heap _ _ _ _ _ _ h.kz, ?_, below_setRow h.below (Nat.le_refl _) _⟩
  · simp only [St, Instr.storeAt, Instr.sureAddr, Sem.run_bind, Sem.run_pure, Result.andThen_ok, hs]
  · refine OwnL.reads (base := g + 1) ⟨vr, vc, vk, rfl, ?_, ?_, ?_⟩
    · exact Kd.R_grown2 h1 rfl hgr (fun k hk e => by injection hk with hk; have := own_ge h1 k e.symm; omega)
    · exact Kd.R_grown2 h2 rfl hgr (fun k hk e => by injection hk with hk; have := own_ge h2 k e.symm; omega)
    · exact Kd.R_grown2 h3 rfl hgr (fun k hk e => by injection hk with hk; have := own_ge h3 k e.symm; omega)
theorem decode_ok_none {ys : List Int} {y0 y1 y2 y3 : Int} (hc : [y0, y1, y2, y3] = le4 (crcOn 0 ys)) (h : locP ys = none) : decode (ys ++ [y0, y1, y2, y3]) = .inr 2 := by
  rw [decode_app, if_pos hc, h]
theorem decode_ok_some {ys : List Int} {y0 y1 y2 y3 : Int} {l : Loc} (hc : [y0, y1, y2, y3] = le4 (crcOn 0 ys)) (h : locP ys = some l) (hb : Bytes (ys ++ [y0, y1, y2, y3])) : decode (ys ++ [y0, y1, y2, y3]) = if encOk l = true ∧ enc l = ys ++ [y0, y1, y2, y3] then .inl l else .inr 2 := by
  rw [decode_app, if_pos hc, h]
  cases ho : encOk l with
  | false => simp [ho]
  | true =>
    simp only
    rw [eqB_true (bytes_enc ho) hb]
    by_cases he : enc l = ys ++ [y0, y1, y2, y3] <;> simp [he, ho]
set_option maxHeartbeats 3200000 in
set_option maxRecDepth 100000 in
theorem refDecode_body (ys : List Int) (y0 y1 y2 y3 : Int) (A : Option Addr) (c : Nat) (w : World) (hx : RdB w A (ys ++ [y0, y1, y2, y3])) (hc : (ys ++ [y0, y1, y2, y3]).length ≤ c) (hby : Bytes (ys ++ [y0, y1, y2, y3])) (hm : ys.length ≤ 1000000) (hcrc : [y0, y1, y2, y3] = le4 (crcOn 0 ys)) :
    Calls Try.prog 16 #[.slice A (ys.length + 4) c] w (rdecQ (ys ++ [y0, y1, y2, y3]) w) := by
  have hlen : (ys ++ [y0, y1, y2, y3]).length = ys.length + 4 := by rw [List.length_append]; rfl
  have hz := blk_new w (.cells ZC.toArray 29)
  have hb1 := (Below.refl w.heap.size w).alloc (Nat.le_refl _) (.cells ZC.toArray 29)
  have hs1 := size_alloc w (.cells ZC.toArray 29)
  obtain ⟨w1, hw1⟩ : ∃ w1, w.alloc (.cells ZC.toArray 29) = w1 := ⟨_, rfl⟩
  rw [hw1] at hz hb1 hs1
  have HC1 := Aside0.mk (refCut_body ys y0 y1 y2 y3 A c w1 (Kd.C_below hx hb1) hc hby hm)
  simp only [if_pos hcrc] at HC1
  obtain ⟨g, hg⟩ : ∃ g, w.heap.size = g := ⟨_, rfl⟩
  have HX : Aside0 (∀ W, DZ w g W → RdB W A (ys ++ [y0, y1, y2, y3])) := ⟨fun W h => Kd.C_below hx (hg.symm ▸ h.below)⟩
  rw [hg] at hz hb1 hs1
  have HZ : Aside0 (DZ w g w1) := ⟨hz, hb1⟩
  have HS1 := Aside0.mk hs1
  have HNO : Aside0 (∀ W, decode (ys ++ [y0, y1, y2, y3]) = .inr 2 → DZ w g W → rdecQ (ys ++ [y0, y1, y2, y3]) w (.returned (.tuple #[.agg ZC.toArray, .int .i64 2])) W) := ⟨fun W hd h => rdecQ_no hd hg h⟩
  have HYE : Aside0 (∀ W (l : Loc) (L : List Value), decode (ys ++ [y0, y1, y2, y3]) = .inl l → Below g w W → RdL W l L → rdecQ (ys ++ [y0, y1, y2, y3]) w (.returned (.tuple #[.agg L.toArray, .int .i64 0])) W) := ⟨fun W l L hd h hL => ⟨L, l, 0, rfl, hL, by rw [hg]; exact h, by rw [hd]; exact ⟨rfl, rfl⟩⟩⟩
  have HGE := Aside0.mk hg
  have hcy : ys.length ≤ c := by omega
  have hbs : Bytes ys := fun z hz => hby z (List.mem_append_left _ hz)
  have HBY := Aside0.mk hby
  have HCR := Aside0.mk hcrc
  obtain ⟨xs, hxs⟩ : ∃ xs, ys ++ [y0, y1, y2, y3] = xs := ⟨_, rfl⟩
  have HXS := Aside0.mk hxs
  rw [hxs] at HX HNO HYE hlen ⊢
  have HLN := Aside0.mk hlen
  clear hz hb1 hs1 hx hc hby hcrc hg hxs hlen
  go_enter Try.func16, Try.ntmps16
  go_wp2_with fail
  refine HC1.out.mono ?_
  rintro e w2 ⟨rfl, hr, hb⟩
  have HZ2 := Aside0.mk (HZ.out.call (by rw [HS1.out]; omega) hb)
  have HS2 : Aside0 (g + 1 ≤ w2.heap.size) := ⟨by have := hb.size; rw [HS1.out] at this; exact this⟩
  have HC2 := Aside0.mk (refLocale_calls ys A c w2 (Kd.C_below hr hb) hcy hbs hm)
  clear hr hb HC1 hw1
  go_wp2_with fail
  refine HC2.out.mono ?_
  rintro e w3 ⟨l, L, ok, rfl, hL, hF, hz, hb, hor⟩
  have hL3 := hL.lower (base' := g + 1) HS2.out
  have hL4 := OwnL.below hL3 ((Below.refl _ _).alloc (Nat.le_refl _) (.cells L.toArray 29))
  have hst : (St (.pointer (some ⟨w3.heap.size, 0, none⟩)) (.agg L.toArray)).run Try.prog (w3.alloc (.cells ZC.toArray 29)) = .ok () (w3.alloc (.cells L.toArray 29)) := store29 rfl hL.reads.length hL.reads.one
  have hz4 := (HZ2.out.call (by have := HS2.out; omega) hb).call (by have := hb.size; have := HS2.out; omega) ((Below.refl _ _).alloc (Nat.le_refl _) (.cells L.toArray 29))
  have hk4 := blk_new w3 (.cells L.toArray 29)
  obtain ⟨w4, hw4⟩ : ∃ w4, w3.alloc (.cells L.toArray 29) = w4 := ⟨_, rfl⟩
  rw [hw4] at hst hL4 hz4 hk4
  obtain ⟨t6, ht6⟩ : ∃ t, w3.heap.size = t := ⟨_, rfl⟩
  rw [ht6] at hst
  have hld := load29 hL.reads.length (ht6 ▸ hk4)
  have HC3 := Aside0.mk (refEncode_calls l L w4 hL4.reads hF hz)
  have HL4 := Aside0.mk hL4
  have HZ4 := Aside0.mk hz4
  have HK4 := Aside0.mk hk4
  have HNL := Aside0.mk hL.reads.length
  have HOR := Aside0.mk hor
  have HG4 : Aside0 (g ≤ w4.heap.size) := ⟨by have := blk_lt hz4.kz; omega⟩
  clear hL hL3 hL4 hz4 hk4 hF hz hb hor HC2
  go_wp2_with fail
  refine HC3.out.mono ?_
  intro e w5 hq
  obtain ⟨B, zs, c2, k2, rfl, hzr, hb, hor2⟩ := encU hq
  have HZ5 := Aside0.mk (HZ4.out.call HG4.out hb)
  have HL5 := Aside0.mk (HL4.out.below hb)
  have HK5 := Aside0.mk (blk_below HK4.out hb (blk_lt HK4.out))
  have HG5 : Aside0 (g ≤ w5.heap.size) := ⟨Nat.le_trans HG4.out hb.size⟩
  have HC4 := Aside0.mk (row_calls zs xs B A c2 c w5 hzr (HX.out _ HZ5.out))
  rw [HLN.out] at HC4
  have HOR2 := Aside0.mk hor2
  clear hq hzr hb hor2 HC3 hld hw4
  go_wp2_with fail
  refine HC4.out.mono ?_
  rintro e w6 ⟨rfl, hb⟩
  have HZ6 := Aside0.mk (HZ5.out.call HG5.out hb)
  have HL6 := Aside0.mk (HL5.out.below hb)
  have HK6 := blk_below HK5.out hb (blk_lt HK5.out)
  rw [ht6] at HK6
  have hld6 := load29 HNL.out HK6
  have hstz := HZ6.out.store
  obtain ⟨W1, hput, hW1, hrd1, hbel1⟩ := HZ6.out.put HL6.out
  have HRD1 := Aside0.mk hrd1
  have HBL1 := Aside0.mk hbel1
  have HW1 := Aside0.mk hW1
  have hge := HGE.out
  rw [hge]
  clear hb HC4 hW1 hrd1 hbel1 HK6
  cases ok with
  | false =>
    have HD : Aside0 (decode xs = .inr 2) := ⟨by
      rcases HOR.out with ⟨h, _⟩ | ⟨_, h⟩
      · cases h
      · rw [← HXS.out]; exact decode_ok_none HCR.out h⟩
    clear hput
    go_wp2
    exact bodyPost_ret (results_l16 _ g _ rfl _ _ _ _ _ _ _ _ _ _ _ _ _ _ _ _ rfl HZ6.out.kz) rfl (HNO.out _ HD.out HZ6.out)
  | true =>
    have HLP : Aside0 (locP ys = some l) := ⟨by
      rcases HOR.out with ⟨_, h⟩ | ⟨h, _⟩
      · exact h
      · cases h⟩
    have HDS := Aside0.mk (decode_ok_some HCR.out HLP.out HBY.out)
    rw [HXS.out] at HDS
    rcases HOR2.out with ⟨h1, e3, e4, h2⟩ | ⟨h1, e3, e4⟩
    · by_cases heq : zs = xs
      · have HD : Aside0 (decode xs = .inl l) := ⟨by rw [HDS.out, if_pos ⟨h1, h2 ▸ heq⟩]⟩
        clear h1 h2 hstz
        go_wp2
        obtain ⟨v0, v1, v2, v3, v4, v5, v6, v7, v8, v9, v10, v11, v12, v13, v14, rfl⟩ := list15 HNL.out
        exact bodyPost_ret (results_l16 _ g _ rfl _ _ _ _ _ _ _ _ _ _ _ _ _ _ _ _ rfl HW1.out) rfl (HYE.out _ _ _ HD.out HBL1.out HRD1.out)
      · have HD : Aside0 (decode xs = .inr 2) := ⟨by rw [HDS.out, if_neg (fun h => heq (h2.trans h.2))]⟩
        clear h1 h2 hput
        go_wp2
        exact bodyPost_ret (results_l16 _ g _ rfl _ _ _ _ _ _ _ _ _ _ _ _ _ _ _ _ rfl HZ6.out.kz) rfl (HNO.out _ HD.out HZ6.out)
    · have HD : Aside0 (decode xs = .inr 2) := ⟨by rw [HDS.out, if_neg (fun h => by rw [h1] at h; cases h.1)]⟩
      clear h1 hput
      go_wp2
      exact bodyPost_ret (results_l16 _ g _ rfl _ _ _ _ _ _ _ _ _ _ _ _ _ _ _ _ rfl HZ6.out.kz) rfl (HNO.out _ HD.out HZ6.out)
/-- The document's Decode answers as the program's. -/
theorem refDecode_calls (xs : List Int) (A : Option Addr) (c : Nat) (w : World) (hx : RdB w A xs) (hc : xs.length ≤ c) (hby : Bytes xs) (hm : xs.length ≤ 1000000) :
    Calls Try.prog 16 #[.slice A xs.length c] w (rdecQ xs w) := by
  by_cases h4 : xs.length < 4
  · refine refDecode_refused xs A xs.length c w 2 (decode_short h4) (.inl rfl) (fun W hb => ?_)
    refine (refCut_short xs A c W h4).mono ?_
    rintro e w' ⟨rfl, rfl⟩
    exact ⟨rfl, Below.refl _ _⟩
  · obtain ⟨ys, y0, y1, y2, y3, rfl⟩ := split4 xs h4
    have hlen : (ys ++ [y0, y1, y2, y3]).length = ys.length + 4 := by rw [List.length_append]; rfl
    by_cases hcrc : [y0, y1, y2, y3] = le4 (crcOn 0 ys)
    · have := refDecode_body ys y0 y1 y2 y3 A c w hx hc hby (by omega) hcrc
      rw [hlen]
      exact this
    · refine refDecode_refused _ A _ c w 6 (by rw [decode_app, if_neg hcrc]) (.inr rfl) (fun W hb => ?_)
      rw [hlen]
      refine (refCut_body ys y0 y1 y2 y3 A c W (Kd.C_below hx hb) hc hby (by omega)).mono ?_
      rintro e w' ⟨h1, _, h2⟩
      rw [if_neg hcrc] at h1
      exact ⟨h1, h2⟩
end Go.Proofs.Ytfbmgjanplnabaa

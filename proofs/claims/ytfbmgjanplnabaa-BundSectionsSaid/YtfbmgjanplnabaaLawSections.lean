/- BundSections: for every input it returns true, and the input reads as it did. No condition. -/
import Derived.Test.YtfbmgjanplnabaaBM
import Derived.Test.YtfbmgjanplnabaaBO
import Derived.Test.YtfbmgjanplnabaaRows
import Derived.WalkKit
import Derived.ProofKit
import Derived.OpenShut
import Derived.ShutString
import Derived.ChangeOld
import Derived.Below
import Derived.SizedLaws
/- BundSections: the walk. -/
namespace Go.Proofs.Ytfbmgjanplnabaa
open Go.RowKit Go.Proofs.YtfbmgjanplnabaaW.PrintWords Go.Proofs.YtfbmgjanplnabaaW.PrintLast Go.Proofs.YtfbmgjanplnabaaW.PrintMore
set_option linter.unusedVariables false
set_option linter.unusedSimpArgs false
attribute [local go_sem ↓] Ld_eq St_eq

theorem decode_longer {l : Loc} (hok : encOk l = true) (hz : l.s.ok) (c : Int) (hc : 0 ≤ c ∧ c < 256) : decode ((body l ++ [c]) ++ le4 (crcOn 0 (body l ++ [c]))) = .inr 2 := by
  rw [decode_put, locP_body l [c] hok hz]
  have hb : Bytes ((body l ++ [c]) ++ le4 (crcOn 0 (body l ++ [c]))) := ((bytes_body hok).append (fun x hx => by
    have : x = c := by simpa using hx
    rw [this]; exact hc)).append (bytes_le4 _)
  have h1 : eqB (enc l) ((body l ++ [c]) ++ le4 (crcOn 0 (body l ++ [c]))) = false := by
    rw [eqB_true (bytes_enc hok) hb, decide_eq_false]
    intro e
    have := congrArg List.length e
    rw [enc_length] at this
    simp [le4] at this
  simp only [h1, Bool.and_false]
  rfl
theorem decode_shorter {l : Loc} (hok : encOk l = true) (hz : l.s.ok) (ys : List Int) (x : Int) (h : body l = ys ++ [x]) : decode (ys ++ le4 (crcOn 0 ys)) = .inr 2 := by
  have hby : Bytes ys := fun y hy => bytes_body hok y (by rw [h]; exact List.mem_append_left _ hy)
  rw [decode_put]
  cases hl : locP ys with
  | none => rfl
  | some m =>
    simp only
    split
    case isFalse => rfl
    case isTrue hq =>
      exfalso
      rw [Bool.and_eq_true] at hq
      have hm := hq.1
      have hzm := (locP_few hby hl).2
      have he := hq.2
      rw [eqB_true (bytes_enc hm) (hby.append (bytes_le4 _)), decide_eq_true_eq] at he
      unfold enc at he
      have hbm : body m = ys := (List.append_inj' he (by rw [le4_length, le4_length])).1
      have hlm : l = m := body_prefix hok hm hz hzm [x] (by rw [h, hbm])
      subst hlm
      rw [h] at hbm
      have := congrArg List.length hbm
      simp at this
set_option maxHeartbeats 3200000 in
set_option maxRecDepth 100000 in
theorem sections_calls (l : Loc) (L : List Value) (c : Int) (w : World) (hL : RdL w l L) (zl : l.s.ok) (hc : 0 ≤ c ∧ c ≤ 255) :
    Calls Try.prog 3 #[.agg L.toArray, .int .u8 c] w (yes w) := by
  have HL := Aside0.mk hL
  have HNL := Aside0.mk hL.length
  have HZL := Aside0.mk zl
  have HC := Aside0.mk hc
  clear hL zl hc
  have HB0 := Aside0.mk ((Below.refl w.heap.size w).alloc (Nat.le_refl _) (.cells L.toArray 29))
  have HK1 := Aside0.mk (blk_new w (.cells L.toArray 29))
  go_enter Try.func3, Try.ntmps3
  go_wp2_with fail
  generalize w.alloc (.cells L.toArray 29) = w0 at HB0 HK1 ⊢
  obtain ⟨g, hg⟩ : ∃ g, w.heap.size = g := ⟨_, rfl⟩
  rw [hg] at HK1 ⊢
  have HLD : Aside0 (∀ W, Below w0.heap.size w0 W → (Ld (.pointer (some ⟨g, 0, none⟩))).run Try.prog W = .ok (.agg L.toArray) W) := ⟨fun W h => load29 HNL.out (blk_below HK1.out h (blk_lt HK1.out))⟩
  have HLR : Aside0 (∀ W, Below w0.heap.size w0 W → RdL W l L) := ⟨fun W h => (HL.out.below HB0.out).below h⟩
  have HYES : Aside0 (∀ W, Below w0.heap.size w0 W → Below w.heap.size w W) := ⟨fun W h => below_then HB0.out HB0.out.size h⟩
  clear HL HNL HK1 HB0 hg
  refine (shown_calls _).mono ?_
  rintro e w1 ⟨rfl, hb⟩
  have HB1 := Aside0.mk hb
  have hl1 := HLD.out _ hb
  clear hb
  go_wp2_with fail
  refine (small_calls l L _ (HLR.out _ HB1.out)).mono ?_
  rintro e w2 ⟨b1, rfl, ht1, hb⟩
  have HT1 := Aside0.mk ht1
  have HB2 := Aside0.mk (below_then HB1.out HB1.out.size hb)
  have HW2 := Aside0.mk (HYES.out _ HB2.out)
  clear hb ht1 hl1 HB1
  cases b1 with
  | false =>
    go_wp2
    go_ret
    exact ⟨rfl, HW2.out⟩
  | true =>
  have hl2 := HLD.out _ HB2.out
  have FL := Aside0.mk (HT1.out (by first | rfl | trivial)).few
  clear HT1 HW2
  go_wp2_with fail
  cases hol : encOk l with
  | false =>
    refine (encode_no (HLR.out _ HB2.out) FL.out HZL.out hol).mono ?_
    rintro e w3 ⟨rfl, hb⟩
    have HW3 := Aside0.mk (HYES.out _ (below_then HB2.out HB2.out.size hb))
    clear hb hl2 hol HB2
    go_wp2
    go_ret
    exact ⟨rfl, HW3.out⟩
  | true =>
  refine (encode_yes (HLR.out _ HB2.out) FL.out HZL.out hol).mono ?_
  rintro e w3 ⟨Ay, cy, rfl, hrd, hcc, hb⟩
  have HB3 := Aside0.mk (below_then HB2.out HB2.out.size hb)
  have hlo := body_long hol
  have hhi := body_short FL.out hol
  have hlen := enc_length l
  have HD1 := Aside0.mk (decode_longer hol HZL.out c (by have := HC.out; omega))
  have HD2 := Aside0.mk (fun ys x h => decode_shorter hol HZL.out ys x h)
  have HBY := Aside0.mk (bytes_body hol)
  obtain ⟨i0, hi, _, hsz, _⟩ := info_parts info5
  obtain ⟨hcut, hA, _⟩ := print_take_of (P := Try.prog) (Value.int .u8) 0 32 5 .i64 Try.underlying32 hi hsz Ay cy (enc l) ((body l).length : Int) (by omega) (by omega) hcc
  have htk : (enc l).take ((body l).length : Int).toNat = body l := by unfold enc; rw [Int.toNat_natCast, List.take_left]
  have hrb : RdB w3 Ay (body l) := by
    have := Kd.C_of_reads (h1 := fun _ => rfl) (hA _ (Kd.reads_of_C hrd))
    rw [htk] at this
    exact this
  rw [htk] at hcut
  obtain ⟨bs, hbs⟩ : ∃ bs, body l = bs := ⟨_, rfl⟩
  rw [hbs] at hcut hrb hlo hhi hlen HD1 HD2 HBY
  have HRB := Aside0.mk hrb
  obtain ⟨N, hN⟩ : ∃ N, (enc l).length = N := ⟨_, rfl⟩
  rw [hN] at hcut hlen hcc ⊢
  have e4 : (bs.length : Int) = (N : Int) - 4 := by omega
  rw [e4] at hcut
  have hn1 : 60 ≤ N := by omega
  have hn2 : N ≤ 3000060 := by omega
  have hcy : bs.length ≤ cy := by omega
  have HLEN := Aside0.mk hlen
  have HCUT := Aside0.mk hcut
  have hcut := hcut w3
  clear hb hl2 hol HB2 hrd hcc hA htk hi hsz hbs hrb hlen hlo hhi hN e4
  have HX := HRB
  have HM : Aside0 (bs.length ≤ 3000060) := ⟨by have := HLEN.out; omega⟩
  go_wp2_with (first
    | ((with_reducible refine gate_builtin (b := .append) (xs := #[.tmp 41, .tmp 42]) rfl ?_); at_builtin; refine appB (w0 := w3) w3.heap.size rfl _ _ rfl _ [] bs Ay cy rfl rfl (own_row _ _ _ _ (Nat.le_refl _)) (Kd.C_alloc HX.out _) ((Below.refl _ _).alloc (Nat.le_refl _) _) (by simp) (by have := HM.out; simp; omega) ?_; intro v1 w4 ho hb hg hat; obtain ⟨A1, m1, c1, hv⟩ := R_slice' ho; subst hv; have HO := Aside0.mk ho; have HB := Aside0.mk hb; clear ho hb hg hat hcut)
    | ((with_reducible refine gate_builtin (b := .append) (xs := #[.tmp 43, .tmp 45]) rfl ?_); at_builtin; refine appB (w0 := w3) w3.heap.size rfl _ _ rfl (.slice A1 m1 c1) bs [c] (some ⟨w4.heap.size, 0, none⟩) 1 rfl rfl (Kd.R_alloc HO.out _) (C_blk .u8 [c] (blk_new _ _) (by simp)) (HB.out.alloc HB.out.size _) (Nat.le_trans HB.out.size (by simp)) (by have := HM.out; simp; omega) ?_; intro v2 w5 ho hb hg hat; obtain ⟨A2, m2, c2, hv⟩ := R_slice' ho; subst hv; have HO2 := Aside0.mk ho; have HB2 := Aside0.mk hb; clear ho hb hg hat))
  have HB5 := Aside0.mk (below_then HB3.out HB3.out.size HB2.out)
  obtain ⟨A3, c3, hv, hc3, hr3⟩ := Kd.R_reads HO2.out
  injection hv with hv1 hv2 hv3
  subst hv1 hv2 hv3
  have HBC : Aside0 (Bytes (bs ++ [c])) := ⟨HBY.out.append (fun x hx => by
    have : x = c := by simpa using hx
    have := HC.out
    omega)⟩
  have HRB5 := Aside0.mk (Kd.C_below HRB.out HB2.out)
  have HPUT := Aside0.mk (refPut_calls (bs ++ [c]) A2 c2 w5 hr3 HBC.out (by have := HM.out; simp; omega))
  obtain ⟨cs, hcs⟩ : ∃ cs, bs ++ [c] = cs := ⟨_, rfl⟩
  have HML : Aside0 (cs.length ≤ 3000061) := ⟨by have := HM.out; rw [← hcs]; simp; omega⟩
  rw [hcs] at HPUT HBC HD1 ⊢
  clear hc3 hr3 hcs HO HO2 HB HB2 HB3 HX HRB
  refine HPUT.out.mono ?_
  rintro e w6 ⟨v6, rfl, ho, hb⟩
  obtain ⟨A6, c6, rfl, hcc6, hrd6⟩ := Kd.R_reads ho
  have HB6 := Aside0.mk (below_then HB5.out HB5.out.size hb)
  have HRB6 := Aside0.mk (Kd.C_below HRB5.out hb)
  have HDE := Aside0.mk (decode_no hrd6 hcc6 (HBC.out.append (bytes_le4 _)) (by have := HML.out; rw [List.length_append, le4_length]; omega) HD1.out)
  obtain ⟨ds, hds⟩ : ∃ ds, cs ++ le4 (crcOn 0 cs) = ds := ⟨_, rfl⟩
  rw [hds] at HDE ⊢
  clear hb ho hcc6 hrd6 hds HB5 HRB5 HPUT HD1 HBC
  go_wp2_with fail
  refine HDE.out.mono ?_
  rintro e w7 ⟨rfl, hb⟩
  have HB7 := Aside0.mk (below_then HB6.out HB6.out.size hb)
  have HRB7 := Aside0.mk (Kd.C_below HRB6.out hb)
  obtain ⟨Z, hZ⟩ : ∃ Z, zcells = Z := ⟨_, rfl⟩
  have HZR : Aside0 (∀ W, RdL W zloc Z) := ⟨fun W => hZ ▸ zloc_reads W⟩
  rw [hZ]
  have hst : (St (.pointer (some ⟨w7.heap.size, 0, none⟩)) (.agg Z.toArray)).run Try.prog (w7.alloc (.cells ZC.toArray 29)) = .ok () (w7.alloc (.cells Z.toArray 29)) := store29 rfl (HZR.out w7).length (HZR.out w7).one
  obtain ⟨w8, hw8⟩ : ∃ w8, w7.alloc (.cells Z.toArray 29) = w8 := ⟨_, rfl⟩
  have hb8 := (Below.refl w7.heap.size w7).alloc (Nat.le_refl _) (.cells Z.toArray 29)
  have HKZ := Aside0.mk (blk_new w7 (.cells Z.toArray 29))
  rw [hw8] at hst hb8 HKZ
  have HB8 := Aside0.mk (below_then HB7.out HB7.out.size hb8)
  have HRB8 := Aside0.mk (Kd.C_below HRB7.out hb8)
  clear hb hb8 hw8 hZ HDE HB6 HB7 HRB6 HRB7
  -- the row without its last byte
  obtain ⟨i0, hi, _, hsz, _⟩ := info_parts info5
  obtain ⟨hcut, hA, _⟩ := print_take_of (P := Try.prog) (Value.int .u8) 0 32 5 .i64 Try.underlying32 hi hsz Ay cy bs ((bs.length : Int) - 1) (by have := HLEN.out; omega) (by omega) hcy
  have hne : bs ≠ [] := by intro e; have := HLEN.out; rw [e] at this; simp at this; omega
  have htk : bs.take ((bs.length : Int) - 1).toNat = bs.dropLast := by
    rw [List.dropLast_eq_take]
    congr 1
    omega
  have hrb : RdB w8 Ay bs.dropLast := by
    have := Kd.C_of_reads (h1 := fun _ => rfl) (hA _ (Kd.reads_of_C HRB8.out))
    rw [htk] at this
    exact this
  rw [htk] at hcut
  have HD3 := Aside0.mk (HD2.out bs.dropLast (bs.getLast hne) (List.dropLast_concat_getLast hne).symm)
  have HBE : Aside0 (Bytes bs.dropLast) := ⟨fun x hx => HBY.out x (by rw [List.dropLast_eq_take] at hx; exact List.mem_of_mem_take hx)⟩
  obtain ⟨es, hes⟩ : ∃ es, bs.dropLast = es := ⟨_, rfl⟩
  rw [hes] at hcut hrb HD3 HBE
  have HEL : Aside0 (es.length ≤ cy ∧ es.length ≤ 3000060) := ⟨by have := HM.out; rw [← hes, List.length_dropLast]; omega⟩
  have HRE := Aside0.mk hrb
  have hcut := hcut w8
  have hm1 : bs.length ≤ 3000060 := HM.out
  have hm2 : 1 ≤ bs.length := by have := HLEN.out; omega
  clear hA htk hi hsz hrb hne hes HD2 HRB8 HCUT hcy hn1 hn2
  have hZZ := load29 (HZR.out w8).length HKZ.out
  go_wp2_with fail
  refine (refPut_calls es Ay cy w8 HRE.out HBE.out (by have := HEL.out; omega)).mono ?_
  rintro e w9 ⟨v9, rfl, ho, hb⟩
  obtain ⟨A9, c9, rfl, hcc9, hrd9⟩ := Kd.R_reads ho
  have HB9 := Aside0.mk (below_then HB8.out HB8.out.size hb)
  have HKZ9 := Aside0.mk (blk_below HKZ.out hb (blk_lt HKZ.out))
  have HDE := Aside0.mk (decode_no hrd9 hcc9 (HBE.out.append (bytes_le4 _)) (by have := HEL.out; rw [List.length_append, le4_length]; omega) HD3.out)
  obtain ⟨fs, hfs⟩ : ∃ fs, es ++ le4 (crcOn 0 es) = fs := ⟨_, rfl⟩
  rw [hfs] at HDE ⊢
  obtain ⟨gz, hgz⟩ : ∃ gz, w7.heap.size = gz := ⟨_, rfl⟩
  rw [hgz] at HKZ9 ⊢
  clear hb ho hcc9 hrd9 hfs HB8 HKZ hst hcut hZZ HRE HBE HD3 HEL
  go_wp2_with fail
  refine HDE.out.mono ?_
  rintro e w10 ⟨rfl, hb⟩
  have HB10 := Aside0.mk (below_then HB9.out HB9.out.size hb)
  have HKZ10 := Aside0.mk (blk_below HKZ9.out hb (blk_lt HKZ9.out))
  obtain ⟨Y, hY⟩ : ∃ Y, zcells = Y := ⟨_, rfl⟩
  have HYR : Aside0 (∀ W, RdL W zloc Y) := ⟨fun W => hY ▸ zloc_reads W⟩
  rw [hY]
  have hst : (St (.pointer (some ⟨w10.heap.size, 0, none⟩)) (.agg Y.toArray)).run Try.prog (w10.alloc (.cells ZC.toArray 29)) = .ok () (w10.alloc (.cells Y.toArray 29)) := store29 rfl (HYR.out w10).length (HYR.out w10).one
  obtain ⟨w11, hw11⟩ : ∃ w11, w10.alloc (.cells Y.toArray 29) = w11 := ⟨_, rfl⟩
  have hb11 := (Below.refl w10.heap.size w10).alloc (Nat.le_refl _) (.cells Y.toArray 29)
  have HKY := Aside0.mk (blk_new w10 (.cells Y.toArray 29))
  rw [hw11] at hst hb11 HKY
  have HB11 := Aside0.mk (below_then HB10.out HB10.out.size hb11)
  have HKZ11 := Aside0.mk (blk_below HKZ10.out hb11 (blk_lt HKZ10.out))
  have hz11 := load29 (HZR.out w11).length HKZ11.out
  clear hb hb11 hw11 hY HDE HB9 HB10 HKZ9 HKZ10
  go_wp2_with fail
  refine (same_calls zloc zloc Z ZC w11 (HZR.out _) (zloc_reads _)).mono ?_
  rintro e w12 ⟨rfl, hb⟩
  have HB12 := Aside0.mk (below_then HB11.out HB11.out.size hb)
  have hy12 := load29 (HYR.out w12).length (blk_below HKY.out hb (blk_lt HKY.out))
  (first | rw [decide_eq_true (rfl : zloc = zloc)] | simp only [decide_true] | skip)
  clear hb hz11 hst HB11 HKY HKZ11
  go_wp2_with fail
  refine (same_calls zloc zloc Y ZC w12 (HYR.out _) (zloc_reads _)).mono ?_
  rintro e w13 ⟨rfl, hb⟩
  have HB13 := Aside0.mk (HYES.out _ (below_then HB12.out HB12.out.size hb))
  (first | rw [decide_eq_true (rfl : zloc = zloc)] | simp only [decide_true] | skip)
  clear hb hy12 HB12
  go_wp2
  go_ret
  exact ⟨rfl, HB13.out⟩
end Go.Proofs.Ytfbmgjanplnabaa
namespace Go.Proofs.Ytfbmgjanplnabaa.bundSections
open Go.ChangeShapes Go.WideShapes Go.ChangeAt Go.RowKit
open Go.ChangeMaps (open_string shut_string)
set_option linter.unusedVariables false
theorem own : ownKnob Try.prog.godebug = none := by kernel_rfl
theorem laidOut : laidOutB Try.prog = true := by kernel_rfl
set_option maxRecDepth 100000 in
theorem lifted (os : Os) (started : os.Started) (H : Type) (enc : TypeId × Value → H) :
    ReturnsInHanded {} Try.checked os 3 .any (Rows.bundSectionsSpec.pre6 enc Try.prog Try.f3 Rows.bundSectionsRow.domain false) (Rows.bundSectionsSpec.post enc Try.prog Try.f3 false true false false) := by
  refine returnsInHanded_of_change_sized (C := Try.checked) own started (by kernel_rfl) Try.func3
    (ChangeSpec.witness6 (enc := enc) (C := Try.checked) false ⟨#[], #[.agg zcells.toArray, .int .u8 0], []⟩ 8 (by kernel_rfl) (by kernel_rfl) (by kernel_rfl) (by kernel_rfl)) ?_
  intro W base args ds gs before hval0 hW hcnd hsz0 _
  have hval : ∀ (j : Nat) t v, Try.f3.params[j]? = some t → args[j]? = some v → Value.okWide Try.prog W .any base t v := hval0
  have hW' := hW
  obtain ⟨p, q, hA0, hV, rfl, hfz, hnd⟩ := hW
  have hA : DataW.TrodAll enc Try.prog W 0 (fun _ => true) true Try.f3.params.toList args.toList ds p := hA0
  rw [Try.params3] at hA hval
  obtain ⟨v0, vs0, d0, ds0, p0, q0, hargs, rfl, rfl, h0, r0⟩ := trodAll_cons hA
  obtain ⟨v1, vs1, d1, ds1, p1, q1, rfl, rfl, rfl, h1, r1⟩ := trodAll_cons r0
  obtain ⟨rfl, rfl, rfl⟩ := trodAll_nil r1
  obtain rfl : args = #[v0, v1] := by cases args; simp_all
  obtain ⟨rfl, rfl⟩ := trodVars_none hV
  obtain ⟨l0, L0, rfl, hl0, zl0⟩ := open_loc (hval 0 29 v0 rfl rfl) h0
  obtain ⟨n1, rfl, e1, g1, w1⟩ := open_int Try.underlying5 (hval 1 5 v1 rfl rfl) h1
  have lt0 : ∀ x ∈ p0, x.block < W.heap.size := by obtain ⟨m, hm⟩ := h0; exact DataW.trod_lt m _ _ _ hm
  have lt1 : ∀ x ∈ p1, x.block < W.heap.size := by obtain ⟨m, hm⟩ := h1; exact DataW.trod_lt m _ _ _ hm
  clear hA0 hval0 hsz0
  refine (sections_calls l0 L0 n1 W hl0 zl0 (bounds_u8 w1)).mono fun e W' ⟨he, bel⟩ => ?_
  subst he
  exact ⟨_, rfl, _, _, _, [], _, [], hW', trodAll_mk1 (shut_bool Try.underlying4 _),
    (trodAll_cons_mk (Below.trod laidOut (by kernel_rfl) (of_decide_eq_true (by kernel_rfl)) h0 bel lt0) (trodAll_cons_mk (Below.trod laidOut (by kernel_rfl) (of_decide_eq_true (by kernel_rfl)) h1 bel lt1) trodAll_mk0)), rfl, bel.frame _, fun h => by cases h⟩
theorem over : Rows.bundSectionsRow.holds Try.pinned (OpenSpec.ofChange Rows.bundSectionsSpec) :=
  OpenClaim.holds_of_wide 3 Try.f3 rfl rfl rfl rfl rfl rfl rfl ⟨rfl, rfl, rfl, rfl, rfl⟩ rfl rfl rfl rfl rfl (by kernel_rfl) Try.func3 (by kernel_rfl)
    (of_decide_eq_true (by kernel_rfl)) (by unfold Func.isWrapper; first | (rw [if_pos (by decide +kernel)]; kernel_rfl) | (rw [if_neg (by decide +kernel)]; exact ⟨rfl, rfl⟩))
    (fun os started H enc _ => lifted os started H enc)
theorem proved : Rows.BundSectionsSaid := over
#print axioms proved
end Go.Proofs.Ytfbmgjanplnabaa.bundSections
namespace Go.Proofs.Ytfbmgjanplnabaa
/-- The row, under a short name, for the claim. -/
theorem bundSections_holds : Rows.BundSectionsSaid := bundSections.proved
end Go.Proofs.Ytfbmgjanplnabaa

/- BundTells: for every input it returns true, and the input reads as it did. No condition. -/
import Derived.Test.YtfbmgjanplnabaaBU
import Derived.Test.YtfbmgjanplnabaaBM
import Derived.Deep.RegionHeld3
import Derived.Test.YtfbmgjanplnabaaRows
import Derived.WalkKit
import Derived.ProofKit
import Derived.OpenShut
import Derived.ShutString
import Derived.ChangeOld
import Derived.Below
import Derived.SizedLaws
/- BundTells: the walk. -/
namespace Go.Proofs.Ytfbmgjanplnabaa
open Go.RowKit Go.Proofs.YtfbmgjanplnabaaW.PrintWords Go.Proofs.YtfbmgjanplnabaaW.PrintLast Go.Proofs.YtfbmgjanplnabaaW.PrintMore
set_option linter.unusedVariables false
set_option linter.unusedSimpArgs false
attribute [local go_sem ↓] Ld_eq St_eq

/-- What an Encode gives: the bytes and the number that the locale alone says. -/
def encB (l : Loc) : List Int := if encOk l = true then enc l else []
def encK (l : Loc) : Int := if encOk l = true then 0 else 1
theorem encV {l : Loc} {w : World} {e : Ending} {w' : World} (h : encPost l w e w') : ∃ (A : Option Addr) (c : Nat), e = .returned (.tuple #[.slice A (encB l).length c, .int .i64 (encK l)]) ∧ RdB w' A (encB l) ∧ Below w.heap.size w w' := by
  obtain ⟨hb, he⟩ := h
  cases ho : encOk l with
  | true =>
    rw [ho] at he
    obtain ⟨v, rfl, hv⟩ := he
    obtain ⟨A, c, rfl, _, hr⟩ := Kd.R_reads hv
    have e1 : encB l = enc l := by unfold encB; rw [if_pos ho]
    have e2 : encK l = 0 := by unfold encK; rw [if_pos ho]
    rw [e1, e2]
    exact ⟨A, c, rfl, hr, hb⟩
  | false =>
    rw [ho] at he
    have e1 : encB l = [] := by unfold encB; rw [if_neg (by rw [ho]; decide)]
    have e2 : encK l = 1 := by unfold encK; rw [if_neg (by rw [ho]; decide)]
    rw [e1, e2]
    exact ⟨none, 0, he, Kd.C_nil _ _, hb⟩
/-- What a Decode gives: the locale and the number that the bytes alone say. -/
def decN (xs : List Int) : Loc := match decode xs with | .inl l => l | .inr _ => zloc
def decK (xs : List Int) : Int := match decode xs with | .inl _ => 0 | .inr c => c
theorem decV {xs : List Int} {w : World} {e : Ending} {w' : World} (h : decPost xs w e w') : ∃ N : List Value, e = .returned (.tuple #[.agg N.toArray, .int .i64 (decK xs)]) ∧ RdL w' (decN xs) N ∧ Below w.heap.size w w' := by
  obtain ⟨hb, he⟩ := h
  unfold decK decN
  cases hd : decode xs with
  | inl l =>
    rw [hd] at he
    obtain ⟨L, rfl, ho⟩ := he
    exact ⟨L, rfl, ho.reads, hb⟩
  | inr c =>
    rw [hd] at he
    exact ⟨zcells, he, zloc_reads w', hb⟩
theorem rdecV {xs : List Int} {w : World} {e : Ending} {w' : World} (h : rdecQ xs w e w') : ∃ N : List Value, e = .returned (.tuple #[.agg N.toArray, .int .i64 (decK xs)]) ∧ RdL w' (decN xs) N ∧ Below w.heap.size w w' := by
  obtain ⟨N, n, k, rfl, hn, hb, hm⟩ := h
  unfold decK decN
  cases hd : decode xs with
  | inl l =>
    rw [hd] at hm
    obtain ⟨rfl, rfl⟩ := hm
    exact ⟨N, rfl, hn, hb⟩
  | inr c =>
    rw [hd] at hm
    obtain ⟨rfl, rfl⟩ := hm
    exact ⟨N, rfl, hn, hb⟩
set_option maxHeartbeats 3200000 in
set_option maxRecDepth 100000 in
theorem tells_calls (l : Loc) (L : List Value) (xs : List Int) (A : Option Addr) (c : Nat) (w : World) (hL : RdL w l L) (zl : l.s.ok) (hx : RdB w A xs) (hc : xs.length ≤ c) (hby : Bytes xs) :
    Calls Try.prog 4 #[.agg L.toArray, .slice A xs.length c] w (yes w) := by
  have HL := Aside0.mk hL
  have HNL := Aside0.mk hL.length
  have HZL := Aside0.mk zl
  have HX := Aside0.mk hx
  have HC := Aside0.mk hc
  have HBY := Aside0.mk hby
  have hlx : xs.length ≤ 9223372036854775807 := hx.2.1
  clear hL zl hx hc hby
  have HB0 := Aside0.mk ((Below.refl w.heap.size w).alloc (Nat.le_refl _) (.cells L.toArray 29))
  have HK1 := Aside0.mk (blk_new w (.cells L.toArray 29))
  go_enter Try.func4, Try.ntmps4
  go_wp2_with fail
  generalize w.alloc (.cells L.toArray 29) = w0 at HB0 HK1 ⊢
  obtain ⟨g, hg⟩ : ∃ g, w.heap.size = g := ⟨_, rfl⟩
  rw [hg] at HK1 ⊢
  have HLD : Aside0 (∀ W, Below w0.heap.size w0 W → (Ld (.pointer (some ⟨g, 0, none⟩))).run Try.prog W = .ok (.agg L.toArray) W) := ⟨fun W h => load29 HNL.out (blk_below HK1.out h (blk_lt HK1.out))⟩
  have HLR : Aside0 (∀ W, Below w0.heap.size w0 W → RdL W l L) := ⟨fun W h => (HL.out.below HB0.out).below h⟩
  have HXR : Aside0 (∀ W, Below w0.heap.size w0 W → RdB W A xs) := ⟨fun W h => Kd.C_below (Kd.C_below HX.out HB0.out) h⟩
  have HYES : Aside0 (∀ W, Below w0.heap.size w0 W → Below w.heap.size w W) := ⟨fun W h => below_then HB0.out HB0.out.size h⟩
  clear HL HNL HK1 HX HB0 hg
  refine (shown_calls _).mono ?_
  rintro e w1 ⟨rfl, hb⟩
  have HB1 := Aside0.mk hb
  have hl1 := HLD.out _ hb
  clear hb
  go_wp2_with fail
  refine (small_calls l L _ (HLR.out _ HB1.out)).mono ?_
  rintro e w2 ⟨b1, rfl, ht1, hb⟩
  have HT1 := Aside0.mk ht1
  have HB2 := Aside0.mk (below_then HB1.out HB1.out.size hb)
  have HW2 := Aside0.mk (HYES.out _ HB2.out)
  clear hb ht1 hl1 HB1
  cases b1 with
  | false =>
    go_wp2
    go_ret
    exact ⟨rfl, HW2.out⟩
  | true =>
  by_cases hbig : xs.length ≤ 10000
  case neg =>
    go_wp2
    go_ret
    exact ⟨rfl, HW2.out⟩
  have hl2 := HLD.out _ HB2.out
  have FL := Aside0.mk (HT1.out (by first | rfl | trivial)).few
  clear HT1 HW2
  go_wp2_with fail
  refine (encode_calls l L w2 (HLR.out _ HB2.out) FL.out HZL.out).mono ?_
  intro e w3 hq
  obtain ⟨A1, c1, rfl, hr1, hb⟩ := encV hq
  have HB3 := Aside0.mk (below_then HB2.out HB2.out.size hb)
  have HR1 := Aside0.mk hr1
  have hl3 := HLD.out _ HB3.out
  clear hq hb hr1 hl2 HB2
  go_wp2_with fail
  refine (refEncode_calls l L w3 (HLR.out _ HB3.out) FL.out HZL.out).mono ?_
  intro e w4 hq
  obtain ⟨A2, c2, rfl, hr2, hb⟩ := encV hq
  have HB4 := Aside0.mk (below_then HB3.out HB3.out.size hb)
  have HR2 := Aside0.mk hr2
  have HR1' := Aside0.mk (Kd.C_below HR1.out hb)
  clear hq hb hr2 hl3 HB3 HR1
  go_wp2_with fail
  refine (decode_calls xs A c w4 (HXR.out w4 HB4.out) HC.out HBY.out (by omega)).mono ?_
  intro e w5 hq
  obtain ⟨N1, rfl, hn1, hb⟩ := decV hq
  have hst : (St (.pointer (some ⟨w5.heap.size, 0, none⟩)) (.agg N1.toArray)).run Try.prog (w5.alloc (.cells ZC.toArray 29)) = .ok () (w5.alloc (.cells N1.toArray 29)) := store29 rfl hn1.length hn1.one
  have hb5 := (Below.refl w5.heap.size w5).alloc (Nat.le_refl _) (.cells N1.toArray 29)
  have hk6 := blk_new w5 (.cells N1.toArray 29)
  obtain ⟨w6, hw6⟩ : ∃ w6, w5.alloc (.cells N1.toArray 29) = w6 := ⟨_, rfl⟩
  rw [hw6] at hst hb5 hk6
  have hb6 := below_then hb hb.size hb5
  have HB6 := Aside0.mk (below_then HB4.out HB4.out.size hb6)
  have HQ1 := Aside0.mk (Kd.C_below HR1'.out hb6)
  have HQ2 := Aside0.mk (Kd.C_below HR2.out hb6)
  have HN1 := Aside0.mk (hn1.below hb5)
  have HK6 := Aside0.mk hk6
  have HNL1 := Aside0.mk hn1.length
  clear hq hb hb5 hb6 hk6 hn1 HR1' HR2 HB4
  go_wp2_with fail
  refine (refDecode_calls xs A c w6 (HXR.out w6 HB6.out) HC.out HBY.out (by omega)).mono ?_
  intro e w7 hq
  obtain ⟨N2, rfl, hn2, hb⟩ := rdecV hq
  clear hw6 hst
  have hst : (St (.pointer (some ⟨w7.heap.size, 0, none⟩)) (.agg N2.toArray)).run Try.prog (w7.alloc (.cells ZC.toArray 29)) = .ok () (w7.alloc (.cells N2.toArray 29)) := store29 rfl hn2.length hn2.one
  have hb7 := (Below.refl w7.heap.size w7).alloc (Nat.le_refl _) (.cells N2.toArray 29)
  have hk8 := blk_new w7 (.cells N2.toArray 29)
  obtain ⟨w8, hw8⟩ : ∃ w8, w7.alloc (.cells N2.toArray 29) = w8 := ⟨_, rfl⟩
  rw [hw8] at hst hb7 hk8
  have hb8 := below_then hb hb.size hb7
  have HB8 := Aside0.mk (below_then HB6.out HB6.out.size hb8)
  have HS1 := Aside0.mk (Kd.C_below HQ1.out hb8)
  have HS2 := Aside0.mk (Kd.C_below HQ2.out hb8)
  have HM1 := Aside0.mk (HN1.out.below hb8)
  have HM2 := Aside0.mk (hn2.below hb7)
  have HK7 := Aside0.mk (blk_below HK6.out hb8 (blk_lt HK6.out))
  have HK8 := Aside0.mk hk8
  have HNL2 := Aside0.mk hn2.length
  clear hq hb hb7 hb8 hk8 hn2 HQ1 HQ2 HN1 HK6 HB6
  have HSS : Aside0 (∀ W, Below w8.heap.size w8 W → (Ld (.pointer (some ⟨g, 0, none⟩))).run Try.prog W = .ok (.agg L.toArray) W ∧ (Ld (.pointer (some ⟨w5.heap.size, 0, none⟩))).run Try.prog W = .ok (.agg N1.toArray) W ∧ (Ld (.pointer (some ⟨w7.heap.size, 0, none⟩))).run Try.prog W = .ok (.agg N2.toArray) W) := ⟨fun W h => ⟨HLD.out W (below_then HB8.out HB8.out.size h), load29 HNL1.out (blk_below HK7.out h (blk_lt HK7.out)), load29 HNL2.out (blk_below HK8.out h (blk_lt HK8.out))⟩⟩
  have HD0 : Aside0 (Below w8.heap.size w8 w8.drew) := ⟨(Below.refl _ _).drew⟩
  go_wp2_with fail
  go_region_held3 (fun W => (Ld (.pointer (some ⟨g, 0, none⟩))).run Try.prog W = .ok (.agg L.toArray) W ∧ (Ld (.pointer (some ⟨w5.heap.size, 0, none⟩))).run Try.prog W = .ok (.agg N1.toArray) W ∧ (Ld (.pointer (some ⟨w7.heap.size, 0, none⟩))).run Try.prog W = .ok (.agg N2.toArray) W)
    (first | exact HSS.out _ HD5.out | exact HSS.out _ HD4.out | exact HSS.out _ HD3.out | exact HSS.out _ HD2.out | exact HSS.out _ HD1.out | exact HSS.out _ HD0.out)
    (first
    | (go_at_call 17; ((with_reducible refine (row_calls (encB l) (encB l) A1 A2 c1 c2 _ (Kd.C_below HS1.out HD0.out) (Kd.C_below HS2.out HD0.out)).mono ?_); rintro e v1 ⟨rfl, hb⟩; have HD1 := Aside0.mk (below_then HD0.out (Nat.le_refl _) hb); rw [decide_eq_true (rfl : encB l = encB l)]; clear hb))
    | (go_at_call 14; ((with_reducible refine (same_calls (decN xs) (decN xs) N1 N2 _ (HM1.out.below HD1.out) (HM2.out.below HD1.out)).mono ?_); rintro e v2 ⟨rfl, hb⟩; have HD2 := Aside0.mk (below_then HD1.out HD1.out.size hb); rw [decide_eq_true (rfl : decN xs = decN xs)]; clear hb))
    | (go_at_call 19; ((with_reducible refine (texts_calls l L _ (HLR.out _ (below_then HB8.out HB8.out.size HD2.out)) FL.out).mono ?_); rintro e v3 ⟨v, rfl, ho, hb⟩; obtain ⟨A3, c3, hv, hr3⟩ := RdS_of ho; subst hv; have HT3 := Aside0.mk hr3; have HD3 := Aside0.mk (below_then HD2.out HD2.out.size hb); clear ho hb hr3))
    | (go_at_call 20; ((with_reducible refine (refTexts_calls l L _ (HLR.out _ (below_then HB8.out HB8.out.size HD3.out)) FL.out).mono ?_); rintro e v4 ⟨v, rfl, ho, hb⟩; obtain ⟨A4, c4, hv, hr4⟩ := RdS_of ho; subst hv; have HT4 := Aside0.mk hr4; have HT3' := Aside0.mk (Kd.C_below HT3.out hb); have HD4 := Aside0.mk (below_then HD3.out HD3.out.size hb); clear ho hb hr4))
    | (go_at_call 18; ((with_reducible refine (rowS_calls (texts l) (texts l) A3 A4 c3 c4 _ HT3'.out HT4.out).mono ?_); rintro e v5 ⟨rfl, hb⟩; have HD5 := Aside0.mk (below_then HD4.out HD4.out.size hb); rw [decide_eq_true (rfl : texts l = texts l)]; clear hb))
    | fail)
  all_goals go_wp2
  all_goals go_ret
  all_goals exact ⟨rfl, HYES.out _ (below_then HB8.out HB8.out.size HD5.out)⟩
end Go.Proofs.Ytfbmgjanplnabaa
namespace Go.Proofs.Ytfbmgjanplnabaa.bundTells
open Go.ChangeShapes Go.WideShapes Go.ChangeAt Go.RowKit
open Go.ChangeMaps (open_string shut_string)
set_option linter.unusedVariables false
theorem own : ownKnob Try.prog.godebug = none := by kernel_rfl
theorem laidOut : laidOutB Try.prog = true := by kernel_rfl
set_option maxRecDepth 100000 in
theorem lifted (os : Os) (started : os.Started) (H : Type) (enc : TypeId × Value → H) :
    ReturnsInHanded {} Try.checked os 4 .any (Rows.bundTellsSpec.pre6 enc Try.prog Try.f4 Rows.bundTellsRow.domain false) (Rows.bundTellsSpec.post enc Try.prog Try.f4 false true false false) := by
  refine returnsInHanded_of_change_sized (C := Try.checked) own started (by kernel_rfl) Try.func4
    (ChangeSpec.witness6 (enc := enc) (C := Try.checked) false ⟨#[], #[.agg zcells.toArray, .slice none 0 0], []⟩ 8 (by kernel_rfl) (by kernel_rfl) (by kernel_rfl) (by kernel_rfl)) ?_
  intro W base args ds gs before hval0 hW hcnd hsz0 _
  have hval : ∀ (j : Nat) t v, Try.f4.params[j]? = some t → args[j]? = some v → Value.okWide Try.prog W .any base t v := hval0
  have hW' := hW
  obtain ⟨p, q, hA0, hV, rfl, hfz, hnd⟩ := hW
  have hA : DataW.TrodAll enc Try.prog W 0 (fun _ => true) true Try.f4.params.toList args.toList ds p := hA0
  rw [Try.params4] at hA hval
  obtain ⟨v0, vs0, d0, ds0, p0, q0, hargs, rfl, rfl, h0, r0⟩ := trodAll_cons hA
  obtain ⟨v1, vs1, d1, ds1, p1, q1, rfl, rfl, rfl, h1, r1⟩ := trodAll_cons r0
  obtain ⟨rfl, rfl, rfl⟩ := trodAll_nil r1
  obtain rfl : args = #[v0, v1] := by cases args; simp_all
  obtain ⟨rfl, rfl⟩ := trodVars_none hV
  obtain ⟨l0, L0, rfl, hl0, zl0⟩ := open_loc (hval 0 29 v0 rfl rfl) h0
  obtain ⟨A1, xs1, c1, rfl, hx1, hc1, hb1⟩ := open_bs (hval 1 32 v1 rfl rfl) h1
  have lt0 : ∀ x ∈ p0, x.block < W.heap.size := by obtain ⟨m, hm⟩ := h0; exact DataW.trod_lt m _ _ _ hm
  have lt1 : ∀ x ∈ p1, x.block < W.heap.size := by obtain ⟨m, hm⟩ := h1; exact DataW.trod_lt m _ _ _ hm
  clear hA0 hval0 hsz0
  refine (tells_calls l0 L0 xs1 A1 c1 W hl0 zl0 hx1 hc1 hb1).mono fun e W' ⟨he, bel⟩ => ?_
  subst he
  exact ⟨_, rfl, _, _, _, [], _, [], hW', trodAll_mk1 (shut_bool Try.underlying4 _),
    (trodAll_cons_mk (Below.trod laidOut (by kernel_rfl) (of_decide_eq_true (by kernel_rfl)) h0 bel lt0) (trodAll_cons_mk (Below.trod laidOut (by kernel_rfl) (of_decide_eq_true (by kernel_rfl)) h1 bel lt1) trodAll_mk0)), rfl, bel.frame _, fun h => by cases h⟩
theorem over : Rows.bundTellsRow.holds Try.pinned (OpenSpec.ofChange Rows.bundTellsSpec) :=
  OpenClaim.holds_of_wide 4 Try.f4 rfl rfl rfl rfl rfl rfl rfl ⟨rfl, rfl, rfl, rfl, rfl⟩ rfl rfl rfl rfl rfl (by kernel_rfl) Try.func4 (by kernel_rfl)
    (of_decide_eq_true (by kernel_rfl)) (by unfold Func.isWrapper; first | (rw [if_pos (by decide +kernel)]; kernel_rfl) | (rw [if_neg (by decide +kernel)]; exact ⟨rfl, rfl⟩))
    (fun os started H enc _ => lifted os started H enc)
theorem proved : Rows.BundTellsSaid := over
#print axioms proved
end Go.Proofs.Ytfbmgjanplnabaa.bundTells
namespace Go.Proofs.Ytfbmgjanplnabaa
/-- The row, under a short name, for the claim. -/
theorem bundTells_holds : Rows.BundTellsSaid := bundTells.proved
end Go.Proofs.Ytfbmgjanplnabaa

/- BundApart: for every input it returns true, and the input reads as it did. No condition. -/
import Derived.Test.YtfbmgjanplnabaaBM
import Derived.Deep.RegionLaw
import Derived.Test.YtfbmgjanplnabaaRows
import Derived.WalkKit
import Derived.ProofKit
import Derived.OpenShut
import Derived.ShutString
import Derived.ChangeOld
import Derived.Below
import Derived.SizedLaws
/- BundApart: the walk. -/
namespace Go.Proofs.Ytfbmgjanplnabaa
open Go.RowKit Go.Proofs.YtfbmgjanplnabaaW.PrintWords Go.Proofs.YtfbmgjanplnabaaW.PrintLast Go.Proofs.YtfbmgjanplnabaaW.PrintMore
set_option linter.unusedVariables false
set_option linter.unusedSimpArgs false
attribute [local go_sem ↓] Ld_eq St_eq

set_option maxHeartbeats 3200000 in
set_option maxRecDepth 100000 in
theorem apart_calls (l m : Loc) (L M : List Value) (w : World) (hL : RdL w l L) (hM : RdL w m M) (zl : l.s.ok) (zm : m.s.ok) :
    Calls Try.prog 7 #[.agg L.toArray, .agg M.toArray] w (yes w) := by
  have HL := Aside0.mk hL
  have HM := Aside0.mk hM
  have HNL := Aside0.mk hL.length
  have HNM := Aside0.mk hM.length
  have HZL := Aside0.mk zl
  have HZM := Aside0.mk zm
  clear hL hM zl zm
  have HB0 := Aside0.mk (((Below.refl w.heap.size w).alloc (Nat.le_refl _) (.cells L.toArray 29)).alloc (by simp) (.cells M.toArray 29))
  have HK1 := Aside0.mk (blk_alloc (blk_new w (.cells L.toArray 29)) (.cells M.toArray 29))
  have HK2 := Aside0.mk (blk_new1 w (.cells M.toArray 29) (.cells L.toArray 29))
  go_enter Try.func7, Try.ntmps7
  go_wp2_with fail
  generalize (w.alloc (.cells L.toArray 29)).alloc (.cells M.toArray 29) = w0 at HB0 HK1 HK2 ⊢
  obtain ⟨g, hg⟩ : ∃ g, w.heap.size = g := ⟨_, rfl⟩
  rw [hg] at HK1 HK2 ⊢
  have HLD : Aside0 (∀ W, Below w0.heap.size w0 W → (Ld (.pointer (some ⟨g, 0, none⟩))).run Try.prog W = .ok (.agg L.toArray) W) := ⟨fun W h => load29 HNL.out (blk_below HK1.out h (blk_lt HK1.out))⟩
  have HMD : Aside0 (∀ W, Below w0.heap.size w0 W → (Ld (.pointer (some ⟨g + 1, 0, none⟩))).run Try.prog W = .ok (.agg M.toArray) W) := ⟨fun W h => load29 HNM.out (blk_below HK2.out h (blk_lt HK2.out))⟩
  have HLR : Aside0 (∀ W, Below w0.heap.size w0 W → RdL W l L) := ⟨fun W h => (HL.out.below HB0.out).below h⟩
  have HMR : Aside0 (∀ W, Below w0.heap.size w0 W → RdL W m M) := ⟨fun W h => (HM.out.below HB0.out).below h⟩
  clear HL HM HNL HNM HK1 HK2 hg
  refine (shown_calls _).mono ?_
  rintro e w1 ⟨rfl, hb⟩
  have HB1 := Aside0.mk hb
  have hl1 := HLD.out _ hb
  clear hb
  go_wp2_with fail
  refine (small_calls l L _ (HLR.out _ HB1.out)).mono ?_
  rintro e w2 ⟨b1, rfl, ht1, hb⟩
  have HT1 := Aside0.mk ht1
  have HB2 := Aside0.mk (below_then HB1.out HB1.out.size hb)
  have hm2 := HMD.out _ HB2.out
  have HW2 := Aside0.mk (below_then HB0.out HB0.out.size HB2.out)
  clear hb ht1 hl1 HB1
  cases b1 with
  | false =>
    go_wp2
    go_ret
    exact ⟨rfl, HW2.out⟩
  | true =>
  go_wp2_with fail
  refine (small_calls m M _ (HMR.out _ HB2.out)).mono ?_
  rintro e w3 ⟨b2, rfl, ht2, hb⟩
  have HT2 := Aside0.mk ht2
  have HB3 := Aside0.mk (below_then HB2.out HB2.out.size hb)
  have HW3 := Aside0.mk (below_then HB0.out HB0.out.size HB3.out)
  clear hb ht2 hm2 HB2 HW2
  cases b2 with
  | false =>
    go_wp2
    go_ret
    exact ⟨rfl, HW3.out⟩
  | true =>
  have hl3 := HLD.out _ HB3.out
  have FL := Aside0.mk (HT1.out (by first | rfl | trivial)).few
  have FM := Aside0.mk (HT2.out (by first | rfl | trivial)).few
  clear HT1 HT2 HW3
  go_wp2_with fail
  cases hol : encOk l with
  | false =>
    refine (encode_no (HLR.out _ HB3.out) FL.out HZL.out hol).mono ?_
    rintro e w4 ⟨rfl, hb⟩
    have HB4 := Aside0.mk (below_then HB3.out HB3.out.size hb)
    have hm4 := HMD.out _ HB4.out
    clear hb hl3 hol HB3
    go_wp2_with fail
    cases hom : encOk m with
    | false =>
      refine (encode_no (HMR.out _ HB4.out) FM.out HZM.out hom).mono ?_
      rintro e w5 ⟨rfl, hb⟩
      have HW5 := Aside0.mk (below_then HB0.out HB0.out.size (below_then HB4.out HB4.out.size hb))
      clear hb hm4 hom
      go_wp2
      go_ret
      exact ⟨rfl, HW5.out⟩
    | true =>
      refine (encode_yes (HMR.out _ HB4.out) FM.out HZM.out hom).mono ?_
      rintro e w5 ⟨A, c, rfl, hrd, hcc, hb⟩
      have HW5 := Aside0.mk (below_then HB0.out HB0.out.size (below_then HB4.out HB4.out.size hb))
      clear hb hm4 hom hrd hcc
      go_wp2
      go_ret
      exact ⟨rfl, HW5.out⟩
  | true =>
    refine (encode_yes (HLR.out _ HB3.out) FL.out HZL.out hol).mono ?_
    rintro e w4 ⟨A, c, rfl, hrd, hcc, hb⟩
    have HB4 := Aside0.mk (below_then HB3.out HB3.out.size hb)
    have hm4 := HMD.out _ HB4.out
    have HRD := Aside0.mk hrd
    have HOL := Aside0.mk hol
    clear hb hl3 hol HB3 hrd hcc
    go_wp2_with fail
    cases hom : encOk m with
    | false =>
      refine (encode_no (HMR.out _ HB4.out) FM.out HZM.out hom).mono ?_
      rintro e w5 ⟨rfl, hb⟩
      have HW5 := Aside0.mk (below_then HB0.out HB0.out.size (below_then HB4.out HB4.out.size hb))
      clear hb hm4 hom
      go_wp2
      go_ret
      exact ⟨rfl, HW5.out⟩
    | true =>
      refine (encode_yes (HMR.out _ HB4.out) FM.out HZM.out hom).mono ?_
      rintro e w5 ⟨A', c', rfl, hrd', hcc', hb⟩
      have HB5 := Aside0.mk (below_then HB4.out HB4.out.size hb)
      have HRD5 := Aside0.mk (Kd.C_below HRD.out hb)
      have HRD' := Aside0.mk hrd'
      have HEQ : Aside0 (decide (enc l = enc m) = decide (l = m)) := ⟨by
        by_cases h : l = m
        · subst h; simp
        · rw [decide_eq_false h, decide_eq_false (fun e => h (enc_inj HOL.out hom HZL.out HZM.out e))]⟩
      clear hb hm4 hom hrd' hcc' HB4 HRD
      go_wp2_with fail
      have hl5 := HLD.out _ HB5.out.drew
      have hm5 := HMD.out _ HB5.out.drew
      have HROW := Aside0.mk (row_calls _ _ A A' c c' _ (Kd.C_drew HRD5.out) (Kd.C_drew HRD'.out))
      have HSAM : Aside0 (∀ W, Below w0.heap.size w0 W → _) := ⟨fun W h => same_calls l m L M W (HLR.out _ h) (HMR.out _ h)⟩
      rw [HEQ.out] at HROW
      obtain ⟨b, hb⟩ : ∃ b, decide (l = m) = b := ⟨_, rfl⟩
      rw [hb] at HROW HSAM
      clear hb HEQ
      go_region_law (first
        | (go_simp; go_at_call 17; refine HROW.out.mono ?_; rintro e w6 ⟨rfl, hb6⟩; have HB6 := Aside0.mk (below_then HB5.out.drew HB5.out.drew.size hb6); have hl6 := HLD.out _ HB6.out; have hm6 := HMD.out _ HB6.out; clear hb6; go_simp)
        | (go_simp; go_at_call 14; refine (HSAM.out _ HB6.out).mono ?_; rintro e w7 ⟨rfl, hb7⟩; have HB7 := Aside0.mk (below_then HB6.out HB6.out.size hb7); clear hb7; go_simp))
      all_goals clear hl5 hm5 hl6 hm6
      all_goals go_wp2
      all_goals go_ret
      all_goals exact ⟨by cases b <;> rfl, below_then HB0.out HB0.out.size HB7.out⟩
end Go.Proofs.Ytfbmgjanplnabaa
namespace Go.Proofs.Ytfbmgjanplnabaa.bundApart
open Go.ChangeShapes Go.WideShapes Go.ChangeAt Go.RowKit
open Go.ChangeMaps (open_string shut_string)
set_option linter.unusedVariables false
theorem own : ownKnob Try.prog.godebug = none := by kernel_rfl
theorem laidOut : laidOutB Try.prog = true := by kernel_rfl
set_option maxRecDepth 100000 in
theorem lifted (os : Os) (started : os.Started) (H : Type) (enc : TypeId × Value → H) :
    ReturnsInHanded {} Try.checked os 7 .any (Rows.bundApartSpec.pre6 enc Try.prog Try.f7 Rows.bundApartRow.domain false) (Rows.bundApartSpec.post enc Try.prog Try.f7 false true false false) := by
  refine returnsInHanded_of_change_sized (C := Try.checked) own started (by kernel_rfl) Try.func7
    (ChangeSpec.witness6 (enc := enc) (C := Try.checked) false ⟨#[], #[.agg zcells.toArray, .agg zcells.toArray], []⟩ 8 (by kernel_rfl) (by kernel_rfl) (by kernel_rfl) (by kernel_rfl)) ?_
  intro W base args ds gs before hval0 hW hcnd hsz0 _
  have hval : ∀ (j : Nat) t v, Try.f7.params[j]? = some t → args[j]? = some v → Value.okWide Try.prog W .any base t v := hval0
  have hW' := hW
  obtain ⟨p, q, hA0, hV, rfl, hfz, hnd⟩ := hW
  have hA : DataW.TrodAll enc Try.prog W 0 (fun _ => true) true Try.f7.params.toList args.toList ds p := hA0
  rw [Try.params7] at hA hval
  obtain ⟨v0, vs0, d0, ds0, p0, q0, hargs, rfl, rfl, h0, r0⟩ := trodAll_cons hA
  obtain ⟨v1, vs1, d1, ds1, p1, q1, rfl, rfl, rfl, h1, r1⟩ := trodAll_cons r0
  obtain ⟨rfl, rfl, rfl⟩ := trodAll_nil r1
  obtain rfl : args = #[v0, v1] := by cases args; simp_all
  obtain ⟨rfl, rfl⟩ := trodVars_none hV
  obtain ⟨l, L, rfl, hl, zl⟩ := open_loc (hval 0 29 v0 rfl rfl) h0
  obtain ⟨m, M, rfl, hm, zm⟩ := open_loc (hval 1 29 v1 rfl rfl) h1
  have lt0 : ∀ x ∈ p0, x.block < W.heap.size := by obtain ⟨m, hm⟩ := h0; exact DataW.trod_lt m _ _ _ hm
  have lt1 : ∀ x ∈ p1, x.block < W.heap.size := by obtain ⟨m, hm⟩ := h1; exact DataW.trod_lt m _ _ _ hm
  clear hA0 hval0 hsz0
  refine (apart_calls l m L M W hl hm zl zm).mono fun e W' ⟨he, bel⟩ => ?_
  subst he
  exact ⟨_, rfl, _, _, _, [], _, [], hW', trodAll_mk1 (shut_bool Try.underlying4 _),
    (trodAll_cons_mk (Below.trod laidOut (by kernel_rfl) (of_decide_eq_true (by kernel_rfl)) h0 bel lt0) (trodAll_cons_mk (Below.trod laidOut (by kernel_rfl) (of_decide_eq_true (by kernel_rfl)) h1 bel lt1) trodAll_mk0)), rfl, bel.frame _, fun h => by cases h⟩
theorem over : Rows.bundApartRow.holds Try.pinned (OpenSpec.ofChange Rows.bundApartSpec) :=
  OpenClaim.holds_of_wide 7 Try.f7 rfl rfl rfl rfl rfl rfl rfl ⟨rfl, rfl, rfl, rfl, rfl⟩ rfl rfl rfl rfl rfl (by kernel_rfl) Try.func7 (by kernel_rfl)
    (of_decide_eq_true (by kernel_rfl)) (by unfold Func.isWrapper; first | (rw [if_pos (by decide +kernel)]; kernel_rfl) | (rw [if_neg (by decide +kernel)]; exact ⟨rfl, rfl⟩))
    (fun os started H enc _ => lifted os started H enc)
theorem proved : Rows.BundApartSaid := over
#print axioms proved
end Go.Proofs.Ytfbmgjanplnabaa.bundApart
namespace Go.Proofs.Ytfbmgjanplnabaa
/-- The row, under a short name, for the claim. -/
theorem bundApart_holds : Rows.BundApartSaid := bundApart.proved
end Go.Proofs.Ytfbmgjanplnabaa

/- BundBack: for every input it returns true, and the input reads as it did. No condition. -/
import Derived.Test.YtfbmgjanplnabaaBM
import Derived.Deep.RegionLaw
import Derived.Test.YtfbmgjanplnabaaRows
import Derived.WalkKit
import Derived.ProofKit
import Derived.OpenShut
import Derived.ShutString
import Derived.ChangeOld
import Derived.Below
import Derived.SizedLaws
/- BundBack: the walk. -/
namespace Go.Proofs.Ytfbmgjanplnabaa
open Go.RowKit Go.Proofs.YtfbmgjanplnabaaW.PrintWords Go.Proofs.YtfbmgjanplnabaaW.PrintLast Go.Proofs.YtfbmgjanplnabaaW.PrintMore
set_option linter.unusedVariables false
set_option linter.unusedSimpArgs false
attribute [local go_sem ↓] Ld_eq St_eq

theorem decode_few {xs : List Int} {l : Loc} (hb : Bytes xs) (h : decode xs = .inl l) : Few l := by
  by_cases h4 : xs.length < 4
  · rw [decode_short h4] at h; cases h
  · obtain ⟨ys, y0, y1, y2, y3, rfl⟩ := split4 xs h4
    rw [decode_app] at h
    split at h
    case isTrue hc =>
      cases hl : locP ys with
      | none => rw [hl] at h; cases h
      | some n =>
        rw [hl] at h
        simp only at h
        split at h
        case isTrue hq =>
          injection h with h
          subst h
          exact (locP_few (fun x hx => hb x (List.mem_append_left _ hx)) hl).1
        case isFalse => cases h
    case isFalse => cases h
theorem decode_is {xs : List Int} {w : World} {e : Ending} {w' : World} (hby : Bytes xs) (h : decPost xs w e w') :
    Below w.heap.size w w' ∧ ∃ (N : List Value) (n : Loc) (k : Int), e = .returned (.tuple #[.agg N.toArray, .int .i64 k]) ∧ RdL w' n N ∧ (k = 0 ∧ encOk n = true ∧ enc n = xs ∧ n.s.ok ∧ Few n ∨ (k == 0) = false ∧ (k != 0) = true ∧ n = zloc) := by
  obtain ⟨hb, he⟩ := h
  refine ⟨hb, ?_⟩
  cases hd : decode xs with
  | inl n =>
    rw [hd] at he
    obtain ⟨N, rfl, ho⟩ := he
    obtain ⟨h1, h2, h3⟩ := decode_inl hby hd
    exact ⟨N, n, 0, rfl, ho.reads, .inl ⟨rfl, h1, h2, h3, decode_few hby hd⟩⟩
  | inr k =>
    rw [hd] at he
    refine ⟨zcells, zloc, k, he, zloc_reads _, .inr ?_⟩
    rcases decode_inr hd with rfl | rfl <;> exact ⟨rfl, rfl, rfl⟩
set_option maxHeartbeats 3200000 in
set_option maxRecDepth 100000 in
/-- Behind what the locale's own bundle is told to be. -/
theorem back_calls (l : Loc) (L : List Value) (xs : List Int) (A : Option Addr) (c : Nat) (w : World) (hL : RdL w l L) (zl : l.s.ok) (hx : RdB w A xs) (hc : xs.length ≤ c) (hby : Bytes xs) :
    Calls Try.prog 5 #[.agg L.toArray, .slice A xs.length c] w (yes w) := by
  have HL := Aside0.mk hL
  have HNL := Aside0.mk hL.length
  have HZL := Aside0.mk zl
  have HX := Aside0.mk hx
  have HC := Aside0.mk hc
  have HBY := Aside0.mk hby
  have hlx : xs.length ≤ 9223372036854775807 := hx.2.1
  clear hL zl hx hc hby
  have HB0 := Aside0.mk ((Below.refl w.heap.size w).alloc (Nat.le_refl _) (.cells L.toArray 29))
  have HK1 := Aside0.mk (blk_new w (.cells L.toArray 29))
  go_enter Try.func5, Try.ntmps5
  go_wp2_with fail
  generalize w.alloc (.cells L.toArray 29) = w0 at HB0 HK1 ⊢
  obtain ⟨g, hg⟩ : ∃ g, w.heap.size = g := ⟨_, rfl⟩
  rw [hg] at HK1 ⊢
  have HLD : Aside0 (∀ W, Below w0.heap.size w0 W → (Ld (.pointer (some ⟨g, 0, none⟩))).run Try.prog W = .ok (.agg L.toArray) W) := ⟨fun W h => load29 HNL.out (blk_below HK1.out h (blk_lt HK1.out))⟩
  have HLR : Aside0 (∀ W, Below w0.heap.size w0 W → RdL W l L) := ⟨fun W h => (HL.out.below HB0.out).below h⟩
  have HXR : Aside0 (∀ W, Below w0.heap.size w0 W → RdB W A xs) := ⟨fun W h => Kd.C_below (Kd.C_below HX.out HB0.out) h⟩
  have HYES : Aside0 (∀ W, Below w0.heap.size w0 W → Below w.heap.size w W) := ⟨fun W h => below_then HB0.out HB0.out.size h⟩
  clear HL HNL HK1 HX HB0 hg
  refine (shown_calls _).mono ?_
  rintro e w1 ⟨rfl, hb⟩
  have HB1 := Aside0.mk hb
  have hl1 := HLD.out _ hb
  clear hb
  go_wp2_with fail
  refine (small_calls l L _ (HLR.out _ HB1.out)).mono ?_
  rintro e w2 ⟨b1, rfl, ht1, hb⟩
  have HT1 := Aside0.mk ht1
  have HB2 := Aside0.mk (below_then HB1.out HB1.out.size hb)
  have HW2 := Aside0.mk (HYES.out _ HB2.out)
  clear hb ht1 hl1 HB1
  cases b1 with
  | false =>
    go_wp2
    go_ret
    exact ⟨rfl, HW2.out⟩
  | true =>
  by_cases hbig : xs.length ≤ 10000
  case neg =>
    go_wp2
    go_ret
    exact ⟨rfl, HW2.out⟩
  have hl2 := HLD.out _ HB2.out
  have FL := Aside0.mk (HT1.out (by first | rfl | trivial)).few
  clear HT1 HW2
  go_wp2_with fail
  have HDX : Aside0 (∀ W, Below w0.heap.size w0 W → Calls Try.prog 12 #[.slice A xs.length c] W (decPost xs W)) := ⟨fun W h => decode_calls xs A c W (HXR.out W h) HC.out HBY.out (by omega)⟩
  have HZC : Aside0 (∃ Z : List Value, Z = ZC) := ⟨_, rfl⟩
  cases hol : encOk l
  refine (encode_no (HLR.out _ HB2.out) FL.out HZL.out hol).mono ?_
  rintro e w3 ⟨rfl, hb⟩
  have HB9 := Aside0.mk (below_then HB2.out HB2.out.size hb)
  clear hb hl2 hol HB2
  go_wp2_with fail
  rotate_left 1
  refine (encode_yes (HLR.out _ HB2.out) FL.out HZL.out hol).mono ?_
  rintro e w3 ⟨Ay, cy, rfl, hrd, hcc, hb⟩
  have HB3 := Aside0.mk (below_then HB2.out HB2.out.size hb)
  have hlo := body_long hol
  have hhi := body_short FL.out hol
  have hlen := enc_length l
  have HDE := Aside0.mk (decode_yes hrd hcc (bytes_enc hol) (by omega) (decode_enc hol HZL.out))
  obtain ⟨ys, hys⟩ : ∃ ys, enc l = ys := ⟨_, rfl⟩
  rw [hys] at HDE hrd hcc ⊢
  clear hb hl2 hol HB2 hlo hhi hlen hys hrd hcc
  go_wp2_with fail
  refine HDE.out.mono ?_
  rintro e w4 ⟨M, rfl, hm, hb⟩
  have HB4 := Aside0.mk (below_then HB3.out HB3.out.size hb)
  have HM := Aside0.mk hm
  have hst : (St (.pointer (some ⟨w4.heap.size, 0, none⟩)) (.agg M.toArray)).run Try.prog (w4.alloc (.cells ZC.toArray 29)) = .ok () (w4.alloc (.cells M.toArray 29)) := store29 rfl hm.length hm.one
  obtain ⟨w5, hw5⟩ : ∃ w5, w4.alloc (.cells M.toArray 29) = w5 := ⟨_, rfl⟩
  have hb5 := (Below.refl w4.heap.size w4).alloc (Nat.le_refl _) (.cells M.toArray 29)
  have HKM := Aside0.mk (blk_new w4 (.cells M.toArray 29))
  rw [hw5] at hst hb5 HKM
  have HB5 := Aside0.mk (below_then HB4.out HB4.out.size hb5)
  have HM5 := Aside0.mk (HM.out.below hb5)
  have hl5 := HLD.out _ HB5.out
  have hm5 := load29 HM.out.length HKM.out
  clear hb hb5 hw5 hm HM HDE HB3 HB4 HKM
  go_wp2_with fail
  refine (same_calls l l L M _ (HLR.out _ HB5.out) HM5.out).mono ?_
  rintro e w6 ⟨rfl, hb⟩
  have HB9 := Aside0.mk (below_then HB5.out HB5.out.size hb)
  rw [decide_eq_true (rfl : l = l)]
  clear hb hl5 hm5 hst HB5 HM5
  go_wp2_with fail
  all_goals refine (HDX.out _ HB9.out).mono ?_
  all_goals intro e w7 hpost
  all_goals obtain ⟨hb, N, n, k, rfl, hn, hcase⟩ := decode_is HBY.out hpost
  all_goals have HB10 := Aside0.mk (below_then HB9.out HB9.out.size hb)
  all_goals have hst : (St (.pointer (some ⟨w7.heap.size, 0, none⟩)) (.agg N.toArray)).run Try.prog (w7.alloc (.cells ZC.toArray 29)) = .ok () (w7.alloc (.cells N.toArray 29)) := store29 rfl hn.length hn.one
  all_goals obtain ⟨w8, hw8⟩ : ∃ w8, w7.alloc (.cells N.toArray 29) = w8 := ⟨_, rfl⟩
  all_goals have hb8 := (Below.refl w7.heap.size w7).alloc (Nat.le_refl _) (.cells N.toArray 29)
  all_goals have HKN := Aside0.mk (blk_new w7 (.cells N.toArray 29))
  all_goals rw [hw8] at hst hb8 HKN
  all_goals have HB11 := Aside0.mk (below_then HB10.out HB10.out.size hb8)
  all_goals have HN8 := Aside0.mk (hn.below hb8)
  all_goals have hn8 := load29 hn.length HKN.out
  all_goals have HX8 := Aside0.mk (HXR.out _ HB11.out)
  all_goals clear hb8 hw8 hn HB10 HKN HXR hpost hb HB9 HDX
  all_goals rcases hcase with ⟨rfl, h1, h2, h3, h4⟩ | ⟨h1, h2, h3⟩
  all_goals first
    | (have h3' : n = zloc := h3
       subst h3'
       have HSM := Aside0.mk (same_calls zloc zloc N ZC w8 HN8.out (zloc_reads w8))
       clear HN8 HX8 HC
       go_wp2_with fail
       refine HSM.out.mono ?_
       rintro e w9 ⟨rfl, hb⟩
       have HB12 := Aside0.mk (HYES.out _ (below_then HB11.out HB11.out.size hb))
       (first | rw [decide_eq_true (rfl : zloc = zloc)] | simp only [decide_true] | skip)
       clear hb hn8 hst HB11 HSM HYES
       go_wp2
       go_ret
       exact ⟨rfl, HB12.out⟩)
    | (have HE := Aside0.mk (encode_yes (w := w8) HN8.out h4 h3 h1)
       have H2 := Aside0.mk h2
       clear h1 h2 h3 h4 HN8
       go_wp2_with fail
       refine HE.out.mono ?_
       rintro e w9 ⟨Az, cz, rfl, hrd, hcc, hb⟩
       have HB12 := Aside0.mk (below_then HB11.out HB11.out.size hb)
       rw [H2.out] at hrd hcc ⊢
       have HR := Aside0.mk (row_calls xs xs Az A cz c w9 hrd (Kd.C_below HX8.out hb))
       clear hb hn8 hst HB11 hrd hcc HE HX8
       go_wp2_with fail
       refine HR.out.mono ?_
       rintro e w10 ⟨rfl, hb⟩
       have HB13 := Aside0.mk (HYES.out _ (below_then HB12.out HB12.out.size hb))
       (first | rw [decide_eq_true (rfl : xs = xs)] | simp only [decide_true] | skip)
       clear hb HR HB12 HYES
       go_wp2
       go_ret
       exact ⟨rfl, HB13.out⟩)
end Go.Proofs.Ytfbmgjanplnabaa
namespace Go.Proofs.Ytfbmgjanplnabaa.bundBack
open Go.ChangeShapes Go.WideShapes Go.ChangeAt Go.RowKit
open Go.ChangeMaps (open_string shut_string)
set_option linter.unusedVariables false
theorem own : ownKnob Try.prog.godebug = none := by kernel_rfl
theorem laidOut : laidOutB Try.prog = true := by kernel_rfl
set_option maxRecDepth 100000 in
theorem lifted (os : Os) (started : os.Started) (H : Type) (enc : TypeId × Value → H) :
    ReturnsInHanded {} Try.checked os 5 .any (Rows.bundBackSpec.pre6 enc Try.prog Try.f5 Rows.bundBackRow.domain false) (Rows.bundBackSpec.post enc Try.prog Try.f5 false true false false) := by
  refine returnsInHanded_of_change_sized (C := Try.checked) own started (by kernel_rfl) Try.func5
    (ChangeSpec.witness6 (enc := enc) (C := Try.checked) false ⟨#[], #[.agg zcells.toArray, .slice none 0 0], []⟩ 8 (by kernel_rfl) (by kernel_rfl) (by kernel_rfl) (by kernel_rfl)) ?_
  intro W base args ds gs before hval0 hW hcnd hsz0 _
  have hval : ∀ (j : Nat) t v, Try.f5.params[j]? = some t → args[j]? = some v → Value.okWide Try.prog W .any base t v := hval0
  have hW' := hW
  obtain ⟨p, q, hA0, hV, rfl, hfz, hnd⟩ := hW
  have hA : DataW.TrodAll enc Try.prog W 0 (fun _ => true) true Try.f5.params.toList args.toList ds p := hA0
  rw [Try.params5] at hA hval
  obtain ⟨v0, vs0, d0, ds0, p0, q0, hargs, rfl, rfl, h0, r0⟩ := trodAll_cons hA
  obtain ⟨v1, vs1, d1, ds1, p1, q1, rfl, rfl, rfl, h1, r1⟩ := trodAll_cons r0
  obtain ⟨rfl, rfl, rfl⟩ := trodAll_nil r1
  obtain rfl : args = #[v0, v1] := by cases args; simp_all
  obtain ⟨rfl, rfl⟩ := trodVars_none hV
  obtain ⟨l0, L0, rfl, hl0, zl0⟩ := open_loc (hval 0 29 v0 rfl rfl) h0
  obtain ⟨A1, xs1, c1, rfl, hx1, hc1, hb1⟩ := open_bs (hval 1 32 v1 rfl rfl) h1
  have lt0 : ∀ x ∈ p0, x.block < W.heap.size := by obtain ⟨m, hm⟩ := h0; exact DataW.trod_lt m _ _ _ hm
  have lt1 : ∀ x ∈ p1, x.block < W.heap.size := by obtain ⟨m, hm⟩ := h1; exact DataW.trod_lt m _ _ _ hm
  clear hA0 hval0 hsz0
  refine (back_calls l0 L0 xs1 A1 c1 W hl0 zl0 hx1 hc1 hb1).mono fun e W' ⟨he, bel⟩ => ?_
  subst he
  exact ⟨_, rfl, _, _, _, [], _, [], hW', trodAll_mk1 (shut_bool Try.underlying4 _),
    (trodAll_cons_mk (Below.trod laidOut (by kernel_rfl) (of_decide_eq_true (by kernel_rfl)) h0 bel lt0) (trodAll_cons_mk (Below.trod laidOut (by kernel_rfl) (of_decide_eq_true (by kernel_rfl)) h1 bel lt1) trodAll_mk0)), rfl, bel.frame _, fun h => by cases h⟩
theorem over : Rows.bundBackRow.holds Try.pinned (OpenSpec.ofChange Rows.bundBackSpec) :=
  OpenClaim.holds_of_wide 5 Try.f5 rfl rfl rfl rfl rfl rfl rfl ⟨rfl, rfl, rfl, rfl, rfl⟩ rfl rfl rfl rfl rfl (by kernel_rfl) Try.func5 (by kernel_rfl)
    (of_decide_eq_true (by kernel_rfl)) (by unfold Func.isWrapper; first | (rw [if_pos (by decide +kernel)]; kernel_rfl) | (rw [if_neg (by decide +kernel)]; exact ⟨rfl, rfl⟩))
    (fun os started H enc _ => lifted os started H enc)
theorem proved : Rows.BundBackSaid := over
#print axioms proved
end Go.Proofs.Ytfbmgjanplnabaa.bundBack
namespace Go.Proofs.Ytfbmgjanplnabaa
/-- The row, under a short name, for the claim. -/
theorem bundBack_holds : Rows.BundBackSaid := bundBack.proved
end Go.Proofs.Ytfbmgjanplnabaa

import Derived.Test.YtfbmgjanplnabaaBQ
import Derived.Deep.RegionHeld3
/- exergueref16.section: the pool, the head, the patterns. -/
namespace Go.Proofs.Ytfbmgjanplnabaa
open Go.RowKit Go.Proofs.YtfbmgjanplnabaaW.PrintWords Go.Proofs.YtfbmgjanplnabaaW.PrintLast Go.Proofs.YtfbmgjanplnabaaW.PrintMore
set_option linter.unusedVariables false
set_option linter.unusedSimpArgs false

def part1 (Pl : List ByteArray) (l : Loc) : List Int := poolBytes Pl
def part2 (Pl : List ByteArray) (l : Loc) : List Int := pt1 Pl l
def part3 (Pl : List ByteArray) (l : Loc) : List Int := pt2 Pl l
def part4 (Pl : List ByteArray) (l : Loc) : List Int := pt3 Pl l
def part5 (Pl : List ByteArray) (l : Loc) : List Int := pt4 Pl l
def part6 (Pl : List ByteArray) (l : Loc) : List Int := pt5 Pl l
def secQ (zs : List Int) (w : World) (e : Ending) (w' : World) : Prop := ∃ v, e = .returned v ∧ OwnB w' w.heap.size v zs ∧ Below w.heap.size w w'
theorem may_parts {l : Loc} (h : mayB l = true) : (∀ z ∈ syNums l.s, 0 ≤ z) ∧ (∀ r ∈ l.rules, fits r.1 1 = true) ∧ (∀ r ∈ l.curs, fits r.2.2 1 = true) ∧ (∀ r ∈ l.comps, fits r.1 1 = true ∧ fits r.2.1 1 = true) := by
  unfold mayB at h
  simp only [Bool.and_eq_true, List.all_eq_true, decide_eq_true_eq] at h
  exact ⟨h.1, h.2.1, h.2.2.1, h.2.2.2⟩
theorem fits4_of {z : Int} (h0 : 0 ≤ z) (h1 : z ≤ 2147483647) : fits z 4 = true := by
  unfold fits
  have hl : lim 4 = 4294967296 := rfl
  rw [hl]
  simp
  omega
set_option maxHeartbeats 3200000 in
set_option maxRecDepth 100000 in
theorem sec1_calls (l : Loc) (L : List Value) (Pl : List ByteArray) (A : Option Addr) (c : Nat) (w : World) (hL : RdL w l L) (hx : RdS w A Pl) (hp : isPool Pl = true) (hm : ∀ s ∈ texts l, s ∈ Pl) (hmay : mayB l = true) (hF : Few l) (hz : l.s.ok) :
    Calls Try.prog 39 #[.agg L.toArray, .slice A Pl.length c, .int .i64 1] w (secQ (part1 Pl l) w) := by
  have h500 := isPool_length hp
  obtain ⟨y1, y2, y3, y4⟩ := may_parts hmay
  obtain ⟨m0, m1, m2, m3, m4⟩ := mem_texts l
  have hf1 : l.rules.length ≤ 65535 := hF.1
  have hf2 : l.curs.length ≤ 65535 := hF.2.1
  have hf3 : l.comps.length ≤ 65535 := hF.2.2
  obtain ⟨Ar, cr, Ac, cc, Ak, ck, rfl, _, _, _, hr, hc, hk⟩ := hL
  have hblk := blk_new w (.cells (lcells l (.slice Ar l.rules.length cr) (.slice Ac l.curs.length cc) (.slice Ak l.comps.length ck)).toArray 29)
  have hb1 := (Below.refl w.heap.size w).alloc (Nat.le_refl _) (.cells (lcells l (.slice Ar l.rules.length cr) (.slice Ac l.curs.length cc) (.slice Ak l.comps.length ck)).toArray 29)
  obtain ⟨L, hLe⟩ : ∃ L, lcells l (.slice Ar l.rules.length cr) (.slice Ac l.curs.length cc) (.slice Ak l.comps.length ck) = L := ⟨_, rfl⟩
  have HLE : Aside0 (L = lcells l (.slice Ar l.rules.length cr) (.slice Ac l.curs.length cc) (.slice Ak l.comps.length ck)) := ⟨hLe.symm⟩
  rw [hLe] at hblk hb1 ⊢
  obtain ⟨w1, hw1⟩ : ∃ w1, w.alloc (.cells L.toArray 29) = w1 := ⟨_, rfl⟩
  rw [hw1] at hblk hb1
  have HKB : Aside0 (∀ W, Below w1.heap.size w1 W → W.heap[w.heap.size]? = some (.cells L.toArray 29 (0, 0))) := ⟨fun W h => blk_below hblk h (blk_lt hblk)⟩
  have HPR : Aside0 (∀ W, Below w1.heap.size w1 W → RdS W A Pl) := ⟨fun W h => Kd.C_below (Kd.C_below hx hb1) h⟩
  have HRR : Aside0 (∀ W, Below w1.heap.size w1 W → kRl.C W Ar l.rules.length l.rules) := ⟨fun W h => Kd.C_below (Kd.C_below hr hb1) h⟩
  have HRC : Aside0 (∀ W, Below w1.heap.size w1 W → kCu.C W Ac l.curs.length l.curs) := ⟨fun W h => Kd.C_below (Kd.C_below hc hb1) h⟩
  have HRK : Aside0 (∀ W, Below w1.heap.size w1 W → kCm.C W Ak l.comps.length l.comps) := ⟨fun W h => Kd.C_below (Kd.C_below hk hb1) h⟩
  have HYES : Aside0 (∀ W, Below w1.heap.size w1 W → Below w.heap.size w W) := ⟨fun W h => below_then hb1 hb1.size h⟩
  have HLOW : Aside0 (∀ W v xs, OwnB W w1.heap.size v xs → OwnB W w.heap.size v xs) := ⟨fun W v xs h => Kd.R_lower h hb1.size⟩
  obtain ⟨B, hB⟩ : ∃ B, w1.heap.size = B := ⟨_, rfl⟩
  have HBQ := Aside0.mk hB
  rw [hB] at HKB HPR HRR HRC HRK HYES HLOW
  have HB0 : Aside0 (Below B w1 w1) := ⟨Below.refl _ _⟩
  have HS0 : Aside0 (B ≤ w1.heap.size) := ⟨Nat.le_of_eq hB.symm⟩
  have HO0 : Aside0 (OwnB w1 B (.slice none 0 0) []) := ⟨Kd.R_nil _ _ _ _ _⟩
  have H500 := Aside0.mk h500
  have HM := Aside0.mk hm
  clear hr hc hk hblk hb1 hLe hx hm hF hmay hB h500
  have HC : Aside0 (Calls Try.prog 55 #[.slice none 0 0, .slice A Pl.length c] w1 _) := ⟨refPutPool_calls Pl A c w1 (HPR.out _ HB0.out) hp⟩
  clear y1 y2 y3 y4 m0 m1 m2 m3 m4 hp
  go_enter Try.func39, Try.ntmps39
  go_wp2_with fail
  refine HC.out.mono ?_
  rintro e w2 ⟨v, rfl, ho, hb⟩
  rw [HBQ.out] at ho hb
  have HO := Aside0.mk (HLOW.out _ _ _ ho)
  have HY := Aside0.mk (HYES.out _ hb)
  clear ho hb HC hw1
  go_wp2
  go_ret
  exact ⟨_, rfl, HO.out, HY.out⟩
set_option maxHeartbeats 3200000 in
set_option maxRecDepth 100000 in
theorem sec2_calls (l : Loc) (L : List Value) (Pl : List ByteArray) (A : Option Addr) (c : Nat) (w : World) (hL : RdL w l L) (hx : RdS w A Pl) (hp : isPool Pl = true) (hm : ∀ s ∈ texts l, s ∈ Pl) (hmay : mayB l = true) (hF : Few l) (hz : l.s.ok) :
    Calls Try.prog 39 #[.agg L.toArray, .slice A Pl.length c, .int .i64 2] w (secQ (part2 Pl l) w) := by
  have h500 := isPool_length hp
  obtain ⟨y1, y2, y3, y4⟩ := may_parts hmay
  obtain ⟨m0, m1, m2, m3, m4⟩ := mem_texts l
  have hf1 : l.rules.length ≤ 65535 := hF.1
  have hf2 : l.curs.length ≤ 65535 := hF.2.1
  have hf3 : l.comps.length ≤ 65535 := hF.2.2
  obtain ⟨Ar, cr, Ac, cc, Ak, ck, rfl, _, _, _, hr, hc, hk⟩ := hL
  have hblk := blk_new w (.cells (lcells l (.slice Ar l.rules.length cr) (.slice Ac l.curs.length cc) (.slice Ak l.comps.length ck)).toArray 29)
  have hb1 := (Below.refl w.heap.size w).alloc (Nat.le_refl _) (.cells (lcells l (.slice Ar l.rules.length cr) (.slice Ac l.curs.length cc) (.slice Ak l.comps.length ck)).toArray 29)
  obtain ⟨L, hLe⟩ : ∃ L, lcells l (.slice Ar l.rules.length cr) (.slice Ac l.curs.length cc) (.slice Ak l.comps.length ck) = L := ⟨_, rfl⟩
  have HLE : Aside0 (L = lcells l (.slice Ar l.rules.length cr) (.slice Ac l.curs.length cc) (.slice Ak l.comps.length ck)) := ⟨hLe.symm⟩
  rw [hLe] at hblk hb1 ⊢
  obtain ⟨w1, hw1⟩ : ∃ w1, w.alloc (.cells L.toArray 29) = w1 := ⟨_, rfl⟩
  rw [hw1] at hblk hb1
  have HKB : Aside0 (∀ W, Below w1.heap.size w1 W → W.heap[w.heap.size]? = some (.cells L.toArray 29 (0, 0))) := ⟨fun W h => blk_below hblk h (blk_lt hblk)⟩
  have HPR : Aside0 (∀ W, Below w1.heap.size w1 W → RdS W A Pl) := ⟨fun W h => Kd.C_below (Kd.C_below hx hb1) h⟩
  have HRR : Aside0 (∀ W, Below w1.heap.size w1 W → kRl.C W Ar l.rules.length l.rules) := ⟨fun W h => Kd.C_below (Kd.C_below hr hb1) h⟩
  have HRC : Aside0 (∀ W, Below w1.heap.size w1 W → kCu.C W Ac l.curs.length l.curs) := ⟨fun W h => Kd.C_below (Kd.C_below hc hb1) h⟩
  have HRK : Aside0 (∀ W, Below w1.heap.size w1 W → kCm.C W Ak l.comps.length l.comps) := ⟨fun W h => Kd.C_below (Kd.C_below hk hb1) h⟩
  have HYES : Aside0 (∀ W, Below w1.heap.size w1 W → Below w.heap.size w W) := ⟨fun W h => below_then hb1 hb1.size h⟩
  have HLOW : Aside0 (∀ W v xs, OwnB W w1.heap.size v xs → OwnB W w.heap.size v xs) := ⟨fun W v xs h => Kd.R_lower h hb1.size⟩
  obtain ⟨B, hB⟩ : ∃ B, w1.heap.size = B := ⟨_, rfl⟩
  have HBQ := Aside0.mk hB
  rw [hB] at HKB HPR HRR HRC HRK HYES HLOW
  have HB0 : Aside0 (Below B w1 w1) := ⟨Below.refl _ _⟩
  have HS0 : Aside0 (B ≤ w1.heap.size) := ⟨Nat.le_of_eq hB.symm⟩
  have HO0 : Aside0 (OwnB w1 B (.slice none 0 0) []) := ⟨Kd.R_nil _ _ _ _ _⟩
  have H500 := Aside0.mk h500
  have HM := Aside0.mk hm
  clear hr hc hk hblk hb1 hLe hx hm hF hmay hB h500
  obtain ⟨z0, hz0⟩ : ∃ z, l.s.z0 = z := ⟨_, rfl⟩
  obtain ⟨z1, hz1⟩ : ∃ z, l.s.z1 = z := ⟨_, rfl⟩
  obtain ⟨z2, hz2⟩ : ∃ z, l.s.z2 = z := ⟨_, rfl⟩
  obtain ⟨z3, hz3⟩ : ∃ z, l.s.z3 = z := ⟨_, rfl⟩
  obtain ⟨z4, hz4⟩ : ∃ z, l.s.z4 = z := ⟨_, rfl⟩
  obtain ⟨z5, hz5⟩ : ∃ z, l.s.z5 = z := ⟨_, rfl⟩
  obtain ⟨z6, hz6⟩ : ∃ z, l.s.z6 = z := ⟨_, rfl⟩
  have hsy : syNums l.s = [z0, z1, z2, z3, z4, z5, z6] := by unfold syNums; rw [hz0, hz1, hz2, hz3, hz4, hz5, hz6]
  have HE : Aside0 (part2 Pl l = (((((((eT Pl l.tag ++ be z0 4) ++ be z1 4) ++ be z2 4) ++ be z3 4) ++ be z4 4) ++ be z5 4) ++ be z6 4)) := ⟨by unfold part2 pt1; rw [hsy]; simp only [List.flatMap_cons, List.flatMap_nil, List.append_nil, List.append_assoc, eZ]⟩
  unfold Sy.ok at hz
  rw [hsy] at hz y1
  have a0 := y1 z0 (by simp)
  have b0 := (hz z0 (by simp)).2
  have a1 := y1 z1 (by simp)
  have b1 := (hz z1 (by simp)).2
  have a2 := y1 z2 (by simp)
  have b2 := (hz z2 (by simp)).2
  have a3 := y1 z3 (by simp)
  have b3 := (hz z3 (by simp)).2
  have a4 := y1 z4 (by simp)
  have b4 := (hz z4 (by simp)).2
  have a5 := y1 z5 (by simp)
  have b5 := (hz z5 (by simp)).2
  have a6 := y1 z6 (by simp)
  have b6 := (hz z6 (by simp)).2
  have HF0 := Aside0.mk (fits4_of a0 b0)
  have HF1 := Aside0.mk (fits4_of a1 b1)
  have HF2 := Aside0.mk (fits4_of a2 b2)
  have HF3 := Aside0.mk (fits4_of a3 b3)
  have HF4 := Aside0.mk (fits4_of a4 b4)
  have HF5 := Aside0.mk (fits4_of a5 b5)
  have HF6 := Aside0.mk (fits4_of a6 b6)
  have Q0 : Aside0 (IntKind.i64.wrap z0 = z0) := ⟨IntWalk.i64_in _ (by omega)⟩
  have Q1 : Aside0 (IntKind.i64.wrap z1 = z1) := ⟨IntWalk.i64_in _ (by omega)⟩
  have Q2 : Aside0 (IntKind.i64.wrap z2 = z2) := ⟨IntWalk.i64_in _ (by omega)⟩
  have Q3 : Aside0 (IntKind.i64.wrap z3 = z3) := ⟨IntWalk.i64_in _ (by omega)⟩
  have Q4 : Aside0 (IntKind.i64.wrap z4 = z4) := ⟨IntWalk.i64_in _ (by omega)⟩
  have Q5 : Aside0 (IntKind.i64.wrap z5 = z5) := ⟨IntWalk.i64_in _ (by omega)⟩
  have Q6 : Aside0 (IntKind.i64.wrap z6 = z6) := ⟨IntWalk.i64_in _ (by omega)⟩
  have l0 : L[0]? = some (.string l.tag) := by rw [HLE.out]; rfl
  have l1 : L[1]? = some (.int .i32 z0) := by rw [HLE.out, ← hz0]; rfl
  have l2 : L[2]? = some (.int .i32 z1) := by rw [HLE.out, ← hz1]; rfl
  have l3 : L[3]? = some (.int .i32 z2) := by rw [HLE.out, ← hz2]; rfl
  have l4 : L[4]? = some (.int .i32 z3) := by rw [HLE.out, ← hz3]; rfl
  have l5 : L[5]? = some (.int .i32 z4) := by rw [HLE.out, ← hz4]; rfl
  have l6 : L[6]? = some (.int .i32 z5) := by rw [HLE.out, ← hz5]; rfl
  have l7 : L[7]? = some (.int .i32 z6) := by rw [HLE.out, ← hz6]; rfl
  have c0 := blkv (HKB.out _ HB0.out) l0
  have HCS0 : Aside0 (∀ W, Below B w1 W → W.cell? ⟨w.heap.size, 1, none⟩ = some (.int .i32 z0) ∧ W.cell? ⟨w.heap.size, 2, none⟩ = some (.int .i32 z1) ∧ W.cell? ⟨w.heap.size, 3, none⟩ = some (.int .i32 z2) ∧ W.cell? ⟨w.heap.size, 4, none⟩ = some (.int .i32 z3)) := ⟨fun W h => ⟨blkv (HKB.out _ h) l1, blkv (HKB.out _ h) l2, blkv (HKB.out _ h) l3, blkv (HKB.out _ h) l4⟩⟩
  have HCS4 : Aside0 (∀ W, Below B w1 W → W.cell? ⟨w.heap.size, 5, none⟩ = some (.int .i32 z4) ∧ W.cell? ⟨w.heap.size, 6, none⟩ = some (.int .i32 z5) ∧ W.cell? ⟨w.heap.size, 7, none⟩ = some (.int .i32 z6)) := ⟨fun W h => ⟨blkv (HKB.out _ h) l5, blkv (HKB.out _ h) l6, blkv (HKB.out _ h) l7⟩⟩
  have HC : Aside0 (Calls Try.prog 56 #[.slice none 0 0, .slice A Pl.length c, .string l.tag] w1 _) := ⟨ref_be B w1 (.slice none 0 0) [] Pl A c l.tag w1 H500.out (HM.out _ m0) (HPR.out _ HB0.out) HO0.out HB0.out HS0.out (by simp)⟩
  clear y1 y2 y3 y4 m0 m1 m2 m3 m4 hp hz hsy l0 l1 l2 l3 l4 l5 l6 l7 hz0 hz1 hz2 hz3 hz4 hz5 hz6
  go_enter Try.func39, Try.ntmps39
  go_wp2_with fail
  refine HC.out.mono ?_
  rintro e w2 ⟨v, rfl, ho, hb, hn⟩
  obtain ⟨A1, n1, k1, rfl⟩ := R_slice' ho
  obtain ⟨x1, hx1⟩ : ∃ x, [] ++ eT Pl l.tag = x := ⟨_, rfl⟩
  rw [hx1] at ho
  have X1 : Aside0 (eT Pl l.tag = x1 ∧ x1.length = 2) := ⟨hx1, by rw [← hx1]; rfl⟩
  have HO1 := Aside0.mk (Kd.R_drew ho)
  have HB1 := Aside0.mk hb.drew
  have HS1 : Aside0 (B ≤ w2.drew.heap.size) := ⟨Nat.le_trans HS0.out hn.1.size⟩
  clear ho hb hn HC hw1 c0 hx1
  have HC1 : Aside0 (Calls Try.prog 40 #[.slice A1 n1 k1, .int .i64 (IntKind.i64.wrap z0)] w2.drew (WP B w1 (.slice A1 n1 k1) (x1 ++ be z0 4) w2.drew)) := ⟨by rw [Q0.out]; exact four_be B w1 (.slice A1 n1 k1) x1 z0 w2.drew HF0.out HO1.out HB1.out HS1.out (Nat.le_trans (Nat.le_of_eq X1.out.2) (by decide))⟩
  go_wp2_with fail
  go_region_held3 (fun W => W.cell? ⟨w.heap.size, 1, none⟩ = some (.int .i32 z0) ∧ W.cell? ⟨w.heap.size, 2, none⟩ = some (.int .i32 z1) ∧ W.cell? ⟨w.heap.size, 3, none⟩ = some (.int .i32 z2) ∧ W.cell? ⟨w.heap.size, 4, none⟩ = some (.int .i32 z3))
    (first | exact HCS0.out _ HB5.out | exact HCS0.out _ HB4.out | exact HCS0.out _ HB3.out | exact HCS0.out _ HB2.out | exact HCS0.out _ HB1.out)
    (first
    | (go_at_call 40; ((with_reducible refine HC1.out.mono ?_); rintro e w3 ⟨v, rfl, ho, hb, hn⟩; obtain ⟨A2, n2, k2, hv⟩ := R_slice' ho; subst hv; obtain ⟨x2, hx2⟩ : ∃ x, x1 ++ be z0 4 = x := ⟨_, rfl⟩; rw [hx2] at ho; have X2 : Aside0 (x1 ++ be z0 4 = x2 ∧ x2.length = 6) := ⟨hx2, by rw [← hx2, List.length_append, X1.out.2]; rfl⟩; have HO2 := Aside0.mk ho; have HB2 := Aside0.mk hb; have HS2 := Aside0.mk (Nat.le_trans HS1.out hn.1.size); clear ho hb hn hx2 HC1; have HC2 : Aside0 (Calls Try.prog 40 #[.slice A2 n2 k2, .int .i64 (IntKind.i64.wrap z1)] w3 (WP B w1 (.slice A2 n2 k2) (x2 ++ be z1 4) w3)) := ⟨by rw [Q1.out]; exact four_be B w1 (.slice A2 n2 k2) x2 z1 w3 HF1.out HO2.out HB2.out HS2.out (Nat.le_trans (Nat.le_of_eq X2.out.2) (by decide))⟩))
    | (go_at_call 40; ((with_reducible refine HC2.out.mono ?_); rintro e w4 ⟨v, rfl, ho, hb, hn⟩; obtain ⟨A3, n3, k3, hv⟩ := R_slice' ho; subst hv; obtain ⟨x3, hx3⟩ : ∃ x, x2 ++ be z1 4 = x := ⟨_, rfl⟩; rw [hx3] at ho; have X3 : Aside0 (x2 ++ be z1 4 = x3 ∧ x3.length = 10) := ⟨hx3, by rw [← hx3, List.length_append, X2.out.2]; rfl⟩; have HO3 := Aside0.mk ho; have HB3 := Aside0.mk hb; have HS3 := Aside0.mk (Nat.le_trans HS2.out hn.1.size); clear ho hb hn hx3 HC2; have HC3 : Aside0 (Calls Try.prog 40 #[.slice A3 n3 k3, .int .i64 (IntKind.i64.wrap z2)] w4 (WP B w1 (.slice A3 n3 k3) (x3 ++ be z2 4) w4)) := ⟨by rw [Q2.out]; exact four_be B w1 (.slice A3 n3 k3) x3 z2 w4 HF2.out HO3.out HB3.out HS3.out (Nat.le_trans (Nat.le_of_eq X3.out.2) (by decide))⟩))
    | (go_at_call 40; ((with_reducible refine HC3.out.mono ?_); rintro e w5 ⟨v, rfl, ho, hb, hn⟩; obtain ⟨A4, n4, k4, hv⟩ := R_slice' ho; subst hv; obtain ⟨x4, hx4⟩ : ∃ x, x3 ++ be z2 4 = x := ⟨_, rfl⟩; rw [hx4] at ho; have X4 : Aside0 (x3 ++ be z2 4 = x4 ∧ x4.length = 14) := ⟨hx4, by rw [← hx4, List.length_append, X3.out.2]; rfl⟩; have HO4 := Aside0.mk ho; have HB4 := Aside0.mk hb; have HS4 := Aside0.mk (Nat.le_trans HS3.out hn.1.size); clear ho hb hn hx4 HC3; have HC4 : Aside0 (Calls Try.prog 40 #[.slice A4 n4 k4, .int .i64 (IntKind.i64.wrap z3)] w5 (WP B w1 (.slice A4 n4 k4) (x4 ++ be z3 4) w5)) := ⟨by rw [Q3.out]; exact four_be B w1 (.slice A4 n4 k4) x4 z3 w5 HF3.out HO4.out HB4.out HS4.out (Nat.le_trans (Nat.le_of_eq X4.out.2) (by decide))⟩))
    | (go_at_call 40; ((with_reducible refine HC4.out.mono ?_); rintro e w6 ⟨v, rfl, ho, hb, hn⟩; obtain ⟨A5, n5, k5, hv⟩ := R_slice' ho; subst hv; obtain ⟨x5, hx5⟩ : ∃ x, x4 ++ be z3 4 = x := ⟨_, rfl⟩; rw [hx5] at ho; have X5 : Aside0 (x4 ++ be z3 4 = x5 ∧ x5.length = 18) := ⟨hx5, by rw [← hx5, List.length_append, X4.out.2]; rfl⟩; have HO5 := Aside0.mk ho; have HB5 := Aside0.mk hb; have HS5 := Aside0.mk (Nat.le_trans HS4.out hn.1.size); clear ho hb hn hx5 HC4)))
  have HO5' := HO5
  clear HO1 HO2 HO3 HO4 HB1 HB2 HB3 HB4 HS1 HS2 HS3 HS4 HO5
  have HO5 := Aside0.mk (Kd.R_drew HO5'.out)
  have HB5' := HB5
  clear HB5
  have HB5 := Aside0.mk HB5'.out.drew
  have HS5' := HS5
  clear HS5
  have HS5 : Aside0 (B ≤ w6.drew.heap.size) := ⟨HS5'.out⟩
  have HC5 : Aside0 (Calls Try.prog 40 #[.slice A5 n5 k5, .int .i64 (IntKind.i64.wrap z4)] w6.drew (WP B w1 (.slice A5 n5 k5) (x5 ++ be z4 4) w6.drew)) := ⟨by rw [Q4.out]; exact four_be B w1 (.slice A5 n5 k5) x5 z4 w6.drew HF4.out HO5.out HB5.out HS5.out (Nat.le_trans (Nat.le_of_eq X5.out.2) (by decide))⟩
  go_wp2_with fail
  go_region_held3 (fun W => W.cell? ⟨w.heap.size, 5, none⟩ = some (.int .i32 z4) ∧ W.cell? ⟨w.heap.size, 6, none⟩ = some (.int .i32 z5) ∧ W.cell? ⟨w.heap.size, 7, none⟩ = some (.int .i32 z6))
    (first | exact HCS4.out _ HB8.out | exact HCS4.out _ HB7.out | exact HCS4.out _ HB6.out | exact HCS4.out _ HB5.out)
    (first
    | (go_at_call 40; ((with_reducible refine HC5.out.mono ?_); rintro e w7 ⟨v, rfl, ho, hb, hn⟩; obtain ⟨A6, n6, k6, hv⟩ := R_slice' ho; subst hv; obtain ⟨x6, hx6⟩ : ∃ x, x5 ++ be z4 4 = x := ⟨_, rfl⟩; rw [hx6] at ho; have X6 : Aside0 (x5 ++ be z4 4 = x6 ∧ x6.length = 22) := ⟨hx6, by rw [← hx6, List.length_append, X5.out.2]; rfl⟩; have HO6 := Aside0.mk ho; have HB6 := Aside0.mk hb; have HS6 := Aside0.mk (Nat.le_trans HS5.out hn.1.size); clear ho hb hn hx6 HC5; have HC6 : Aside0 (Calls Try.prog 40 #[.slice A6 n6 k6, .int .i64 (IntKind.i64.wrap z5)] w7 (WP B w1 (.slice A6 n6 k6) (x6 ++ be z5 4) w7)) := ⟨by rw [Q5.out]; exact four_be B w1 (.slice A6 n6 k6) x6 z5 w7 HF5.out HO6.out HB6.out HS6.out (Nat.le_trans (Nat.le_of_eq X6.out.2) (by decide))⟩))
    | (go_at_call 40; ((with_reducible refine HC6.out.mono ?_); rintro e w8 ⟨v, rfl, ho, hb, hn⟩; obtain ⟨A7, n7, k7, hv⟩ := R_slice' ho; subst hv; obtain ⟨x7, hx7⟩ : ∃ x, x6 ++ be z5 4 = x := ⟨_, rfl⟩; rw [hx7] at ho; have X7 : Aside0 (x6 ++ be z5 4 = x7 ∧ x7.length = 26) := ⟨hx7, by rw [← hx7, List.length_append, X6.out.2]; rfl⟩; have HO7 := Aside0.mk ho; have HB7 := Aside0.mk hb; have HS7 := Aside0.mk (Nat.le_trans HS6.out hn.1.size); clear ho hb hn hx7 HC6; have HC7 : Aside0 (Calls Try.prog 40 #[.slice A7 n7 k7, .int .i64 (IntKind.i64.wrap z6)] w8 (WP B w1 (.slice A7 n7 k7) (x7 ++ be z6 4) w8)) := ⟨by rw [Q6.out]; exact four_be B w1 (.slice A7 n7 k7) x7 z6 w8 HF6.out HO7.out HB7.out HS7.out (Nat.le_trans (Nat.le_of_eq X7.out.2) (by decide))⟩))
    | (go_at_call 40; ((with_reducible refine HC7.out.mono ?_); rintro e w9 ⟨v, rfl, ho, hb, hn⟩; obtain ⟨A8, n8, k8, hv⟩ := R_slice' ho; subst hv; obtain ⟨x8, hx8⟩ : ∃ x, x7 ++ be z6 4 = x := ⟨_, rfl⟩; rw [hx8] at ho; have X8 : Aside0 (x7 ++ be z6 4 = x8 ∧ x8.length = 30) := ⟨hx8, by rw [← hx8, List.length_append, X7.out.2]; rfl⟩; have HO8 := Aside0.mk ho; have HB8 := Aside0.mk hb; have HS8 := Aside0.mk (Nat.le_trans HS7.out hn.1.size); clear ho hb hn hx8 HC7)))
  all_goals go_wp2
  all_goals go_ret
  all_goals exact ⟨_, rfl, by rw [HE.out, X1.out.1, X2.out.1, X3.out.1, X4.out.1, X5.out.1, X6.out.1, X7.out.1, X8.out.1]; exact HLOW.out _ _ _ HO8.out, HYES.out _ HB8.out⟩
end Go.Proofs.Ytfbmgjanplnabaa
/- exergueref16.section: the patterns, the rules. -/
namespace Go.Proofs.Ytfbmgjanplnabaa
open Go.RowKit Go.Proofs.YtfbmgjanplnabaaW.PrintWords Go.Proofs.YtfbmgjanplnabaaW.PrintLast Go.Proofs.YtfbmgjanplnabaaW.PrintMore
set_option linter.unusedVariables false
set_option linter.unusedSimpArgs false

set_option maxHeartbeats 3200000 in
set_option maxRecDepth 100000 in
theorem sec3_calls (l : Loc) (L : List Value) (Pl : List ByteArray) (A : Option Addr) (c : Nat) (w : World) (hL : RdL w l L) (hx : RdS w A Pl) (hp : isPool Pl = true) (hm : ∀ s ∈ texts l, s ∈ Pl) (hmay : mayB l = true) (hF : Few l) (hz : l.s.ok) :
    Calls Try.prog 39 #[.agg L.toArray, .slice A Pl.length c, .int .i64 3] w (secQ (part3 Pl l) w) := by
  have h500 := isPool_length hp
  obtain ⟨y1, y2, y3, y4⟩ := may_parts hmay
  obtain ⟨m0, m1, m2, m3, m4⟩ := mem_texts l
  have hf1 : l.rules.length ≤ 65535 := hF.1
  have hf2 : l.curs.length ≤ 65535 := hF.2.1
  have hf3 : l.comps.length ≤ 65535 := hF.2.2
  obtain ⟨Ar, cr, Ac, cc, Ak, ck, rfl, _, _, _, hr, hc, hk⟩ := hL
  have hblk := blk_new w (.cells (lcells l (.slice Ar l.rules.length cr) (.slice Ac l.curs.length cc) (.slice Ak l.comps.length ck)).toArray 29)
  have hb1 := (Below.refl w.heap.size w).alloc (Nat.le_refl _) (.cells (lcells l (.slice Ar l.rules.length cr) (.slice Ac l.curs.length cc) (.slice Ak l.comps.length ck)).toArray 29)
  obtain ⟨L, hLe⟩ : ∃ L, lcells l (.slice Ar l.rules.length cr) (.slice Ac l.curs.length cc) (.slice Ak l.comps.length ck) = L := ⟨_, rfl⟩
  have HLE : Aside0 (L = lcells l (.slice Ar l.rules.length cr) (.slice Ac l.curs.length cc) (.slice Ak l.comps.length ck)) := ⟨hLe.symm⟩
  rw [hLe] at hblk hb1 ⊢
  obtain ⟨w1, hw1⟩ : ∃ w1, w.alloc (.cells L.toArray 29) = w1 := ⟨_, rfl⟩
  rw [hw1] at hblk hb1
  have HKB : Aside0 (∀ W, Below w1.heap.size w1 W → W.heap[w.heap.size]? = some (.cells L.toArray 29 (0, 0))) := ⟨fun W h => blk_below hblk h (blk_lt hblk)⟩
  have HPR : Aside0 (∀ W, Below w1.heap.size w1 W → RdS W A Pl) := ⟨fun W h => Kd.C_below (Kd.C_below hx hb1) h⟩
  have HRR : Aside0 (∀ W, Below w1.heap.size w1 W → kRl.C W Ar l.rules.length l.rules) := ⟨fun W h => Kd.C_below (Kd.C_below hr hb1) h⟩
  have HRC : Aside0 (∀ W, Below w1.heap.size w1 W → kCu.C W Ac l.curs.length l.curs) := ⟨fun W h => Kd.C_below (Kd.C_below hc hb1) h⟩
  have HRK : Aside0 (∀ W, Below w1.heap.size w1 W → kCm.C W Ak l.comps.length l.comps) := ⟨fun W h => Kd.C_below (Kd.C_below hk hb1) h⟩
  have HYES : Aside0 (∀ W, Below w1.heap.size w1 W → Below w.heap.size w W) := ⟨fun W h => below_then hb1 hb1.size h⟩
  have HLOW : Aside0 (∀ W v xs, OwnB W w1.heap.size v xs → OwnB W w.heap.size v xs) := ⟨fun W v xs h => Kd.R_lower h hb1.size⟩
  obtain ⟨B, hB⟩ : ∃ B, w1.heap.size = B := ⟨_, rfl⟩
  have HBQ := Aside0.mk hB
  rw [hB] at HKB HPR HRR HRC HRK HYES HLOW
  have HB0 : Aside0 (Below B w1 w1) := ⟨Below.refl _ _⟩
  have HS0 : Aside0 (B ≤ w1.heap.size) := ⟨Nat.le_of_eq hB.symm⟩
  have HO0 : Aside0 (OwnB w1 B (.slice none 0 0) []) := ⟨Kd.R_nil _ _ _ _ _⟩
  have H500 := Aside0.mk h500
  have HM := Aside0.mk hm
  clear hr hc hk hblk hb1 hLe hx hm hF hmay hB h500
  have l8 : L[8]? = some (.string l.p0) := by rw [HLE.out]; rfl
  have l9 : L[9]? = some (.string l.p1) := by rw [HLE.out]; rfl
  have l10 : L[10]? = some (.string l.p2) := by rw [HLE.out]; rfl
  have l11 : L[11]? = some (.string l.p3) := by rw [HLE.out]; rfl
  have HCL : Aside0 (∀ W, Below B w1 W → W.cell? ⟨w.heap.size, 8, none⟩ = some (.string l.p0) ∧ W.cell? ⟨w.heap.size, 9, none⟩ = some (.string l.p1) ∧ W.cell? ⟨w.heap.size, 10, none⟩ = some (.string l.p2) ∧ W.cell? ⟨w.heap.size, 11, none⟩ = some (.string l.p3)) := ⟨fun W h => ⟨blkv (HKB.out _ h) l8, blkv (HKB.out _ h) l9, blkv (HKB.out _ h) l10, blkv (HKB.out _ h) l11⟩⟩
  have HMM : Aside0 (l.p0 ∈ Pl ∧ l.p1 ∈ Pl ∧ l.p2 ∈ Pl ∧ l.p3 ∈ Pl) := ⟨HM.out _ (m1 _ (by simp)), HM.out _ (m1 _ (by simp)), HM.out _ (m1 _ (by simp)), HM.out _ (m1 _ (by simp))⟩
  have HO1 : Aside0 (OwnB w1 B (.slice none 0 0) (([l.p0, l.p1, l.p2, l.p3].take 0).flatMap (eT Pl))) := ⟨HO0.out⟩
  clear y1 y2 y3 y4 m0 m1 m2 m3 m4 hp l8 l9 l10 l11 HO0
  go_enter Try.func39, Try.ntmps39
  go_wp2_with fail
  clear hw1
  go_loopw [7, 10] (fun v i W => ∃ k : Nat, k ≤ 4 ∧ i = .int .i64 k ∧ Aside0 (OwnB W B v (([l.p0, l.p1, l.p2, l.p3].take k).flatMap (eT Pl))) ∧ Aside0 (Below B w1 W ∧ B ≤ W.heap.size)) (fun _ i _ => 4 - (intOf i).toNat)
  case atStart => exact ⟨0, by omega, rfl, HO1, ⟨HB0.out, HS0.out⟩⟩
  case round =>
    clear HO1
    obtain ⟨k, hk, rfl, HO, HB⟩ := hrel
    by_cases hlt : k < 4
    · have h4 : k = 0 ∨ k = 1 ∨ k = 2 ∨ k = 3 := by omega
      rcases h4 with rfl | rfl | rfl | rfl
      · have ck := (HCL.out _ HB.out.1).1
        obtain ⟨Av, mv, cv, rfl⟩ := R_slice' HO.out
        have HC := Aside0.mk (ref_be B w1 (.slice Av mv cv) _ Pl A c l.p0 wr H500.out HMM.out.1 (HPR.out _ HB.out.1) HO.out HB.out.1 HB.out.2 (show (([l.p0, l.p1, l.p2, l.p3].take 0).flatMap (eT Pl)).length ≤ 8000000 from Nat.le_trans (Nat.le_of_eq (show (([l.p0, l.p1, l.p2, l.p3].take 0).flatMap (eT Pl)).length = 0 from rfl)) (by decide)))
        have HE : Aside0 (([l.p0, l.p1, l.p2, l.p3].take 0).flatMap (eT Pl) ++ eT Pl l.p0 = ([l.p0, l.p1, l.p2, l.p3].take 1).flatMap (eT Pl)) := ⟨by simp⟩
        clear HO
        go_wp2_with fail
        refine HC.out.mono ?_
        rintro e w3 ⟨v3, rfl, ho, hb, hn⟩
        have HO3 := Aside0.mk ho
        have HB3 : Aside0 (Below B w1 w3 ∧ B ≤ w3.heap.size) := ⟨hb, Nat.le_trans HB.out.2 hn.1.size⟩
        clear ho hb hn ck HC
        go_wp2_with fail
        go_roundw
        all_goals first
          | exact ⟨1, by omega, by first | rfl | go_num, ⟨by rw [← HE.out]; exact HO3.out⟩, HB3⟩
          | (simp [intOf]; done)
      · have ck := (HCL.out _ HB.out.1).2.1
        obtain ⟨Av, mv, cv, rfl⟩ := R_slice' HO.out
        have HC := Aside0.mk (ref_be B w1 (.slice Av mv cv) _ Pl A c l.p1 wr H500.out HMM.out.2.1 (HPR.out _ HB.out.1) HO.out HB.out.1 HB.out.2 (show (([l.p0, l.p1, l.p2, l.p3].take 1).flatMap (eT Pl)).length ≤ 8000000 from Nat.le_trans (Nat.le_of_eq (show (([l.p0, l.p1, l.p2, l.p3].take 1).flatMap (eT Pl)).length = 2 from rfl)) (by decide)))
        have HE : Aside0 (([l.p0, l.p1, l.p2, l.p3].take 1).flatMap (eT Pl) ++ eT Pl l.p1 = ([l.p0, l.p1, l.p2, l.p3].take 2).flatMap (eT Pl)) := ⟨by simp⟩
        clear HO
        go_wp2_with fail
        refine HC.out.mono ?_
        rintro e w3 ⟨v3, rfl, ho, hb, hn⟩
        have HO3 := Aside0.mk ho
        have HB3 : Aside0 (Below B w1 w3 ∧ B ≤ w3.heap.size) := ⟨hb, Nat.le_trans HB.out.2 hn.1.size⟩
        clear ho hb hn ck HC
        go_wp2_with fail
        go_roundw
        all_goals first
          | exact ⟨2, by omega, by first | rfl | go_num, ⟨by rw [← HE.out]; exact HO3.out⟩, HB3⟩
          | (simp [intOf]; done)
      · have ck := (HCL.out _ HB.out.1).2.2.1
        obtain ⟨Av, mv, cv, rfl⟩ := R_slice' HO.out
        have HC := Aside0.mk (ref_be B w1 (.slice Av mv cv) _ Pl A c l.p2 wr H500.out HMM.out.2.2.1 (HPR.out _ HB.out.1) HO.out HB.out.1 HB.out.2 (show (([l.p0, l.p1, l.p2, l.p3].take 2).flatMap (eT Pl)).length ≤ 8000000 from Nat.le_trans (Nat.le_of_eq (show (([l.p0, l.p1, l.p2, l.p3].take 2).flatMap (eT Pl)).length = 4 from rfl)) (by decide)))
        have HE : Aside0 (([l.p0, l.p1, l.p2, l.p3].take 2).flatMap (eT Pl) ++ eT Pl l.p2 = ([l.p0, l.p1, l.p2, l.p3].take 3).flatMap (eT Pl)) := ⟨by simp⟩
        clear HO
        go_wp2_with fail
        refine HC.out.mono ?_
        rintro e w3 ⟨v3, rfl, ho, hb, hn⟩
        have HO3 := Aside0.mk ho
        have HB3 : Aside0 (Below B w1 w3 ∧ B ≤ w3.heap.size) := ⟨hb, Nat.le_trans HB.out.2 hn.1.size⟩
        clear ho hb hn ck HC
        go_wp2_with fail
        go_roundw
        all_goals first
          | exact ⟨3, by omega, by first | rfl | go_num, ⟨by rw [← HE.out]; exact HO3.out⟩, HB3⟩
          | (simp [intOf]; done)
      · have ck := (HCL.out _ HB.out.1).2.2.2
        obtain ⟨Av, mv, cv, rfl⟩ := R_slice' HO.out
        have HC := Aside0.mk (ref_be B w1 (.slice Av mv cv) _ Pl A c l.p3 wr H500.out HMM.out.2.2.2 (HPR.out _ HB.out.1) HO.out HB.out.1 HB.out.2 (show (([l.p0, l.p1, l.p2, l.p3].take 3).flatMap (eT Pl)).length ≤ 8000000 from Nat.le_trans (Nat.le_of_eq (show (([l.p0, l.p1, l.p2, l.p3].take 3).flatMap (eT Pl)).length = 6 from rfl)) (by decide)))
        have HE : Aside0 (([l.p0, l.p1, l.p2, l.p3].take 3).flatMap (eT Pl) ++ eT Pl l.p3 = ([l.p0, l.p1, l.p2, l.p3].take 4).flatMap (eT Pl)) := ⟨by simp⟩
        clear HO
        go_wp2_with fail
        refine HC.out.mono ?_
        rintro e w3 ⟨v3, rfl, ho, hb, hn⟩
        have HO3 := Aside0.mk ho
        have HB3 : Aside0 (Below B w1 w3 ∧ B ≤ w3.heap.size) := ⟨hb, Nat.le_trans HB.out.2 hn.1.size⟩
        clear ho hb hn ck HC
        go_wp2_with fail
        go_roundw
        all_goals first
          | exact ⟨4, by omega, by first | rfl | go_num, ⟨by rw [← HE.out]; exact HO3.out⟩, HB3⟩
          | (simp [intOf]; done)
    · obtain rfl : k = 4 := by omega
      have HE : Aside0 (OwnB wr B _ (part3 Pl l)) := ⟨HO.out⟩
      clear HO
      go_wp2
      go_ret
      exact ⟨_, rfl, HLOW.out _ _ _ HE.out, HYES.out _ HB.out.1⟩
end Go.Proofs.Ytfbmgjanplnabaa
/- exergueref16.section: the rules. -/
namespace Go.Proofs.Ytfbmgjanplnabaa
open Go.RowKit Go.Proofs.YtfbmgjanplnabaaW.PrintWords Go.Proofs.YtfbmgjanplnabaaW.PrintLast Go.Proofs.YtfbmgjanplnabaaW.PrintMore
set_option linter.unusedVariables false
set_option linter.unusedSimpArgs false

theorem be2_app (xs : List Int) (n m : Int) (ys : List Int) : (xs ++ [n, m]) ++ ys = xs ++ (be n 1 ++ (be m 1 ++ ys)) := by rw [List.append_assoc]; rfl
theorem be1_app (xs : List Int) (n : Int) (ys : List Int) : (xs ++ [n]) ++ ys = xs ++ (be n 1 ++ ys) := by rw [List.append_assoc]; rfl
set_option maxHeartbeats 3200000 in
set_option maxRecDepth 100000 in
theorem sec4_calls (l : Loc) (L : List Value) (Pl : List ByteArray) (A : Option Addr) (c : Nat) (w : World) (hL : RdL w l L) (hx : RdS w A Pl) (hp : isPool Pl = true) (hm : ∀ s ∈ texts l, s ∈ Pl) (hmay : mayB l = true) (hF : Few l) (hz : l.s.ok) :
    Calls Try.prog 39 #[.agg L.toArray, .slice A Pl.length c, .int .i64 4] w (secQ (part4 Pl l) w) := by
  have h500 := isPool_length hp
  obtain ⟨y1, y2, y3, y4⟩ := may_parts hmay
  obtain ⟨m0, m1, m2, m3, m4⟩ := mem_texts l
  have hf1 : l.rules.length ≤ 65535 := hF.1
  have hf2 : l.curs.length ≤ 65535 := hF.2.1
  have hf3 : l.comps.length ≤ 65535 := hF.2.2
  obtain ⟨Ar, cr, Ac, cc, Ak, ck, rfl, _, _, _, hr, hc, hk⟩ := hL
  have hblk := blk_new w (.cells (lcells l (.slice Ar l.rules.length cr) (.slice Ac l.curs.length cc) (.slice Ak l.comps.length ck)).toArray 29)
  have hb1 := (Below.refl w.heap.size w).alloc (Nat.le_refl _) (.cells (lcells l (.slice Ar l.rules.length cr) (.slice Ac l.curs.length cc) (.slice Ak l.comps.length ck)).toArray 29)
  obtain ⟨L, hLe⟩ : ∃ L, lcells l (.slice Ar l.rules.length cr) (.slice Ac l.curs.length cc) (.slice Ak l.comps.length ck) = L := ⟨_, rfl⟩
  have HLE : Aside0 (L = lcells l (.slice Ar l.rules.length cr) (.slice Ac l.curs.length cc) (.slice Ak l.comps.length ck)) := ⟨hLe.symm⟩
  rw [hLe] at hblk hb1 ⊢
  obtain ⟨w1, hw1⟩ : ∃ w1, w.alloc (.cells L.toArray 29) = w1 := ⟨_, rfl⟩
  rw [hw1] at hblk hb1
  have HKB : Aside0 (∀ W, Below w1.heap.size w1 W → W.heap[w.heap.size]? = some (.cells L.toArray 29 (0, 0))) := ⟨fun W h => blk_below hblk h (blk_lt hblk)⟩
  have HPR : Aside0 (∀ W, Below w1.heap.size w1 W → RdS W A Pl) := ⟨fun W h => Kd.C_below (Kd.C_below hx hb1) h⟩
  have HRR : Aside0 (∀ W, Below w1.heap.size w1 W → kRl.C W Ar l.rules.length l.rules) := ⟨fun W h => Kd.C_below (Kd.C_below hr hb1) h⟩
  have HRC : Aside0 (∀ W, Below w1.heap.size w1 W → kCu.C W Ac l.curs.length l.curs) := ⟨fun W h => Kd.C_below (Kd.C_below hc hb1) h⟩
  have HRK : Aside0 (∀ W, Below w1.heap.size w1 W → kCm.C W Ak l.comps.length l.comps) := ⟨fun W h => Kd.C_below (Kd.C_below hk hb1) h⟩
  have HYES : Aside0 (∀ W, Below w1.heap.size w1 W → Below w.heap.size w W) := ⟨fun W h => below_then hb1 hb1.size h⟩
  have HLOW : Aside0 (∀ W v xs, OwnB W w1.heap.size v xs → OwnB W w.heap.size v xs) := ⟨fun W v xs h => Kd.R_lower h hb1.size⟩
  obtain ⟨B, hB⟩ : ∃ B, w1.heap.size = B := ⟨_, rfl⟩
  have HBQ := Aside0.mk hB
  rw [hB] at HKB HPR HRR HRC HRK HYES HLOW
  have HB0 : Aside0 (Below B w1 w1) := ⟨Below.refl _ _⟩
  have HS0 : Aside0 (B ≤ w1.heap.size) := ⟨Nat.le_of_eq hB.symm⟩
  have HO0 : Aside0 (OwnB w1 B (.slice none 0 0) []) := ⟨Kd.R_nil _ _ _ _ _⟩
  have H500 := Aside0.mk h500
  have HM := Aside0.mk hm
  clear hr hc hk hblk hb1 hLe hx hm hF hmay hB h500
  have l12 : L[12]? = some (.slice Ar l.rules.length cr) := by rw [HLE.out]; rfl
  have H12 : Aside0 (∀ W, Below B w1 W → W.cell? ⟨w.heap.size, 12, none⟩ = some (.slice Ar l.rules.length cr)) := ⟨fun W h => blkv (HKB.out _ h) l12⟩
  have HMM : Aside0 (∀ r ∈ l.rules, r.2 ∈ Pl ∧ 0 ≤ r.1 ∧ r.1 ≤ 255) := ⟨fun r hr => ⟨HM.out _ (m2 r hr), fits_one (y2 r hr)⟩⟩
  have HC := Aside0.mk (two_be B w1 (.slice none 0 0) [] (l.rules.length : Int) w1 (fits2 _ hf1) HO0.out HB0.out HS0.out (by simp))
  have c12 := H12.out _ HB0.out
  clear y1 y2 y3 y4 m0 m1 m2 m3 m4 hp l12 HO0
  go_enter Try.func39, Try.ntmps39
  go_wp2_with fail
  refine HC.out.mono ?_
  rintro e w2 ⟨v, rfl, ho, hb, hn⟩
  have HO1 : Aside0 (OwnB w2 B v (be (l.rules.length : Int) 2 ++ (l.rules.take 0).flatMap (eR Pl))) := ⟨by rw [List.take_zero, List.flatMap_nil, List.append_nil]; exact ho⟩
  have HB1 : Aside0 (Below B w1 w2 ∧ B ≤ w2.heap.size) := ⟨hb, Nat.le_trans HS0.out hn.1.size⟩
  clear ho hb hn HC hw1 c12
  go_wp2_with fail
  go_loopw [7, 11] (fun v i W => ∃ k : Nat, k ≤ l.rules.length ∧ i = .int .i64 k ∧ Aside0 (OwnB W B v (be (l.rules.length : Int) 2 ++ (l.rules.take k).flatMap (eR Pl))) ∧ Aside0 (Below B w1 W ∧ B ≤ W.heap.size)) (fun _ i _ => l.rules.length - (intOf i).toNat)
  case atStart => exact ⟨0, by omega, rfl, HO1, HB1⟩
  case round =>
    clear HO1 HB1
    obtain ⟨k, hk, rfl, HO, HB⟩ := hrel
    have c12 := H12.out _ HB.out.1
    by_cases hlt : k < l.rules.length
    · obtain ⟨b, off, rfl, _⟩ := C_plainA pos_Rl (HRR.out _ HB.out.1) (Nat.lt_of_le_of_lt (Nat.zero_le k) hlt)
      obtain ⟨r, hr⟩ : ∃ r, l.rules[k] = r := ⟨_, rfl⟩
      have hrm := HMM.out r (hr ▸ List.getElem_mem hlt)
      have HS : Aside0 (∀ W, Below B w1 W → W.cell? ⟨w.heap.size, 12, none⟩ = some (.slice (some ⟨b, off, none⟩) l.rules.length cr) ∧ W.cell? ⟨b, off + k * 2, none⟩ = some (.int .i64 r.1) ∧ W.cell? ⟨b, off + k * 2 + 1, none⟩ = some (.string r.2)) := ⟨fun W h => by
        obtain ⟨ad, e, h1, h2⟩ := at_Rl (HRR.out _ h) k hlt
        injection e with e
        subst e
        rw [plain_add] at h1 h2
        rw [← Nat.add_assoc] at h2
        rw [hr] at h1 h2
        exact ⟨H12.out _ h, h1, h2⟩⟩
      have HT : Aside0 ((l.rules.take (k + 1)).flatMap (eR Pl) = (l.rules.take k).flatMap (eR Pl) ++ (be r.1 1 ++ eT Pl r.2)) := ⟨by rw [List.take_succ_eq_append_getElem hlt, hr, List.flatMap_append]; simp [eR]⟩
      have HU : Aside0 (IntKind.u8.wrap r.1 = r.1) := ⟨IntWalk.u8_in _ hrm.2⟩
      have hlen : (be (l.rules.length : Int) 2 ++ (l.rules.take k).flatMap (eR Pl)).length ≤ 300000 := by rw [List.length_append, be2_length, eR_len, List.length_take]; omega
      obtain ⟨xs, hxs⟩ : ∃ xs, be (l.rules.length : Int) 2 ++ (l.rules.take k).flatMap (eR Pl) = xs := ⟨_, rfl⟩
      rw [hxs] at hlen HO
      have HXS := Aside0.mk hxs
      have HLEN := Aside0.mk hlen
      obtain ⟨Av, mv, cv, rfl⟩ := R_slice' HO.out
      have HRM := Aside0.mk hrm.1
      have i0 : (0 : Int) ≤ (k : Int) := by omega
      have i1 : (k : Int) < (l.rules.length : Int) := by omega
      clear hr hrm hxs hlen
      go_wp2_with fail
      clear c12
      go_region_held3 (fun W => W.cell? ⟨w.heap.size, 12, none⟩ = some (.slice (some ⟨b, off, none⟩) l.rules.length cr) ∧ W.cell? ⟨b, off + k * 2, none⟩ = some (.int .i64 r.1) ∧ W.cell? ⟨b, off + k * 2 + 1, none⟩ = some (.string r.2))
        (first | exact HS.out _ HB4.out | exact HS.out _ HB3.out | exact HS.out _ (HB.out.1.drew.alloc HB.out.2 _) | exact HS.out _ HB.out.1.drew)
        (first
        | (refine appB_step (w0 := w1) B (by rfl) (.tmp 94) (.tmp 102) rfl (.slice Av mv cv) xs [IntKind.u8.wrap r.1] (some ⟨wr.heap.size, 0, none⟩) 1 rfl rfl (Kd.R_alloc (Kd.R_drew HO.out) _) (C_blk .u8 [IntKind.u8.wrap r.1] (blk_new _ _) (by simp)) (HB.out.1.drew.alloc HB.out.2 _) (Nat.le_trans HB.out.2 (by simp)) (Nat.le_trans (Nat.add_le_add_right HLEN.out 1) (by decide)) ?_; intro v3 w3 ho hb hg hat; rw [HU.out] at ho; obtain ⟨A3, m3, c3, hv⟩ := R_slice' ho; subst hv; have HB3 := Aside0.mk hb; have HS3 := Aside0.mk (Nat.le_trans (Nat.le_trans HB.out.2 (by simp)) hg.size); have HC3 := Aside0.mk (ref_be B w1 (.slice A3 m3 c3) (xs ++ [r.1]) Pl A c r.2 w3 H500.out HRM.out (HPR.out _ hb) ho hb HS3.out (by rw [List.length_append]; exact Nat.le_trans (Nat.add_le_add_right HLEN.out 1) (by decide))); clear ho hb hg hat)
        | (go_at_call 56; ((with_reducible refine HC3.out.mono ?_); rintro e w4 ⟨v4, rfl, ho, hb, hn⟩; have HO4 := Aside0.mk ho; have HB4 := Aside0.mk hb; have HS4 := Aside0.mk (Nat.le_trans HS3.out hn.1.size); clear ho hb hn HC3)))
      all_goals go_wp2
      all_goals go_roundw
      all_goals first
        | exact ⟨k + 1, by omega, by go_num, ⟨by have h := HO4.out; rw [be1_app] at h; rw [HT.out, ← List.append_assoc, HXS.out]; exact h⟩, ⟨HB4.out, HS4.out⟩⟩
        | (simp [intOf]; omega)
    · obtain rfl : k = l.rules.length := by omega
      have HE : Aside0 (OwnB wr B _ (part4 Pl l)) := ⟨by have h := HO.out; rw [List.take_length] at h; exact h⟩
      clear HO
      go_wp2
      go_ret
      exact ⟨_, rfl, HLOW.out _ _ _ HE.out, HYES.out _ HB.out.1⟩
set_option maxHeartbeats 3200000 in
set_option maxRecDepth 100000 in
theorem sec6_calls (l : Loc) (L : List Value) (Pl : List ByteArray) (A : Option Addr) (c : Nat) (w : World) (hL : RdL w l L) (hx : RdS w A Pl) (hp : isPool Pl = true) (hm : ∀ s ∈ texts l, s ∈ Pl) (hmay : mayB l = true) (hF : Few l) (hz : l.s.ok) :
    Calls Try.prog 39 #[.agg L.toArray, .slice A Pl.length c, .int .i64 6] w (secQ (part6 Pl l) w) := by
  have h500 := isPool_length hp
  obtain ⟨y1, y2, y3, y4⟩ := may_parts hmay
  obtain ⟨m0, m1, m2, m3, m4⟩ := mem_texts l
  have hf1 : l.rules.length ≤ 65535 := hF.1
  have hf2 : l.curs.length ≤ 65535 := hF.2.1
  have hf3 : l.comps.length ≤ 65535 := hF.2.2
  obtain ⟨Ar, cr, Ac, cc, Ak, ck, rfl, _, _, _, hr, hc, hk⟩ := hL
  have hblk := blk_new w (.cells (lcells l (.slice Ar l.rules.length cr) (.slice Ac l.curs.length cc) (.slice Ak l.comps.length ck)).toArray 29)
  have hb1 := (Below.refl w.heap.size w).alloc (Nat.le_refl _) (.cells (lcells l (.slice Ar l.rules.length cr) (.slice Ac l.curs.length cc) (.slice Ak l.comps.length ck)).toArray 29)
  obtain ⟨L, hLe⟩ : ∃ L, lcells l (.slice Ar l.rules.length cr) (.slice Ac l.curs.length cc) (.slice Ak l.comps.length ck) = L := ⟨_, rfl⟩
  have HLE : Aside0 (L = lcells l (.slice Ar l.rules.length cr) (.slice Ac l.curs.length cc) (.slice Ak l.comps.length ck)) := ⟨hLe.symm⟩
  rw [hLe] at hblk hb1 ⊢
  obtain ⟨w1, hw1⟩ : ∃ w1, w.alloc (.cells L.toArray 29) = w1 := ⟨_, rfl⟩
  rw [hw1] at hblk hb1
  have HKB : Aside0 (∀ W, Below w1.heap.size w1 W → W.heap[w.heap.size]? = some (.cells L.toArray 29 (0, 0))) := ⟨fun W h => blk_below hblk h (blk_lt hblk)⟩
  have HPR : Aside0 (∀ W, Below w1.heap.size w1 W → RdS W A Pl) := ⟨fun W h => Kd.C_below (Kd.C_below hx hb1) h⟩
  have HRR : Aside0 (∀ W, Below w1.heap.size w1 W → kRl.C W Ar l.rules.length l.rules) := ⟨fun W h => Kd.C_below (Kd.C_below hr hb1) h⟩
  have HRC : Aside0 (∀ W, Below w1.heap.size w1 W → kCu.C W Ac l.curs.length l.curs) := ⟨fun W h => Kd.C_below (Kd.C_below hc hb1) h⟩
  have HRK : Aside0 (∀ W, Below w1.heap.size w1 W → kCm.C W Ak l.comps.length l.comps) := ⟨fun W h => Kd.C_below (Kd.C_below hk hb1) h⟩
  have HYES : Aside0 (∀ W, Below w1.heap.size w1 W → Below w.heap.size w W) := ⟨fun W h => below_then hb1 hb1.size h⟩
  have HLOW : Aside0 (∀ W v xs, OwnB W w1.heap.size v xs → OwnB W w.heap.size v xs) := ⟨fun W v xs h => Kd.R_lower h hb1.size⟩
  obtain ⟨B, hB⟩ : ∃ B, w1.heap.size = B := ⟨_, rfl⟩
  have HBQ := Aside0.mk hB
  rw [hB] at HKB HPR HRR HRC HRK HYES HLOW
  have HB0 : Aside0 (Below B w1 w1) := ⟨Below.refl _ _⟩
  have HS0 : Aside0 (B ≤ w1.heap.size) := ⟨Nat.le_of_eq hB.symm⟩
  have HO0 : Aside0 (OwnB w1 B (.slice none 0 0) []) := ⟨Kd.R_nil _ _ _ _ _⟩
  have H500 := Aside0.mk h500
  have HM := Aside0.mk hm
  clear hr hc hk hblk hb1 hLe hx hm hF hmay hB h500
  have l14 : L[14]? = some (.slice Ak l.comps.length ck) := by rw [HLE.out]; rfl
  have H14 : Aside0 (∀ W, Below B w1 W → W.cell? ⟨w.heap.size, 14, none⟩ = some (.slice Ak l.comps.length ck)) := ⟨fun W h => blkv (HKB.out _ h) l14⟩
  have HMM : Aside0 (∀ r ∈ l.comps, r.2.2 ∈ Pl ∧ (0 ≤ r.1 ∧ r.1 ≤ 255) ∧ 0 ≤ r.2.1 ∧ r.2.1 ≤ 255) := ⟨fun r hr => ⟨HM.out _ (m4 r hr), fits_one (y4 r hr).1, fits_one (y4 r hr).2⟩⟩
  have HC := Aside0.mk (two_be B w1 (.slice none 0 0) [] (l.comps.length : Int) w1 (fits2 _ hf3) HO0.out HB0.out HS0.out (by simp))
  have c14 := H14.out _ HB0.out
  clear y1 y2 y3 y4 m0 m1 m2 m3 m4 hp l14 HO0
  go_enter Try.func39, Try.ntmps39
  go_wp2_with fail
  refine HC.out.mono ?_
  rintro e w2 ⟨v, rfl, ho, hb, hn⟩
  have HO1 : Aside0 (OwnB w2 B v (be (l.comps.length : Int) 2 ++ (l.comps.take 0).flatMap (eM Pl))) := ⟨by rw [List.take_zero, List.flatMap_nil, List.append_nil]; exact ho⟩
  have HB1 : Aside0 (Below B w1 w2 ∧ B ≤ w2.heap.size) := ⟨hb, Nat.le_trans HS0.out hn.1.size⟩
  clear ho hb hn HC hw1 c14
  go_wp2_with fail
  go_loopw [7, 13] (fun v i W => ∃ k : Nat, k ≤ l.comps.length ∧ i = .int .i64 k ∧ Aside0 (OwnB W B v (be (l.comps.length : Int) 2 ++ (l.comps.take k).flatMap (eM Pl))) ∧ Aside0 (Below B w1 W ∧ B ≤ W.heap.size)) (fun _ i _ => l.comps.length - (intOf i).toNat)
  case atStart => exact ⟨0, by omega, rfl, HO1, HB1⟩
  case round =>
    clear HO1 HB1
    obtain ⟨k, hk, rfl, HO, HB⟩ := hrel
    have c14 := H14.out _ HB.out.1
    by_cases hlt : k < l.comps.length
    · obtain ⟨b, off, rfl, _⟩ := C_plainA pos_Cm (HRK.out _ HB.out.1) (Nat.lt_of_le_of_lt (Nat.zero_le k) hlt)
      obtain ⟨r, hr⟩ : ∃ r, l.comps[k] = r := ⟨_, rfl⟩
      have hrm := HMM.out r (hr ▸ List.getElem_mem hlt)
      have HS : Aside0 (∀ W, Below B w1 W → W.cell? ⟨w.heap.size, 14, none⟩ = some (.slice (some ⟨b, off, none⟩) l.comps.length ck) ∧ W.cell? ⟨b, off + k * 3, none⟩ = some (.int .i64 r.1) ∧ W.cell? ⟨b, off + k * 3 + 1, none⟩ = some (.int .i64 r.2.1) ∧ W.cell? ⟨b, off + k * 3 + 2, none⟩ = some (.string r.2.2)) := ⟨fun W h => by
        obtain ⟨ad, e, h1, h2, h3⟩ := at_Cm (HRK.out _ h) k hlt
        injection e with e
        subst e
        rw [plain_add] at h1 h2 h3
        rw [← Nat.add_assoc] at h2 h3
        rw [hr] at h1 h2 h3
        exact ⟨H14.out _ h, h1, h2, h3⟩⟩
      have HT : Aside0 ((l.comps.take (k + 1)).flatMap (eM Pl) = (l.comps.take k).flatMap (eM Pl) ++ (be r.1 1 ++ (be r.2.1 1 ++ eT Pl r.2.2))) := ⟨by rw [List.take_succ_eq_append_getElem hlt, hr, List.flatMap_append]; simp [eM]⟩
      have HU : Aside0 ([IntKind.u8.wrap r.1, IntKind.u8.wrap r.2.1] = [r.1, r.2.1]) := ⟨by rw [IntWalk.u8_in _ hrm.2.1, IntWalk.u8_in _ hrm.2.2]⟩
      have hlen : (be (l.comps.length : Int) 2 ++ (l.comps.take k).flatMap (eM Pl)).length ≤ 300000 := by rw [List.length_append, be2_length, eM_len, List.length_take]; omega
      obtain ⟨xs, hxs⟩ : ∃ xs, be (l.comps.length : Int) 2 ++ (l.comps.take k).flatMap (eM Pl) = xs := ⟨_, rfl⟩
      rw [hxs] at hlen HO
      have HXS := Aside0.mk hxs
      have HLEN := Aside0.mk hlen
      obtain ⟨Av, mv, cv, rfl⟩ := R_slice' HO.out
      have HRM := Aside0.mk hrm.1
      have i0 : (0 : Int) ≤ (k : Int) := by omega
      have i1 : (k : Int) < (l.comps.length : Int) := by omega
      clear hr hrm hxs hlen
      go_wp2_with fail
      clear c14
      go_region_held3 (fun W => W.cell? ⟨w.heap.size, 14, none⟩ = some (.slice (some ⟨b, off, none⟩) l.comps.length ck) ∧ W.cell? ⟨b, off + k * 3, none⟩ = some (.int .i64 r.1) ∧ W.cell? ⟨b, off + k * 3 + 1, none⟩ = some (.int .i64 r.2.1) ∧ W.cell? ⟨b, off + k * 3 + 2, none⟩ = some (.string r.2.2))
        (first | exact HS.out _ HB4.out | exact HS.out _ HB3.out | exact HS.out _ (HB.out.1.drew.alloc HB.out.2 _) | exact HS.out _ HB.out.1.drew)
        (first
        | (refine appB_step (w0 := w1) B (by rfl) (.tmp 166) (.tmp 181) rfl (.slice Av mv cv) xs [IntKind.u8.wrap r.1, IntKind.u8.wrap r.2.1] (some ⟨wr.heap.size, 0, none⟩) 2 rfl rfl (Kd.R_alloc (Kd.R_drew HO.out) _) (C_blk .u8 [IntKind.u8.wrap r.1, IntKind.u8.wrap r.2.1] (blk_new _ _) (by simp)) (HB.out.1.drew.alloc HB.out.2 _) (Nat.le_trans HB.out.2 (by simp)) (Nat.le_trans (Nat.add_le_add_right HLEN.out 2) (by decide)) ?_; intro v3 w3 ho hb hg hat; rw [HU.out] at ho; obtain ⟨A3, m3, c3, hv⟩ := R_slice' ho; subst hv; have HB3 := Aside0.mk hb; have HS3 := Aside0.mk (Nat.le_trans (Nat.le_trans HB.out.2 (by simp)) hg.size); have HC3 := Aside0.mk (ref_be B w1 (.slice A3 m3 c3) (xs ++ [r.1, r.2.1]) Pl A c r.2.2 w3 H500.out HRM.out (HPR.out _ hb) ho hb HS3.out (by rw [List.length_append]; exact Nat.le_trans (Nat.add_le_add_right HLEN.out 2) (by decide))); clear ho hb hg hat)
        | (go_at_call 56; ((with_reducible refine HC3.out.mono ?_); rintro e w4 ⟨v4, rfl, ho, hb, hn⟩; have HO4 := Aside0.mk ho; have HB4 := Aside0.mk hb; have HS4 := Aside0.mk (Nat.le_trans HS3.out hn.1.size); clear ho hb hn HC3)))
      all_goals go_wp2
      all_goals go_roundw
      all_goals first
        | exact ⟨k + 1, by omega, by go_num, ⟨by have h := HO4.out; rw [be2_app] at h; rw [HT.out, ← List.append_assoc, HXS.out]; exact h⟩, ⟨HB4.out, HS4.out⟩⟩
        | (simp [intOf]; omega)
    · obtain rfl : k = l.comps.length := by omega
      have HE : Aside0 (OwnB wr B _ (part6 Pl l)) := ⟨by have h := HO.out; rw [List.take_length] at h; exact h⟩
      clear HO
      go_wp2
      go_ret
      exact ⟨_, rfl, HLOW.out _ _ _ HE.out, HYES.out _ HB.out.1⟩
end Go.Proofs.Ytfbmgjanplnabaa
/- exergueref16.section: the currencies. -/
namespace Go.Proofs.Ytfbmgjanplnabaa
open Go.RowKit Go.Proofs.YtfbmgjanplnabaaW.PrintWords Go.Proofs.YtfbmgjanplnabaaW.PrintLast Go.Proofs.YtfbmgjanplnabaaW.PrintMore
set_option linter.unusedVariables false
set_option linter.unusedSimpArgs false

theorem lit_reads {W W' w' : World} {v v1 : Value} {base : Nat} {xs : List Int} {o : Obj} (hO : OwnB W base v xs) (hn : Onto W' w' v v1) (hW : W'.heap = (W.alloc o).heap) : w'.heap[W.heap.size]? = some o := by
  rw [hn.1.block W.heap.size (by rw [hW]; simp) (fun e => by have := Kd.R_lt hO _ e.symm; omega), hW, blk_new]
theorem lit_next {W W' w3 w4 : World} {v v3 v4 : Value} {base : Nat} {xs : List Int} {o : Obj} (hO : OwnB W base v xs) (hn : Onto W' w3 v v3) (hW : W'.heap = (W.alloc o).heap) (h : w3.heap[W.heap.size]? = some o) (hn4 : Onto w3 w4 v3 v4) : w4.heap[W.heap.size]? = some o := by
  rw [hn4.1.block W.heap.size (lt_of_block h) (fun e => ?_), h]
  rcases hn.2 with h1 | ⟨b, h1, h2⟩
  · rw [h1] at e
    have := Kd.R_lt hO _ e.symm
    omega
  · rw [h1] at e
    injection e with e
    rw [hW] at h2
    simp at h2
    omega
theorem be_tail (xs : List Int) (a b : List Int) (n : Int) : ((xs ++ a) ++ b) ++ [n] = xs ++ (a ++ (b ++ be n 1)) := by simp only [List.append_assoc]; rfl
set_option maxHeartbeats 3200000 in
set_option maxRecDepth 100000 in
theorem sec5_calls (l : Loc) (L : List Value) (Pl : List ByteArray) (A : Option Addr) (c : Nat) (w : World) (hL : RdL w l L) (hx : RdS w A Pl) (hp : isPool Pl = true) (hm : ∀ s ∈ texts l, s ∈ Pl) (hmay : mayB l = true) (hF : Few l) (hz : l.s.ok) :
    Calls Try.prog 39 #[.agg L.toArray, .slice A Pl.length c, .int .i64 5] w (secQ (part5 Pl l) w) := by
  have h500 := isPool_length hp
  obtain ⟨y1, y2, y3, y4⟩ := may_parts hmay
  obtain ⟨m0, m1, m2, m3, m4⟩ := mem_texts l
  have hf1 : l.rules.length ≤ 65535 := hF.1
  have hf2 : l.curs.length ≤ 65535 := hF.2.1
  have hf3 : l.comps.length ≤ 65535 := hF.2.2
  obtain ⟨Ar, cr, Ac, cc, Ak, ck, rfl, _, _, _, hr, hc, hk⟩ := hL
  have hblk := blk_new w (.cells (lcells l (.slice Ar l.rules.length cr) (.slice Ac l.curs.length cc) (.slice Ak l.comps.length ck)).toArray 29)
  have hb1 := (Below.refl w.heap.size w).alloc (Nat.le_refl _) (.cells (lcells l (.slice Ar l.rules.length cr) (.slice Ac l.curs.length cc) (.slice Ak l.comps.length ck)).toArray 29)
  obtain ⟨L, hLe⟩ : ∃ L, lcells l (.slice Ar l.rules.length cr) (.slice Ac l.curs.length cc) (.slice Ak l.comps.length ck) = L := ⟨_, rfl⟩
  have HLE : Aside0 (L = lcells l (.slice Ar l.rules.length cr) (.slice Ac l.curs.length cc) (.slice Ak l.comps.length ck)) := ⟨hLe.symm⟩
  rw [hLe] at hblk hb1 ⊢
  obtain ⟨w1, hw1⟩ : ∃ w1, w.alloc (.cells L.toArray 29) = w1 := ⟨_, rfl⟩
  rw [hw1] at hblk hb1
  have HKB : Aside0 (∀ W, Below w1.heap.size w1 W → W.heap[w.heap.size]? = some (.cells L.toArray 29 (0, 0))) := ⟨fun W h => blk_below hblk h (blk_lt hblk)⟩
  have HPR : Aside0 (∀ W, Below w1.heap.size w1 W → RdS W A Pl) := ⟨fun W h => Kd.C_below (Kd.C_below hx hb1) h⟩
  have HRR : Aside0 (∀ W, Below w1.heap.size w1 W → kRl.C W Ar l.rules.length l.rules) := ⟨fun W h => Kd.C_below (Kd.C_below hr hb1) h⟩
  have HRC : Aside0 (∀ W, Below w1.heap.size w1 W → kCu.C W Ac l.curs.length l.curs) := ⟨fun W h => Kd.C_below (Kd.C_below hc hb1) h⟩
  have HRK : Aside0 (∀ W, Below w1.heap.size w1 W → kCm.C W Ak l.comps.length l.comps) := ⟨fun W h => Kd.C_below (Kd.C_below hk hb1) h⟩
  have HYES : Aside0 (∀ W, Below w1.heap.size w1 W → Below w.heap.size w W) := ⟨fun W h => below_then hb1 hb1.size h⟩
  have HLOW : Aside0 (∀ W v xs, OwnB W w1.heap.size v xs → OwnB W w.heap.size v xs) := ⟨fun W v xs h => Kd.R_lower h hb1.size⟩
  obtain ⟨B, hB⟩ : ∃ B, w1.heap.size = B := ⟨_, rfl⟩
  have HBQ := Aside0.mk hB
  rw [hB] at HKB HPR HRR HRC HRK HYES HLOW
  have HB0 : Aside0 (Below B w1 w1) := ⟨Below.refl _ _⟩
  have HS0 : Aside0 (B ≤ w1.heap.size) := ⟨Nat.le_of_eq hB.symm⟩
  have HO0 : Aside0 (OwnB w1 B (.slice none 0 0) []) := ⟨Kd.R_nil _ _ _ _ _⟩
  have H500 := Aside0.mk h500
  have HM := Aside0.mk hm
  clear hr hc hk hblk hb1 hLe hx hm hF hmay hB h500
  have l13 : L[13]? = some (.slice Ac l.curs.length cc) := by rw [HLE.out]; rfl
  have H13 : Aside0 (∀ W, Below B w1 W → W.cell? ⟨w.heap.size, 13, none⟩ = some (.slice Ac l.curs.length cc)) := ⟨fun W h => blkv (HKB.out _ h) l13⟩
  have HMM : Aside0 (∀ r ∈ l.curs, (r.1 ∈ Pl ∧ r.2.1 ∈ Pl) ∧ 0 ≤ r.2.2 ∧ r.2.2 ≤ 255) := ⟨fun r hr => ⟨⟨HM.out _ (m3 r hr).1, HM.out _ (m3 r hr).2⟩, fits_one (y3 r hr)⟩⟩
  have HC := Aside0.mk (two_be B w1 (.slice none 0 0) [] (l.curs.length : Int) w1 (fits2 _ hf2) HO0.out HB0.out HS0.out (by simp))
  have c13 := H13.out _ HB0.out
  clear y1 y2 y3 y4 m0 m1 m2 m3 m4 hp l13 HO0
  go_enter Try.func39, Try.ntmps39
  go_wp2_with fail
  refine HC.out.mono ?_
  rintro e w2 ⟨v, rfl, ho, hb, hn⟩
  have HO1 : Aside0 (OwnB w2 B v (be (l.curs.length : Int) 2 ++ (l.curs.take 0).flatMap (eC Pl))) := ⟨by rw [List.take_zero, List.flatMap_nil, List.append_nil]; exact ho⟩
  have HB1 : Aside0 (Below B w1 w2 ∧ B ≤ w2.heap.size) := ⟨hb, Nat.le_trans HS0.out hn.1.size⟩
  clear ho hb hn HC hw1 c13
  go_wp2_with fail
  go_loopw [7, 12] (fun v i W => ∃ k : Nat, k ≤ l.curs.length ∧ i = .int .i64 k ∧ Aside0 (OwnB W B v (be (l.curs.length : Int) 2 ++ (l.curs.take k).flatMap (eC Pl))) ∧ Aside0 (Below B w1 W ∧ B ≤ W.heap.size)) (fun _ i _ => l.curs.length - (intOf i).toNat)
  case atStart => exact ⟨0, by omega, rfl, HO1, HB1⟩
  case round =>
    clear HO1 HB1
    obtain ⟨k, hk, rfl, HO, HB⟩ := hrel
    have c13 := H13.out _ HB.out.1
    by_cases hlt : k < l.curs.length
    · obtain ⟨b, off, rfl, _⟩ := C_plainA pos_Cu (HRC.out _ HB.out.1) (Nat.lt_of_le_of_lt (Nat.zero_le k) hlt)
      obtain ⟨r, hr⟩ : ∃ r, l.curs[k] = r := ⟨_, rfl⟩
      have hrm := HMM.out r (hr ▸ List.getElem_mem hlt)
      have HS : Aside0 (∀ W, Below B w1 W → W.cell? ⟨w.heap.size, 13, none⟩ = some (.slice (some ⟨b, off, none⟩) l.curs.length cc) ∧ W.cell? ⟨b, off + k * 3, none⟩ = some (.string r.1) ∧ W.cell? ⟨b, off + k * 3 + 1, none⟩ = some (.string r.2.1) ∧ W.cell? ⟨b, off + k * 3 + 2, none⟩ = some (.int .i64 r.2.2)) := ⟨fun W h => by
        obtain ⟨ad, e, h1, h2, h3⟩ := at_Cu (HRC.out _ h) k hlt
        injection e with e
        subst e
        rw [plain_add] at h1 h2 h3
        rw [← Nat.add_assoc] at h2 h3
        rw [hr] at h1 h2 h3
        exact ⟨H13.out _ h, h1, h2, h3⟩⟩
      have HT : Aside0 ((l.curs.take (k + 1)).flatMap (eC Pl) = (l.curs.take k).flatMap (eC Pl) ++ (eT Pl r.1 ++ (eT Pl r.2.1 ++ be r.2.2 1))) := ⟨by rw [List.take_succ_eq_append_getElem hlt, hr, List.flatMap_append]; simp [eC]⟩
      have HU : Aside0 (IntKind.u8.wrap r.2.2 = r.2.2) := ⟨IntWalk.u8_in _ hrm.2⟩
      have hlen : (be (l.curs.length : Int) 2 ++ (l.curs.take k).flatMap (eC Pl)).length ≤ 400000 := by rw [List.length_append, be2_length, eC_len, List.length_take]; omega
      obtain ⟨xs, hxs⟩ : ∃ xs, be (l.curs.length : Int) 2 ++ (l.curs.take k).flatMap (eC Pl) = xs := ⟨_, rfl⟩
      rw [hxs] at hlen HO
      have HXS := Aside0.mk hxs
      have HLEN := Aside0.mk hlen
      obtain ⟨Av, mv, cv, rfl⟩ := R_slice' HO.out
      have HRM := Aside0.mk hrm.1
      have i0 : (0 : Int) ≤ (k : Int) := by omega
      have i1 : (k : Int) < (l.curs.length : Int) := by omega
      have HOD : Aside0 (OwnB wr.drew B (.slice Av mv cv) xs) := ⟨Kd.R_drew HO.out⟩
      have HBD : Aside0 (Below B w1 wr.drew) := ⟨HB.out.1.drew⟩
      have HBE : Aside0 (Below B w1 (wr.alloc (.cells #[.int .u8 (IntKind.u8.wrap r.2.2)] 5)).drew) := ⟨(HB.out.1.alloc HB.out.2 _).drew⟩
      have HC1A := Aside0.mk (ref_be B w1 (.slice Av mv cv) xs Pl A c r.1 wr.drew H500.out HRM.out.1 (HPR.out _ HBD.out) HOD.out HBD.out HB.out.2 (Nat.le_trans HLEN.out (by decide)))
      have HC1C := Aside0.mk (ref_be B w1 (.slice Av mv cv) xs Pl A c r.1 (wr.alloc (.cells #[.int .u8 (IntKind.u8.wrap r.2.2)] 5)).drew H500.out HRM.out.1 (HPR.out _ HBE.out) (Kd.R_drew (Kd.R_alloc HO.out _)) HBE.out (Nat.le_trans HB.out.2 (by simp)) (Nat.le_trans HLEN.out (by decide)))
      clear hr hrm hxs hlen
      go_wp2_with fail
      clear c13
      go_region_held3 (fun W => W.cell? ⟨w.heap.size, 13, none⟩ = some (.slice (some ⟨b, off, none⟩) l.curs.length cc) ∧ W.cell? ⟨b, off + k * 3, none⟩ = some (.string r.1) ∧ W.cell? ⟨b, off + k * 3 + 1, none⟩ = some (.string r.2.1) ∧ W.cell? ⟨b, off + k * 3 + 2, none⟩ = some (.int .i64 r.2.2))
        (first | exact HS.out _ HB5.out | exact HS.out _ (HB4.out.alloc HS4.out _) | exact HS.out _ HB4.out | exact HS.out _ (HB3.out.alloc HS3.out _) | exact HS.out _ HB3.out | exact HS.out _ HBE.out | exact HS.out _ HBD.out)
        (first
        | (go_at_call 56; ((with_reducible refine HC1A.out.mono ?_); rintro e w3 ⟨v3, rfl, ho, hb, hn⟩; obtain ⟨A3, m3, c3, hv⟩ := R_slice' ho; subst hv; have HB3 := Aside0.mk hb; have HS3 : Aside0 (B ≤ w3.heap.size) := ⟨Nat.le_trans HB.out.2 hn.1.size⟩; have HO3 := Aside0.mk ho; have HC2A := Aside0.mk (ref_be B w1 (.slice A3 m3 c3) (xs ++ eT Pl r.1) Pl A c r.2.1 w3 H500.out HRM.out.2 (HPR.out _ hb) ho hb HS3.out (by rw [List.length_append]; exact Nat.le_trans (Nat.add_le_add_right HLEN.out 2) (by decide))); have HC2B := Aside0.mk (ref_be B w1 (.slice A3 m3 c3) (xs ++ eT Pl r.1) Pl A c r.2.1 (w3.alloc (.cells #[.int .u8 (IntKind.u8.wrap r.2.2)] 5)) H500.out HRM.out.2 (HPR.out _ (hb.alloc HS3.out _)) (Kd.R_alloc ho _) (hb.alloc HS3.out _) (Nat.le_trans HS3.out (by simp)) (by rw [List.length_append]; exact Nat.le_trans (Nat.add_le_add_right HLEN.out 2) (by decide))); clear ho hb hn HC1A HC1C))
        | (go_at_call 56; ((with_reducible refine HC1C.out.mono ?_); rintro e w3 ⟨v3, rfl, ho, hb, hn⟩; obtain ⟨A3, m3, c3, hv⟩ := R_slice' ho; subst hv; have HB3 := Aside0.mk hb; have HS3 : Aside0 (B ≤ w3.heap.size) := ⟨Nat.le_trans HB.out.2 (Nat.le_trans (by simp) hn.1.size)⟩; have HN3 := Aside0.mk hn; have HK3 := Aside0.mk (lit_reads HO.out hn rfl); have HC2C := Aside0.mk (ref_be B w1 (.slice A3 m3 c3) (xs ++ eT Pl r.1) Pl A c r.2.1 w3 H500.out HRM.out.2 (HPR.out _ hb) ho hb HS3.out (by rw [List.length_append]; exact Nat.le_trans (Nat.add_le_add_right HLEN.out 2) (by decide))); clear ho hb hn HC1A HC1C))
        | (go_at_call 56; ((with_reducible refine HC2A.out.mono ?_); rintro e w4 ⟨v4, rfl, ho, hb, hn⟩; obtain ⟨A4, m4, c4, hv⟩ := R_slice' ho; subst hv; have HB4 := Aside0.mk hb; have HS4 : Aside0 (B ≤ w4.heap.size) := ⟨Nat.le_trans HS3.out hn.1.size⟩; have HO4 := Aside0.mk ho; clear ho hb hn HC2A HC2B))
        | (go_at_call 56; ((with_reducible refine HC2B.out.mono ?_); rintro e w4 ⟨v4, rfl, ho, hb, hn⟩; obtain ⟨A4, m4, c4, hv⟩ := R_slice' ho; subst hv; have HB4 := Aside0.mk hb; have HS4 : Aside0 (B ≤ w4.heap.size) := ⟨Nat.le_trans HS3.out (Nat.le_trans (by simp) hn.1.size)⟩; have HO4 := Aside0.mk ho; have HRX := Aside0.mk (C_blk .u8 [IntKind.u8.wrap r.2.2] (lit_reads HO3.out hn rfl) (by simp)); clear ho hb hn HC2A HC2B))
        | (go_at_call 56; ((with_reducible refine HC2C.out.mono ?_); rintro e w4 ⟨v4, rfl, ho, hb, hn⟩; obtain ⟨A4, m4, c4, hv⟩ := R_slice' ho; subst hv; have HB4 := Aside0.mk hb; have HS4 : Aside0 (B ≤ w4.heap.size) := ⟨Nat.le_trans HS3.out hn.1.size⟩; have HO4 := Aside0.mk ho; have HRX := Aside0.mk (C_blk .u8 [IntKind.u8.wrap r.2.2] (lit_next HO.out HN3.out rfl HK3.out hn) (by simp)); clear ho hb hn HC2C))
        | (refine appB_step (w0 := w1) B (by rfl) (.tmp 142) (.tmp 150) rfl (.slice A4 m4 c4) ((xs ++ eT Pl r.1) ++ eT Pl r.2.1) [IntKind.u8.wrap r.2.2] _ 1 rfl rfl HO4.out HRX.out HB4.out HS4.out (by rw [List.length_append, List.length_append]; exact Nat.le_trans (Nat.add_le_add_right (Nat.add_le_add_right (Nat.add_le_add_right HLEN.out 2) 2) 1) (by decide)) ?_; intro v5 w5 ho hb hg hat; rw [HU.out] at ho; have HO5 := Aside0.mk ho; have HB5 := Aside0.mk hb; have HS5 := Aside0.mk (Nat.le_trans HS4.out hg.size); clear ho hb hg hat)
        | (refine appB_step (w0 := w1) B (by rfl) (.tmp 142) (.tmp 150) rfl (.slice A4 m4 c4) ((xs ++ eT Pl r.1) ++ eT Pl r.2.1) [IntKind.u8.wrap r.2.2] (some ⟨w4.heap.size, 0, none⟩) 1 rfl rfl (Kd.R_alloc HO4.out _) (C_blk .u8 [IntKind.u8.wrap r.2.2] (blk_new _ _) (by simp)) (HB4.out.alloc HS4.out _) (Nat.le_trans HS4.out (by simp)) (by rw [List.length_append, List.length_append]; exact Nat.le_trans (Nat.add_le_add_right (Nat.add_le_add_right (Nat.add_le_add_right HLEN.out 2) 2) 1) (by decide)) ?_; intro v5 w5 ho hb hg hat; rw [HU.out] at ho; have HO5 := Aside0.mk ho; have HB5 := Aside0.mk hb; have HS5 := Aside0.mk (Nat.le_trans (Nat.le_trans HS4.out (by simp)) hg.size); clear ho hb hg hat)
        | fail)
      all_goals go_wp2
      all_goals go_roundw
      all_goals first
        | exact ⟨k + 1, by omega, by go_num, ⟨by have h := HO5.out; rw [be_tail] at h; rw [HT.out, ← List.append_assoc, HXS.out]; exact h⟩, ⟨HB5.out, HS5.out⟩⟩
        | (simp [intOf]; omega)
    · obtain rfl : k = l.curs.length := by omega
      have HE : Aside0 (OwnB wr B _ (part5 Pl l)) := ⟨by have h := HO.out; rw [List.take_length] at h; exact h⟩
      clear HO
      go_wp2
      go_ret
      exact ⟨_, rfl, HLOW.out _ _ _ HE.out, HYES.out _ HB.out.1⟩
end Go.Proofs.Ytfbmgjanplnabaa

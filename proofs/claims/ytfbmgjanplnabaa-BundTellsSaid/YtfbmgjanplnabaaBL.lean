import Derived.Test.YtfbmgjanplnabaaBK
import Derived.Test.YtfbmgjanplnabaaBD
import Derived.Test.YtfbmgjanplnabaaBA
/- exergueref01.Row: are two rows of bytes the same? -/
namespace Go.Proofs.Ytfbmgjanplnabaa
open Go.RowKit Go.Proofs.YtfbmgjanplnabaaW.PrintWords Go.Proofs.YtfbmgjanplnabaaW.PrintLast Go.Proofs.YtfbmgjanplnabaaW.PrintMore
set_option linter.unusedVariables false
set_option linter.unusedSimpArgs false

theorem take_eq_succ {α : Type} {xs ys : List α} {k : Nat} (hx : k < xs.length) (hy : k < ys.length) (h : xs.take k = ys.take k) (he : xs[k] = ys[k]) : xs.take (k + 1) = ys.take (k + 1) := by
  rw [List.take_succ_eq_append_getElem hx, List.take_succ_eq_append_getElem hy, h, he]
theorem take_ne {α : Type} {xs ys : List α} {k : Nat} (hx : k < xs.length) (hy : k < ys.length) (he : xs[k] ≠ ys[k]) : xs ≠ ys := by
  rintro rfl
  exact he rfl

set_option maxHeartbeats 800000 in
set_option maxRecDepth 100000 in
theorem row_calls (xs ys : List Int) (A B : Option Addr) (c d : Nat) (w : World) (hx : RdB w A xs) (hy : RdB w B ys) :
    Calls Try.prog 17 #[.slice A xs.length c, .slice B ys.length d] w fun e w' => e = .returned (.bool (decide (xs = ys))) ∧ Below w.heap.size w w' := by
  have hlx : xs.length ≤ 9223372036854775807 := hx.2.1
  have hly : ys.length ≤ 9223372036854775807 := hy.2.1
  have HX := Aside0.mk hx
  have HY := Aside0.mk hy
  clear hx hy
  by_cases hlen : xs.length = ys.length
  · have hq : ((xs.length : Int) != (ys.length : Int)) = false := by rw [bne_eq_false_iff_eq]; omega
    have HLEN := Aside0.mk hlen
    clear hlen
    go_enter Try.func17, Try.ntmps17
    go_wp2_with fail
    go_loopw [5] (fun i W => ∃ k : Nat, k ≤ xs.length ∧ i = .int .i64 k ∧ Aside0 (xs.take k = ys.take k) ∧ Aside0 (Below w.heap.size w W)) (fun i _ => xs.length - (intOf i).toNat)
    case atStart => exact ⟨0, by omega, rfl, ⟨rfl⟩, ⟨Below.refl _ _⟩⟩
    case round =>
      obtain ⟨k, hk, rfl, HE, HB⟩ := hrel
      by_cases hlt : k < xs.length
      · have hlt2 : k < ys.length := by have := HLEN.out; omega
        obtain ⟨b, off, rfl, hcx⟩ := C_plain (Kd.C_below HX.out HB.out) (Nat.lt_of_le_of_lt (Nat.zero_le k) hlt)
        obtain ⟨b', off', rfl, hcy⟩ := C_plain (Kd.C_below HY.out HB.out) (Nat.lt_of_le_of_lt (Nat.zero_le k) hlt2)
        have h1 := hcx k hlt
        have h2 := hcy k hlt2
        have e1 : rd xs (k : Int) = xs[k] := by simp [rd, List.getD_eq_getElem?_getD, List.getElem?_eq_getElem hlt]
        have e2 : rd ys (k : Int) = ys[k] := by simp [rd, List.getD_eq_getElem?_getD, List.getElem?_eq_getElem hlt2]
        rw [e1] at h1
        rw [e2] at h2
        obtain ⟨x, hxk⟩ : ∃ x, xs[k] = x := ⟨_, rfl⟩
        obtain ⟨y, hyk⟩ : ∃ y, ys[k] = y := ⟨_, rfl⟩
        rw [hxk] at h1
        rw [hyk] at h2
        by_cases hxy : x = y
        · have hne : (x != y) = false := by rw [bne_eq_false_iff_eq]; exact hxy
          have HE2 := Aside0.mk (take_eq_succ hlt hlt2 HE.out (by rw [hxk, hyk]; exact hxy))
          clear hcx hcy e1 e2 hxk hyk hxy HE
          go_wp2_with fail
          go_region
          all_goals go_wp2
          all_goals go_roundw
          all_goals first
            | exact ⟨k + 1, by omega, by go_num, HE2, ⟨HB.out.drew⟩⟩
            | (simp [intOf]; omega)
        · have hne : (x != y) = true := by simpa using hxy
          have HE2 := Aside0.mk (take_ne hlt hlt2 (by rw [hxk, hyk]; exact hxy))
          clear hcx hcy e1 e2 hxk hyk hxy HE
          go_wp2_with fail
          go_region
          all_goals go_wp2
          all_goals go_ret
          all_goals exact ⟨by rw [decide_eq_false HE2.out]; rfl, HB.out.drew⟩
      · obtain rfl : k = xs.length := by omega
        have HE2 : Aside0 (xs = ys) := ⟨by have h1 := HE.out; rw [List.take_length, HLEN.out, List.take_length] at h1; exact h1⟩
        clear HE
        go_wp2
        go_ret
        exact ⟨by rw [decide_eq_true HE2.out]; rfl, HB.out⟩
  · have hq : ((xs.length : Int) != (ys.length : Int)) = true := by simp; omega
    have HN : Aside0 (xs ≠ ys) := ⟨fun e => hlen (by rw [e])⟩
    clear hlen
    go_enter Try.func17, Try.ntmps17
    go_wp2
    go_ret
    exact ⟨by rw [decide_eq_false HN.out]; rfl, Below.refl _ _⟩
end Go.Proofs.Ytfbmgjanplnabaa
/- exergueref15.Same: are two locales the same? -/
namespace Go.Proofs.Ytfbmgjanplnabaa
open Go.RowKit Go.Proofs.YtfbmgjanplnabaaW.PrintWords Go.Proofs.YtfbmgjanplnabaaW.PrintLast Go.Proofs.YtfbmgjanplnabaaW.PrintMore
set_option linter.unusedVariables false
set_option linter.unusedSimpArgs false

set_option maxHeartbeats 1600000 in
set_option maxRecDepth 100000 in
theorem eq_sym (a b : Sy) (w : World) : (Op.equalIn 10000 23 (.agg #[.int .i32 a.z0, .int .i32 a.z1, .int .i32 a.z2, .int .i32 a.z3, .int .i32 a.z4, .int .i32 a.z5, .int .i32 a.z6]) (.agg #[.int .i32 b.z0, .int .i32 b.z1, .int .i32 b.z2, .int .i32 b.z3, .int .i32 b.z4, .int .i32 b.z5, .int .i32 b.z6])).run Try.prog w = .ok (decide (a = b)) w := by
  obtain ⟨a0, a1, a2, a3, a4, a5, a6⟩ := a
  obtain ⟨b0, b1, b2, b3, b4, b5, b6⟩ := b
  simp only [Sy.mk.injEq]
  by_cases h0 : a0 = b0
  · by_cases h1 : a1 = b1
    · by_cases h2 : a2 = b2
      · by_cases h3 : a3 = b3
        · by_cases h4 : a4 = b4
          · by_cases h5 : a5 = b5
            · by_cases h6 : a6 = b6
              · simp [go_sem, h0, h1, h2, h3, h4, h5, h6]
              · simp [go_sem, h0, h1, h2, h3, h4, h5, h6]
            · simp [go_sem, h0, h1, h2, h3, h4, h5]
          · simp [go_sem, h0, h1, h2, h3, h4]
        · simp [go_sem, h0, h1, h2, h3]
      · simp [go_sem, h0, h1, h2]
    · simp [go_sem, h0, h1]
  · simp [go_sem, h0]
theorem bytes_eq (s t : ByteArray) : (s.toList == t.toList) = decide (s = t) := by
  rw [Bool.eq_iff_iff]
  simp only [beq_iff_eq, decide_eq_true_eq]
  exact ⟨toList_inj, fun h => by rw [h]⟩
set_option maxRecDepth 100000 in
theorem eq_Rl (a b : Rl) (w : World) : (Op.equalIn 10000 57 (.agg #[.int .i64 a.1, .string a.2]) (.agg #[.int .i64 b.1, .string b.2])).run Try.prog w = .ok (decide (a = b)) w := by
  obtain ⟨a0, a1⟩ := a
  obtain ⟨b0, b1⟩ := b
  simp only [Prod.mk.injEq]
  have h1 := bytes_eq a1 b1
  by_cases h0 : a0 = b0
  · by_cases h2 : a1 = b1
    · simp [go_sem, h0, h2]
    · have h3 : (a1.toList == b1.toList) = false := by rw [h1]; simpa using h2
      simp [go_sem, h0, h2, h3]
  · simp [go_sem, h0]
set_option maxRecDepth 100000 in
theorem eq_Cu (a b : Cu) (w : World) : (Op.equalIn 10000 59 (.agg #[.string a.1, .string a.2.1, .int .i64 a.2.2]) (.agg #[.string b.1, .string b.2.1, .int .i64 b.2.2])).run Try.prog w = .ok (decide (a = b)) w := by
  obtain ⟨a0, a1, a2⟩ := a
  obtain ⟨b0, b1, b2⟩ := b
  simp only [Prod.mk.injEq]
  have h1 := bytes_eq a0 b0
  have h2 := bytes_eq a1 b1
  by_cases k0 : a0 = b0
  · by_cases k1 : a1 = b1
    · by_cases k2 : a2 = b2
      · simp [go_sem, k0, k1, k2]
      · simp [go_sem, k0, k1, k2]
    · have h3 : (a1.toList == b1.toList) = false := by rw [h2]; simpa using k1
      simp [go_sem, k0, k1, h3]
  · have h3 : (a0.toList == b0.toList) = false := by rw [h1]; simpa using k0
    simp [go_sem, k0, h3]
set_option maxRecDepth 100000 in
theorem eq_Cm (a b : Cm) (w : World) : (Op.equalIn 10000 61 (.agg #[.int .i64 a.1, .int .i64 a.2.1, .string a.2.2]) (.agg #[.int .i64 b.1, .int .i64 b.2.1, .string b.2.2])).run Try.prog w = .ok (decide (a = b)) w := by
  obtain ⟨a0, a1, a2⟩ := a
  obtain ⟨b0, b1, b2⟩ := b
  simp only [Prod.mk.injEq]
  have h1 := bytes_eq a2 b2
  by_cases k0 : a0 = b0
  · by_cases k1 : a1 = b1
    · by_cases k2 : a2 = b2
      · simp [go_sem, k0, k1, k2]
      · have h3 : (a2.toList == b2.toList) = false := by rw [h1]; simpa using k2
        simp [go_sem, k0, k1, k2, h3]
    · simp [go_sem, k0, k1]
  · simp [go_sem, k0]
theorem same_eq (l m : Loc) (h1 : (l.tag.toList == m.tag.toList) = true) (h2 : decide (l.s = m.s) = true) (h3 : (l.p0.toList == m.p0.toList && l.p1.toList == m.p1.toList && l.p2.toList == m.p2.toList && l.p3.toList == m.p3.toList) = true) (h4 : l.rules = m.rules) (h5 : l.curs = m.curs) (h6 : l.comps = m.comps) : l = m := by
  simp only [Bool.and_eq_true, bytes_eq, decide_eq_true_eq] at h1 h2 h3
  obtain ⟨⟨⟨h3, h7⟩, h8⟩, h9⟩ := h3
  cases l
  cases m
  simp_all
set_option maxHeartbeats 1600000 in
set_option maxRecDepth 100000 in
theorem same_calls (l m : Loc) (L M : List Value) (w : World) (hL : RdL w l L) (hM : RdL w m M) :
    Calls Try.prog 14 #[.agg L.toArray, .agg M.toArray] w fun e w' => e = .returned (.bool (decide (l = m))) ∧ Below w.heap.size w w' := by
  have HL := Aside0.mk hL
  have HM := Aside0.mk hM
  obtain ⟨Ar, cr, Ac, cc, Ak, ck, rfl, h1, h2, h3, h4, h5, h6⟩ := hL
  obtain ⟨Br, dr, Bc, dc, Bk, dk, rfl, k1, k2, k3, k4, k5, k6⟩ := hM
  have HR1 := Aside0.mk h4
  have HR2 := Aside0.mk h5
  have HR3 := Aside0.mk h6
  have HS1 := Aside0.mk k4
  have HS2 := Aside0.mk k5
  have HS3 := Aside0.mk k6
  clear h1 h2 h3 h4 h5 h6 k1 k2 k3 k4 k5 k6
  obtain ⟨tb, htb⟩ : ∃ b, (l.tag.toList == m.tag.toList) = b := ⟨_, rfl⟩
  obtain ⟨sb, hsb⟩ : ∃ b, decide (l.s = m.s) = b := ⟨_, rfl⟩
  obtain ⟨pb, hpb⟩ : ∃ b, (l.p0.toList == m.p0.toList && l.p1.toList == m.p1.toList && l.p2.toList == m.p2.toList && l.p3.toList == m.p3.toList) = b := ⟨_, rfl⟩
  have hq1 := fun w => eq_sym l.s m.s w
  have hq2 := fun w => eq_arr24 l.p0 l.p1 l.p2 l.p3 m.p0 m.p1 m.p2 m.p3 w
  rw [hsb] at hq1
  rw [hpb] at hq2
  have HTB := Aside0.mk htb
  have HSB := Aside0.mk hsb
  have HPB := Aside0.mk hpb
  clear hsb hpb
  unfold lcells at HL HM ⊢
  cases tb with
  | false =>
    have HN : Aside0 (l ≠ m) := ⟨fun e => by have := HTB.out; rw [e] at this; simp at this⟩
    clear HTB HSB HPB
    go_enter Try.func14, Try.ntmps14
    go_wp2
    go_ret
    exact ⟨by rw [decide_eq_false HN.out]; rfl, ((Below.refl _ _).alloc (Nat.le_refl _) _).alloc (by simp) _⟩
  | true =>
    cases sb with
    | false =>
      have HN : Aside0 (l ≠ m) := ⟨fun e => by have := HSB.out; rw [e] at this; simp at this⟩
      clear HTB HSB HPB
      go_enter Try.func14, Try.ntmps14
      go_wp2
      go_ret
      exact ⟨by rw [decide_eq_false HN.out]; rfl, ((Below.refl _ _).alloc (Nat.le_refl _) _).alloc (by simp) _⟩
    | true =>
      cases pb with
      | false =>
        have HN : Aside0 (l ≠ m) := ⟨fun e => by have := HPB.out; rw [e] at this; simp at this⟩
        clear HTB HSB HPB
        go_enter Try.func14, Try.ntmps14
        go_wp2
        go_ret
        exact ⟨by rw [decide_eq_false HN.out]; rfl, ((Below.refl _ _).alloc (Nat.le_refl _) _).alloc (by simp) _⟩
      | true =>
        by_cases n1 : l.rules.length = m.rules.length
        case neg =>
          have b1 : ((l.rules.length : Int) != (m.rules.length : Int)) = true := by simp; omega
          have HN : Aside0 (l ≠ m) := ⟨fun e => n1 (by rw [e])⟩
          clear HTB HSB HPB n1
          go_enter Try.func14, Try.ntmps14
          go_wp2
          go_ret
          exact ⟨by rw [decide_eq_false HN.out]; rfl, ((Below.refl _ _).alloc (Nat.le_refl _) _).alloc (by simp) _⟩
        case pos =>
        have b1 : ((l.rules.length : Int) != (m.rules.length : Int)) = false := by rw [bne_eq_false_iff_eq]; omega
        by_cases n2 : l.curs.length = m.curs.length
        case neg =>
          have b2 : ((l.curs.length : Int) != (m.curs.length : Int)) = true := by simp; omega
          have HN : Aside0 (l ≠ m) := ⟨fun e => n2 (by rw [e])⟩
          clear HTB HSB HPB n1 n2
          go_enter Try.func14, Try.ntmps14
          go_wp2
          go_ret
          exact ⟨by rw [decide_eq_false HN.out]; rfl, ((Below.refl _ _).alloc (Nat.le_refl _) _).alloc (by simp) _⟩
        case pos =>
        have b2 : ((l.curs.length : Int) != (m.curs.length : Int)) = false := by rw [bne_eq_false_iff_eq]; omega
        by_cases n3 : l.comps.length = m.comps.length
        case neg =>
          have b3 : ((l.comps.length : Int) != (m.comps.length : Int)) = true := by simp; omega
          have HN : Aside0 (l ≠ m) := ⟨fun e => n3 (by rw [e])⟩
          clear HTB HSB HPB n1 n2 n3
          go_enter Try.func14, Try.ntmps14
          go_wp2
          go_ret
          exact ⟨by rw [decide_eq_false HN.out]; rfl, ((Below.refl _ _).alloc (Nat.le_refl _) _).alloc (by simp) _⟩
        case pos =>
        have b3 : ((l.comps.length : Int) != (m.comps.length : Int)) = false := by rw [bne_eq_false_iff_eq]; omega
        have HN1 := Aside0.mk n1
        have HN2 := Aside0.mk n2
        have HN3 := Aside0.mk n3
        clear n1 n2 n3
        go_enter Try.func14, Try.ntmps14
        go_wp2_with fail
        have hln1 : l.rules.length ≤ 9223372036854775807 := HR1.out.2.1
        have hln2 : l.curs.length ≤ 9223372036854775807 := HR2.out.2.1
        have hln3 : l.comps.length ≤ 9223372036854775807 := HR3.out.2.1
        have HBA := Aside0.mk (blk_alloc (blk_new w (.cells #[.string l.tag, .int .i32 l.s.z0, .int .i32 l.s.z1, .int .i32 l.s.z2, .int .i32 l.s.z3, .int .i32 l.s.z4, .int .i32 l.s.z5, .int .i32 l.s.z6, .string l.p0, .string l.p1, .string l.p2, .string l.p3, .slice Ar l.rules.length cr, .slice Ac l.curs.length cc, .slice Ak l.comps.length ck] 29)) (.cells #[.string m.tag, .int .i32 m.s.z0, .int .i32 m.s.z1, .int .i32 m.s.z2, .int .i32 m.s.z3, .int .i32 m.s.z4, .int .i32 m.s.z5, .int .i32 m.s.z6, .string m.p0, .string m.p1, .string m.p2, .string m.p3, .slice Br m.rules.length dr, .slice Bc m.curs.length dc, .slice Bk m.comps.length dk] 29))
        have HBB := Aside0.mk (blk_new1 w (.cells #[.string m.tag, .int .i32 m.s.z0, .int .i32 m.s.z1, .int .i32 m.s.z2, .int .i32 m.s.z3, .int .i32 m.s.z4, .int .i32 m.s.z5, .int .i32 m.s.z6, .string m.p0, .string m.p1, .string m.p2, .string m.p3, .slice Br m.rules.length dr, .slice Bc m.curs.length dc, .slice Bk m.comps.length dk] 29) (.cells #[.string l.tag, .int .i32 l.s.z0, .int .i32 l.s.z1, .int .i32 l.s.z2, .int .i32 l.s.z3, .int .i32 l.s.z4, .int .i32 l.s.z5, .int .i32 l.s.z6, .string l.p0, .string l.p1, .string l.p2, .string l.p3, .slice Ar l.rules.length cr, .slice Ac l.curs.length cc, .slice Ak l.comps.length ck] 29))
        have HBW := Aside0.mk (((Below.refl w.heap.size w).alloc (Nat.le_refl _) (.cells #[.string l.tag, .int .i32 l.s.z0, .int .i32 l.s.z1, .int .i32 l.s.z2, .int .i32 l.s.z3, .int .i32 l.s.z4, .int .i32 l.s.z5, .int .i32 l.s.z6, .string l.p0, .string l.p1, .string l.p2, .string l.p3, .slice Ar l.rules.length cr, .slice Ac l.curs.length cc, .slice Ak l.comps.length ck] 29)).alloc (by simp) (.cells #[.string m.tag, .int .i32 m.s.z0, .int .i32 m.s.z1, .int .i32 m.s.z2, .int .i32 m.s.z3, .int .i32 m.s.z4, .int .i32 m.s.z5, .int .i32 m.s.z6, .string m.p0, .string m.p1, .string m.p2, .string m.p3, .slice Br m.rules.length dr, .slice Bc m.curs.length dc, .slice Bk m.comps.length dk] 29))
        obtain ⟨g, hg⟩ : ∃ g, w.heap.size = g := ⟨_, rfl⟩
        have HG := Aside0.mk hg
        rw [hg] at HBA HBB ⊢
        clear hg
        generalize (w.alloc _).alloc _ = w2 at HBA HBB HBW ⊢
        have HBL : Aside0 (Below (g + 2) w2 w2) := ⟨Below.refl _ _⟩
        go_loopw [5] (fun i Wx => ∃ k : Nat, k ≤ l.rules.length ∧ i = .int .i64 k ∧ Aside0 (l.rules.take k = m.rules.take k) ∧ Aside0 (Below (g + 2) w2 Wx)) (fun i _ => l.rules.length - (intOf i).toNat)
        case atStart => exact ⟨0, by omega, rfl, ⟨rfl⟩, HBL⟩
        case round =>
          clear HBL
          obtain ⟨k, hk, rfl, HE, HBL⟩ := hrel
          have ha := blk_cell (blk_below HBA.out HBL.out (by omega)) 12
          have hb := blk_cell (blk_below HBB.out HBL.out (by omega)) 12
          simp only [List.getElem?_toArray, List.getElem?_cons_zero, List.getElem?_cons_succ] at ha hb
          have hbw : Below w.heap.size w wr := by
            have h2 := HBL.out
            have h1 := HBW.out
            exact ⟨h2.os.trans h1.os, h2.tape.trans h1.tape, h2.output.trans h1.output, Nat.le_trans h1.size h2.size, fun j hj => (h2.block j (by have := HG.out; omega)).trans (h1.block j hj)⟩
          have HBR := Aside0.mk hbw
          have hlm : l.rules.length = m.rules.length := HN1.out
          by_cases hlt : k < l.rules.length
          · have hlt2 : k < m.rules.length := by omega
            have hq := fun w => eq_Rl l.rules[k] m.rules[k] w
            obtain ⟨b, off, rfl, hbl⟩ := C_plainA pos_Rl (Kd.C_below HR1.out hbw) (Nat.lt_of_le_of_lt (Nat.zero_le k) hlt)
            obtain ⟨b', off', rfl, hbl'⟩ := C_plainA pos_Rl (Kd.C_below HS1.out hbw) (Nat.lt_of_le_of_lt (Nat.zero_le k) hlt2)
            obtain ⟨ad, e, c1, c2⟩ := at_Rl (Kd.C_below HR1.out hbw) k hlt
            injection e with e
            subst e
            obtain ⟨ad, e, d1, d2⟩ := at_Rl (Kd.C_below HS1.out hbw) k hlt2
            injection e with e
            subst e
            rw [plain_add] at c1 c2 d1 d2
            rw [← Nat.add_assoc] at c2 d2
            obtain ⟨x, hx⟩ : ∃ x, l.rules[k] = x := ⟨_, rfl⟩
            obtain ⟨y, hy⟩ : ∃ y, m.rules[k] = y := ⟨_, rfl⟩
            rw [hx] at hq c1 c2
            rw [hy] at hq d1 d2
            by_cases hxy : x = y
            · rw [decide_eq_true hxy] at hq
              have HE2 := Aside0.mk (take_eq_succ hlt hlt2 HE.out (by rw [hx, hy]; exact hxy))
              clear hbw hx hy hxy HE hbl hbl'
              go_wp2_with fail
              go_region
              all_goals go_wp2
              all_goals go_roundw
              all_goals first
                | exact ⟨k + 1, by omega, by go_num, HE2, ⟨HBL.out.drew⟩⟩
                | (simp [intOf]; omega)
            · rw [decide_eq_false hxy] at hq
              have HE2 : Aside0 (l ≠ m) := ⟨fun e => take_ne hlt hlt2 (by rw [hx, hy]; exact hxy) (by rw [e])⟩
              clear hbw hx hy hxy HE hbl hbl'
              go_wp2_with fail
              go_region
              all_goals go_wp2
              all_goals go_ret
              all_goals exact ⟨by rw [decide_eq_false HE2.out]; rfl, HBR.out.drew⟩
          · obtain rfl : k = l.rules.length := by omega
            have HQ_rules : Aside0 (l.rules = m.rules) := ⟨by have h1 := HE.out; rw [List.take_length, hlm, List.take_length] at h1; exact h1⟩
            clear HE hbw
            go_wp2_with fail
            go_loopw [6] (fun i Wx => ∃ k : Nat, k ≤ l.curs.length ∧ i = .int .i64 k ∧ Aside0 (l.curs.take k = m.curs.take k) ∧ Aside0 (Below (g + 2) w2 Wx)) (fun i _ => l.curs.length - (intOf i).toNat)
            case atStart => exact ⟨0, by omega, rfl, ⟨rfl⟩, HBL⟩
            case round =>
              clear HBL
              obtain ⟨k, hk, rfl, HE, HBL⟩ := hrel
              have ha := blk_cell (blk_below HBA.out HBL.out (by omega)) 13
              have hb := blk_cell (blk_below HBB.out HBL.out (by omega)) 13
              simp only [List.getElem?_toArray, List.getElem?_cons_zero, List.getElem?_cons_succ] at ha hb
              have hbw : Below w.heap.size w wr := by
                have h2 := HBL.out
                have h1 := HBW.out
                exact ⟨h2.os.trans h1.os, h2.tape.trans h1.tape, h2.output.trans h1.output, Nat.le_trans h1.size h2.size, fun j hj => (h2.block j (by have := HG.out; omega)).trans (h1.block j hj)⟩
              have HBR := Aside0.mk hbw
              have hlm : l.curs.length = m.curs.length := HN2.out
              by_cases hlt : k < l.curs.length
              · have hlt2 : k < m.curs.length := by omega
                have hq := fun w => eq_Cu l.curs[k] m.curs[k] w
                obtain ⟨b, off, rfl, hbl⟩ := C_plainA pos_Cu (Kd.C_below HR2.out hbw) (Nat.lt_of_le_of_lt (Nat.zero_le k) hlt)
                obtain ⟨b', off', rfl, hbl'⟩ := C_plainA pos_Cu (Kd.C_below HS2.out hbw) (Nat.lt_of_le_of_lt (Nat.zero_le k) hlt2)
                obtain ⟨ad, e, c1, c2, c3⟩ := at_Cu (Kd.C_below HR2.out hbw) k hlt
                injection e with e
                subst e
                obtain ⟨ad, e, d1, d2, d3⟩ := at_Cu (Kd.C_below HS2.out hbw) k hlt2
                injection e with e
                subst e
                rw [plain_add] at c1 c2 c3 d1 d2 d3
                rw [← Nat.add_assoc] at c2 d2 c3 d3
                obtain ⟨x, hx⟩ : ∃ x, l.curs[k] = x := ⟨_, rfl⟩
                obtain ⟨y, hy⟩ : ∃ y, m.curs[k] = y := ⟨_, rfl⟩
                rw [hx] at hq c1 c2 c3
                rw [hy] at hq d1 d2 d3
                by_cases hxy : x = y
                · rw [decide_eq_true hxy] at hq
                  have HE2 := Aside0.mk (take_eq_succ hlt hlt2 HE.out (by rw [hx, hy]; exact hxy))
                  clear hbw hx hy hxy HE hbl hbl'
                  go_wp2_with fail
                  go_region
                  all_goals go_wp2
                  all_goals go_roundw
                  all_goals first
                    | exact ⟨k + 1, by omega, by go_num, HE2, ⟨HBL.out.drew⟩⟩
                    | (simp [intOf]; omega)
                · rw [decide_eq_false hxy] at hq
                  have HE2 : Aside0 (l ≠ m) := ⟨fun e => take_ne hlt hlt2 (by rw [hx, hy]; exact hxy) (by rw [e])⟩
                  clear hbw hx hy hxy HE hbl hbl'
                  go_wp2_with fail
                  go_region
                  all_goals go_wp2
                  all_goals go_ret
                  all_goals exact ⟨by rw [decide_eq_false HE2.out]; rfl, HBR.out.drew⟩
              · obtain rfl : k = l.curs.length := by omega
                have HQ_curs : Aside0 (l.curs = m.curs) := ⟨by have h1 := HE.out; rw [List.take_length, hlm, List.take_length] at h1; exact h1⟩
                clear HE hbw
                go_wp2_with fail
                go_loopw [7] (fun i Wx => ∃ k : Nat, k ≤ l.comps.length ∧ i = .int .i64 k ∧ Aside0 (l.comps.take k = m.comps.take k) ∧ Aside0 (Below (g + 2) w2 Wx)) (fun i _ => l.comps.length - (intOf i).toNat)
                case atStart => exact ⟨0, by omega, rfl, ⟨rfl⟩, HBL⟩
                case round =>
                  clear HBL
                  obtain ⟨k, hk, rfl, HE, HBL⟩ := hrel
                  have ha := blk_cell (blk_below HBA.out HBL.out (by omega)) 14
                  have hb := blk_cell (blk_below HBB.out HBL.out (by omega)) 14
                  simp only [List.getElem?_toArray, List.getElem?_cons_zero, List.getElem?_cons_succ] at ha hb
                  have hbw : Below w.heap.size w wr := by
                    have h2 := HBL.out
                    have h1 := HBW.out
                    exact ⟨h2.os.trans h1.os, h2.tape.trans h1.tape, h2.output.trans h1.output, Nat.le_trans h1.size h2.size, fun j hj => (h2.block j (by have := HG.out; omega)).trans (h1.block j hj)⟩
                  have HBR := Aside0.mk hbw
                  have hlm : l.comps.length = m.comps.length := HN3.out
                  by_cases hlt : k < l.comps.length
                  · have hlt2 : k < m.comps.length := by omega
                    have hq := fun w => eq_Cm l.comps[k] m.comps[k] w
                    obtain ⟨b, off, rfl, hbl⟩ := C_plainA pos_Cm (Kd.C_below HR3.out hbw) (Nat.lt_of_le_of_lt (Nat.zero_le k) hlt)
                    obtain ⟨b', off', rfl, hbl'⟩ := C_plainA pos_Cm (Kd.C_below HS3.out hbw) (Nat.lt_of_le_of_lt (Nat.zero_le k) hlt2)
                    obtain ⟨ad, e, c1, c2, c3⟩ := at_Cm (Kd.C_below HR3.out hbw) k hlt
                    injection e with e
                    subst e
                    obtain ⟨ad, e, d1, d2, d3⟩ := at_Cm (Kd.C_below HS3.out hbw) k hlt2
                    injection e with e
                    subst e
                    rw [plain_add] at c1 c2 c3 d1 d2 d3
                    rw [← Nat.add_assoc] at c2 d2 c3 d3
                    obtain ⟨x, hx⟩ : ∃ x, l.comps[k] = x := ⟨_, rfl⟩
                    obtain ⟨y, hy⟩ : ∃ y, m.comps[k] = y := ⟨_, rfl⟩
                    rw [hx] at hq c1 c2 c3
                    rw [hy] at hq d1 d2 d3
                    by_cases hxy : x = y
                    · rw [decide_eq_true hxy] at hq
                      have HE2 := Aside0.mk (take_eq_succ hlt hlt2 HE.out (by rw [hx, hy]; exact hxy))
                      clear hbw hx hy hxy HE hbl hbl'
                      go_wp2_with fail
                      go_region
                      all_goals go_wp2
                      all_goals go_roundw
                      all_goals first
                        | exact ⟨k + 1, by omega, by go_num, HE2, ⟨HBL.out.drew⟩⟩
                        | (simp [intOf]; omega)
                    · rw [decide_eq_false hxy] at hq
                      have HE2 : Aside0 (l ≠ m) := ⟨fun e => take_ne hlt hlt2 (by rw [hx, hy]; exact hxy) (by rw [e])⟩
                      clear hbw hx hy hxy HE hbl hbl'
                      go_wp2_with fail
                      go_region
                      all_goals go_wp2
                      all_goals go_ret
                      all_goals exact ⟨by rw [decide_eq_false HE2.out]; rfl, HBR.out.drew⟩
                  · obtain rfl : k = l.comps.length := by omega
                    have HQ_comps : Aside0 (l.comps = m.comps) := ⟨by have h1 := HE.out; rw [List.take_length, hlm, List.take_length] at h1; exact h1⟩
                    clear HE hbw
                    have HQ : Aside0 (l = m) := ⟨same_eq l m HTB.out HSB.out HPB.out HQ_rules.out HQ_curs.out HQ_comps.out⟩
                    go_wp2
                    go_ret
                    exact ⟨by rw [decide_eq_true HQ.out]; rfl, HBR.out⟩
end Go.Proofs.Ytfbmgjanplnabaa
/- exergueref15.Small: only what is needed of it: few of all. -/
namespace Go.Proofs.Ytfbmgjanplnabaa
open Go.RowKit Go.Proofs.YtfbmgjanplnabaaW.PrintWords Go.Proofs.YtfbmgjanplnabaaW.PrintLast Go.Proofs.YtfbmgjanplnabaaW.PrintMore
set_option linter.unusedVariables false
set_option linter.unusedSimpArgs false

def Tiny (l : Loc) : Prop := l.rules.length ≤ 8 ∧ l.curs.length ≤ 105 ∧ l.comps.length ≤ 95
def smallPost (l : Loc) (w : World) (e : Ending) (w' : World) : Prop := ∃ b, e = .returned (.bool b) ∧ (b = true → Tiny l) ∧ Below w.heap.size w w'
theorem below_via {w w2 wr : World} {g : Nat} (hg : w.heap.size = g) (h1 : Below w.heap.size w w2) (h2 : Below (g + 1) w2 wr) : Below w.heap.size w wr :=
  ⟨h2.os.trans h1.os, h2.tape.trans h1.tape, h2.output.trans h1.output, Nat.le_trans h1.size h2.size, fun j hj => (h2.block j (by omega)).trans (h1.block j hj)⟩
set_option maxHeartbeats 3200000 in
set_option maxRecDepth 100000 in
theorem small_calls (l : Loc) (L : List Value) (w : World) (hL : RdL w l L) :
    Calls Try.prog 10 #[.agg L.toArray] w (smallPost l w) := by
  obtain ⟨Ar, cr, Ac, cc, Ak, ck, rfl, h1, h2, h3, h4, h5, h6⟩ := hL
  have HR1 := Aside0.mk h4
  have HR2 := Aside0.mk h5
  have HR3 := Aside0.mk h6
  have hln1 : l.rules.length ≤ 9223372036854775807 := h4.2.1
  have hln2 : l.curs.length ≤ 9223372036854775807 := h5.2.1
  have hln3 : l.comps.length ≤ 9223372036854775807 := h6.2.1
  clear h1 h2 h3 h4 h5 h6
  unfold lcells
  go_enter Try.func10, Try.ntmps10
  go_wp2_with fail
  have HBA := Aside0.mk (blk_new w (.cells #[.string l.tag, .int .i32 l.s.z0, .int .i32 l.s.z1, .int .i32 l.s.z2, .int .i32 l.s.z3, .int .i32 l.s.z4, .int .i32 l.s.z5, .int .i32 l.s.z6, .string l.p0, .string l.p1, .string l.p2, .string l.p3, .slice Ar l.rules.length cr, .slice Ac l.curs.length cc, .slice Ak l.comps.length ck] 29))
  have HBW := Aside0.mk ((Below.refl w.heap.size w).alloc (Nat.le_refl _) (.cells #[.string l.tag, .int .i32 l.s.z0, .int .i32 l.s.z1, .int .i32 l.s.z2, .int .i32 l.s.z3, .int .i32 l.s.z4, .int .i32 l.s.z5, .int .i32 l.s.z6, .string l.p0, .string l.p1, .string l.p2, .string l.p3, .slice Ar l.rules.length cr, .slice Ac l.curs.length cc, .slice Ak l.comps.length ck] 29))
  obtain ⟨g, hg⟩ : ∃ g, w.heap.size = g := ⟨_, rfl⟩
  have HG := Aside0.mk hg
  rw [hg] at HBA ⊢
  clear hg
  generalize w.alloc _ = w2 at HBA HBW ⊢
  have c8 := (blk_cell HBA.out 8)
  have c9 := (blk_cell HBA.out 9)
  have c10 := (blk_cell HBA.out 10)
  have c11 := (blk_cell HBA.out 11)
  have c12 := (blk_cell HBA.out 12)
  have c13 := (blk_cell HBA.out 13)
  have c14 := (blk_cell HBA.out 14)
  simp only [List.getElem?_toArray, List.getElem?_cons_zero, List.getElem?_cons_succ] at c8 c9 c10 c11 c12 c13 c14
  go_loop [3, 4] (fun n i => ∃ (m : Int) (k : Nat), k ≤ 4 ∧ n = .int .i64 m ∧ i = .int .i64 k) (fun _ i => 4 - (intOf i).toNat)
  case atStart => exact ⟨_, 0, by omega, rfl, rfl⟩
  case round =>
    obtain ⟨m, k, hk, rfl, rfl⟩ := hrel
    by_cases hlt : k < 4
    · have h4 : k = 0 ∨ k = 1 ∨ k = 2 ∨ k = 3 := by omega
      rcases h4 with rfl | rfl | rfl | rfl
      all_goals go_wp2
      all_goals go_round
      all_goals first
        | exact ⟨_, 1, by omega, rfl, rfl⟩
        | exact ⟨_, 2, by omega, rfl, rfl⟩
        | exact ⟨_, 3, by omega, rfl, rfl⟩
        | exact ⟨_, 4, by omega, rfl, rfl⟩
        | (simp [intOf]; done)
    · obtain rfl : k = 4 := by omega
      clear c8 c9 c10 c11
      by_cases t1 : l.rules.length ≤ 8
      case neg =>
        go_wp2
        go_ret
        exact ⟨false, rfl, by simp, HBW.out⟩
      by_cases t2 : l.curs.length ≤ 105
      case neg =>
        go_wp2
        go_ret
        exact ⟨false, rfl, by simp, HBW.out⟩
      by_cases t3 : l.comps.length ≤ 95
      case neg =>
        go_wp2
        go_ret
        exact ⟨false, rfl, by simp, HBW.out⟩
      go_wp2_with fail
      have HT : Aside0 (Tiny l) := ⟨⟨t1, t2, t3⟩⟩
      clear hk hlt
      go_loop [3, 5] (fun n i => ∃ (m : Int) (k : Nat), k ≤ l.rules.length ∧ n = .int .i64 m ∧ i = .int .i64 k) (fun _ i => l.rules.length - (intOf i).toNat)
      case atStart => exact ⟨_, 0, by omega, rfl, rfl⟩
      case round =>
        obtain ⟨m, k, hk, rfl, rfl⟩ := hrel
        by_cases hlt : k < l.rules.length
        · obtain ⟨b, off, rfl, hbl⟩ := C_plainA pos_Rl (Kd.C_below HR1.out HBW.out) (Nat.lt_of_le_of_lt (Nat.zero_le k) hlt)
          obtain ⟨ad, e, d1, d2⟩ := at_Rl (Kd.C_below HR1.out HBW.out) k hlt
          injection e with e
          subst e
          rw [plain_add] at d1 d2
          rw [← Nat.add_assoc] at d2
          clear d1 hbl
          go_wp2
          go_round
          case rel => exact ⟨_, k + 1, by omega, rfl, by go_num⟩
          case measure => simp [intOf]; omega
        · go_wp2_with fail
          clear hk hlt
          have HBL : Aside0 (Below (g + 1) w2 w2) := ⟨Below.refl _ _⟩
          clear c12 c13 c14
          go_loopw [3, 6] (fun n i Wx => ∃ (m : Int) (k : Nat), k ≤ l.curs.length ∧ n = .int .i64 m ∧ i = .int .i64 k ∧ Aside0 (Below (g + 1) w2 Wx)) (fun _ i _ => l.curs.length - (intOf i).toNat)
          case atStart => exact ⟨_, 0, by omega, rfl, rfl, HBL⟩
          case round =>
            clear HBL
            obtain ⟨m, k, hk, rfl, rfl, HBL⟩ := hrel
            have c13 := blk_cell (blk_below HBA.out HBL.out (by omega)) 13
            simp only [List.getElem?_toArray, List.getElem?_cons_zero, List.getElem?_cons_succ] at c13
            by_cases hlt : k < l.curs.length
            · have hbw := below_via HG.out HBW.out HBL.out
              obtain ⟨b, off, rfl, hbl⟩ := C_plainA pos_Cu (Kd.C_below HR2.out hbw) (Nat.lt_of_le_of_lt (Nat.zero_le k) hlt)
              obtain ⟨ad, e, d1, d2, d3⟩ := at_Cu (Kd.C_below HR2.out hbw) k hlt
              injection e with e
              subst e
              rw [plain_add] at d1 d2
              rw [← Nat.add_assoc] at d2
              clear d3 hbl hbw
              go_wp2_with fail
              go_region
              all_goals go_wp2
              all_goals go_roundw
              all_goals first
                | exact ⟨_, k + 1, by omega, rfl, by go_num, ⟨HBL.out.drew⟩⟩
                | (simp [intOf]; omega)
            · go_wp2_with fail
              clear hk hlt
              clear c13
              have HBR := Aside0.mk (below_via HG.out HBW.out HBL.out)
              have c14 := blk_cell (blk_below HBA.out HBL.out (by omega)) 14
              simp only [List.getElem?_toArray, List.getElem?_cons_zero, List.getElem?_cons_succ] at c14
              go_loop [3, 7] (fun n i => ∃ (m : Int) (k : Nat), k ≤ l.comps.length ∧ n = .int .i64 m ∧ i = .int .i64 k) (fun _ i => l.comps.length - (intOf i).toNat)
              case atStart => exact ⟨_, 0, by omega, rfl, rfl⟩
              case round =>
                obtain ⟨m, k, hk, rfl, rfl⟩ := hrel
                by_cases hlt : k < l.comps.length
                · obtain ⟨b, off, rfl, hbl⟩ := C_plainA pos_Cm (Kd.C_below HR3.out HBR.out) (Nat.lt_of_le_of_lt (Nat.zero_le k) hlt)
                  obtain ⟨ad, e, d1, d2, d3⟩ := at_Cm (Kd.C_below HR3.out HBR.out) k hlt
                  injection e with e
                  subst e
                  rw [plain_add] at d1 d2 d3
                  rw [← Nat.add_assoc] at d3
                  clear d1 d2 hbl
                  go_wp2
                  go_round
                  case rel => exact ⟨_, k + 1, by omega, rfl, by go_num⟩
                  case measure => simp [intOf]; omega
                · go_wp2
                  go_ret
                  exact ⟨_, rfl, fun _ => HT.out, HBR.out⟩
end Go.Proofs.Ytfbmgjanplnabaa

/- BundFinds: for every input it returns true, and the input reads as it did. No condition. -/
import Derived.Test.YtfbmgjanplnabaaBM
import Derived.Test.YtfbmgjanplnabaaBO
import Derived.Deep.MidRow
import Derived.Test.YtfbmgjanplnabaaRows
import Derived.WalkKit
import Derived.ProofKit
import Derived.OpenShut
import Derived.ShutString
import Derived.ChangeOld
import Derived.Below
import Derived.SizedLaws
/- BundFinds: the walk. -/
namespace Go.Proofs.Ytfbmgjanplnabaa
open Go.RowKit Go.Proofs.YtfbmgjanplnabaaW.PrintWords Go.Proofs.YtfbmgjanplnabaaW.PrintLast Go.Proofs.YtfbmgjanplnabaaW.PrintMore
set_option linter.unusedVariables false
set_option linter.unusedSimpArgs false
attribute [local go_sem ↓] Ld_eq St_eq

/-- A bundle that is cut off is none. -/
theorem decode_cut {l : Loc} (hok : encOk l = true) (hz : l.s.ok) (k : Nat) (hk : k < (enc l).length) : ∃ c, decode ((enc l).take k) = .inr c := by
  have hby : Bytes ((enc l).take k) := fun x hx => bytes_enc hok x (List.mem_of_mem_take hx)
  cases hd : decode ((enc l).take k) with
  | inr c => exact ⟨c, rfl⟩
  | inl m =>
    exfalso
    obtain ⟨hm, he, hzm⟩ := decode_inl hby hd
    have hlm := enc_length m
    have hll := enc_length l
    have hlen : (enc m).length = k := by rw [he, List.length_take]; omega
    have hpre : body m = (body l).take (k - 4) := by
      have h1 : (enc m).take (k - 4) = body m := by unfold enc; rw [List.take_append_of_le_length (by omega), List.take_of_length_le (by omega)]
      have h2 : (enc l).take (k - 4) = (body l).take (k - 4) := by unfold enc; rw [List.take_append_of_le_length (by omega)]
      rw [← h1, he, List.take_take, ← h2]
      congr 1
      omega
    have hsp : body l = body m ++ (body l).drop (k - 4) := by rw [hpre, List.take_append_drop]
    have := body_prefix hok hm hz hzm _ hsp
    subst this
    omega
/-- Bytes, changed by xor. -/
def xr (a b : Int) : Int := bits .xor .u8 a b
theorem xr_range {a b : Int} (ha : 0 ≤ a ∧ a < 256) (hb : 0 ≤ b ∧ b < 256) : 0 ≤ xr a b ∧ xr a b < 256 := by
  unfold xr
  rw [u8_xor a b ha.1 ha.2 hb.1 hb.2]
  have := Nat.xor_lt_two_pow (n := 8) (x := a.toNat) (y := b.toNat) (by omega) (by omega)
  omega
theorem xr_same {a b : Int} (ha : 0 ≤ a ∧ a < 256) (hb : 0 ≤ b ∧ b < 256) (h : a = xr a b) : b = 0 := by
  unfold xr at h
  rw [u8_xor a b ha.1 ha.2 hb.1 hb.2] at h
  have h1 : a.toNat = a.toNat ^^^ b.toNat := by omega
  have h2 := congrArg (a.toNat ^^^ ·) h1
  simp only [← Nat.xor_assoc, Nat.xor_self, Nat.zero_xor] at h2
  omega
/-- A block of the call's own that holds bytes. -/
def Holds (W : World) (g : Nat) (zs : List Int) : Prop := ∃ cells, W.heap[g]? = some (.cells cells 5 (0, 0)) ∧ ∀ j (h : j < zs.length), cells[j]? = some (.int .u8 zs[j])
theorem Holds.cell {W : World} {g : Nat} {zs : List Int} (h : Holds W g zs) (j : Nat) (hj : j < zs.length) : W.cell? ⟨g, j, none⟩ = some (.int .u8 zs[j]) := by
  obtain ⟨cells, h1, h2⟩ := h
  rw [blk_cell h1]
  exact h2 j hj
theorem Holds.free {W : World} {g : Nat} {zs : List Int} (h : Holds W g zs) (j : Nat) : W.frozen? ⟨g, j, none⟩ = false := by
  obtain ⟨cells, h1, h2⟩ := h
  exact blk_free h1 j
theorem Holds.set {W : World} {g : Nat} {zs : List Int} (h : Holds W g zs) (j : Nat) (v : Int) : Holds (W.setCell ⟨g, j, none⟩ (.int .u8 v)) g (zs.set j v) := by
  obtain ⟨cells, h1, h2⟩ := h
  refine ⟨_, blk_set h1 j _, fun i hi => ?_⟩
  rw [List.length_set] at hi
  have hc := h2 i hi
  rw [Array.getElem?_setIfInBounds]
  by_cases e : j = i
  · subst e
    have : j < cells.size := (Array.getElem?_eq_some_iff.1 hc).1
    simp [this]
  · rw [if_neg e, hc, List.getElem_set_ne e]
theorem Holds.reads {W : World} {g : Nat} {zs : List Int} (h : Holds W g zs) (hm : zs.length ≤ 9223372036854775807) : RdB W (some ⟨g, 0, none⟩) zs := by
  refine ⟨rfl, hm, fun _ => ⟨_, rfl, fun j p hj => ?_⟩⟩
  obtain ⟨hlt, he⟩ := List.getElem?_eq_some_iff.1 hj
  refine ⟨[.int .u8 p], rfl, rfl, fun i u hi => ?_⟩
  have hi0 : i = 0 := by
    have := (List.getElem?_eq_some_iff.1 hi).1
    simp at this
    omega
  subst hi0
  have hu : u = .int .u8 p := by simpa using hi.symm
  rw [hu, plain_add, ← he]
  have := h.cell j hlt
  simpa [Kd.int, Kd.scalar] using this
theorem OwnB.holds {W : World} {base : Nat} {v : Value} {zs : List Int} (h : OwnB W base v zs) (hn : 0 < zs.length) : ∃ g c, v = .slice (some ⟨g, 0, none⟩) zs.length c ∧ base ≤ g ∧ zs.length ≤ c ∧ Holds W g zs := by
  obtain ⟨g, cap, rfl, hbg, hlt, cells, hc⟩ := Kd.R_form h hn
  obtain ⟨A, c, e, hcc, hr⟩ := Kd.R_reads h
  injection e with e1 e2 e3
  subst e1 e3
  refine ⟨g, cap, rfl, hbg, hcc, cells, hc, fun j hj => ?_⟩
  obtain ⟨b, off, e, hcell⟩ := C_plain hr hn
  injection e with e
  injection e with e1 e2
  subst e1 e2
  have h1 := hcell j hj
  rw [blk_cell hc, Nat.zero_add] at h1
  rw [h1]
  simp [rd, List.getD_eq_getElem?_getD, List.getElem?_eq_getElem hj]
theorem split_at (bs : List Int) (n : Nat) (h : n + 4 ≤ bs.length) : ∃ p a b c d t, bs = p ++ ([a, b, c, d] ++ t) ∧ p.length = n := by
  have h1 : ((bs.drop n).take 4).length = 4 := by rw [List.length_take, List.length_drop]; omega
  match hd : (bs.drop n).take 4, h1 with
  | [a, b, c, d], _ => exact ⟨bs.take n, a, b, c, d, (bs.drop n).drop 4, by rw [← hd, List.take_append_drop, List.take_append_drop], by rw [List.length_take]; omega⟩
/-- BundFinds' cells behind the locale's. -/
def ftail (n b0 b1 b2 b3 cut : Int) : List Value := [.int .i64 n, .int .u8 b0, .int .u8 b1, .int .u8 b2, .int .u8 b3, .int .i64 cut]
/-- The four bytes, those ahead of k changed. -/
def mixk (x0 x1 x2 x3 y0 y1 y2 y3 : Int) : Nat → List Int
  | 0 => [x0, x1, x2, x3]
  | 1 => [y0, x1, x2, x3]
  | 2 => [y0, y1, x2, x3]
  | 3 => [y0, y1, y2, x3]
  | _ => [y0, y1, y2, y3]
theorem mixk_len (x0 x1 x2 x3 y0 y1 y2 y3 : Int) : ∀ k, (mixk x0 x1 x2 x3 y0 y1 y2 y3 k).length = 4
  | 0 => rfl
  | 1 => rfl
  | 2 => rfl
  | 3 => rfl
  | k + 4 => rfl
theorem mid_get (p m t : List Int) (j : Nat) (h : j < m.length) (h2 : p.length + j < (p ++ (m ++ t)).length) : (p ++ (m ++ t))[p.length + j] = m[j] := by
  rw [List.getElem_append_right (by omega)]
  simp only [Nat.add_sub_cancel_left]
  rw [List.getElem_append_left h]
theorem mid_set (p m t : List Int) (j : Nat) (v : Int) (h : j < m.length) : (p ++ (m ++ t)).set (p.length + j) v = p ++ (m.set j v ++ t) := by
  rw [List.set_append_right _ _ (by omega)]
  simp only [Nat.add_sub_cancel_left]
  rw [List.set_append_left _ _ h]
theorem mix_cell {W : World} {gx P : Nat} {p m t : List Int} (h : Holds W gx (p ++ (m ++ t))) (hp : p.length = P) (j : Nat) (v : Int) (hv : m[j]? = some v) : W.cell? ⟨gx, P + j, none⟩ = some (.int .u8 v) := by
  obtain ⟨hj, e⟩ := List.getElem?_eq_some_iff.1 hv
  have h2 : p.length + j < (p ++ (m ++ t)).length := by simp only [List.length_append]; omega
  have h1 := h.cell (p.length + j) h2
  rw [mid_get _ _ _ _ hj h2, hp, e] at h1
  exact h1
theorem mix_set {W : World} {gx P : Nat} {p m t : List Int} (h : Holds W gx (p ++ (m ++ t))) (hp : p.length = P) (j : Nat) (hj : j < m.length) (v : Int) : Holds (W.setCell ⟨gx, P + j, none⟩ (.int .u8 v)) gx (p ++ (m.set j v ++ t)) := by
  have h1 := h.set (p.length + j) v
  rw [mid_set _ _ _ _ _ hj, hp] at h1
  exact h1
theorem load29_mid {w : World} {g o : Nat} {L : List Value} (hL : L.length = 15) (h : w.rangeAt g o L) : (Ld (.pointer (some ⟨g, o, none⟩))).run Try.prog w = .ok (.agg L.toArray) w :=
  run_loadAt_mid (P := Try.prog) w g o 29 L _ h Try.underlying29 rfl (by rw [size29, hL])
set_option maxHeartbeats 3200000 in
set_option maxRecDepth 100000 in
theorem finds_calls (l : Loc) (L : List Value) (n b0 b1 b2 b3 cut : Int) (w : World) (hL : RdL w l L) (zl : l.s.ok) (hn : -9223372036854775808 ≤ n ∧ n ≤ 9223372036854775807) (hcut : -9223372036854775808 ≤ cut ∧ cut ≤ 9223372036854775807)
    (hb0 : 0 ≤ b0 ∧ b0 < 256) (hb1 : 0 ≤ b1 ∧ b1 < 256) (hb2 : 0 ≤ b2 ∧ b2 < 256) (hb3 : 0 ≤ b3 ∧ b3 < 256) :
    Calls Try.prog 6 #[.agg (L ++ ftail n b0 b1 b2 b3 cut).toArray] w (yes w) := by
  obtain ⟨V, hV⟩ : ∃ V : List Value, L ++ ftail n b0 b1 b2 b3 cut = V := ⟨_, rfl⟩
  have hlen := hL.length
  have hg : ∀ j, V[15 + j]? = (ftail n b0 b1 b2 b3 cut)[j]? := fun j => by rw [← hV, List.getElem?_append_right (by omega), hlen, Nat.add_sub_cancel_left]
  have hr : ∀ j v, L[j]? = some v → V[j]? = some v := fun j v h => by rw [← hV]; exact (List.getElem?_append_left (List.getElem?_eq_some_iff.1 h).1).trans h
  have HV : Aside0 (∀ W : World, W.heap[w.heap.size]? = some (.cells V.toArray 52 (0, 0)) → W.rangeAt w.heap.size 0 L) := ⟨fun W h j v hj => by rw [blk_cell h, Nat.zero_add, List.getElem?_toArray]; exact hr j v hj⟩
  have HG : Aside0 (∀ (W : World) (j : Nat), W.heap[w.heap.size]? = some (.cells V.toArray 52 (0, 0)) → W.cell? ⟨w.heap.size, 15 + j, none⟩ = (ftail n b0 b1 b2 b3 cut)[j]?) := ⟨fun W j h => by rw [blk_cell h, List.getElem?_toArray]; exact hg j⟩
  rw [hV]
  have HL := Aside0.mk hL
  have HNL := Aside0.mk hlen
  have HZL := Aside0.mk zl
  have HY0 := Aside0.mk hb0
  have HY1 := Aside0.mk hb1
  have HY2 := Aside0.mk hb2
  have HY3 := Aside0.mk hb3
  obtain ⟨hn1, hn2⟩ := hn
  obtain ⟨hc1, hc2⟩ := hcut
  have hbw := (Below.refl w.heap.size w).alloc (Nat.le_refl _) (.cells V.toArray 52)
  have hk1 := blk_new w (.cells V.toArray 52)
  obtain ⟨w0, hw0⟩ : ∃ w0, w.alloc (.cells V.toArray 52) = w0 := ⟨_, rfl⟩
  rw [hw0] at hbw hk1
  have hsz : w0.heap.size = w.heap.size + 1 := by rw [← hw0]; exact size_alloc _ _
  have hld := load29_mid hlen (HV.out w0 hk1)
  have hst : (St (.pointer (some ⟨w0.heap.size, 0, none⟩)) (.agg L.toArray)).run Try.prog (w0.alloc (.cells ZC.toArray 29)) = .ok () (w0.alloc (.cells L.toArray 29)) := store29 rfl hlen hL.one
  obtain ⟨w1, hw1⟩ : ∃ w1, w0.alloc (.cells L.toArray 29) = w1 := ⟨_, rfl⟩
  have hbw1 := hbw.alloc hbw.size (.cells L.toArray 29)
  have hk2 := blk_new w0 (.cells L.toArray 29)
  have hk1' := blk_alloc hk1 (.cells L.toArray 29)
  have hsz1 := size_alloc w0 (.cells L.toArray 29)
  rw [hw1] at hst hbw1 hk2 hk1' hsz1
  have c15 := HG.out w1 0 hk1'
  have c16 := HG.out w1 1 hk1'
  have c17 := HG.out w1 2 hk1'
  have c18 := HG.out w1 3 hk1'
  have c19 := HG.out w1 4 hk1'
  have c20 := HG.out w1 5 hk1'
  simp only [ftail, List.getElem?_cons_zero, List.getElem?_cons_succ, Nat.reduceAdd] at c15 c16 c17 c18 c19 c20
  have hbw2 := hbw1.alloc hbw1.size (.cells #[.int .u8 b0, .int .u8 b1, .int .u8 b2, .int .u8 b3] 50)
  have hk3 := blk_new w1 (.cells #[.int .u8 b0, .int .u8 b1, .int .u8 b2, .int .u8 b3] 50)
  have hk2' := blk_alloc hk2 (.cells #[.int .u8 b0, .int .u8 b1, .int .u8 b2, .int .u8 b3] 50)
  have d20 := HG.out _ 5 (blk_alloc hk1' (.cells #[.int .u8 b0, .int .u8 b1, .int .u8 b2, .int .u8 b3] 50))
  obtain ⟨w2, hw2⟩ : ∃ w2, w1.alloc (.cells #[.int .u8 b0, .int .u8 b1, .int .u8 b2, .int .u8 b3] 50) = w2 := ⟨_, rfl⟩
  rw [hw2] at hbw2 hk3 hk2' d20
  simp only [ftail, List.getElem?_cons_zero, List.getElem?_cons_succ, Nat.reduceAdd] at d20
  obtain ⟨g1, hg1⟩ : ∃ g1, w0.heap.size = g1 := ⟨_, rfl⟩
  obtain ⟨g2, hg2⟩ : ∃ g2, w1.heap.size = g2 := ⟨_, rfl⟩
  have HLD : Aside0 (∀ W, Below w2.heap.size w2 W → (Ld (.pointer (some ⟨g1, 0, none⟩))).run Try.prog W = .ok (.agg L.toArray) W) := ⟨fun W h => load29 hlen (blk_below (hg1 ▸ hk2') h (blk_lt (hg1 ▸ hk2')))⟩
  have HAR : Aside0 (∀ W, Below w2.heap.size w2 W → W.heap[g2]? = some (.cells #[.int .u8 b0, .int .u8 b1, .int .u8 b2, .int .u8 b3] 50 (0, 0))) := ⟨fun W h => blk_below (hg2 ▸ hk3) h (blk_lt (hg2 ▸ hk3))⟩
  have HLR : Aside0 (∀ W, Below w2.heap.size w2 W → RdL W l L) := ⟨fun W h => (hL.below hbw2).below h⟩
  have HYES : Aside0 (∀ W, Below w2.heap.size w2 W → Below w.heap.size w W) := ⟨fun W h => below_then hbw2 hbw2.size h⟩
  have HG1 := Aside0.mk hg1
  have HG2 := Aside0.mk hg2
  clear hV hg hr hL hlen zl hb0 hb1 hb2 hb3 hk1 hk2 hk1' hbw hbw1 hsz1 HG HV hw1 hsz hbw2 hk3 hk2' hg1 hg2
  go_enter Try.func6, Try.ntmps6
  go_wp2_with fail
  rw [HG1.out, HG2.out]
  clear c15 c16 c17 c18 c19 c20 d20 hw2 hw0 hld hst HG1 HG2
  refine (shown_calls _).mono ?_
  rintro e w3 ⟨rfl, hb⟩
  have HB3 := Aside0.mk hb
  have hl3 := HLD.out _ hb
  clear hb
  go_wp2_with fail
  refine (small_calls l L _ (HLR.out _ HB3.out)).mono ?_
  rintro e w4 ⟨q, rfl, ht1, hb⟩
  have HT1 := Aside0.mk ht1
  have HB4 := Aside0.mk (below_then HB3.out HB3.out.size hb)
  have HW4 := Aside0.mk (HYES.out _ HB4.out)
  clear hb ht1 hl3 HB3
  cases q with
  | false =>
    go_wp2
    go_ret
    exact ⟨rfl, HW4.out⟩
  | true =>
  have hl4 := HLD.out _ HB4.out
  have FL := Aside0.mk (HT1.out (by first | rfl | trivial)).few
  clear HT1 HW4
  go_wp2_with fail
  cases hol : encOk l with
  | false =>
    refine (encode_no (HLR.out _ HB4.out) FL.out HZL.out hol).mono ?_
    rintro e w5 ⟨rfl, hb⟩
    have HW5 := Aside0.mk (HYES.out _ (below_then HB4.out HB4.out.size hb))
    clear hb hl4 hol HB4
    go_wp2
    go_ret
    exact ⟨rfl, HW5.out⟩
  | true =>
  refine (encode_yes (HLR.out _ HB4.out) FL.out HZL.out hol).mono ?_
  rintro e w5 ⟨Ay, cy, rfl, hrd, hcc, hb⟩
  have HB5 := Aside0.mk (below_then HB4.out HB4.out.size hb)
  have hlo := body_long hol
  have hhi := body_short FL.out hol
  have hlen := enc_length l
  have HDC := Aside0.mk (decode_cut hol HZL.out)
  have HENC : Aside0 (∀ (p t : List Int) (a b c d a' b' c' d' : Int), enc l = p ++ ([a, b, c, d] ++ t) → Bytes [a', b', c', d'] → ¬ (a = a' ∧ b = b' ∧ c = c' ∧ d = d') → decode (p ++ ([a', b', c', d'] ++ t)) = .inr 6) := ⟨fun p t a b c d a' b' c' d' e hby hne => decode_changed (body l) (e.symm.trans rfl) (e ▸ bytes_enc hol) hby hne⟩
  have HBY := Aside0.mk (bytes_enc hol)
  obtain ⟨bs, hbs⟩ : ∃ bs, enc l = bs := ⟨_, rfl⟩
  rw [hbs] at hrd hcc hlen HDC HENC HBY ⊢
  have hn60 : 60 ≤ bs.length := by omega
  have hn3 : bs.length ≤ 3000060 := by omega
  have HRD := Aside0.mk hrd
  have HCC := Aside0.mk hcc
  have har := HAR.out _ HB5.out
  have a0 := blk_cell har 0
  have a1 := blk_cell har 1
  have a2 := blk_cell har 2
  have a3 := blk_cell har 3
  simp only [List.getElem?_toArray, List.getElem?_cons_zero, List.getElem?_cons_succ] at a0 a1 a2 a3
  have HW5 := Aside0.mk (HYES.out _ HB5.out)
  have hqq := eq_arr50 b0 b1 b2 b3 0 0 0 0 w5
  clear hb hl4 hol HB4 hrd hcc hlo hhi hlen hbs har
  by_cases hneg : n < 0
  · clear hqq
    go_wp2
    go_ret
    exact ⟨rfl, HW5.out⟩
  by_cases hfar : (bs.length : Int) - 4 < n
  · clear hqq
    go_wp2
    go_ret
    exact ⟨rfl, HW5.out⟩
  cases hby : (b0 == 0 && b1 == 0 && b2 == 0 && b3 == 0) with
  | true =>
    rw [hby] at hqq
    clear hby
    go_wp2
    go_ret
    exact ⟨rfl, HW5.out⟩
  | false =>
  rw [hby] at hqq
  have HNE : Aside0 (¬ (b0 = 0 ∧ b1 = 0 ∧ b2 = 0 ∧ b3 = 0)) := ⟨fun ⟨e0, e1, e2, e3⟩ => by subst e0 e1 e2 e3; simp at hby⟩
  clear hby HW5
  go_wp2_with ((with_reducible refine gate_builtin (b := .append) (xs := #[.tmp 58, .tmp 59]) rfl ?_); at_builtin; refine appB (w0 := w5) w5.heap.size rfl _ _ rfl _ [] bs Ay cy rfl rfl (own_row _ _ _ _ (Nat.le_refl _)) (Kd.C_alloc HRD.out _) ((Below.refl _ _).alloc (Nat.le_refl _) _) (by simp) (by simp; omega) ?_; intro v1 w6 ho hb hg hat; obtain ⟨gx, cx, hv, hgx, hcx, hhx⟩ := OwnB.holds (zs := bs) ho (by omega); subst hv; have HO := Aside0.mk hhx; have HBX := Aside0.mk hb; clear ho hb hg hat hhx hqq)
  obtain ⟨P, hP⟩ := Int.eq_ofNat_of_zero_le hneg
  obtain ⟨p, x0, x1, x2, x3, t, hbs, hpl⟩ := split_at bs P (by omega)
  have HSP := Aside0.mk hbs
  have HPL := Aside0.mk hpl
  have HX0 : Aside0 (Holds w6 gx (p ++ (mixk x0 x1 x2 x3 (xr x0 b0) (xr x1 b1) (xr x2 b2) (xr x3 b3) 0 ++ t))) := ⟨by have := HO.out; rw [hbs] at this; exact this⟩
  have hb4 : P + 4 ≤ bs.length := by omega
  clear hbs hpl HO a0 a1 a2 a3 hfar
  subst hP
  go_loopw [11] (fun i W => ∃ k : Nat, k ≤ 4 ∧ i = .int .i64 k ∧ Aside0 (Holds W gx (p ++ (mixk x0 x1 x2 x3 (xr x0 b0) (xr x1 b1) (xr x2 b2) (xr x3 b3) k ++ t))) ∧ Aside0 (Below w5.heap.size w5 W)) (fun i _ => 4 - (intOf i).toNat)
  case atStart => exact ⟨0, by omega, rfl, HX0, HBX⟩
  case round =>
    clear HX0 HBX
    obtain ⟨k, hk, rfl, HO, HBX⟩ := hrel
    by_cases hlt : k < 4
    · have h4 : k = 0 ∨ k = 1 ∨ k = 2 ∨ k = 3 := by omega
      rcases h4 with rfl | rfl | rfl | rfl
      · have hcell := mix_cell HO.out HPL.out 0 x0 rfl
        have hfree := HO.out.free (P + 0)
        have HSET := Aside0.mk (mix_set HO.out HPL.out 0 (by rw [mixk_len]; decide) (xr x0 b0))
        have ak := blk_cell (HAR.out _ (below_then HB5.out HB5.out.size HBX.out)) 0
        simp only [List.getElem?_toArray, List.getElem?_cons_zero, List.getElem?_cons_succ, Nat.add_zero] at ak hcell hfree HSET
        clear HO
        go_wp2_with fail
        go_region
        all_goals go_wp2
        all_goals go_roundw
        all_goals first
          | exact ⟨1, by omega, by first | rfl | go_num, ⟨HSET.out⟩, ⟨HBX.out.drew.setCell hgx _⟩⟩
          | (simp [intOf]; done)
      · have hcell := mix_cell HO.out HPL.out 1 x1 rfl
        have hfree := HO.out.free (P + 1)
        have HSET := Aside0.mk (mix_set HO.out HPL.out 1 (by rw [mixk_len]; decide) (xr x1 b1))
        have ak := blk_cell (HAR.out _ (below_then HB5.out HB5.out.size HBX.out)) 1
        simp only [List.getElem?_toArray, List.getElem?_cons_zero, List.getElem?_cons_succ] at ak
        clear HO
        go_wp2_with fail
        go_region
        all_goals go_wp2
        all_goals go_roundw
        all_goals first
          | exact ⟨2, by omega, by first | rfl | go_num, ⟨HSET.out⟩, ⟨HBX.out.drew.setCell hgx _⟩⟩
          | (simp [intOf]; done)
      · have hcell := mix_cell HO.out HPL.out 2 x2 rfl
        have hfree := HO.out.free (P + 2)
        have HSET := Aside0.mk (mix_set HO.out HPL.out 2 (by rw [mixk_len]; decide) (xr x2 b2))
        have ak := blk_cell (HAR.out _ (below_then HB5.out HB5.out.size HBX.out)) 2
        simp only [List.getElem?_toArray, List.getElem?_cons_zero, List.getElem?_cons_succ] at ak
        clear HO
        go_wp2_with fail
        go_region
        all_goals go_wp2
        all_goals go_roundw
        all_goals first
          | exact ⟨3, by omega, by first | rfl | go_num, ⟨HSET.out⟩, ⟨HBX.out.drew.setCell hgx _⟩⟩
          | (simp [intOf]; done)
      · have hcell := mix_cell HO.out HPL.out 3 x3 rfl
        have hfree := HO.out.free (P + 3)
        have HSET := Aside0.mk (mix_set HO.out HPL.out 3 (by rw [mixk_len]; decide) (xr x3 b3))
        have ak := blk_cell (HAR.out _ (below_then HB5.out HB5.out.size HBX.out)) 3
        simp only [List.getElem?_toArray, List.getElem?_cons_zero, List.getElem?_cons_succ] at ak
        clear HO
        go_wp2_with fail
        go_region
        all_goals go_wp2
        all_goals go_roundw
        all_goals first
          | exact ⟨4, by omega, by first | rfl | go_num, ⟨HSET.out⟩, ⟨HBX.out.drew.setCell hgx _⟩⟩
          | (simp [intOf]; done)
    · obtain rfl : k = 4 := by omega
      obtain ⟨zs, hzs⟩ : ∃ zs, p ++ (mixk x0 x1 x2 x3 (xr x0 b0) (xr x1 b1) (xr x2 b2) (xr x3 b3) 4 ++ t) = zs := ⟨_, rfl⟩
      have hbx : Bytes [x0, x1, x2, x3] := fun x hx => HBY.out x (by rw [HSP.out]; exact List.mem_append_right _ (List.mem_append_left _ hx))
      have r0 := hbx x0 (by simp)
      have r1 := hbx x1 (by simp)
      have r2 := hbx x2 (by simp)
      have r3 := hbx x3 (by simp)
      have hby' : Bytes [xr x0 b0, xr x1 b1, xr x2 b2, xr x3 b3] := by
        intro x hx
        have : x = xr x0 b0 ∨ x = xr x1 b1 ∨ x = xr x2 b2 ∨ x = xr x3 b3 := by simpa using hx
        rcases this with rfl | rfl | rfl | rfl
        · exact xr_range r0 HY0.out
        · exact xr_range r1 HY1.out
        · exact xr_range r2 HY2.out
        · exact xr_range r3 HY3.out
      have hdz : decode zs = .inr 6 := by
        rw [← hzs]
        refine HENC.out p t x0 x1 x2 x3 _ _ _ _ HSP.out hby' (fun ⟨e0, e1, e2, e3⟩ => HNE.out ⟨xr_same r0 HY0.out e0, xr_same r1 HY1.out e1, xr_same r2 HY2.out e2, xr_same r3 HY3.out e3⟩)
      have hzb : Bytes zs := by
        rw [← hzs]
        exact Bytes.append (fun x hx => HBY.out x (by rw [HSP.out]; exact List.mem_append_left _ hx)) (hby'.append (fun x hx => HBY.out x (by rw [HSP.out]; exact List.mem_append_right _ (List.mem_append_right _ hx))))
      have hzl : zs.length = bs.length := by rw [← hzs, HSP.out]; simp [mixk]
      have hzr : Holds wr gx zs := hzs ▸ HO.out
      have HDZ := decode_no (hzr.reads (by omega)) (c := cx) (by omega) hzb (by omega) hdz
      rw [hzl] at HDZ
      have HDE := Aside0.mk HDZ
      have HRR := Aside0.mk (Kd.C_below HRD.out HBX.out)
      have HB7 := Aside0.mk (below_then HB5.out HB5.out.size HBX.out)
      clear hzs hbx r0 r1 r2 r3 hby' hdz hzb hzl hzr HDZ HO HBX HENC HSP HPL HNE HY0 HY1 HY2 HY3 HRD
      go_wp2_with fail
      refine HDE.out.mono ?_
      rintro e w7 ⟨rfl, hb⟩
      have HB8 := Aside0.mk (below_then HB7.out HB7.out.size hb)
      have HRR8 := Aside0.mk (Kd.C_below HRR.out hb)
      obtain ⟨Z, hZ⟩ : ∃ Z, zcells = Z := ⟨_, rfl⟩
      have HZR : Aside0 (∀ W, RdL W zloc Z) := ⟨fun W => hZ ▸ zloc_reads W⟩
      rw [hZ]
      have hst : (St (.pointer (some ⟨w7.heap.size, 0, none⟩)) (.agg Z.toArray)).run Try.prog (w7.alloc (.cells ZC.toArray 29)) = .ok () (w7.alloc (.cells Z.toArray 29)) := store29 rfl (HZR.out w7).length (HZR.out w7).one
      obtain ⟨w8, hw8⟩ : ∃ w8, w7.alloc (.cells Z.toArray 29) = w8 := ⟨_, rfl⟩
      have hb8 := (Below.refl w7.heap.size w7).alloc (Nat.le_refl _) (.cells Z.toArray 29)
      rw [hw8] at hst hb8
      have HB9 := Aside0.mk (below_then HB8.out HB8.out.size hb8)
      have HRR9 := Aside0.mk (Kd.C_below HRR8.out hb8)
      have HW9 := Aside0.mk (HYES.out _ HB9.out)
      clear hb hb8 hw8 hZ HDE HB7 HB8 HRR HRR8
      by_cases hcn : cut < 0
      · go_wp2
        go_ret
        exact ⟨rfl, HW9.out⟩
      by_cases hcf : (bs.length : Int) ≤ cut
      · go_wp2
        go_ret
        exact ⟨rfl, HW9.out⟩
      obtain ⟨C, hC⟩ := Int.eq_ofNat_of_zero_le (Int.not_lt.1 hcn)
      subst hC
      obtain ⟨kc, hkc⟩ := HDC.out C (by omega)
      obtain ⟨i0, hi, _, hsz, _⟩ := info_parts info5
      obtain ⟨hsl, hA, hle⟩ := print_take_of (P := Try.prog) (Value.int .u8) 0 32 5 .i64 Try.underlying32 hi hsz Ay cy bs (C : Int) (by omega) (by omega) HCC.out
      have hrt := Kd.C_of_reads (h1 := fun _ => rfl) (hA _ (Kd.reads_of_C HRR9.out))
      rw [Int.toNat_natCast] at hsl hrt hle
      have HDE := Aside0.mk (decode_no hrt hle (fun x hx => HBY.out x (List.mem_of_mem_take hx)) (by rw [List.length_take]; omega) hkc)
      have hkk := decode_inr hkc
      obtain ⟨ts, hts⟩ : ∃ ts, bs.take C = ts := ⟨_, rfl⟩
      rw [hts] at HDE hsl
      have hsl := hsl w8
      have hkz : (kc != 0) = true := by rcases hkk with rfl | rfl <;> rfl
      clear hi hsz hA hle hrt hkc hkk hts HW9
      go_wp2_with fail
      refine HDE.out.mono ?_
      rintro e w9 ⟨rfl, hb⟩
      have HB10 := Aside0.mk (below_then HB9.out HB9.out.size hb)
      obtain ⟨Y, hY⟩ : ∃ Y, zcells = Y := ⟨_, rfl⟩
      have HYR : Aside0 (∀ W, RdL W zloc Y) := ⟨fun W => hY ▸ zloc_reads W⟩
      rw [hY]
      clear hst hsl
      have hst : (St (.pointer (some ⟨w9.heap.size, 0, none⟩)) (.agg Y.toArray)).run Try.prog (w9.alloc (.cells ZC.toArray 29)) = .ok () (w9.alloc (.cells Y.toArray 29)) := store29 rfl (HYR.out w9).length (HYR.out w9).one
      obtain ⟨w10, hw10⟩ : ∃ w10, w9.alloc (.cells Y.toArray 29) = w10 := ⟨_, rfl⟩
      have hb10 := (Below.refl w9.heap.size w9).alloc (Nat.le_refl _) (.cells Y.toArray 29)
      have HKY := Aside0.mk (blk_new w9 (.cells Y.toArray 29))
      rw [hw10] at hst hb10 HKY
      have HB11 := Aside0.mk (below_then HB10.out HB10.out.size hb10)
      have hy10 := load29 (HYR.out w10).length HKY.out
      clear hb hb10 hw10 hY HDE HB9 HB10
      go_wp2_with fail
      refine (same_calls zloc zloc Y ZC w10 (HYR.out _) (zloc_reads _)).mono ?_
      rintro e w11 ⟨rfl, hb⟩
      have HB12 := Aside0.mk (HYES.out _ (below_then HB11.out HB11.out.size hb))
      (first | rw [decide_eq_true (rfl : zloc = zloc)] | simp only [decide_true] | skip)
      clear hb hy10 hst HB11
      go_wp2
      go_ret
      exact ⟨rfl, HB12.out⟩
end Go.Proofs.Ytfbmgjanplnabaa
/- BundFinds' one argument, opened. -/
namespace Go.Proofs.Ytfbmgjanplnabaa
open Go.RowKit Go.Proofs.YtfbmgjanplnabaaW.PrintWords Go.Proofs.YtfbmgjanplnabaaW.PrintLast Go.Proofs.YtfbmgjanplnabaaW.PrintMore
open Go.ChangeShapes Go.WideShapes
set_option linter.unusedVariables false
set_option linter.unusedSimpArgs false

theorem cells50a : Try.prog.cellsOf 50 = 4 := by kernel_rfl
theorem cells52a : Try.prog.cellsOf 52 = 21 := by kernel_rfl
section
variable {H : Type} {enc : TypeId × Value → H} {w : World} {base : Nat} {spare : Nat → Bool} {held : Bool} {fuel : Nat} {cs : List Value} {x : DataW H × List MemPlace}
theorem open_byte' (h : DataW.trod enc Try.prog w base spare held fuel 5 cs = some x) : ∃ n, cs = [.int .u8 n] ∧ 0 ≤ n ∧ n < 256 := by
  obtain ⟨n, e, hw⟩ := open_byte h
  have := bounds_u8 hw
  exact ⟨n, e, by omega, by omega⟩
theorem open_fourb (h : DataW.trod enc Try.prog w base spare held fuel 50 cs = some x) : ∃ b0 b1 b2 b3 : Int, cs = [.int .u8 b0, .int .u8 b1, .int .u8 b2, .int .u8 b3] ∧ (0 ≤ b0 ∧ b0 < 256) ∧ (0 ≤ b1 ∧ b1 < 256) ∧ (0 ≤ b2 ∧ b2 < 256) ∧ (0 ≤ b3 ∧ b3 < 256) := by
  obtain ⟨_, _, _, _, hl, _⟩ := DataW.trod_array Try.underlying50 h
  rw [cells50a] at hl
  obtain ⟨c0, c1, c2, c3, rfl⟩ := len4 hl
  obtain ⟨_, _, h0⟩ := open_elem Try.underlying50 h 0 (by omega) _ cells5
  obtain ⟨_, _, h1⟩ := open_elem Try.underlying50 h 1 (by omega) _ cells5
  obtain ⟨_, _, h2⟩ := open_elem Try.underlying50 h 2 (by omega) _ cells5
  obtain ⟨_, _, h3⟩ := open_elem Try.underlying50 h 3 (by omega) _ cells5
  obtain ⟨p0, e0, k0⟩ := open_byte' h0
  obtain ⟨p1, e1, k1⟩ := open_byte' h1
  obtain ⟨p2, e2, k2⟩ := open_byte' h2
  obtain ⟨p3, e3, k3⟩ := open_byte' h3
  simp at e0 e1 e2 e3
  subst e0 e1 e2 e3
  exact ⟨p0, p1, p2, p3, rfl, k0, k1, k2, k3⟩
theorem open_with (h : DataW.trod enc Try.prog w base spare held fuel 52 cs = some x) : ∃ (l : Loc) (L : List Value) (n b0 b1 b2 b3 k : Int), cs = L ++ ftail n b0 b1 b2 b3 k ∧ RdL w l L ∧ l.s.ok ∧ (-9223372036854775808 ≤ n ∧ n ≤ 9223372036854775807) ∧ (-9223372036854775808 ≤ k ∧ k ≤ 9223372036854775807) ∧
    (0 ≤ b0 ∧ b0 < 256) ∧ (0 ≤ b1 ∧ b1 < 256) ∧ (0 ≤ b2 ∧ b2 < 256) ∧ (0 ≤ b3 ∧ b3 < 256) := by
  obtain ⟨_, _, _, _, hl, _⟩ := DataW.trod_struct Try.underlying52 h
  rw [cells52a] at hl
  obtain ⟨_, _, h0⟩ := open_field Try.underlying52 h 0 0 29 _ rfl cells29
  obtain ⟨_, _, h1⟩ := open_field Try.underlying52 h 1 15 3 _ rfl cells3
  obtain ⟨_, _, h2⟩ := open_field Try.underlying52 h 2 16 50 _ rfl cells50a
  obtain ⟨_, _, h3⟩ := open_field Try.underlying52 h 3 20 3 _ rfl cells3
  obtain ⟨l, hl0, hz⟩ := open_locale h0
  obtain ⟨n, e1, w1⟩ := open_i64 h1
  obtain ⟨b0, b1, b2, b3, e2, k0, k1, k2, k3⟩ := open_fourb h2
  obtain ⟨k, e3, w3⟩ := open_i64 h3
  refine ⟨l, (cs.drop 0).take 15, n, b0, b1, b2, b3, k, ?_, hl0, hz, bounds_i64 w1, bounds_i64 w3, k0, k1, k2, k3⟩
  have f1 : cs = cs.take 15 ++ cs.drop 15 := (List.take_append_drop 15 cs).symm
  have f2 : cs.drop 15 = (cs.drop 15).take 1 ++ (cs.drop 15).drop 1 := (List.take_append_drop 1 _).symm
  have f3 : cs.drop 16 = (cs.drop 16).take 4 ++ (cs.drop 16).drop 4 := (List.take_append_drop 4 _).symm
  have f4 : cs.drop 20 = (cs.drop 20).take 1 ++ (cs.drop 20).drop 1 := (List.take_append_drop 1 _).symm
  rw [List.drop_drop] at f2 f3 f4
  rw [e1] at f2
  rw [e2] at f3
  rw [e3] at f4
  have f5 : cs.drop 21 = [] := List.drop_of_length_le (by omega)
  have f4' : cs.drop 20 = [Value.int .i64 k] ++ cs.drop 21 := f4
  have f3' : cs.drop 16 = [Value.int .u8 b0, .int .u8 b1, .int .u8 b2, .int .u8 b3] ++ cs.drop 20 := f3
  have f2' : cs.drop 15 = [Value.int .i64 n] ++ cs.drop 16 := f2
  rw [f5] at f4'
  rw [f4'] at f3'
  rw [f3'] at f2'
  rw [f2'] at f1
  rw [List.drop_zero]
  exact f1
end
set_option maxRecDepth 100000 in
theorem open_finds {H : Type} {enc : TypeId × Value → H} {w : World} {base : Nat} {spare : Nat → Bool} {held : Bool} {r : Reach} {b0 : Nat} {v : Value} {d : DataW H} {p : List MemPlace}
    (hv : Value.okWide Try.prog w r b0 52 v) (h : DataW.Trod enc Try.prog w base spare held 52 v d p) : ∃ (l : Loc) (L : List Value) (n b0 b1 b2 b3 k : Int), v = .agg (L ++ ftail n b0 b1 b2 b3 k).toArray ∧ RdL w l L ∧ l.s.ok ∧ (-9223372036854775808 ≤ n ∧ n ≤ 9223372036854775807) ∧ (-9223372036854775808 ≤ k ∧ k ≤ 9223372036854775807) ∧
    (0 ≤ b0 ∧ b0 < 256) ∧ (0 ≤ b1 ∧ b1 < 256) ∧ (0 ≤ b2 ∧ b2 < 256) ∧ (0 ≤ b3 ∧ b3 < 256) := by
  obtain ⟨cs, rfl, _⟩ := okWide_struct Try.underlying52 hv
  obtain ⟨fuel, hf⟩ := h
  obtain ⟨l, L, n, b0, b1, b2, b3, k, e, hh⟩ := open_with hf
  have e' : cs.toList = L ++ ftail n b0 b1 b2 b3 k := e
  exact ⟨l, L, n, b0, b1, b2, b3, k, by rw [← e', Array.toArray_toList], hh⟩
end Go.Proofs.Ytfbmgjanplnabaa
namespace Go.Proofs.Ytfbmgjanplnabaa.bundFinds
open Go.ChangeShapes Go.WideShapes Go.ChangeAt Go.RowKit
open Go.ChangeMaps (open_string shut_string)
set_option linter.unusedVariables false
theorem own : ownKnob Try.prog.godebug = none := by kernel_rfl
theorem laidOut : laidOutB Try.prog = true := by kernel_rfl
set_option maxRecDepth 100000 in
theorem lifted (os : Os) (started : os.Started) (H : Type) (enc : TypeId × Value → H) :
    ReturnsInHanded {} Try.checked os 6 .any (Rows.bundFindsSpec.pre6 enc Try.prog Try.f6 Rows.bundFindsRow.domain false) (Rows.bundFindsSpec.post enc Try.prog Try.f6 false true false false) := by
  refine returnsInHanded_of_change_sized (C := Try.checked) own started (by kernel_rfl) Try.func6
    (ChangeSpec.witness6 (enc := enc) (C := Try.checked) false ⟨#[], #[.agg (zcells ++ ftail 0 0 0 0 0 0).toArray], []⟩ 8 (by kernel_rfl) (by kernel_rfl) (by kernel_rfl) (by kernel_rfl)) ?_
  intro W base args ds gs before hval0 hW hcnd hsz0 _
  have hval : ∀ (j : Nat) t v, Try.f6.params[j]? = some t → args[j]? = some v → Value.okWide Try.prog W .any base t v := hval0
  have hW' := hW
  obtain ⟨p, q, hA0, hV, rfl, hfz, hnd⟩ := hW
  have hA : DataW.TrodAll enc Try.prog W 0 (fun _ => true) true Try.f6.params.toList args.toList ds p := hA0
  rw [Try.params6] at hA hval
  obtain ⟨v0, vs0, d0, ds0, p0, q0, hargs, rfl, rfl, h0, r0⟩ := trodAll_cons hA
  obtain ⟨rfl, rfl, rfl⟩ := trodAll_nil r0
  obtain rfl : args = #[v0] := by cases args; simp_all
  obtain ⟨rfl, rfl⟩ := trodVars_none hV
  obtain ⟨l0, L0, n0, b0, b1, b2, b3, k0, rfl, hl0, zl0, hn0, hk0, hb0, hb1, hb2, hb3⟩ := open_finds (hval 0 52 v0 rfl rfl) h0
  have lt0 : ∀ x ∈ p0, x.block < W.heap.size := by obtain ⟨m, hm⟩ := h0; exact DataW.trod_lt m _ _ _ hm
  clear hA0 hval0 hsz0
  refine (finds_calls l0 L0 n0 b0 b1 b2 b3 k0 W hl0 zl0 hn0 hk0 hb0 hb1 hb2 hb3).mono fun e W' ⟨he, bel⟩ => ?_
  subst he
  exact ⟨_, rfl, _, _, _, [], _, [], hW', trodAll_mk1 (shut_bool Try.underlying4 _),
    (trodAll_cons_mk (Below.trod laidOut (by kernel_rfl) (of_decide_eq_true (by kernel_rfl)) h0 bel lt0) trodAll_mk0), rfl, bel.frame _, fun h => by cases h⟩
theorem over : Rows.bundFindsRow.holds Try.pinned (OpenSpec.ofChange Rows.bundFindsSpec) :=
  OpenClaim.holds_of_wide 6 Try.f6 rfl rfl rfl rfl rfl rfl rfl ⟨rfl, rfl, rfl, rfl, rfl⟩ rfl rfl rfl rfl rfl (by kernel_rfl) Try.func6 (by kernel_rfl)
    (of_decide_eq_true (by kernel_rfl)) (by unfold Func.isWrapper; first | (rw [if_pos (by decide +kernel)]; kernel_rfl) | (rw [if_neg (by decide +kernel)]; exact ⟨rfl, rfl⟩))
    (fun os started H enc _ => lifted os started H enc)
theorem proved : Rows.BundFindsSaid := over
#print axioms proved
end Go.Proofs.Ytfbmgjanplnabaa.bundFinds
namespace Go.Proofs.Ytfbmgjanplnabaa
/-- The row, under a short name, for the claim. -/
theorem bundFinds_holds : Rows.BundFindsSaid := bundFinds.proved
end Go.Proofs.Ytfbmgjanplnabaa

import Derived.Test.YtfbmgjanplnabaaBR
import Derived.Test.YtfbmgjanplnabaaBM
import Derived.Test.YtfbmgjanplnabaaBO
import Derived.Test.YtfbmgjanplnabaaBI
import Derived.Laws.CopyOwn
import Derived.Deep.RegionHeld3
/- exergueref16.Encode: two rows of one kind apart; a section by its number; the head, step by step. -/
namespace Go.Proofs.Ytfbmgjanplnabaa
open Go.RowKit Go.Proofs.YtfbmgjanplnabaaW.PrintWords Go.Proofs.YtfbmgjanplnabaaW.PrintLast Go.Proofs.YtfbmgjanplnabaaW.PrintMore
set_option linter.unusedVariables false
set_option linter.unusedSimpArgs false

theorem keepB {w w1 : World} {base : Nat} {v u : Value} {xs : List Int} (h : OwnB w base v xs) (hg : w.grownBy w1 u.ownBlock) (hne : NeRow u v) : OwnB w1 base v xs :=
  Kd.R_mono (Kd.R_grown (tightB h) hg (fun k hk e => hne k e.symm hk)) (fun _ _ => trivial)
/-- Two rows of bytes of the call's own, apart. -/
structure Two (W : World) (B : Nat) (vb : Value) (b : List Int) (va : Value) (al : List Int) : Prop where
  hb : OwnB W B vb b
  ha : OwnB W B va al
  ne : NeRow vb va
theorem Two.left {W W' : World} {B : Nat} {vb vb' va : Value} {b b' al : List Int} (h : Two W B vb b va al) (ho : OwnB W' B vb' b') (hn : Onto W W' vb vb') : Two W' B vb' b' va al := by
  obtain ⟨i, h1⟩ := Kd.R_own h.ha
  exact ⟨ho, keepB h.ha hn.1 h.ne, ne_append h.ne hn.2 h1⟩
theorem Two.right {W W' : World} {B : Nat} {vb va va' : Value} {b al al' : List Int} (h : Two W B vb b va al) (ho : OwnB W' B va' al') (hn : Onto W W' va va') : Two W' B vb b va' al' := by
  obtain ⟨i, h1⟩ := Kd.R_own h.hb
  exact ⟨keepB h.hb hn.1 (ne_symm h.ne), ho, ne_append' h.ne hn.2 h1⟩
theorem Two.below {W W' : World} {B : Nat} {vb va : Value} {b al : List Int} (h : Two W B vb b va al) (hb : Below W.heap.size W W') : Two W' B vb b va al :=
  ⟨Kd.R_below h.hb hb, Kd.R_below h.ha hb, h.ne⟩
theorem Two.alloc {W : World} {B : Nat} {vb va : Value} {b al : List Int} (h : Two W B vb b va al) (o : Obj) : Two (W.alloc o) B vb b va al :=
  ⟨Kd.R_alloc h.hb o, Kd.R_alloc h.ha o, h.ne⟩
theorem fresh_ne {W W1 : World} {B : Nat} {vb vx : Value} {b x : List Int} (h : OwnB W B vb b) (hx : OwnB W1 W.heap.size vx x) : NeRow vb vx := by
  obtain ⟨i, h1⟩ := Kd.R_own h
  obtain ⟨j, h2⟩ := Kd.R_own hx
  exact ne_symm (ne_below h2 h1)
/-- The parts as the document makes them. -/
def partsQ (P : List ByteArray) (l : Loc) : List (List Int) := [part1 P l, part2 P l, part3 P l, part4 P l, part5 P l, part6 P l]
theorem partsQ_eq (l : Loc) (hok : encOk l = true) : parts l = partsQ (gp (texts l)) l := parts_eq l hok
theorem sec_calls (l : Loc) (L : List Value) (Pl : List ByteArray) (A : Option Addr) (c : Nat) (w : World) (hL : RdL w l L) (hx : RdS w A Pl) (hp : isPool Pl = true) (hm : ∀ s ∈ texts l, s ∈ Pl) (hmay : mayB l = true) (hF : Few l) (hz : l.s.ok) (k : Nat) (hk : k < (partsQ Pl l).length) :
    Calls Try.prog 39 #[.agg L.toArray, .slice A Pl.length c, .int .i64 ((k + 1 : Nat) : Int)] w (secQ ((partsQ Pl l)[k]) w) := by
  have hk6 : k < 6 := hk
  obtain rfl | rfl | rfl | rfl | rfl | rfl : k = 0 ∨ k = 1 ∨ k = 2 ∨ k = 3 ∨ k = 4 ∨ k = 5 := by omega
  · exact sec1_calls l L Pl A c w hL hx hp hm hmay hF hz
  · exact sec2_calls l L Pl A c w hL hx hp hm hmay hF hz
  · exact sec3_calls l L Pl A c w hL hx hp hm hmay hF hz
  · exact sec4_calls l L Pl A c w hL hx hp hm hmay hF hz
  · exact sec5_calls l L Pl A c w hL hx hp hm hmay hF hz
  · exact sec6_calls l L Pl A c w hL hx hp hm hmay hF hz
theorem fits4_nat {n : Nat} (h : n ≤ 4294967295) : fits (n : Int) 4 = true := by
  unfold fits
  have hl : lim 4 = 4294967296 := rfl
  rw [hl]
  simp
  omega
/-- What lies ahead of the parts after k of them. -/
def bk (ps : List (List Int)) (k : Nat) : List Int := [69, 88, 76, 66, 0, 1, 0, 6] ++ encI (hdIt 56 (ps.take k))
def ak (ps : List (List Int)) (k : Nat) : List Int := (ps.take k).flatten
theorem part_le (ps : List (List Int)) (k : Nat) (hk : k < ps.length) : sumLen ps k + ps[k].length ≤ ps.flatten.length := by
  have h := sumLen_le ps (k + 1)
  rw [sumLen_succ ps k hk, List.getD_eq_getElem?_getD, List.getElem?_eq_getElem hk] at h
  exact h
theorem bk_succ (ps : List (List Int)) (k : Nat) (hk : k < ps.length) (hm : ps.flatten.length ≤ 3000000) : bk ps (k + 1) = (bk ps k ++ be ((56 : Int) + ((ak ps k).length : Int)) 4) ++ be (ps[k].length : Int) 4 ∧ fits ((56 : Int) + ((ak ps k).length : Int)) 4 = true ∧ fits (ps[k].length : Int) 4 = true := by
  have h1 := part_le ps k hk
  have e : ((56 : Int) + ((ak ps k).length : Int)) = ((56 + sumLen ps k : Nat) : Int) := by unfold ak sumLen; omega
  have f1 : fits ((56 + sumLen ps k : Nat) : Int) 4 = true := fits4_nat (by omega)
  have f2 : fits (ps[k].length : Int) 4 = true := fits4_nat (by omega)
  rw [e]
  refine ⟨?_, f1, f2⟩
  unfold bk
  rw [hdIt_succ ps 56 k hk, encI_append]
  simp only [encI, List.flatMap_cons, List.flatMap_nil, List.append_nil, f1, f2, if_true, List.append_assoc]
theorem ak_succ (ps : List (List Int)) (k : Nat) (hk : k < ps.length) : ak ps (k + 1) = ak ps k ++ ps[k] := by
  unfold ak
  rw [List.take_succ_eq_append_getElem hk, List.flatten_append]
  simp
theorem bk_len (ps : List (List Int)) (k : Nat) (hk : k ≤ 6) : (bk ps k).length ≤ 60 := by
  unfold bk
  have h1 := encI_length (hdIt 56 (ps.take k))
  rw [hdIt_length, List.length_take] at h1
  rw [List.length_append]
  simp only [List.length_cons, List.length_nil]
  omega
theorem ak_len (ps : List (List Int)) (k : Nat) (hm : ps.flatten.length ≤ 3000000) : (ak ps k).length ≤ 3000000 := Nat.le_trans (sumLen_le ps k) hm
theorem encI_16 : encI [(1, 2), (6, 2)] = [0, 1, 0, 6] := by decide
theorem shuffle8 (xs ys : List Int) : ([69, 88, 76, 66] ++ ([0, 1, 0, 6] ++ xs) ++ ys : List Int) = ([69, 88, 76, 66, 0, 1, 0, 6] ++ xs) ++ ys := by
  simp only [List.cons_append, List.nil_append]
theorem take6 (l : Loc) : (parts l).take 6 = parts l := List.take_of_length_le (Nat.le_refl 6)
theorem body_bk (l : Loc) : body l = bk (parts l) 6 ++ ak (parts l) 6 := by
  unfold body head bk ak
  rw [take6, encI_append, encI_16]
  exact shuffle8 _ _
end Go.Proofs.Ytfbmgjanplnabaa
/- exergueref16.Encode. -/
namespace Go.Proofs.Ytfbmgjanplnabaa
open Go.RowKit Go.Proofs.YtfbmgjanplnabaaW.PrintWords Go.Proofs.YtfbmgjanplnabaaW.PrintLast Go.Proofs.YtfbmgjanplnabaaW.PrintMore
set_option linter.unusedVariables false
set_option linter.unusedSimpArgs false
attribute [local go_sem ↓] Ld_eq St_eq

theorem own_lit8 (W : World) (base : Nat) (hb : base ≤ W.heap.size) : OwnB (W.alloc (.cells #[.int .u8 69, .int .u8 88, .int .u8 76, .int .u8 66, .int .u8 0, .int .u8 1, .int .u8 0, .int .u8 6] 5)) base (.slice (some ⟨W.heap.size, 0, none⟩) 8 8) [69, 88, 76, 66, 0, 1, 0, 6] := by
  refine Kd.R_of_own ?_ (fun _ _ => trivial)
  have h := World.ownsRow_lit (base := base) (e := 5) (size := 1) W (([69, 88, 76, 66, 0, 1, 0, 6] : List Int).map (Value.int .u8)).toArray 8 hb (by simp [maxLen]) (by simp)
  simpa [encs] using h
set_option maxHeartbeats 3200000 in
set_option maxRecDepth 100000 in
theorem refEncode_calls (l : Loc) (L : List Value) (w : World) (hL : RdL w l L) (hF : Few l) (hz : l.s.ok) :
    Calls Try.prog 15 #[.agg L.toArray] w (encPost l w) := by
  have hNL := hL.length
  have hblk := blk_new w (.cells L.toArray 29)
  have hb1 := (Below.refl w.heap.size w).alloc (Nat.le_refl _) (.cells L.toArray 29)
  have hL0 := hL.below hb1
  obtain ⟨w0, hw0⟩ : ∃ w0, w.alloc (.cells L.toArray 29) = w0 := ⟨_, rfl⟩
  rw [hw0] at hblk hb1 hL0
  have HYES : Aside0 (∀ W, Below w0.heap.size w0 W → Below w.heap.size w W) := ⟨fun W h => below_then hb1 hb1.size h⟩
  have HNO : Aside0 (∀ W, encOk l = false → Below w0.heap.size w0 W → encPost l w (.returned (.tuple #[.slice none 0 0, .int .i64 1])) W) := ⟨fun W h hb => ⟨HYES.out W hb, by rw [h]⟩⟩
  have HEND : Aside0 (∀ W v, encOk l = true → Below w0.heap.size w0 W → OwnB W w0.heap.size v (enc l) → encPost l w (.returned (.tuple #[v, .int .i64 0])) W) := ⟨fun W v h hb ho => ⟨HYES.out W hb, by rw [h]; exact ⟨v, rfl, Kd.R_lower ho hb1.size⟩⟩⟩
  have HLR : Aside0 (∀ W, Below w0.heap.size w0 W → RdL W l L) := ⟨fun W h => hL0.below h⟩
  obtain ⟨g, hg⟩ : ∃ g, w.heap.size = g := ⟨_, rfl⟩
  rw [hg] at hblk
  have HLD : Aside0 (∀ W, Below w0.heap.size w0 W → (Ld (.pointer (some ⟨g, 0, none⟩))).run Try.prog W = .ok (.agg L.toArray) W) := ⟨fun W h => load29 hNL (blk_below hblk h (blk_lt hblk))⟩
  have HOK := Aside0.mk (encOk_iff l hF hz)
  have HFE := Aside0.mk hF
  have HZE := Aside0.mk hz
  have hl0 := HLD.out w0 (Below.refl _ _)
  have HC1 := Aside0.mk (refTexts_calls l L w0 (HLR.out _ (Below.refl _ _)) hF)
  have HTL : Aside0 ((texts l).length ≤ 300000) := ⟨by
    obtain ⟨h1, h2, h3⟩ := hF
    rw [texts_length]
    omega⟩
  have HMEM : Aside0 (∀ s ∈ texts l, s ∈ gp (texts l)) := ⟨fun s hs => (mem_gp _ _).2 hs⟩
  clear hL hF hz hNL hblk hb1 hL0
  go_enter Try.func15, Try.ntmps15
  go_wp2_with fail
  refine HC1.out.mono ?_
  rintro e w1 ⟨v, rfl, ho, hb⟩
  obtain ⟨A, c, rfl, hr⟩ := RdS_of ho
  have HC2 := Aside0.mk (refGather_calls (texts l) A c w1 hr HTL.out)
  have HB1 := Aside0.mk hb
  clear ho hb hr HC1 hw0 hl0
  go_wp2_with fail
  refine HC2.out.mono ?_
  rintro e w2 ⟨Ap, cp, u, rfl, hr, hb⟩
  have HB2 := Aside0.mk (below_then HB1.out HB1.out.size hb)
  have HR2 := Aside0.mk hr
  have HC3 := Aside0.mk (refPool_calls (gp (texts l)) Ap cp w2 hr)
  have hl2 := HLD.out _ HB2.out
  have HC4 := Aside0.mk (may_calls l L w2 (HLR.out _ HB2.out) HFE.out)
  obtain ⟨Pl, hPl⟩ : ∃ Pl, gp (texts l) = Pl := ⟨_, rfl⟩
  rw [hPl] at HC3 HR2 HOK HMEM
  have HPE := Aside0.mk hPl
  clear hb hr HC2
  rw [hPl]
  clear hPl
  go_wp2_with fail
  refine HC3.out.mono ?_
  rintro e w2' ⟨rfl, rfl⟩
  go_wp2_with fail
  refine HC4.out.mono ?_
  rintro e w3 ⟨rfl, hb⟩
  have HB3 := Aside0.mk (below_then HB2.out HB2.out.size hb)
  have HR3 := Aside0.mk (Kd.C_below HR2.out hb)
  clear hb HC3 HC4 hl2 HB1 HB2 HR2
  cases hp : isPool Pl with
  | false =>
    rw [hp] at HOK
    cases mayB l <;>
    · go_wp2
      go_ret2
      exact HNO.out _ HOK.out HB3.out
  | true =>
  cases hm : mayB l with
  | false =>
    rw [hp, hm] at HOK
    go_wp2
    go_ret2
    exact HNO.out _ HOK.out HB3.out
  | true =>
  rw [hp, hm] at HOK
  have hok : encOk l = true := HOK.out
  have hpe := partsQ_eq l hok
  rw [HPE.out] at hpe
  have hbody := body_bk l
  have hflat := parts_length l HFE.out (encOk_parts hok).1
  have hbb := bytes_body hok
  rw [hpe] at hbody hflat
  have HSEC : Aside0 (∀ W, Below w3.heap.size w3 W → ∀ (k : Nat) (hk : k < (partsQ Pl l).length), Calls Try.prog 39 #[.agg L.toArray, .slice Ap Pl.length cp, .int .i64 ((k : Int) + 1)] W (secQ ((partsQ Pl l)[k]) W)) := ⟨fun W hb k hk => sec_calls l L Pl Ap cp W (HLR.out W (below_then HB3.out HB3.out.size hb)) (Kd.C_below HR3.out hb) hp HMEM.out hm HFE.out HZE.out k hk⟩
  have HLD3 : Aside0 (∀ W, Below w3.heap.size w3 W → (Ld (.pointer (some ⟨g, 0, none⟩))).run Try.prog W = .ok (.agg L.toArray) W) := ⟨fun W hb => HLD.out W (below_then HB3.out HB3.out.size hb)⟩
  have h6 : (partsQ Pl l).length = 6 := rfl
  obtain ⟨ps, hps⟩ : ∃ ps, partsQ Pl l = ps := ⟨_, rfl⟩
  rw [hps] at HSEC hbody hflat h6
  have HEND3 : Aside0 (∀ W v, Below w3.heap.size w3 W → OwnB W w3.heap.size v ((bk ps 6 ++ ak ps 6) ++ le4 (crcOn 0 (bk ps 6 ++ ak ps 6))) → encPost l w (.returned (.tuple #[v, .int .i64 0])) W) := ⟨fun W v hb ho => HEND.out W v hok (below_then HB3.out HB3.out.size hb) (by
    have := Kd.R_lower ho HB3.out.size
    unfold enc
    rw [hbody]
    exact this)⟩
  rw [hbody] at hbb
  have HBY := Aside0.mk hbb
  have HFL := Aside0.mk hflat
  have HP6 := Aside0.mk h6
  have HO0 := Aside0.mk (own_lit8 w3 w3.heap.size (Nat.le_refl _))
  have HB0 := Aside0.mk ((Below.refl w3.heap.size w3).alloc (Nat.le_refl _) (.cells #[.int .u8 69, .int .u8 88, .int .u8 76, .int .u8 66, .int .u8 0, .int .u8 1, .int .u8 0, .int .u8 6] 5))
  have HT0 : Aside0 (Two (w3.alloc (.cells #[.int .u8 69, .int .u8 88, .int .u8 76, .int .u8 66, .int .u8 0, .int .u8 1, .int .u8 0, .int .u8 6] 5)) w3.heap.size (.slice (some ⟨w3.heap.size, 0, none⟩) 8 8) (bk ps 0) (.slice none 0 0) (ak ps 0)) := ⟨⟨HO0.out, Kd.R_nil _ _ _ _ _, ne_nil' _⟩⟩
  clear hp hm hok hpe hbody hflat hbb hps h6 HOK HFE HZE HLD HLR HEND HNO HYES HMEM HPE HB3 HR3 HO0 HTL
  obtain ⟨B, hB⟩ : ∃ B, w3.heap.size = B := ⟨_, rfl⟩
  rw [hB] at HSEC HEND3 HB0 HT0 HLD3
  have HBE := Aside0.mk hB
  clear hB
  go_wp2_with fail
  rw [HBE.out]
  go_loopw [8, 9, 10, 11] (fun vb va i _ W => ∃ k : Nat, k ≤ 6 ∧ i = .int .i64 ((k : Int) + 1) ∧ Aside0 (Two W B vb (bk ps k) va (ak ps k)) ∧ Aside0 (Below B w3 W)) (fun _ _ i _ _ => 7 - (intOf i).toNat)
  case atStart => exact ⟨0, by omega, rfl, HT0, HB0⟩
  case round =>
    clear HT0 HB0
    obtain ⟨k, hk, rfl, HT, HB⟩ := hrel
    have HSW : Aside0 (B ≤ wr.heap.size) := ⟨by have := HB.out.size; rw [HBE.out] at this; exact this⟩
    by_cases hlt : k < 6
    · have hkp : k < ps.length := by rw [HP6.out]; exact hlt
      obtain ⟨hbk, hf1, hf2⟩ := bk_succ ps k hkp HFL.out
      have hak := ak_succ ps k hkp
      have hlb := bk_len ps k hk
      have hla := ak_len ps k HFL.out
      have hlx := part_le ps k hkp
      have hlx2 := HFL.out
      have HS := Aside0.mk (HSEC.out wr HB.out k hkp)
      have hl := HLD3.out wr HB.out
      have HLX : Aside0 (ps[k].length ≤ 3000000) := ⟨by omega⟩
      obtain ⟨xs, hxs⟩ : ∃ xs, ps[k] = xs := ⟨_, rfl⟩
      rw [hxs] at hbk hf2 hak HS HLX
      obtain ⟨b, hbq⟩ : ∃ b, bk ps k = b := ⟨_, rfl⟩
      obtain ⟨al, haq⟩ : ∃ al, ak ps k = al := ⟨_, rfl⟩
      rw [hbq] at hbk hlb HT
      rw [haq] at hbk hf1 hak hla HT
      have HBK := Aside0.mk hbk
      have HAK := Aside0.mk hak
      have HF1 := Aside0.mk hf1
      have HF2 := Aside0.mk hf2
      have HLB := Aside0.mk hlb
      have HLA := Aside0.mk hla
      obtain ⟨Ab, mb, cb, rfl⟩ := R_slice' HT.out.hb
      obtain ⟨Aa, ca, rfl, _, _⟩ := Kd.R_reads HT.out.ha
      clear hbk hf1 hf2 hak hlb hla hlx hlx2 hxs hbq haq hkp
      go_wp2_with fail
      refine HS.out.mono ?_
      rintro e w4 ⟨vx, rfl, hox, hbx⟩
      obtain ⟨Ax, cx, rfl, _, _⟩ := Kd.R_reads hox
      have HX4 := Aside0.mk hox
      have HT4 := Aside0.mk (HT.out.below hbx)
      have HN1 := Aside0.mk (fresh_ne HT.out.hb hox)
      have HB4 := Aside0.mk (below_then HB.out HSW.out hbx)
      have HS4 := Aside0.mk (Nat.le_trans HSW.out hbx.size)
      have HC4 := Aside0.mk (four_be B w3 _ b ((56 : Int) + (al.length : Int)) w4 HF1.out HT4.out.hb HB4.out HS4.out (Nat.le_trans HLB.out (by decide)))
      have hla := HLA.out
      clear hox hbx HS HT hl
      go_wp2_with fail
      refine HC4.out.mono ?_
      rintro e w5 ⟨v, rfl, ho, hb, hn⟩
      obtain ⟨A5, m5, c5, rfl⟩ := R_slice' ho
      have HT5 := Aside0.mk (HT4.out.left ho hn)
      have HX5 := Aside0.mk (keepB HX4.out hn.1 HN1.out)
      have HS5 := Aside0.mk (Nat.le_trans HS4.out hn.1.size)
      have HB5 := Aside0.mk hb
      have HN5 : Aside0 (NeRow (.slice A5 m5 c5) (.slice Ax xs.length cx)) := ⟨by
        obtain ⟨i, h1⟩ := Kd.R_own HX4.out
        exact ne_append HN1.out hn.2 h1⟩
      have HC5 := Aside0.mk (four_be B w3 _ (b ++ be ((56 : Int) + (al.length : Int)) 4) (xs.length : Int) w5 HF2.out ho hb HS5.out (by rw [List.length_append, show (be ((56 : Int) + (al.length : Int)) 4).length = 4 from rfl]; exact Nat.le_trans (Nat.add_le_add_right HLB.out 4) (by decide)))
      clear ho hb hn HC4 HT4 HX4 HB4 HS4 HN1 hla
      go_wp2_with fail
      refine HC5.out.mono ?_
      rintro e w6 ⟨v, rfl, ho, hb, hn⟩
      obtain ⟨A6, m6, c6, rfl⟩ := R_slice' ho
      have HT6 := Aside0.mk (HT5.out.left ho hn)
      have HX6 := Aside0.mk (keepB HX5.out hn.1 HN5.out)
      have HS6 := Aside0.mk (Nat.le_trans HS5.out hn.1.size)
      have HB6 := Aside0.mk hb
      have HR6 : Aside0 (RdB w6 Ax xs) := ⟨by
        obtain ⟨A', c', e, _, hr⟩ := Kd.R_reads HX6.out
        injection e with e1 e2 e3
        subst e1
        exact hr⟩
      clear ho hb hn HC5 HT5 HX5 HB5 HS5 HN5 HX6
      go_wp2_with ((with_reducible refine gate_builtin (b := .append) (xs := #[.tmp 45, .tmp 46]) rfl ?_); at_builtin; refine appB (w0 := w3) B rfl (.tmp 45) (.tmp 46) rfl (.slice Aa al.length ca) al xs Ax cx rfl rfl HT6.out.ha HR6.out HB6.out HS6.out (by have := HLA.out; have := HLX.out; omega) ?_; intro v7 w7 ho hb hg hat; have HT7 := Aside0.mk (HT6.out.right ho ⟨hg, hat⟩); have HB7 := Aside0.mk hb; clear ho hb hg hat)
      go_roundw
      case rel => exact ⟨k + 1, by omega, by go_num, ⟨by rw [HBK.out, HAK.out]; exact HT7.out⟩, HB7⟩
      case measure => simp [intOf]; omega
    · obtain rfl : k = 6 := by omega
      have hlb := bk_len ps 6 (Nat.le_refl _)
      have hla := ak_len ps 6 HFL.out
      obtain ⟨b, hbq⟩ : ∃ b, bk ps 6 = b := ⟨_, rfl⟩
      obtain ⟨al, haq⟩ : ∃ al, ak ps 6 = al := ⟨_, rfl⟩
      rw [hbq, haq] at HT HBY HEND3
      rw [hbq] at hlb
      rw [haq] at hla
      have HLA : Aside0 (b.length + al.length ≤ 3000060) := ⟨by omega⟩
      obtain ⟨Ab, mb, cb, rfl⟩ := R_slice' HT.out.hb
      obtain ⟨Aa, ca, rfl, _, hra⟩ := Kd.R_reads HT.out.ha
      have HRA := Aside0.mk hra
      obtain ⟨zs, hzs⟩ : ∃ zs, b ++ al = zs := ⟨_, rfl⟩
      rw [hzs] at HEND3 HBY
      have HZS := Aside0.mk hzs
      have HZL : Aside0 (zs.length ≤ 3000060) := ⟨by rw [← hzs, List.length_append]; omega⟩
      clear hbq haq hlb hla hra hzs
      go_wp2_with ((with_reducible refine gate_builtin (b := .append) (xs := #[.tmp 48, .tmp 49]) rfl ?_); at_builtin; refine appB (w0 := w3) B rfl (.tmp 48) (.tmp 49) rfl (.slice Ab mb cb) b al Aa ca rfl rfl HT.out.hb HRA.out HB.out HSW.out (by have := HLA.out; omega) ?_; intro v7 w7 ho hb hg hat; rw [HZS.out] at ho; obtain ⟨A7, c7, hv7, _, hr7⟩ := Kd.R_reads ho; subst hv7; have HR7 := Aside0.mk hr7; have HB7 := Aside0.mk hb; have HS7 := Aside0.mk (Nat.le_trans HSW.out hg.size); clear ho hb hg hat hr7)
      refine (refPut_calls zs A7 c7 w7 HR7.out HBY.out (by have := HZL.out; omega)).mono ?_
      rintro e w8 ⟨v, rfl, ho, hb⟩
      have HF := Aside0.mk (HEND3.out w8 v (below_then HB7.out HS7.out hb) (Kd.R_lower ho HS7.out))
      obtain ⟨A8, m8, c8, rfl⟩ := R_slice' ho
      clear ho hb
      go_wp2
      go_ret2
      exact HF.out
end Go.Proofs.Ytfbmgjanplnabaa
/- exergueref09.Take: a number at a place. -/
namespace Go.Proofs.Ytfbmgjanplnabaa
open Go.RowKit Go.Proofs.YtfbmgjanplnabaaW.PrintWords Go.Proofs.YtfbmgjanplnabaaW.PrintLast Go.Proofs.YtfbmgjanplnabaaW.PrintMore
set_option linter.unusedVariables false
set_option linter.unusedSimpArgs false

/-- Few bytes make a small number. -/
theorem val_small (ys : List Int) (h : Bytes ys) : ∀ k, k ≤ ys.length → k ≤ 3 → 0 ≤ val (ys.take k) ∧ val (ys.take k) < 16777216 ∧ (k ≤ 2 → val (ys.take k) < 65536) ∧ (k ≤ 1 → val (ys.take k) < 256) ∧ (k = 0 → val (ys.take k) = 0) := by
  intro k
  induction k with
  | zero =>
    intro _ _
    have e : val (ys.take 0) = 0 := rfl
    rw [e]
    omega
  | succ k ih =>
    intro h1 h2
    obtain ⟨a0, a1, a2, a3, a4⟩ := ih (by omega) (by omega)
    have hb := h ys[k] (List.getElem_mem (by omega))
    rw [val_succ ys k (by omega), tk_eq _ _ a0 a1 hb.1 hb.2]
    refine ⟨by omega, ?_, fun h => ?_, fun h => ?_, fun h => by omega⟩
    · have := a2 (by omega); omega
    · have := a3 (by omega); omega
    · have := a4 (by omega); omega
theorem val_step (ys : List Int) (h : Bytes ys) (h4 : ys.length ≤ 4) (k : Nat) (hk : k < ys.length) : val (ys.take (k + 1)) = val (ys.take k) * 256 + ys[k] ∧ 0 ≤ val (ys.take k) ∧ val (ys.take k) < 16777216 ∧ 0 ≤ ys[k] ∧ ys[k] < 256 := by
  obtain ⟨a0, a1, _⟩ := val_small ys h k (by omega) (by omega)
  have hb := h ys[k] (List.getElem_mem hk)
  exact ⟨by rw [val_succ ys k hk, tk_eq _ _ a0 a1 hb.1 hb.2], a0, a1, hb.1, hb.2⟩
theorem seg_bytes {xs : List Int} (h : Bytes xs) (p n : Nat) : Bytes (seg xs p n) := fun z hz => h z (List.mem_of_mem_take (List.mem_of_mem_drop hz))
theorem seg_get {xs : List Int} {p n : Nat} (h : p + n ≤ xs.length) (j : Nat) (hj : j < (seg xs p n).length) (hj2 : p + j < xs.length) : (seg xs p n)[j] = xs[p + j] := by
  simp only [seg, List.getElem_drop, List.getElem_take]
theorem at_RdB {w : World} {A : Option Addr} {xs : List Int} (h : RdB w A xs) (k : Nat) (hk : k < xs.length) : ∃ b off, A = some ⟨b, off, none⟩ ∧ ∀ j (hj : j < xs.length), w.cell? ⟨b, off + j, none⟩ = some (.int .u8 xs[j]) := by
  obtain ⟨b, off, e, hc⟩ := C_plain h (by omega)
  refine ⟨b, off, e, fun j hj => ?_⟩
  rw [hc j hj]
  simp [rd, List.getD_eq_getElem?_getD, List.getElem?_eq_getElem hj]

set_option maxHeartbeats 1600000 in
set_option maxRecDepth 100000 in
theorem refTake_ok (size : Nat) (hs : size = 1 ∨ size = 2 ∨ size = 4) (xs : List Int) (A : Option Addr) (c p : Nat) (w : World) (hx : RdB w A xs) (hby : Bytes xs) (h : p + size ≤ xs.length) :
    Calls Try.prog 72 #[.slice A xs.length c, .int .i64 p, .int .i64 size] w fun e w' => e = .returned (.tuple #[.int .u32 (val (seg xs p size)), .int .i64 (p + size : Nat), .int .i64 0]) ∧ w = w' := by
  have hlen : xs.length ≤ 9223372036854775807 := hx.2.1
  obtain ⟨b, off, rfl, hcell⟩ := at_RdB hx 0 (by omega)
  have HSL := Aside0.mk (seg_length xs p size h)
  have HBY := Aside0.mk (seg_bytes hby p size)
  have HCELL : Aside0 (∀ (j : Nat) (hj : j < (seg xs p size).length), w.cell? ⟨b, off + (p + j), none⟩ = some (.int .u8 (seg xs p size)[j])) := ⟨fun j hj => by
    have hj' : p + j < xs.length := by have := HSL.out; omega
    rw [seg_get h j hj hj']
    exact hcell (p + j) hj'⟩
  obtain ⟨ys, hys⟩ : ∃ ys, seg xs p size = ys := ⟨_, rfl⟩
  rw [hys] at HSL HBY HCELL ⊢
  have hnn : ¬ (p : Int) < 0 := by omega
  have e2 : ((p + size : Nat) : Int) = (p : Int) + (size : Int) := by omega
  rw [e2]
  clear hx hby hcell hys
  rcases hs with rfl | rfl | rfl
  all_goals
    simp only [Int.cast_ofNat_Int]
    go_enter Try.func72, Try.ntmps72
    go_wp2
    go_loopw [9, 10] (fun v9 i W => ∃ k : Nat, k ≤ ys.length ∧ i = .int .i64 k ∧ v9 = .int .u32 (val (ys.take k)) ∧ W = w) (fun _ i _ => ys.length - (intOf i).toNat)
    case atStart => exact ⟨0, by omega, rfl, rfl, rfl⟩
    case round =>
      obtain ⟨k, hk, rfl, rfl, rfl⟩ := hrel
      have HSL2 := HSL.out
      by_cases hlt : k < ys.length
      · have hck := HCELL.out k hlt
        obtain ⟨hv, v0, v1, b0, b1⟩ := val_step ys HBY.out (by omega) k hlt
        obtain ⟨v, hv'⟩ : ∃ v, val (ys.take k) = v := ⟨_, rfl⟩
        obtain ⟨z, hz⟩ : ∃ z, ys[k] = z := ⟨_, rfl⟩
        rw [hv', hz] at hv
        rw [hv'] at v0 v1 ⊢
        rw [hz] at hck b0 b1
        have HV := Aside0.mk hv
        clear hv hv' hz
        go_wp2
        go_roundw
        case rel => exact ⟨k + 1, by omega, by go_num, by rw [HV.out], trivial⟩
        case measure => simp [intOf]; omega
      · obtain rfl : k = ys.length := by omega
        go_wp2
        go_ret3
        refine ⟨?_, rfl⟩
        rw [List.take_length]
        rfl
set_option maxHeartbeats 400000 in
theorem refTake_bad (size : Nat) (hs : size = 1 ∨ size = 2 ∨ size = 4) (n : Nat) (A : Option Addr) (c p : Nat) (w : World) (hn : n ≤ 9223372036854775807) (h : n < p + size) :
    Calls Try.prog 72 #[.slice A n c, .int .i64 p, .int .i64 size] w fun e w' => e = .returned (.tuple #[.int .u32 0, .int .i64 0, .int .i64 2]) ∧ w = w' := by
  have hnn : ¬ (p : Int) < 0 := by omega
  by_cases hp : p ≤ n
  all_goals
  rcases hs with rfl | rfl | rfl
  all_goals
    simp only [Int.cast_ofNat_Int]
    go_enter Try.func72, Try.ntmps72
    go_wp2
    go_ret3
    exact ⟨rfl, rfl⟩
end Go.Proofs.Ytfbmgjanplnabaa
/- exergueref16.take: a reader that stands or is bad. -/
namespace Go.Proofs.Ytfbmgjanplnabaa
open Go.RowKit Go.Proofs.YtfbmgjanplnabaaW.PrintWords Go.Proofs.YtfbmgjanplnabaaW.PrintLast Go.Proofs.YtfbmgjanplnabaaW.PrintMore
set_option linter.unusedVariables false
set_option linter.unusedSimpArgs false

/-- What a reader says: a value and where it ends, or that it is bad. -/
def Tot {α : Type} (f : PS α) (p : Nat) (b : Bool) (v : α) (q : Nat) (b' : Bool) : Prop := (b = false ∧ b' = false ∧ f p = some (v, q)) ∨ (b' = true ∧ (b = true ∨ f p = none))
/-- A reader's three cells. -/
def rdr (A : Option Addr) (n c p : Nat) (b : Bool) : List Value := [.slice A n c, .int .i64 p, .bool b]
theorem refTake_calls (size : Nat) (hs : size = 1 ∨ size = 2 ∨ size = 4) (xs : List Int) (A : Option Addr) (c p : Nat) (w : World) (hx : RdB w A xs) (hby : Bytes xs) :
    Calls Try.prog 72 #[.slice A xs.length c, .int .i64 p, .int .i64 size] w fun e w' => w = w' ∧ ∃ (n q : Nat) (k : Int), e = .returned (.tuple #[.int .u32 n, .int .i64 q, .int .i64 k]) ∧ n ≤ 4294967295 ∧ q ≤ xs.length ∧ ((k = 0 ∧ (k == 0) = true ∧ (k != 0) = false ∧ numP xs size p = some (n, q)) ∨ (k = 2 ∧ (k == 0) = false ∧ (k != 0) = true ∧ numP xs size p = none ∧ n = 0 ∧ q = 0)) := by
  by_cases h : p + size ≤ xs.length
  · have hv := val_range (seg xs p size)
    have e : val (seg xs p size) = ((val (seg xs p size)).toNat : Int) := by omega
    refine (refTake_ok size hs xs A c p w hx hby h).mono ?_
    rintro e' w' ⟨rfl, rfl⟩
    refine ⟨rfl, (val (seg xs p size)).toNat, p + size, 0, by rw [← e], by omega, h, .inl ⟨rfl, rfl, rfl, by unfold numP; rw [if_pos h]⟩⟩
  · refine (refTake_bad size hs xs.length A c p w hx.2.1 (by omega)).mono ?_
    rintro e' w' ⟨rfl, rfl⟩
    exact ⟨rfl, 0, 0, 2, rfl, by omega, by omega, .inr ⟨rfl, rfl, rfl, by unfold numP; rw [if_neg h], rfl, rfl⟩⟩
theorem size101 : (Try.prog.info? 101).map (·.size) = some 3 := by kernel_rfl
theorem rdr_load {W : World} {g : Nat} {R : List Value} (hR : R.length = 3) (h : W.heap[g]? = some (.cells R.toArray 101 (0, 0))) : (loadVar 101 ⟨g, 0, none⟩).run Try.prog W = .ok (.agg R.toArray) W :=
  run_loadVar_row (P := Try.prog) W g 101 101 R.toArray (0, 0) _ h Try.underlying101 rfl (by rw [size101]; simp [hR])
theorem results_rdr (W : World) (g : Nat) (tmps : Array Value) (v v0 v1 v2 : Value) (ht4 : tmps[4]? = some v) (ht : tmps[5]? = some (.pointer (some ⟨g, 0, none⟩))) (h : W.heap[g]? = some (.cells #[v0, v1, v2] 101 (0, 0))) : (results Try.f61 tmps).run Try.prog W = .ok (.tuple #[v, .agg #[v0, v1, v2]]) W := by
  have h0 := blk_cell h 0
  have h1 := blk_cell h 1
  have h2 := blk_cell h 2
  simp only [List.getElem?_toArray, List.getElem?_cons_zero, List.getElem?_cons_succ] at h0 h1 h2
  clear h
  simp [results, Try.results61, go_sem, ht, ht4, h0, h1, h2]
theorem set3 {W : World} {g : Nat} {v0 v1 v2 u0 u1 u2 : Value} {t : TypeId} (h : W.heap[g]? = some (.cells #[v0, v1, v2] t (0, 0))) : (((W.setCell ⟨g, 0, none⟩ u0).setCell ⟨g, 1, none⟩ u1).setCell ⟨g, 2, none⟩ u2).heap[g]? = some (.cells [u0, u1, u2].toArray t (0, 0)) := by
  have h1 := blk_set h 0 u0
  have h2 := blk_set h1 1 u1
  have h3 := blk_set h2 2 u2
  simpa using h3
theorem below3 {B : Nat} {w : World} (W : World) (g : Nat) (u0 u1 u2 : Value) (h : Below B w W) (hB : B ≤ g) : Below B w (((W.setCell ⟨g, 0, none⟩ u0).setCell ⟨g, 1, none⟩ u1).setCell ⟨g, 2, none⟩ u2) := ((h.setCell hB _).setCell hB _).setCell hB _

set_option maxHeartbeats 1600000 in
set_option maxRecDepth 100000 in
theorem rtake_calls (size : Nat) (hs : size = 1 ∨ size = 2 ∨ size = 4) (xs : List Int) (A : Option Addr) (c p : Nat) (b : Bool) (w : World) (hx : RdB w A xs) (hby : Bytes xs) (hp : p ≤ xs.length) :
    Calls Try.prog 61 #[.agg (rdr A xs.length c p b).toArray, .int .i64 size] w fun e w' => ∃ (n q : Nat) (b' : Bool), e = .returned (.tuple #[.int .i64 n, .agg (rdr A xs.length c q b').toArray]) ∧ Tot (numP xs size) p b n q b' ∧ n ≤ 4294967295 ∧ q ≤ xs.length ∧ Below w.heap.size w w' := by
  have hlen : xs.length ≤ 9223372036854775807 := hx.2.1
  unfold rdr
  have hb0 := (Below.refl w.heap.size w).alloc (Nat.le_refl _) (.cells #[.slice A xs.length c, .int .i64 p, .bool b] 101)
  have hb1 := hb0.alloc hb0.size (.cells #[.slice none 0 0, .int .i64 0, .bool false] 101)
  have HC := Aside0.mk (refTake_calls size hs xs A c p _ (Kd.C_below hx hb1) hby)
  have hk0 := blk_alloc (blk_new w (.cells #[.slice A xs.length c, .int .i64 p, .bool b] 101)) (.cells #[.slice none 0 0, .int .i64 0, .bool false] 101)
  have hk1 := blk_new1 w (.cells #[.slice none 0 0, .int .i64 0, .bool false] 101) (.cells #[.slice A xs.length c, .int .i64 p, .bool b] 101)
  go_enter Try.func61, Try.ntmps61
  go_wp2_with fail
  refine HC.out.mono ?_
  rintro e w' ⟨rfl, n, q, k, rfl, hn, hq, hor⟩
  clear HC hb0
  generalize (w.alloc _).alloc _ = w2 at hb1 hk0 hk1 ⊢
  obtain ⟨g, hg⟩ : ∃ g, w.heap.size = g := ⟨_, rfl⟩
  rw [hg] at hb1 hk0 hk1 ⊢
  have HR : Aside0 (∀ u0 u1 u2, (((w2.setCell ⟨g + 1, 0, none⟩ u0).setCell ⟨g + 1, 1, none⟩ u1).setCell ⟨g + 1, 2, none⟩ u2).drew.heap[g + 1]? = some (.cells #[u0, u1, u2] 101 (0, 0))) := ⟨fun u0 u1 u2 => set3 hk1⟩
  have HBW : Aside0 (∀ u0 u1 u2, Below g w (((w2.setCell ⟨g + 1, 0, none⟩ u0).setCell ⟨g + 1, 1, none⟩ u1).setCell ⟨g + 1, 2, none⟩ u2).drew) := ⟨fun u0 u1 u2 => (below3 _ _ u0 u1 u2 hb1 (by omega)).drew⟩
  have c0 := blk_cell hk0 0
  have c1 := blk_cell hk0 1
  have c2 := blk_cell hk0 2
  have d0 := blk_cell hk1 0
  have d1 := blk_cell hk1 1
  have d2 := blk_cell hk1 2
  have f0 := blk_free hk1 0
  have f1 := blk_free hk1 1
  have f2 := blk_free hk1 2
  simp only [List.getElem?_toArray, List.getElem?_cons_zero, List.getElem?_cons_succ] at c0 c1 c2 d0 d1 d2
  have hlt := blk_lt hk1
  have HG := Aside0.mk hg
  clear hk0 hk1 hg hb1 hx hby hs
  rcases hor with ⟨rfl, e1, e2, hv⟩ | ⟨rfl, e1, e2, hv, rfl, rfl⟩
  · have HV := Aside0.mk hv
    clear hv
    cases b
    · go_wp2
      go_region
      go_wp2
      refine bodyPost_ret (results_rdr _ (g + 1) _ _ _ _ _ rfl rfl (HR.out _ _ _)) rfl ⟨n, q, false, rfl, .inl ⟨rfl, rfl, HV.out⟩, hn, hq, ?_⟩
      rw [HG.out]
      exact HBW.out _ _ _
    · go_wp2
      go_region
      go_wp2
      refine bodyPost_ret (results_rdr _ (g + 1) _ _ _ _ _ rfl rfl (HR.out _ _ _)) rfl ⟨0, p, true, rfl, .inr ⟨rfl, .inl rfl⟩, by omega, hp, ?_⟩
      rw [HG.out]
      exact HBW.out _ _ _
  · have HV := Aside0.mk hv
    clear hv
    have HT : Aside0 (∀ b0 : Bool, Tot (numP xs size) p b0 0 p true) := ⟨fun b0 => .inr ⟨rfl, .inr HV.out⟩⟩
    cases b
    all_goals
      go_wp2
      go_region
      go_wp2
      refine bodyPost_ret (results_rdr _ (g + 1) _ _ _ _ _ rfl rfl (HR.out _ _ _)) rfl ⟨0, p, true, rfl, HT.out _, by omega, hp, ?_⟩
      rw [HG.out]
      exact HBW.out _ _ _
end Go.Proofs.Ytfbmgjanplnabaa
/- exergueref16.text: a text of the pool. -/
namespace Go.Proofs.Ytfbmgjanplnabaa
open Go.RowKit Go.Proofs.YtfbmgjanplnabaaW.PrintWords Go.Proofs.YtfbmgjanplnabaaW.PrintLast Go.Proofs.YtfbmgjanplnabaaW.PrintMore
set_option linter.unusedVariables false
set_option linter.unusedSimpArgs false

theorem results_txt (W : World) (g : Nat) (tmps : Array Value) (v v0 v1 v2 : Value) (ht4 : tmps[4]? = some v) (ht : tmps[5]? = some (.pointer (some ⟨g, 0, none⟩))) (h : W.heap[g]? = some (.cells #[v0, v1, v2] 101 (0, 0))) : (results Try.f59 tmps).run Try.prog W = .ok (.tuple #[v, .agg #[v0, v1, v2]]) W := by
  have h0 := blk_cell h 0
  have h1 := blk_cell h 1
  have h2 := blk_cell h 2
  simp only [List.getElem?_toArray, List.getElem?_cons_zero, List.getElem?_cons_succ] at h0 h1 h2
  clear h
  simp [results, Try.results59, go_sem, ht, ht4, h0, h1, h2]
theorem txt_none_of {xs : List Int} {pool : List ByteArray} {p n q : Nat} {b : Bool} (h : Tot (numP xs 2) p b n q true) : b = true ∨ txtP xs pool p = none := by
  rcases h with ⟨_, h, _⟩ | ⟨_, h | h⟩
  · cases h
  · exact .inl h
  · exact .inr (by unfold txtP; rw [h]; rfl)
theorem txt_far {xs : List Int} {pool : List ByteArray} {p n q : Nat} {b : Bool} (h : Tot (numP xs 2) p b n q false) (hn : ¬ n < pool.length) : b = true ∨ txtP xs pool p = none := by
  rcases h with ⟨_, _, h⟩ | ⟨h, _⟩
  · exact .inr (by unfold txtP; rw [h]; simp [List.getElem?_eq_none (Nat.le_of_not_lt hn)])
  · cases h
theorem txt_near {xs : List Int} {pool : List ByteArray} {p n q : Nat} {b : Bool} (h : Tot (numP xs 2) p b n q false) (hn : n < pool.length) : b = false ∧ txtP xs pool p = some (pool[n], q) := by
  rcases h with ⟨h1, _, h⟩ | ⟨h, _⟩
  · exact ⟨h1, by unfold txtP; rw [h]; simp [List.getElem?_eq_getElem hn]⟩
  · cases h
set_option maxHeartbeats 1600000 in
set_option maxRecDepth 100000 in
theorem rtext_calls (pool : List ByteArray) (Ap : Option Addr) (cp : Nat) (xs : List Int) (A : Option Addr) (c p : Nat) (b : Bool) (w : World) (hpl : RdS w Ap pool) (hx : RdB w A xs) (hby : Bytes xs) (hp : p ≤ xs.length) :
    Calls Try.prog 59 #[.agg (rdr A xs.length c p b).toArray, .slice Ap pool.length cp] w fun e w' => ∃ (s : ByteArray) (q : Nat) (b' : Bool), e = .returned (.tuple #[.string s, .agg (rdr A xs.length c q b').toArray]) ∧ Tot (txtP xs pool) p b s q b' ∧ q ≤ xs.length ∧ Below w.heap.size w w' := by
  have hlen : xs.length ≤ 9223372036854775807 := hx.2.1
  have hplen : pool.length ≤ 9223372036854775807 := hpl.2.1
  have hb0 := (Below.refl w.heap.size w).alloc (Nat.le_refl _) (.cells #[.slice A xs.length c, .int .i64 p, .bool b] 101)
  have hb1 := hb0.alloc hb0.size (.cells #[.slice none 0 0, .int .i64 0, .bool false] 101)
  have hk0 := blk_alloc (blk_new w (.cells #[.slice A xs.length c, .int .i64 p, .bool b] 101)) (.cells #[.slice none 0 0, .int .i64 0, .bool false] 101)
  have hk1 := blk_new1 w (.cells #[.slice none 0 0, .int .i64 0, .bool false] 101) (.cells #[.slice A xs.length c, .int .i64 p, .bool b] 101)
  have HC := Aside0.mk (rtake_calls 2 (.inr (.inl rfl)) xs A c p b _ (Kd.C_below hx hb1) hby hp)
  have HPL := Aside0.mk (Kd.C_below hpl hb1)
  unfold rdr at HC ⊢
  obtain ⟨w1, hw1⟩ : ∃ w1, (w.alloc (.cells #[.slice A xs.length c, .int .i64 p, .bool b] 101)).alloc (.cells #[.slice none 0 0, .int .i64 0, .bool false] 101) = w1 := ⟨_, rfl⟩
  rw [hw1] at hb1 hk0 hk1 HC HPL
  obtain ⟨g, hg⟩ : ∃ g, w.heap.size = g := ⟨_, rfl⟩
  rw [hg] at hb1 hk0 hk1 ⊢
  have c0 := blk_cell hk0 0
  have c1 := blk_cell hk0 1
  have c2 := blk_cell hk0 2
  simp only [List.getElem?_toArray, List.getElem?_cons_zero, List.getElem?_cons_succ] at c0 c1 c2
  have HK0 := Aside0.mk hk0
  have HK1 := Aside0.mk hk1
  have HB1 := Aside0.mk hb1
  have HS1 : Aside0 (g ≤ w1.heap.size) := ⟨by have := hb1.size; rw [hg] at this; exact this⟩
  clear hpl hx hby hb0 hb1 hk0 hk1
  go_enter Try.func59, Try.ntmps59
  go_wp2_with fail
  refine HC.out.mono ?_
  rintro e w2 ⟨n, q, b', rfl, ht, hn, hq, hb⟩
  have hbw := below_then HB1.out HS1.out hb
  have hgs : g ≤ w2.heap.size := by have := hbw.size; rw [hg] at this; exact this
  have hk0 := blk_alloc (blk_below HK0.out hb (blk_lt HK0.out)) (.cells #[.slice A xs.length c, .int .i64 q, .bool b'] 101)
  have hk1 := blk_alloc (blk_below HK1.out hb (blk_lt HK1.out)) (.cells #[.slice A xs.length c, .int .i64 q, .bool b'] 101)
  have hk2 := blk_new w2 (.cells #[.slice A xs.length c, .int .i64 q, .bool b'] 101)
  have HPL2 := Aside0.mk (Kd.C_alloc (Kd.C_below HPL.out hb) (.cells #[.slice A xs.length c, .int .i64 q, .bool b'] 101))
  have hb3 := hbw.alloc hgs (.cells #[.slice A xs.length c, .int .i64 q, .bool b'] 101)
  have c0 := blk_cell hk0 0
  have c1 := blk_cell hk0 1
  have c2 := blk_cell hk0 2
  have d0 := blk_cell hk1 0
  have d1 := blk_cell hk1 1
  have d2 := blk_cell hk1 2
  have f0 := blk_free hk1 0
  have f1 := blk_free hk1 1
  have f2 := blk_free hk1 2
  have e0 := blk_cell hk2 0
  have e1 := blk_cell hk2 1
  have e2 := blk_cell hk2 2
  simp only [List.getElem?_toArray, List.getElem?_cons_zero, List.getElem?_cons_succ] at c0 c1 c2 d0 d1 d2 e0 e1 e2
  have hlt := blk_lt hk1
  have HT := Aside0.mk ht
  have HR : Aside0 (∀ u0 u1 u2, ((((w2.alloc (.cells #[.slice A xs.length c, .int .i64 q, .bool b'] 101)).setCell ⟨g + 1, 0, none⟩ u0).setCell ⟨g + 1, 1, none⟩ u1).setCell ⟨g + 1, 2, none⟩ u2).drew.heap[g + 1]? = some (.cells #[u0, u1, u2] 101 (0, 0))) := ⟨fun u0 u1 u2 => set3 hk1⟩
  have HBW : Aside0 (∀ u0 u1 u2, Below g w ((((w2.alloc (.cells #[.slice A xs.length c, .int .i64 q, .bool b'] 101)).setCell ⟨g + 1, 0, none⟩ u0).setCell ⟨g + 1, 1, none⟩ u1).setCell ⟨g + 1, 2, none⟩ u2).drew) := ⟨fun u0 u1 u2 => (below3 _ _ u0 u1 u2 hb3 (by omega)).drew⟩
  clear HC HK0 HK1 HB1 hk0 hk1 hk2 hb ht hw1 HPL HS1 hbw hgs hb3
  cases b' with
  | true =>
    have HN : Aside0 (Tot (txtP xs pool) p b ⟨#[]⟩ p true) := ⟨.inr ⟨rfl, txt_none_of HT.out⟩⟩
    go_wp2
    go_region
    go_wp2
    refine bodyPost_ret (results_txt _ (g + 1) _ _ _ _ _ rfl rfl (HR.out _ _ _)) rfl ⟨⟨#[]⟩, p, true, rfl, HN.out, hp, HBW.out _ _ _⟩
  | false =>
    by_cases hlt2 : n < pool.length
    · obtain ⟨rfl, hnear⟩ := txt_near HT.out hlt2
      have HN : Aside0 (Tot (txtP xs pool) p false pool[n] q false) := ⟨.inl ⟨rfl, rfl, hnear⟩⟩
      obtain ⟨bb, off, rfl, hcell⟩ := at_SQ HPL2.out n hlt2
      clear hnear
      go_wp2
      go_region
      go_wp2
      refine bodyPost_ret (results_txt _ (g + 1) _ _ _ _ _ rfl rfl (HR.out _ _ _)) rfl ⟨_, q, false, rfl, HN.out, hq, HBW.out _ _ _⟩
    · have HN : Aside0 (Tot (txtP xs pool) p b ⟨#[]⟩ p true) := ⟨.inr ⟨rfl, txt_far HT.out hlt2⟩⟩
      go_wp2
      go_region
      go_wp2
      refine bodyPost_ret (results_txt _ (g + 1) _ _ _ _ _ rfl rfl (HR.out _ _ _)) rfl ⟨⟨#[]⟩, p, true, rfl, HN.out, hp, HBW.out _ _ _⟩
end Go.Proofs.Ytfbmgjanplnabaa
/- exergueref16.signs. -/
namespace Go.Proofs.Ytfbmgjanplnabaa
open Go.RowKit Go.Proofs.YtfbmgjanplnabaaW.PrintWords Go.Proofs.YtfbmgjanplnabaaW.PrintLast Go.Proofs.YtfbmgjanplnabaaW.PrintMore
set_option linter.unusedVariables false
set_option linter.unusedSimpArgs false

/-- A reader k steps on the way to n of a kind. -/
def RepT {α : Type} (f : PS α) (n p0 : Nat) (b0 : Bool) (acc : List α) (k p : Nat) (b : Bool) : Prop :=
  (b0 = false ∧ b = false ∧ rep f n p0 = (rep f (n - k) p).map fun r => (acc ++ r.1, r.2)) ∨ (b = true ∧ (b0 = true ∨ rep f n p0 = none))
theorem RepT.start {α : Type} (f : PS α) (n p0 : Nat) (b0 : Bool) : RepT f n p0 b0 [] 0 p0 b0 := by
  cases b0 with
  | true => exact .inr ⟨rfl, .inl rfl⟩
  | false =>
    refine .inl ⟨rfl, rfl, ?_⟩
    rw [Nat.sub_zero]
    cases rep f n p0 <;> simp
theorem RepT.step {α : Type} {f : PS α} {n p0 k p q : Nat} {b0 b b' : Bool} {acc : List α} {v : α} (h : RepT f n p0 b0 acc k p b) (hk : k < n) (ht : Tot f p b v q b') : RepT f n p0 b0 (acc ++ [v]) (k + 1) q b' := by
  rcases h with ⟨h0, h1, h2⟩ | ⟨h1, h2⟩
  · rcases ht with ⟨_, t1, t2⟩ | ⟨t1, t2⟩
    · refine .inl ⟨h0, t1, ?_⟩
      rw [h2, show n - k = (n - (k + 1)) + 1 by omega, show rep f ((n - (k + 1)) + 1) p = (f p).bind fun r => (rep f (n - (k + 1)) r.2).map fun q => (r.1 :: q.1, q.2) from rfl, t2]
      simp only [Option.bind_some]
      cases rep f (n - (k + 1)) q <;> simp
    · refine .inr ⟨t1, .inr ?_⟩
      rcases t2 with t2 | t2
      · rw [h1] at t2; cases t2
      · rw [h2, show n - k = (n - (k + 1)) + 1 by omega, show rep f ((n - (k + 1)) + 1) p = (f p).bind fun r => (rep f (n - (k + 1)) r.2).map fun q => (r.1 :: q.1, q.2) from rfl, t2]
        rfl
  · rcases ht with ⟨t0, t1, t2⟩ | ⟨t1, t2⟩
    · rw [h1] at t0; cases t0
    · exact .inr ⟨t1, h2⟩
theorem RepT.end_ {α : Type} {f : PS α} {n p0 p : Nat} {b0 b : Bool} {acc : List α} (h : RepT f n p0 b0 acc n p b) : Tot (rep f n) p0 b0 acc p b := by
  rcases h with ⟨h0, h1, h2⟩ | h
  · refine .inl ⟨h0, h1, ?_⟩
    rw [h2, Nat.sub_self]
    show some (acc ++ [], p) = _
    rw [List.append_nil]
  · exact .inr h
theorem RepT.bad {α : Type} {f : PS α} {n p0 k p : Nat} {b0 : Bool} {acc acc' : List α} (h : RepT f n p0 b0 acc k p true) : Tot (rep f n) p0 b0 acc' p true := by
  rcases h with ⟨_, h1, _⟩ | h
  · cases h1
  · exact .inr h
theorem tot_sgn {xs : List Int} {p n q : Nat} {b b' : Bool} (h : Tot (numP xs 4) p b n q b') : Tot (sgnP xs) p b (wrap32 n) q b' := by
  rcases h with ⟨h1, h2, h3⟩ | ⟨h1, h2⟩
  · exact .inl ⟨h1, h2, by unfold sgnP; rw [h3]; rfl⟩
  · refine .inr ⟨h1, h2.imp id (fun h => ?_)⟩
    unfold sgnP; rw [h]; rfl
/-- Seven cells, k of them told. -/
def sevs (zs : List Int) : List Int := zs ++ List.replicate (7 - zs.length) 0
theorem sevs_len {zs : List Int} (h : zs.length ≤ 7) : (sevs zs).length = 7 := by unfold sevs; rw [List.length_append, List.length_replicate]; omega
theorem sevs_set {zs : List Int} {k : Nat} {z : Int} (hk : zs.length = k) (h : k < 7) : (((sevs zs).map (Value.int .i32)).toArray).setIfInBounds k (.int .i32 z) = ((sevs (zs ++ [z])).map (Value.int .i32)).toArray := by
  unfold sevs
  rw [List.setIfInBounds_toArray, ← List.map_set, List.set_append_right _ _ (by omega), show 7 - zs.length = (7 - (zs ++ [z]).length) + 1 by rw [List.length_append]; simp; omega, List.replicate_succ, hk, Nat.sub_self, List.set_cons_zero, List.append_assoc]
  rfl
structure SInv (w : World) (g : Nat) (A : Option Addr) (n c : Nat) (W : World) (p : Nat) (b : Bool) (zs : List Int) : Prop where
  k0 : W.heap[g]? = some (.cells #[.slice A n c, .int .i64 p, .bool b] 101 (0, 0))
  k1 : W.heap[g + 1]? = some (.cells #[.int .i32 0, .int .i32 0, .int .i32 0, .int .i32 0, .int .i32 0, .int .i32 0, .int .i32 0] 23 (0, 0))
  k2 : W.heap[g + 1 + 1]? = some (.cells #[.slice none 0 0, .int .i64 0, .bool false] 101 (0, 0))
  k3 : W.heap[g + 1 + 1 + 1]? = some (.cells ((sevs zs).map (Value.int .i32)).toArray 124 (0, 0))
  below : Below g w W
  len : zs.length ≤ 7
theorem SInv.call {w W W' : World} {g : Nat} {A : Option Addr} {n c p : Nat} {b : Bool} {zs : List Int} (h : SInv w g A n c W p b zs) (hb : Below W.heap.size W W') (hg : g ≤ W.heap.size) : SInv w g A n c W' p b zs :=
  ⟨blk_below h.k0 hb (blk_lt h.k0), blk_below h.k1 hb (blk_lt h.k1), blk_below h.k2 hb (blk_lt h.k2), blk_below h.k3 hb (blk_lt h.k3), below_then h.below hg hb, h.len⟩
theorem SInv.alloc {w W : World} {g : Nat} {A : Option Addr} {n c p : Nat} {b : Bool} {zs : List Int} (h : SInv w g A n c W p b zs) (o : Obj) (hg : g ≤ W.heap.size) : SInv w g A n c (W.alloc o) p b zs :=
  h.call ((Below.refl _ _).alloc (Nat.le_refl _) o) hg
theorem SInv.put {w W : World} {g : Nat} {A : Option Addr} {n c p : Nat} {b : Bool} {zs : List Int} {k : Nat} (h : SInv w g A n c W p b zs) (hk : zs.length = k) (h7 : k < 7) (z : Int) : SInv w g A n c (W.setCell ⟨g + 1 + 1 + 1, k, none⟩ (.int .i32 z)) p b (zs ++ [z]) :=
  ⟨blk_other h.k0 (by first | omega | (simp; done) | (simp; omega)) _, blk_other h.k1 (by first | omega | (simp; done) | (simp; omega)) _, blk_other h.k2 (by first | omega | (simp; done) | (simp; omega)) _, by rw [blk_set h.k3, sevs_set hk h7], h.below.setCell (by first | omega | (simp; done) | (simp; omega)) _, by rw [List.length_append]; simp; omega⟩
theorem SInv.move {w W : World} {g : Nat} {A : Option Addr} {n c p : Nat} {b : Bool} {zs : List Int} (h : SInv w g A n c W p b zs) (q : Nat) (b' : Bool) : SInv w g A n c (((W.setCell ⟨g, 0, none⟩ (.slice A n c)).setCell ⟨g, 1, none⟩ (.int .i64 q)).setCell ⟨g, 2, none⟩ (.bool b')) q b' zs :=
  ⟨set3 h.k0, blk_other (blk_other (blk_other h.k1 (by first | omega | (simp; done) | (simp; omega)) _) (by first | omega | (simp; done) | (simp; omega)) _) (by first | omega | (simp; done) | (simp; omega)) _, blk_other (blk_other (blk_other h.k2 (by first | omega | (simp; done) | (simp; omega)) _) (by first | omega | (simp; done) | (simp; omega)) _) (by first | omega | (simp; done) | (simp; omega)) _, blk_other (blk_other (blk_other h.k3 (by first | omega | (simp; done) | (simp; omega)) _) (by first | omega | (simp; done) | (simp; omega)) _) (by first | omega | (simp; done) | (simp; omega)) _, below3 _ _ _ _ _ h.below (Nat.le_refl _), h.len⟩
theorem SInv.start (w : World) (A : Option Addr) (n c p : Nat) (b : Bool) : SInv w w.heap.size A n c ((((w.alloc (.cells #[.slice A n c, .int .i64 p, .bool b] 101)).alloc (.cells #[.int .i32 0, .int .i32 0, .int .i32 0, .int .i32 0, .int .i32 0, .int .i32 0, .int .i32 0] 23)).alloc (.cells #[.slice none 0 0, .int .i64 0, .bool false] 101)).alloc (.cells #[.int .i32 0, .int .i32 0, .int .i32 0, .int .i32 0, .int .i32 0, .int .i32 0, .int .i32 0] 124)) p b [] := by
  have a0 := blk_new w (.cells #[.slice A n c, .int .i64 p, .bool b] 101)
  have h0 := (Below.refl w.heap.size w).alloc (Nat.le_refl _) (.cells #[.slice A n c, .int .i64 p, .bool b] 101)
  have s0 := size_alloc w (.cells #[.slice A n c, .int .i64 p, .bool b] 101)
  generalize w.alloc _ = w1 at a0 h0 s0 ⊢
  have a1 := blk_new w1 (.cells #[.int .i32 0, .int .i32 0, .int .i32 0, .int .i32 0, .int .i32 0, .int .i32 0, .int .i32 0] 23)
  have h1 := h0.alloc h0.size (.cells #[.int .i32 0, .int .i32 0, .int .i32 0, .int .i32 0, .int .i32 0, .int .i32 0, .int .i32 0] 23)
  have s1 := size_alloc w1 (.cells #[.int .i32 0, .int .i32 0, .int .i32 0, .int .i32 0, .int .i32 0, .int .i32 0, .int .i32 0] 23)
  have b0 := blk_alloc a0 (.cells #[.int .i32 0, .int .i32 0, .int .i32 0, .int .i32 0, .int .i32 0, .int .i32 0, .int .i32 0] 23)
  generalize w1.alloc _ = w2 at a1 h1 s1 b0 ⊢
  have a2 := blk_new w2 (.cells #[.slice none 0 0, .int .i64 0, .bool false] 101)
  have h2 := h1.alloc h1.size (.cells #[.slice none 0 0, .int .i64 0, .bool false] 101)
  have s2 := size_alloc w2 (.cells #[.slice none 0 0, .int .i64 0, .bool false] 101)
  have b1 := blk_alloc a1 (.cells #[.slice none 0 0, .int .i64 0, .bool false] 101)
  have c0 := blk_alloc b0 (.cells #[.slice none 0 0, .int .i64 0, .bool false] 101)
  generalize w2.alloc _ = w3 at a2 h2 s2 b1 c0 ⊢
  have a3 := blk_new w3 (.cells #[.int .i32 0, .int .i32 0, .int .i32 0, .int .i32 0, .int .i32 0, .int .i32 0, .int .i32 0] 124)
  rw [s0] at a1 b1 s1
  rw [s1] at s2
  rw [s1] at a2
  rw [s2] at a3
  exact ⟨blk_alloc c0 _, blk_alloc b1 _, blk_alloc a2 _, a3, h2.alloc h2.size _, Nat.zero_le _⟩
theorem list7 {zs : List Int} (h : zs.length = 7) : ∃ z0 z1 z2 z3 z4 z5 z6, zs = [z0, z1, z2, z3, z4, z5, z6] := by
  match zs, h with
  | [z0, z1, z2, z3, z4, z5, z6], _ => exact ⟨z0, z1, z2, z3, z4, z5, z6, rfl⟩
set_option maxHeartbeats 1600000 in
theorem results_sgn (W : World) (g1 g2 : Nat) (tmps : Array Value) (ht2 : tmps[2]? = some (.pointer (some ⟨g1, 0, none⟩))) (ht3 : tmps[3]? = some (.pointer (some ⟨g2, 0, none⟩))) (v0 v1 v2 v3 v4 v5 v6 u0 u1 u2 : Value)
    (h : W.heap[g1]? = some (.cells #[v0, v1, v2, v3, v4, v5, v6] 23 (0, 0))) (h' : W.heap[g2]? = some (.cells #[u0, u1, u2] 101 (0, 0))) : (results Try.f60 tmps).run Try.prog W = .ok (.tuple #[.agg #[v0, v1, v2, v3, v4, v5, v6], .agg #[u0, u1, u2]]) W := by
  have h0 := blk_cell h 0
  have h1 := blk_cell h 1
  have h2 := blk_cell h 2
  have h3 := blk_cell h 3
  have h4 := blk_cell h 4
  have h5 := blk_cell h 5
  have h6 := blk_cell h 6
  have i0 := blk_cell h' 0
  have i1 := blk_cell h' 1
  have i2 := blk_cell h' 2
  simp only [List.getElem?_toArray, List.getElem?_cons_zero, List.getElem?_cons_succ] at h0 h1 h2 h3 h4 h5 h6 i0 i1 i2
  clear h h'
  simp [results, Try.results60, go_sem, ht2, ht3, h0, h1, h2, h3, h4, h5, h6, i0, i1, i2]
theorem set7 {W : World} {g : Nat} {v0 v1 v2 v3 v4 v5 v6 u0 u1 u2 u3 u4 u5 u6 : Value} {t : TypeId} (h : W.heap[g]? = some (.cells #[v0, v1, v2, v3, v4, v5, v6] t (0, 0))) : (((((((W.setCell ⟨g, 0, none⟩ u0).setCell ⟨g, 1, none⟩ u1).setCell ⟨g, 2, none⟩ u2).setCell ⟨g, 3, none⟩ u3).setCell ⟨g, 4, none⟩ u4).setCell ⟨g, 5, none⟩ u5).setCell ⟨g, 6, none⟩ u6).heap[g]? = some (.cells #[u0, u1, u2, u3, u4, u5, u6] t (0, 0)) := by
  have h1 := blk_set (blk_set (blk_set (blk_set (blk_set (blk_set (blk_set h 0 u0) 1 u1) 2 u2) 3 u3) 4 u4) 5 u5) 6 u6
  simpa using h1
theorem below7 {B : Nat} {w : World} (W : World) (g : Nat) (u0 u1 u2 u3 u4 u5 u6 : Value) (h : Below B w W) (hB : B ≤ g) : Below B w (((((((W.setCell ⟨g, 0, none⟩ u0).setCell ⟨g, 1, none⟩ u1).setCell ⟨g, 2, none⟩ u2).setCell ⟨g, 3, none⟩ u3).setCell ⟨g, 4, none⟩ u4).setCell ⟨g, 5, none⟩ u5).setCell ⟨g, 6, none⟩ u6) := ((((((h.setCell hB _).setCell hB _).setCell hB _).setCell hB _).setCell hB _).setCell hB _).setCell hB _
theorem other7 {W : World} {g k : Nat} {o : Obj} (h : W.heap[k]? = some o) (hne : k ≠ g) (u0 u1 u2 u3 u4 u5 u6 : Value) : (((((((W.setCell ⟨g, 0, none⟩ u0).setCell ⟨g, 1, none⟩ u1).setCell ⟨g, 2, none⟩ u2).setCell ⟨g, 3, none⟩ u3).setCell ⟨g, 4, none⟩ u4).setCell ⟨g, 5, none⟩ u5).setCell ⟨g, 6, none⟩ u6).heap[k]? = some o := blk_other (blk_other (blk_other (blk_other (blk_other (blk_other (blk_other h hne _) hne _) hne _) hne _) hne _) hne _) hne _
theorem other3 {W : World} {g k : Nat} {o : Obj} (h : W.heap[k]? = some o) (hne : k ≠ g) (u0 u1 u2 : Value) : (((W.setCell ⟨g, 0, none⟩ u0).setCell ⟨g, 1, none⟩ u1).setCell ⟨g, 2, none⟩ u2).heap[k]? = some o := blk_other (blk_other (blk_other h hne _) hne _) hne _
theorem end_all {w W : World} {g : Nat} {c0 c1 c2 c3 c4 c5 c6 d0 d1 d2 : Value} (h : W.heap[g + 1]? = some (.cells #[c0, c1, c2, c3, c4, c5, c6] 23 (0, 0))) (h' : W.heap[g + 1 + 1]? = some (.cells #[d0, d1, d2] 101 (0, 0))) (hb : Below g w W) (u0 u1 u2 u3 u4 u5 u6 v0 v1 v2 : Value) :
    ((((((((((W.setCell ⟨g + 1, 0, none⟩ u0).setCell ⟨g + 1, 1, none⟩ u1).setCell ⟨g + 1, 2, none⟩ u2).setCell ⟨g + 1, 3, none⟩ u3).setCell ⟨g + 1, 4, none⟩ u4).setCell ⟨g + 1, 5, none⟩ u5).setCell ⟨g + 1, 6, none⟩ u6).setCell ⟨g + 1 + 1, 0, none⟩ v0).setCell ⟨g + 1 + 1, 1, none⟩ v1).setCell ⟨g + 1 + 1, 2, none⟩ v2).drew.heap[g + 1]? = some (.cells #[u0, u1, u2, u3, u4, u5, u6] 23 (0, 0)) ∧ ((((((((((W.setCell ⟨g + 1, 0, none⟩ u0).setCell ⟨g + 1, 1, none⟩ u1).setCell ⟨g + 1, 2, none⟩ u2).setCell ⟨g + 1, 3, none⟩ u3).setCell ⟨g + 1, 4, none⟩ u4).setCell ⟨g + 1, 5, none⟩ u5).setCell ⟨g + 1, 6, none⟩ u6).setCell ⟨g + 1 + 1, 0, none⟩ v0).setCell ⟨g + 1 + 1, 1, none⟩ v1).setCell ⟨g + 1 + 1, 2, none⟩ v2).drew.heap[g + 1 + 1]? = some (.cells #[v0, v1, v2] 101 (0, 0)) ∧ Below g w ((((((((((W.setCell ⟨g + 1, 0, none⟩ u0).setCell ⟨g + 1, 1, none⟩ u1).setCell ⟨g + 1, 2, none⟩ u2).setCell ⟨g + 1, 3, none⟩ u3).setCell ⟨g + 1, 4, none⟩ u4).setCell ⟨g + 1, 5, none⟩ u5).setCell ⟨g + 1, 6, none⟩ u6).setCell ⟨g + 1 + 1, 0, none⟩ v0).setCell ⟨g + 1 + 1, 1, none⟩ v1).setCell ⟨g + 1 + 1, 2, none⟩ v2).drew := by
  have h1 := set7 (u0 := u0) (u1 := u1) (u2 := u2) (u3 := u3) (u4 := u4) (u5 := u5) (u6 := u6) h
  have h2 := other7 h' (show g + 1 + 1 ≠ g + 1 by omega) u0 u1 u2 u3 u4 u5 u6
  have h3 := below7 W (g + 1) u0 u1 u2 u3 u4 u5 u6 hb (by omega)
  generalize ((((((W.setCell ⟨g + 1, 0, none⟩ u0).setCell ⟨g + 1, 1, none⟩ u1).setCell ⟨g + 1, 2, none⟩ u2).setCell ⟨g + 1, 3, none⟩ u3).setCell ⟨g + 1, 4, none⟩ u4).setCell ⟨g + 1, 5, none⟩ u5).setCell ⟨g + 1, 6, none⟩ u6 = W7 at h1 h2 h3 ⊢
  have k1 := other3 h1 (show g + 1 ≠ g + 1 + 1 by omega) v0 v1 v2
  have k2 := set3 (u0 := v0) (u1 := v1) (u2 := v2) h2
  have k3 := (below3 W7 (g + 1 + 1) v0 v1 v2 h3 (by omega)).drew
  exact ⟨k1, k2, k3⟩
set_option maxHeartbeats 3200000 in
set_option maxRecDepth 100000 in
theorem signs_calls (xs : List Int) (A : Option Addr) (c p : Nat) (b : Bool) (w : World) (hx : RdB w A xs) (hby : Bytes xs) (hp : p ≤ xs.length) :
    Calls Try.prog 60 #[.agg (rdr A xs.length c p b).toArray] w fun e w' => ∃ (zs : List Int) (q : Nat) (b' : Bool), e = .returned (.tuple #[.agg (zs.map (Value.int .i32)).toArray, .agg (rdr A xs.length c q b').toArray]) ∧ zs.length = 7 ∧ (∀ z ∈ zs, -2147483648 ≤ z ∧ z ≤ 2147483647) ∧ Tot (rep (sgnP xs) 7) p b zs q b' ∧ q ≤ xs.length ∧ Below w.heap.size w w' := by
  have hlen : xs.length ≤ 9223372036854775807 := hx.2.1
  have HX := Aside0.mk hx
  have HBY := Aside0.mk hby
  have HS0 := Aside0.mk (SInv.start w A xs.length c p b)
  have HRep0 := Aside0.mk (RepT.start (sgnP xs) 7 p b)
  unfold rdr
  clear hx hby
  go_enter Try.func60, Try.ntmps60
  go_wp2_with fail
  obtain ⟨g, hg⟩ : ∃ g, w.heap.size = g := ⟨_, rfl⟩
  have HG := Aside0.mk hg
  rw [hg] at HS0 ⊢
  clear hg
  go_loopw [5] (fun i W => ∃ (k q : Nat) (b' : Bool) (zs : List Int), k ≤ 7 ∧ i = .int .i64 k ∧ q ≤ xs.length ∧ Aside0 (SInv w g A xs.length c W q b' zs) ∧ Aside0 (zs.length = k ∧ (∀ z ∈ zs, -2147483648 ≤ z ∧ z ≤ 2147483647)) ∧ Aside0 (RepT (sgnP xs) 7 p b zs k q b')) (fun i _ => 7 - (intOf i).toNat)
  case atStart => exact ⟨0, p, b, [], by omega, rfl, hp, HS0, ⟨rfl, fun z hz => by cases hz⟩, HRep0⟩
  case round =>
    clear HS0 HRep0
    obtain ⟨k, q, b', zs, hk, rfl, hq, HS, HZ, HR⟩ := hrel
    have hgs : g ≤ wr.heap.size := by have := HS.out.below.size; rw [HG.out] at this; exact this
    by_cases hlt : k < 7
    · have c0 := blk_cell HS.out.k0 0
      have c1 := blk_cell HS.out.k0 1
      have c2 := blk_cell HS.out.k0 2
      simp only [List.getElem?_toArray, List.getElem?_cons_zero, List.getElem?_cons_succ] at c0 c1 c2
      have HC := Aside0.mk (rtake_calls 4 (.inr (.inr rfl)) xs A c q b' wr (Kd.C_below HX.out (HG.out.symm ▸ HS.out.below)) HBY.out hq)
      unfold rdr at HC
      go_wp2_with fail
      refine HC.out.mono ?_
      rintro e w2 ⟨n, q2, b2, rfl, ht, hn, hq2, hb⟩
      have hg2 : g ≤ w2.heap.size := Nat.le_trans hgs hb.size
      have hs2 := (HS.out.call hb hgs).alloc (.cells #[.slice A xs.length c, .int .i64 q2, .bool b2] 101) hg2
      have hk2 := blk_new w2 (.cells #[.slice A xs.length c, .int .i64 q2, .bool b2] 101)
      have hgl : g + 1 + 1 + 1 < w2.heap.size := blk_lt (HS.out.call hb hgs).k3
      obtain ⟨w3, hw3⟩ : ∃ w3, w2.alloc (.cells #[.slice A xs.length c, .int .i64 q2, .bool b2] 101) = w3 := ⟨_, rfl⟩
      rw [hw3] at hs2 hk2
      have c0 := blk_cell hs2.k0 0
      have c1 := blk_cell hs2.k0 1
      have c2 := blk_cell hs2.k0 2
      have f0 := blk_free hs2.k0 0
      have f1 := blk_free hs2.k0 1
      have f2 := blk_free hs2.k0 2
      have e0 := blk_cell hk2 0
      have e1 := blk_cell hk2 1
      have e2 := blk_cell hk2 2
      simp only [List.getElem?_toArray, List.getElem?_cons_zero, List.getElem?_cons_succ] at c0 c1 c2 e0 e1 e2
      obtain ⟨vk, dk⟩ : ∃ vk, w3.cell? ⟨g + 1 + 1 + 1, k, none⟩ = some vk := ⟨_, (blk_cell hs2.k3 k).trans (Array.getElem?_eq_getElem (by have := sevs_len hs2.len; simp; omega))⟩
      have fk := blk_free hs2.k3 k
      have HS2 := Aside0.mk ((hs2.put HZ.out.1 hlt (wrap32 n)).move q2 b2)
      have HR2 := Aside0.mk (HR.out.step hlt (tot_sgn ht))
      have HZ2 : Aside0 ((zs ++ [wrap32 n]).length = k + 1 ∧ (∀ z ∈ zs ++ [wrap32 n], -2147483648 ≤ z ∧ z ≤ 2147483647)) := ⟨by rw [List.length_append, HZ.out.1]; rfl, fun z hz => by
        rcases List.mem_append.1 hz with hz | hz
        · exact HZ.out.2 z hz
        · rw [List.mem_singleton] at hz
          subst hz
          unfold wrap32
          omega⟩
      clear hs2 hk2 hb ht HC HS HZ HR hgs
      go_wp2
      go_roundw
      case rel => exact ⟨k + 1, q2, b2, _, by omega, by go_num, hq2, HS2, HZ2, HR2⟩
      case measure => simp [intOf]; omega
    · obtain rfl : k = 7 := by omega
      obtain ⟨z0, z1, z2, z3, z4, z5, z6, rfl⟩ := list7 HZ.out.1
      have c0 := blk_cell HS.out.k0 0
      have c1 := blk_cell HS.out.k0 1
      have c2 := blk_cell HS.out.k0 2
      have a0 := blk_cell HS.out.k3 0
      have a1 := blk_cell HS.out.k3 1
      have a2 := blk_cell HS.out.k3 2
      have a3 := blk_cell HS.out.k3 3
      have a4 := blk_cell HS.out.k3 4
      have a5 := blk_cell HS.out.k3 5
      have a6 := blk_cell HS.out.k3 6
      have b0 := blk_cell HS.out.k1 0
      have f0 := blk_free HS.out.k1 0
      have b1 := blk_cell HS.out.k1 1
      have f1 := blk_free HS.out.k1 1
      have b2 := blk_cell HS.out.k1 2
      have f2 := blk_free HS.out.k1 2
      have b3 := blk_cell HS.out.k1 3
      have f3 := blk_free HS.out.k1 3
      have b4 := blk_cell HS.out.k1 4
      have f4 := blk_free HS.out.k1 4
      have b5 := blk_cell HS.out.k1 5
      have f5 := blk_free HS.out.k1 5
      have b6 := blk_cell HS.out.k1 6
      have f6 := blk_free HS.out.k1 6
      have d0 := blk_cell HS.out.k2 0
      have e0 := blk_free HS.out.k2 0
      have d1 := blk_cell HS.out.k2 1
      have e1 := blk_free HS.out.k2 1
      have d2 := blk_cell HS.out.k2 2
      have e2 := blk_free HS.out.k2 2
      have hsv : ((sevs [z0, z1, z2, z3, z4, z5, z6]).map (Value.int .i32)).toArray = #[.int .i32 z0, .int .i32 z1, .int .i32 z2, .int .i32 z3, .int .i32 z4, .int .i32 z5, .int .i32 z6] := rfl
      rw [hsv] at a0 a1 a2 a3 a4 a5 a6
      simp only [List.getElem?_toArray, List.getElem?_cons_zero, List.getElem?_cons_succ] at a0 a1 a2 a3 a4 a5 a6 b0 b1 b2 b3 b4 b5 b6 c0 c1 c2 d0 d1 d2
      have HT := Aside0.mk HR.out.end_
      have HK := Aside0.mk (fun (u0 u1 u2 u3 u4 u5 u6 v0 v1 v2 : Value) => end_all HS.out.k1 HS.out.k2 HS.out.below u0 u1 u2 u3 u4 u5 u6 v0 v1 v2)
      clear HS HR hsv
      have hne2 : ¬ (g + 1 + 1 = g) := by omega
      go_wp2
      go_region_held3 (fun W => W.cell? ⟨g + 1 + 1 + 1, 0, none⟩ = some (.int .i32 z0) ∧ W.cell? ⟨g + 1 + 1 + 1, 1, none⟩ = some (.int .i32 z1) ∧ W.cell? ⟨g + 1 + 1 + 1, 2, none⟩ = some (.int .i32 z2) ∧ W.cell? ⟨g + 1 + 1 + 1, 3, none⟩ = some (.int .i32 z3) ∧ W.cell? ⟨g + 1 + 1 + 1, 4, none⟩ = some (.int .i32 z4) ∧ W.cell? ⟨g + 1 + 1 + 1, 5, none⟩ = some (.int .i32 z5) ∧ W.cell? ⟨g + 1 + 1 + 1, 6, none⟩ = some (.int .i32 z6) ∧ W.cell? ⟨g, 0, none⟩ = some (.slice A xs.length c) ∧ W.cell? ⟨g, 1, none⟩ = some (.int .i64 q) ∧ W.cell? ⟨g, 2, none⟩ = some (.bool b')) (go_keep) (first | fail)
      go_wp2
      refine bodyPost_ret (results_sgn _ (g + 1) (g + 1 + 1) _ rfl rfl _ _ _ _ _ _ _ _ _ _ (HK.out _ _ _ _ _ _ _ _ _ _).1 (HK.out _ _ _ _ _ _ _ _ _ _).2.1) rfl ⟨_, q, b', rfl, HZ.out.1, HZ.out.2, HT.out, hq, ?_⟩
      rw [HG.out]
      exact (HK.out _ _ _ _ _ _ _ _ _ _).2.2
end Go.Proofs.Ytfbmgjanplnabaa

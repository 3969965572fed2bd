import Derived.Test.YtfbmgjanplnabaaBL
import Derived.Deep.WholeRow
import Derived.Deep.MidRow
import Derived.Test.YtfbmgjanplnabaaBK
import Derived.OpenShut
import Derived.ChangeArms
/- Words for the laws' walks: a locale's block, read whole. -/
namespace Go.Proofs.Ytfbmgjanplnabaa
open Go.RowKit Go.Proofs.YtfbmgjanplnabaaW.PrintWords Go.Proofs.YtfbmgjanplnabaaW.PrintLast Go.Proofs.YtfbmgjanplnabaaW.PrintMore
set_option linter.unusedVariables false
set_option linter.unusedSimpArgs false

theorem size29 : (Try.prog.info? 29).map (·.size) = some 15 := by kernel_rfl
theorem RdL.length {w : World} {l : Loc} {L : List Value} (h : RdL w l L) : L.length = 15 := by
  obtain ⟨Ar, cr, Ac, cc, Ak, ck, rfl, _⟩ := h
  rfl
/-- A load, a store of a whole locale: not to be taken apart by the walk. -/
def Ld (p : Value) : Sem Value := Instr.loadAt 29 p
def St (p v : Value) : Sem Unit := Instr.storeAt 29 p v
theorem Ld_eq (p : Value) : Instr.loadAt 29 p = Ld p := rfl
theorem St_eq (p v : Value) : Instr.storeAt 29 p v = St p v := rfl
theorem load29 {w : World} {g : Nat} {L : List Value} (hL : L.length = 15) (h : w.heap[g]? = some (.cells L.toArray 29 (0, 0))) : (Ld (.pointer (some ⟨g, 0, none⟩))).run Try.prog w = .ok (.agg L.toArray) w := by
  have h1 := run_loadVar_row (P := Try.prog) w g 29 29 L.toArray (0, 0) _ h Try.underlying29 rfl (by rw [size29]; simp [hL])
  simp only [Ld, Instr.loadAt, Instr.sureAddr, Sem.run_bind, Sem.run_pure, Result.andThen_ok, h1]
theorem store29 {w : World} {c : Array Value} {M : List Value} (hc : c.size = 15) (hM : M.length = 15) (h1 : M.toArray.all (·.oneCell') = true) : (St (.pointer (some ⟨w.heap.size, 0, none⟩)) (.agg M.toArray)).run Try.prog (w.alloc (.cells c 29)) = .ok () (w.alloc (.cells M.toArray 29)) :=
  run_storeAt_new w 29 c M.toArray (by rw [size29]; simp [hM]) (by simp [hc, hM]) h1
theorem RdL.one {w : World} {l : Loc} {L : List Value} (h : RdL w l L) : L.toArray.all (·.oneCell') = true := by
  obtain ⟨Ar, cr, Ac, cc, Ak, ck, rfl, _⟩ := h
  unfold lcells
  simp [Value.oneCell']
theorem Tiny.few {l : Loc} (h : Tiny l) : Few l := ⟨by have := h.1; omega, by have := h.2.1; omega, by have := h.2.2; omega⟩
/-- What a law answers. -/
def yes (w : World) (e : Ending) (w' : World) : Prop := e = .returned (.bool true) ∧ Below w.heap.size w w'
end Go.Proofs.Ytfbmgjanplnabaa
/- Encode and Decode as the laws call them. -/
namespace Go.Proofs.Ytfbmgjanplnabaa
open Go.RowKit Go.Proofs.YtfbmgjanplnabaaW.PrintWords Go.Proofs.YtfbmgjanplnabaaW.PrintLast Go.Proofs.YtfbmgjanplnabaaW.PrintMore
set_option linter.unusedVariables false
set_option linter.unusedSimpArgs false

theorem body_short {l : Loc} (hF : Few l) (hok : encOk l = true) : (body l).length ≤ 3000056 := by
  obtain ⟨hp, _, _, _, _, _, bh⟩ := encOk_parts hok
  have h1 := parts_length l hF hp
  have h2 := head_length l bh
  unfold body
  rw [List.length_append, h2]
  omega
/-- Encode: is there a bundle? -/
theorem encode_yes {l : Loc} {L : List Value} {w : World} (hL : RdL w l L) (hF : Few l) (hz : l.s.ok) (hok : encOk l = true) :
    Calls Try.prog 11 #[.agg L.toArray] w fun e w' => ∃ A c, e = .returned (.tuple #[.slice A (enc l).length c, .int .i64 0]) ∧ RdB w' A (enc l) ∧ (enc l).length ≤ c ∧ Below w.heap.size w w' := by
  refine (encode_calls l L w hL hF hz).mono ?_
  rintro e w' ⟨hb, he⟩
  rw [hok] at he
  obtain ⟨v, rfl, ho⟩ := he
  obtain ⟨A, c, rfl, hcc, hrd⟩ := Kd.R_reads ho
  exact ⟨A, c, rfl, hrd, hcc, hb⟩
theorem encode_no {l : Loc} {L : List Value} {w : World} (hL : RdL w l L) (hF : Few l) (hz : l.s.ok) (hok : encOk l = false) :
    Calls Try.prog 11 #[.agg L.toArray] w fun e w' => e = .returned (.tuple #[.slice none 0 0, .int .i64 1]) ∧ Below w.heap.size w w' := by
  refine (encode_calls l L w hL hF hz).mono ?_
  rintro e w' ⟨hb, he⟩
  rw [hok] at he
  exact ⟨he, hb⟩
/-- Decode. -/
theorem decode_yes {xs : List Int} {l : Loc} {A : Option Addr} {c : Nat} {w : World} (hx : RdB w A xs) (hc : xs.length ≤ c) (hb : Bytes xs) (hm : xs.length ≤ 140737488355328) (hd : decode xs = .inl l) :
    Calls Try.prog 12 #[.slice A xs.length c] w fun e w' => ∃ L, e = .returned (.tuple #[.agg L.toArray, .int .i64 0]) ∧ RdL w' l L ∧ Below w.heap.size w w' := by
  refine (decode_calls xs A c w hx hc hb hm).mono ?_
  rintro e w' ⟨hb, he⟩
  rw [hd] at he
  obtain ⟨L, rfl, ho⟩ := he
  exact ⟨L, rfl, ho.reads, hb⟩
theorem decode_no {xs : List Int} {k : Int} {A : Option Addr} {c : Nat} {w : World} (hx : RdB w A xs) (hc : xs.length ≤ c) (hb : Bytes xs) (hm : xs.length ≤ 140737488355328) (hd : decode xs = .inr k) :
    Calls Try.prog 12 #[.slice A xs.length c] w fun e w' => e = .returned (.tuple #[.agg zcells.toArray, .int .i64 k]) ∧ Below w.heap.size w w' := by
  refine (decode_calls xs A c w hx hc hb hm).mono ?_
  rintro e w' ⟨hb, he⟩
  rw [hd] at he
  exact ⟨he, hb⟩
/-- The locale of nothing. -/
def zloc : Loc := { tag := ⟨#[]⟩, s := ⟨0, 0, 0, 0, 0, 0, 0⟩, p0 := ⟨#[]⟩, p1 := ⟨#[]⟩, p2 := ⟨#[]⟩, p3 := ⟨#[]⟩, rules := [], curs := [], comps := [] }
theorem zloc_reads (w : World) : RdL w zloc zcells :=
  ⟨none, 0, none, 0, none, 0, rfl, Nat.le_refl _, Nat.le_refl _, Nat.le_refl _, Kd.C_nil _ _, Kd.C_nil _ _, Kd.C_nil _ _⟩
theorem decode_inr {xs : List Int} {k : Int} (h : decode xs = .inr k) : k = 2 ∨ k = 6 := by
  unfold decode at h
  split at h
  · injection h with h; exact .inl h.symm
  · split at h
    · split at h
      · injection h with h; exact .inl h.symm
      · split at h
        · cases h
        · injection h with h; exact .inl h.symm
    · injection h with h; exact .inr h.symm
end Go.Proofs.Ytfbmgjanplnabaa
/- exerguelaw16.shown: the document's example holds. -/
namespace Go.Proofs.Ytfbmgjanplnabaa
open Go.RowKit Go.Proofs.YtfbmgjanplnabaaW.PrintWords Go.Proofs.YtfbmgjanplnabaaW.PrintLast Go.Proofs.YtfbmgjanplnabaaW.PrintMore
set_option linter.unusedVariables false
set_option linter.unusedSimpArgs false
attribute [local go_sem ↓] Ld_eq St_eq

def l0 : Loc := { tag := ⟨#[101, 110]⟩, s := ⟨48, 0, 0, 0, 0, 0, 0⟩, p0 := ⟨#[48]⟩, p1 := ⟨#[48, 37]⟩, p2 := ⟨#[48, 69, 48]⟩, p3 := ⟨#[194, 164, 48]⟩, rules := [], curs := [], comps := [] }
theorem l0_ok : encOk l0 = true := by kernel_rfl
theorem l0_z : l0.s.ok := by
  intro z hz
  have : z = 48 ∨ z = 0 := by simpa [syNums, l0] using hz
  omega
theorem l0_few : Few l0 := ⟨by decide, by decide, by decide⟩
theorem l0_head : (body l0).take 12 = [69, 88, 76, 66, 0, 1, 0, 6, 0, 0, 0, 56] := by kernel_rfl
theorem l0_len : decide (56 < (body l0).length) = true := by kernel_rfl
/-- A locale's cells at the zero value; the example's. -/
abbrev ZC : List Value := [.string ⟨#[]⟩, .int .i32 0, .int .i32 0, .int .i32 0, .int .i32 0, .int .i32 0, .int .i32 0, .int .i32 0, .string ⟨#[]⟩, .string ⟨#[]⟩, .string ⟨#[]⟩, .string ⟨#[]⟩, .slice none 0 0, .slice none 0 0, .slice none 0 0]
abbrev L0 : List Value := [.string ⟨#[101, 110]⟩, .int .i32 48, .int .i32 0, .int .i32 0, .int .i32 0, .int .i32 0, .int .i32 0, .int .i32 0, .string ⟨#[48]⟩, .string ⟨#[48, 37]⟩, .string ⟨#[48, 69, 48]⟩, .string ⟨#[194, 164, 48]⟩, .slice none 0 0, .slice none 0 0, .slice none 0 0]
theorem l0_reads (w : World) : RdL w l0 L0 :=
  ⟨none, 0, none, 0, none, 0, rfl, Nat.le_refl _, Nat.le_refl _, Nat.le_refl _, Kd.C_nil _ _, Kd.C_nil _ _, Kd.C_nil _ _⟩

set_option maxHeartbeats 3200000 in
set_option maxRecDepth 100000 in
theorem shown_calls (w : World) : Calls Try.prog 9 #[] w (yes w) := by
  have hst : (St (.pointer (some ⟨w.heap.size, 0, none⟩)) (.agg L0.toArray)).run Try.prog (w.alloc (.cells ZC.toArray 29)) = .ok () (w.alloc (.cells L0.toArray 29)) := store29 rfl rfl (l0_reads w).one
  have HB1 := Aside0.mk ((Below.refl w.heap.size w).alloc (Nat.le_refl _) (.cells L0.toArray 29))
  have HK1 := Aside0.mk (blk_new w (.cells L0.toArray 29))
  have HE := Aside0.mk (encode_yes (l0_reads (w.alloc (.cells L0.toArray 29))) l0_few l0_z l0_ok)
  have HLD : Aside0 (∀ W, W.heap[w.heap.size]? = some (.cells L0.toArray 29 (0, 0)) → (Ld (.pointer (some ⟨w.heap.size, 0, none⟩))).run Try.prog W = .ok (.agg L0.toArray) W) := ⟨fun W h => load29 rfl h⟩
  have hld := HLD.out _ HK1.out
  go_enter Try.func9, Try.ntmps9
  go_wp2_with fail
  clear hst hld
  obtain ⟨g, hg⟩ : ∃ g, w.heap.size = g := ⟨_, rfl⟩
  rw [hg] at HK1 HLD ⊢
  generalize w.alloc (.cells L0.toArray 29) = w1 at HE HB1 HK1 ⊢
  refine HE.out.mono ?_
  rintro e w2 ⟨A, c, rfl, hrd, hcc, hb⟩
  have hlen : (enc l0).length = (body l0).length + 4 := enc_length l0
  have hlo := l0_len
  rw [decide_eq_true_eq] at hlo
  have hhi := body_short l0_few l0_ok
  have HDE := Aside0.mk (decode_yes hrd hcc (bytes_enc l0_ok) (by omega) (decode_enc l0_ok l0_z))
  have HHEAD : Aside0 (∃ t, enc l0 = [69, 88, 76, 66, 0, 1, 0, 6, 0, 0, 0, 56] ++ t) := ⟨⟨(body l0).drop 12 ++ le4 (crcOn 0 (body l0)), by rw [← l0_head, ← List.append_assoc, List.take_append_drop]; rfl⟩⟩
  have HK2 := Aside0.mk (blk_below HK1.out hb (blk_lt HK1.out))
  have HB2 := Aside0.mk (below_then HB1.out HB1.out.size hb)
  have HRD := Aside0.mk hrd
  obtain ⟨bs, hbs⟩ : ∃ bs, enc l0 = bs := ⟨_, rfl⟩
  rw [hbs] at HDE HHEAD HRD hcc hlen ⊢
  obtain ⟨i0, hi, _, hsz, _⟩ := info_parts info5
  obtain ⟨hcut, hA, _⟩ := print_take_of (P := Try.prog) (Value.int .u8) 0 32 5 .i64 Try.underlying32 hi hsz A c bs 4 (by omega) (by omega) hcc
  have HCUT := Aside0.mk hcut
  have HRD4 : Aside0 (∀ W, RdB W A bs → RdB W A (bs.take (Int.toNat 4))) := ⟨fun W h => Kd.C_of_reads (h1 := fun _ => rfl) (hA _ (Kd.reads_of_C h))⟩
  have hn1 : 60 < bs.length := by omega
  have hn2 : bs.length ≤ 9223372036854775807 := by omega
  clear hrd hcc hb HE HB1 HK1 hlen hlo hhi hbs hi hsz hcut hA
  go_wp2_with fail
  refine HDE.out.mono ?_
  rintro e w3 ⟨M, rfl, hm, hb⟩
  have HK3 := Aside0.mk (blk_below HK2.out hb (blk_lt HK2.out))
  have HB3 := Aside0.mk (below_then HB2.out HB2.out.size hb)
  have HM := Aside0.mk hm
  have HRD3 := Aside0.mk (Kd.C_below HRD.out hb)
  clear hm hb HK2 HB2 HRD HDE
  have hst : (St (.pointer (some ⟨w3.heap.size, 0, none⟩)) (.agg M.toArray)).run Try.prog (w3.alloc (.cells ZC.toArray 29)) = .ok () (w3.alloc (.cells M.toArray 29)) := store29 rfl HM.out.length HM.out.one
  obtain ⟨w4, hw4⟩ : ∃ w4, w3.alloc (.cells M.toArray 29) = w4 := ⟨_, rfl⟩
  have hb4 := (Below.refl w3.heap.size w3).alloc (Nat.le_refl _) (.cells M.toArray 29)
  have HKM := Aside0.mk (blk_new w3 (.cells M.toArray 29))
  rw [hw4] at hst hb4 HKM
  have HK4 := Aside0.mk (blk_below HK3.out hb4 (blk_lt HK3.out))
  have HB4 := Aside0.mk (below_then HB3.out HB3.out.size hb4)
  have HM4 := Aside0.mk (HM.out.below hb4)
  have hrd4 := Kd.C_below HRD3.out hb4
  have HNM := Aside0.mk HM.out.length
  clear hb4 hw4 HK3 HB3 HM HRD3
  have hl4 := HLD.out _ HK4.out
  have hm4 := load29 HNM.out HKM.out
  obtain ⟨b, off, hA, hcell⟩ := C_plain hrd4 (by omega)
  subst hA
  have hcut := HCUT.out w4
  have hcv := Kd.C_string (P := Try.prog) (c := c) Try.underlying32 Try.underlying5 Try.underlying9 (HRD4.out _ hrd4)
  obtain ⟨t, ht⟩ := HHEAD.out
  have hc5 := hcell 5 (by omega)
  have hc7 := hcell 7 (by omega)
  have hc11 := hcell 11 (by omega)
  have htk : strOfNums (bs.take (Int.toNat 4)) = ⟨#[69, 88, 76, 66]⟩ := by rw [ht]; rfl
  have hr5 : rd bs (5 : Nat) = 1 := by rw [ht]; rfl
  have hr7 : rd bs (7 : Nat) = 6 := by rw [ht]; rfl
  have hr11 : rd bs (11 : Nat) = 56 := by rw [ht]; rfl
  have hlt4 : (bs.take (Int.toNat 4)).length = 4 := by rw [List.length_take]; show min 4 bs.length = 4; omega
  rw [hr5] at hc5
  rw [hr7] at hc7
  rw [hr11] at hc11
  rw [hlt4] at hcut hcv
  rw [htk] at hcv
  clear hcell htk hr5 hr7 hr11 hlt4 HCUT HRD4 HHEAD ht
  go_wp2_with fail
  have HSA := Aside0.mk (same_calls l0 l0 L0 M w4 (l0_reads _) HM4.out)
  clear hst hl4 hm4 hrd4 hcut hcv hc5 hc7 hc11 HKM HM4 HNM
  refine HSA.out.mono ?_
  rintro e w5 ⟨rfl, hb⟩
  have HB5 := Aside0.mk (below_then HB4.out HB4.out.size hb)
  have hl5 := HLD.out _ (blk_below HK4.out hb (blk_lt HK4.out))
  clear hb HB4 HK4 HSA
  go_wp2_with fail
  refine (texts_calls l0 L0 w5 (l0_reads _) l0_few).mono ?_
  rintro e w6 ⟨v, rfl, ho, hb⟩
  have HB6 := Aside0.mk (below_then HB5.out HB5.out.size hb)
  obtain ⟨A', c', rfl, _⟩ := RdS_of ho
  have h5 : (texts l0).length = 5 := by rw [texts_length]; rfl
  rw [h5]
  clear hb ho HB5 hl5 h5
  go_wp2
  go_ret
  exact ⟨rfl, HB6.out⟩
end Go.Proofs.Ytfbmgjanplnabaa
/- The arguments of the laws, opened: a locale that is read as data has cells that read as a locale; so do a row of bytes and BundFinds' one argument. -/
namespace Go.Proofs.Ytfbmgjanplnabaa
open Go.RowKit Go.Proofs.YtfbmgjanplnabaaW.PrintWords Go.Proofs.YtfbmgjanplnabaaW.PrintLast Go.Proofs.YtfbmgjanplnabaaW.PrintMore
open Go.ChangeShapes Go.WideShapes
set_option linter.unusedVariables false
set_option linter.unusedSimpArgs false

theorem len2 {l : List Value} (h : l.length = 2) : ∃ c0 c1, l = [c0, c1] := by
  match l, h with
  | [c0, c1], _ => exact ⟨c0, c1, rfl⟩
theorem len3 {l : List Value} (h : l.length = 3) : ∃ c0 c1 c2, l = [c0, c1, c2] := by
  match l, h with
  | [c0, c1, c2], _ => exact ⟨c0, c1, c2, rfl⟩
theorem len4 {l : List Value} (h : l.length = 4) : ∃ c0 c1 c2 c3, l = [c0, c1, c2, c3] := by
  match l, h with
  | [c0, c1, c2, c3], _ => exact ⟨c0, c1, c2, c3, rfl⟩
theorem len7 {l : List Value} (h : l.length = 7) : ∃ c0 c1 c2 c3 c4 c5 c6, l = [c0, c1, c2, c3, c4, c5, c6] := by
  match l, h with
  | [c0, c1, c2, c3, c4, c5, c6], _ => exact ⟨c0, c1, c2, c3, c4, c5, c6, rfl⟩
theorem len15 {l : List Value} (h : l.length = 15) : ∃ c0 c1 c2 c3 c4 c5 c6 c7 c8 c9 c10 c11 c12 c13 c14, l = [c0, c1, c2, c3, c4, c5, c6, c7, c8, c9, c10, c11, c12, c13, c14] := by
  match l, h with
  | [c0, c1, c2, c3, c4, c5, c6, c7, c8, c9, c10, c11, c12, c13, c14], _ => exact ⟨c0, c1, c2, c3, c4, c5, c6, c7, c8, c9, c10, c11, c12, c13, c14, rfl⟩
theorem len21 {l : List Value} (h : l.length = 21) : ∃ c0 c1 c2 c3 c4 c5 c6 c7 c8 c9 c10 c11 c12 c13 c14 c15 c16 c17 c18 c19 c20, l = [c0, c1, c2, c3, c4, c5, c6, c7, c8, c9, c10, c11, c12, c13, c14, c15, c16, c17, c18, c19, c20] := by
  match l, h with
  | [c0, c1, c2, c3, c4, c5, c6, c7, c8, c9, c10, c11, c12, c13, c14, c15, c16, c17, c18, c19, c20], _ => exact ⟨c0, c1, c2, c3, c4, c5, c6, c7, c8, c9, c10, c11, c12, c13, c14, c15, c16, c17, c18, c19, c20, rfl⟩
section
variable {H : Type} {enc : TypeId × Value → H} {w : World} {base : Nat} {spare : Nat → Bool} {held : Bool} {fuel : Nat} {cs : List Value} {x : DataW H × List MemPlace}
theorem cells3 : Try.prog.cellsOf 3 = 1 := by kernel_rfl
theorem cells5 : Try.prog.cellsOf 5 = 1 := by kernel_rfl
theorem cells9 : Try.prog.cellsOf 9 = 1 := by kernel_rfl
theorem cells21 : Try.prog.cellsOf 21 = 1 := by kernel_rfl
theorem cells23 : Try.prog.cellsOf 23 = 7 := by kernel_rfl
theorem cells24 : Try.prog.cellsOf 24 = 4 := by kernel_rfl
theorem cells25 : Try.prog.cellsOf 25 = 1 := by kernel_rfl
theorem cells26 : Try.prog.cellsOf 26 = 1 := by kernel_rfl
theorem cells27 : Try.prog.cellsOf 27 = 1 := by kernel_rfl
theorem cells29 : Try.prog.cellsOf 29 = 15 := by kernel_rfl
theorem cells50 : Try.prog.cellsOf 50 = 4 := by kernel_rfl
theorem cells52 : Try.prog.cellsOf 52 = 21 := by kernel_rfl
theorem cells57 : Try.prog.cellsOf 57 = 2 := by kernel_rfl
theorem cells59 : Try.prog.cellsOf 59 = 3 := by kernel_rfl
theorem cells61 : Try.prog.cellsOf 61 = 3 := by kernel_rfl
theorem open_field {t : TypeId} {fs : Array Field} (ht : Try.prog.underlying t = some (.struct fs)) (h : DataW.trod enc Try.prog w base spare held fuel t cs = some x) (i o T k : Nat) (hf : (fs[i]?).map (fun f => (f.offset, f.type)) = some (o, T)) (hk : Try.prog.cellsOf T = k) :
    ∃ n y, DataW.trod enc Try.prog w base spare held n T ((cs.drop o).take k) = some y := by
  obtain ⟨xs, n, _, _, _, hlen, hg⟩ := DataW.trod_struct ht h
  obtain ⟨f, hf1, e⟩ := Option.map_eq_some_iff.1 hf
  clear hf
  injection e with e1 e2
  subst e1 e2 hk
  have hi : i < xs.length := by rw [hlen]; exact (Array.getElem?_eq_some_iff.1 hf1).1
  exact ⟨n, xs[i], by rw [hg i f hf1, List.getElem?_eq_getElem hi]⟩
theorem open_elem {t e : TypeId} {k : Nat} (ht : Try.prog.underlying t = some (.array k e)) (h : DataW.trod enc Try.prog w base spare held fuel t cs = some x) (i : Nat) (hi : i < k) (m : Nat) (hm : Try.prog.cellsOf e = m) :
    ∃ n y, DataW.trod enc Try.prog w base spare held n e ((cs.drop (i * m)).take m) = some y := by
  obtain ⟨xs, n, _, _, _, hlen, hg⟩ := DataW.trod_array ht h
  subst hm
  have hi' : i < xs.length := by rw [hlen]; exact hi
  exact ⟨n, xs[i], by rw [hg i hi, List.getElem?_eq_getElem hi']⟩
theorem open_i64 (h : DataW.trod enc Try.prog w base spare held fuel 3 cs = some x) : ∃ n, cs = [.int .i64 n] ∧ (Lit.int .i64 n).wf = true := by
  obtain ⟨n, h1, _, h2⟩ := DataW.trod_int Try.underlying3 h
  exact ⟨n, h1, h2⟩
theorem open_rune (h : DataW.trod enc Try.prog w base spare held fuel 21 cs = some x) : ∃ n, cs = [.int .i32 n] ∧ (Lit.int .i32 n).wf = true := by
  obtain ⟨n, h1, _, h2⟩ := DataW.trod_int Try.underlying21 h
  exact ⟨n, h1, h2⟩
theorem open_byte (h : DataW.trod enc Try.prog w base spare held fuel 5 cs = some x) : ∃ n, cs = [.int .u8 n] ∧ (Lit.int .u8 n).wf = true := by
  obtain ⟨n, h1, _, h2⟩ := DataW.trod_int Try.underlying5 h
  exact ⟨n, h1, h2⟩
theorem open_str (h : DataW.trod enc Try.prog w base spare held fuel 9 cs = some x) : ∃ s, cs = [.string s] := by
  obtain ⟨n, h1, _⟩ := DataW.trod_string Try.underlying9 h
  exact ⟨n, h1⟩
/-- A row whose elements are read as d's. -/
theorem open_row {α : Type} [Nonempty α] {d : Kd α} {t e : TypeId} (ht : Try.prog.underlying t = some (.slice e)) (hsz : Try.prog.cellsOf e = d.sz) (Q : α → Prop)
    (he : ∀ (fuel : Nat) (cs : List Value) (x : DataW H × List MemPlace), DataW.trod enc Try.prog w base spare held fuel e cs = some x → ∃ a, d.K w a cs ∧ Q a)
    (h : DataW.trod enc Try.prog w base spare held fuel t cs = some x) :
    ∃ A n c, cs = [.slice A n c] ∧ n ≤ c ∧ ∃ xs : List α, xs.length = n ∧ d.C w A n xs ∧ ∀ a ∈ xs, Q a := by
  rcases DataW.trod_slice ht h with ⟨rfl, _⟩ | ⟨a, len, cap, elems, rest, n, _, rfl, _, _, hlc, hcm, hel, hat, _, _⟩
  · exact ⟨none, 0, 0, rfl, Nat.le_refl _, [], rfl, Kd.C_nil _ _, fun a ha => by cases ha⟩
  · refine ⟨some a, len, cap, rfl, hlc, ?_⟩
    have hx : ∀ i, i < len → ∃ p : α, Q p ∧ ∃ c, c.length = d.sz ∧ d.K w p c ∧ ∀ (j : Nat) (u : Value), c[j]? = some u → w.cell? (a.add (i * d.sz + j)) = some u := by
      intro i hi
      have h1 := hat i hi
      rw [List.getElem?_eq_getElem (by omega), Option.bind_eq_some_iff] at h1
      obtain ⟨cs', hc, ht'⟩ := h1
      obtain ⟨p, hp, hq⟩ := he _ _ _ ht'
      obtain ⟨_, hcl, hcell⟩ := World.cells?_some hc
      rw [hsz] at hcl hc hcell
      refine ⟨p, hq, cs', hcl, hp, fun j u hj => ?_⟩
      have hjl : j < d.sz := by rw [← hcl]; exact (List.getElem?_eq_some_iff.1 hj).1
      have := hcell j hjl
      rw [hj, add_add] at this
      exact this
    have hx' : ∀ i, ∃ p : α, i < len → Q p ∧ ∃ c, c.length = d.sz ∧ d.K w p c ∧ ∀ (j : Nat) (u : Value), c[j]? = some u → w.cell? (a.add (i * d.sz + j)) = some u := by
      intro i
      by_cases hi : i < len
      · obtain ⟨p, hp⟩ := hx i hi
        exact ⟨p, fun _ => hp⟩
      · exact ⟨Classical.choice inferInstance, fun h => absurd h hi⟩
    refine ⟨(List.range len).map fun i => Classical.choose (hx' i), by simp, ⟨by simp, by unfold maxLen at hcm; omega, fun _ => ⟨a, rfl, ?_⟩⟩, ?_⟩
    · intro j p hp
      have hj : j < len := by have := (List.getElem?_eq_some_iff.1 hp).1; simpa using this
      rw [List.getElem?_map, List.getElem?_range hj] at hp
      injection hp with hp
      subst hp
      exact (Classical.choose_spec (hx' j) hj).2
    · intro p hp
      obtain ⟨i, hi, rfl⟩ := List.mem_map.1 hp
      exact (Classical.choose_spec (hx' i) (List.mem_range.1 hi)).1
theorem open_Rl (h : DataW.trod enc Try.prog w base spare held fuel 57 cs = some x) : ∃ a, kRl.K w a cs ∧ True := by
  obtain ⟨_, _, _, _, hl, _⟩ := DataW.trod_struct Try.underlying57 h
  rw [cells57] at hl
  obtain ⟨c0, c1, rfl⟩ := len2 hl
  obtain ⟨_, _, h0⟩ := open_field Try.underlying57 h 0 0 3 _ rfl cells3
  obtain ⟨_, _, h1⟩ := open_field Try.underlying57 h 1 1 9 _ rfl cells9
  obtain ⟨n, e0, _⟩ := open_i64 h0
  obtain ⟨s, e1⟩ := open_str h1
  simp at e0 e1
  subst e0 e1
  exact ⟨(n, s), ⟨[_], [_], rfl, rfl, rfl⟩, trivial⟩
theorem open_Cu (h : DataW.trod enc Try.prog w base spare held fuel 59 cs = some x) : ∃ a, kCu.K w a cs ∧ True := by
  obtain ⟨_, _, _, _, hl, _⟩ := DataW.trod_struct Try.underlying59 h
  rw [cells59] at hl
  obtain ⟨c0, c1, c2, rfl⟩ := len3 hl
  obtain ⟨_, _, h0⟩ := open_field Try.underlying59 h 0 0 9 _ rfl cells9
  obtain ⟨_, _, h1⟩ := open_field Try.underlying59 h 1 1 9 _ rfl cells9
  obtain ⟨_, _, h2⟩ := open_field Try.underlying59 h 2 2 3 _ rfl cells3
  obtain ⟨s, e0⟩ := open_str h0
  obtain ⟨t, e1⟩ := open_str h1
  obtain ⟨n, e2, _⟩ := open_i64 h2
  simp at e0 e1 e2
  subst e0 e1 e2
  exact ⟨(s, (t, n)), ⟨[_], [_, _], rfl, rfl, [_], [_], rfl, rfl, rfl⟩, trivial⟩
theorem open_Cm (h : DataW.trod enc Try.prog w base spare held fuel 61 cs = some x) : ∃ a, kCm.K w a cs ∧ True := by
  obtain ⟨_, _, _, _, hl, _⟩ := DataW.trod_struct Try.underlying61 h
  rw [cells61] at hl
  obtain ⟨c0, c1, c2, rfl⟩ := len3 hl
  obtain ⟨_, _, h0⟩ := open_field Try.underlying61 h 0 0 3 _ rfl cells3
  obtain ⟨_, _, h1⟩ := open_field Try.underlying61 h 1 1 3 _ rfl cells3
  obtain ⟨_, _, h2⟩ := open_field Try.underlying61 h 2 2 9 _ rfl cells9
  obtain ⟨n, e0, _⟩ := open_i64 h0
  obtain ⟨m, e1, _⟩ := open_i64 h1
  obtain ⟨s, e2⟩ := open_str h2
  simp at e0 e1 e2
  subst e0 e1 e2
  exact ⟨(n, (m, s)), ⟨[_], [_, _], rfl, rfl, [_], [_], rfl, rfl, rfl⟩, trivial⟩
theorem open_Sy (h : DataW.trod enc Try.prog w base spare held fuel 23 cs = some x) : ∃ s : Sy, cs = s.cells ∧ s.ok := by
  obtain ⟨_, _, _, _, hl, _⟩ := DataW.trod_struct Try.underlying23 h
  rw [cells23] at hl
  obtain ⟨c0, c1, c2, c3, c4, c5, c6, rfl⟩ := len7 hl
  obtain ⟨_, _, h0⟩ := open_field Try.underlying23 h 0 0 21 _ rfl cells21
  obtain ⟨_, _, h1⟩ := open_field Try.underlying23 h 1 1 21 _ rfl cells21
  obtain ⟨_, _, h2⟩ := open_field Try.underlying23 h 2 2 21 _ rfl cells21
  obtain ⟨_, _, h3⟩ := open_field Try.underlying23 h 3 3 21 _ rfl cells21
  obtain ⟨_, _, h4⟩ := open_field Try.underlying23 h 4 4 21 _ rfl cells21
  obtain ⟨_, _, h5⟩ := open_field Try.underlying23 h 5 5 21 _ rfl cells21
  obtain ⟨_, _, h6⟩ := open_field Try.underlying23 h 6 6 21 _ rfl cells21
  obtain ⟨n0, e0, k0⟩ := open_rune h0
  obtain ⟨n1, e1, k1⟩ := open_rune h1
  obtain ⟨n2, e2, k2⟩ := open_rune h2
  obtain ⟨n3, e3, k3⟩ := open_rune h3
  obtain ⟨n4, e4, k4⟩ := open_rune h4
  obtain ⟨n5, e5, k5⟩ := open_rune h5
  obtain ⟨n6, e6, k6⟩ := open_rune h6
  simp at e0 e1 e2 e3 e4 e5 e6
  subst e0 e1 e2 e3 e4 e5 e6
  refine ⟨⟨n0, n1, n2, n3, n4, n5, n6⟩, rfl, fun z hz => ?_⟩
  have : z = n0 ∨ z = n1 ∨ z = n2 ∨ z = n3 ∨ z = n4 ∨ z = n5 ∨ z = n6 := by simpa [syNums] using hz
  rcases this with rfl | rfl | rfl | rfl | rfl | rfl | rfl
  all_goals (first | exact bounds_i32 k0 | exact bounds_i32 k1 | exact bounds_i32 k2 | exact bounds_i32 k3 | exact bounds_i32 k4 | exact bounds_i32 k5 | exact bounds_i32 k6)
theorem open_four (h : DataW.trod enc Try.prog w base spare held fuel 24 cs = some x) : ∃ p0 p1 p2 p3 : ByteArray, cs = [.string p0, .string p1, .string p2, .string p3] := by
  obtain ⟨_, _, _, _, hl, _⟩ := DataW.trod_array Try.underlying24 h
  rw [cells24] at hl
  obtain ⟨c0, c1, c2, c3, rfl⟩ := len4 hl
  obtain ⟨_, _, h0⟩ := open_elem Try.underlying24 h 0 (by omega) _ cells9
  obtain ⟨_, _, h1⟩ := open_elem Try.underlying24 h 1 (by omega) _ cells9
  obtain ⟨_, _, h2⟩ := open_elem Try.underlying24 h 2 (by omega) _ cells9
  obtain ⟨_, _, h3⟩ := open_elem Try.underlying24 h 3 (by omega) _ cells9
  obtain ⟨p0, e0⟩ := open_str h0
  obtain ⟨p1, e1⟩ := open_str h1
  obtain ⟨p2, e2⟩ := open_str h2
  obtain ⟨p3, e3⟩ := open_str h3
  simp at e0 e1 e2 e3
  subst e0 e1 e2 e3
  exact ⟨p0, p1, p2, p3, rfl⟩
/-- A locale's cells. -/
theorem open_locale (h : DataW.trod enc Try.prog w base spare held fuel 29 cs = some x) : ∃ l : Loc, RdL w l cs ∧ l.s.ok := by
  obtain ⟨_, _, _, _, hl, _⟩ := DataW.trod_struct Try.underlying29 h
  rw [cells29] at hl
  obtain ⟨c0, c1, c2, c3, c4, c5, c6, c7, c8, c9, c10, c11, c12, c13, c14, rfl⟩ := len15 hl
  obtain ⟨_, _, h0⟩ := open_field Try.underlying29 h 0 0 9 _ rfl cells9
  obtain ⟨_, _, h1⟩ := open_field Try.underlying29 h 1 1 23 _ rfl cells23
  obtain ⟨_, _, h2⟩ := open_field Try.underlying29 h 2 8 24 _ rfl cells24
  obtain ⟨_, _, h3⟩ := open_field Try.underlying29 h 3 12 25 _ rfl cells25
  obtain ⟨_, _, h4⟩ := open_field Try.underlying29 h 4 13 26 _ rfl cells26
  obtain ⟨_, _, h5⟩ := open_field Try.underlying29 h 5 14 27 _ rfl cells27
  obtain ⟨tag, e0⟩ := open_str h0
  obtain ⟨s, e1, hs⟩ := open_Sy h1
  obtain ⟨p0, p1, p2, p3, e2⟩ := open_four h2
  obtain ⟨Ar, nr, cr, e3, k3, rules, l3, r3, _⟩ := open_row (d := kRl) Try.underlying25 cells57 (fun _ => True) (fun _ _ _ h => open_Rl h) h3
  obtain ⟨Ac, nc, cc, e4, k4, curs, l4, r4, _⟩ := open_row (d := kCu) Try.underlying26 cells59 (fun _ => True) (fun _ _ _ h => open_Cu h) h4
  obtain ⟨Ak, nk, ck, e5, k5, comps, l5, r5, _⟩ := open_row (d := kCm) Try.underlying27 cells61 (fun _ => True) (fun _ _ _ h => open_Cm h) h5
  simp [Sy.cells] at e0 e1 e2 e3 e4 e5
  subst l3 l4 l5
  obtain ⟨a1, a2, a3, a4, a5, a6, a7⟩ := e1
  obtain ⟨b1, b2, b3, b4⟩ := e2
  subst e0 e3 e4 e5 a1 a2 a3 a4 a5 a6 a7 b1 b2 b3 b4
  exact ⟨⟨tag, s, p0, p1, p2, p3, rules, curs, comps⟩, ⟨Ar, cr, Ac, cc, Ak, ck, rfl, k3, k4, k5, r3, r4, r5⟩, hs⟩
/-- A row of bytes. -/
theorem open_bytes (h : DataW.trod enc Try.prog w base spare held fuel 32 cs = some x) : ∃ A xs c, cs = [.slice A xs.length c] ∧ RdB w A xs ∧ xs.length ≤ c ∧ ∀ z ∈ xs, 0 ≤ z ∧ z < 256 := by
  obtain ⟨A, n, c, rfl, hc, xs, rfl, hr, hb⟩ := open_row (d := Kd.int .u8) Try.underlying32 cells5 (fun z => 0 ≤ z ∧ z < 256) (fun _ _ _ h => by
    obtain ⟨n, e, hw⟩ := open_byte h
    have := bounds_u8 hw
    exact ⟨n, e, by omega, by omega⟩) h
  exact ⟨A, xs, c, rfl, hr, hc, hb⟩
end
set_option maxRecDepth 100000 in
/-- A value of a struct's type, and its cells. -/
theorem open_loc {H : Type} {enc : TypeId × Value → H} {w : World} {base : Nat} {spare : Nat → Bool} {held : Bool} {r : Reach} {b0 : Nat} {v : Value} {d : DataW H} {p : List MemPlace}
    (hv : Value.okWide Try.prog w r b0 29 v) (h : DataW.Trod enc Try.prog w base spare held 29 v d p) : ∃ (l : Loc) (L : List Value), v = .agg L.toArray ∧ RdL w l L ∧ l.s.ok := by
  obtain ⟨cs, rfl, _⟩ := okWide_struct Try.underlying29 hv
  obtain ⟨fuel, hf⟩ := h
  obtain ⟨l, h1, h2⟩ := open_locale hf
  exact ⟨l, cs.toList, rfl, h1, h2⟩
set_option maxRecDepth 100000 in
theorem open_bs {H : Type} {enc : TypeId × Value → H} {w : World} {base : Nat} {spare : Nat → Bool} {held : Bool} {r : Reach} {b0 : Nat} {v : Value} {d : DataW H} {p : List MemPlace}
    (hv : Value.okWide Try.prog w r b0 32 v) (h : DataW.Trod enc Try.prog w base spare held 32 v d p) : ∃ A xs c, v = .slice A xs.length c ∧ RdB w A xs ∧ xs.length ≤ c ∧ ∀ z ∈ xs, 0 ≤ z ∧ z < 256 := by
  obtain ⟨a, n, c, rfl⟩ := okWide_slice Try.underlying32 hv
  obtain ⟨fuel, hf⟩ := h
  obtain ⟨A, xs, c', e, h1, h2, h3⟩ := open_bytes hf
  injection (show [Value.slice a n c] = [Value.slice A xs.length c'] from e) with e _
  exact ⟨A, xs, c', e, h1, h2, h3⟩
end Go.Proofs.Ytfbmgjanplnabaa

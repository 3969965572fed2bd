import Derived.Test.YtfbmgjanplnabaaBI
/- bund.Decode: where the checksum is right. -/
namespace Go.Proofs.Ytfbmgjanplnabaa
open Go.RowKit Go.Proofs.YtfbmgjanplnabaaW.PrintWords Go.Proofs.YtfbmgjanplnabaaW.PrintLast Go.Proofs.YtfbmgjanplnabaaW.PrintMore
set_option linter.unusedVariables false
set_option linter.unusedSimpArgs false

theorem zero_reads (W : World) : RdL W (mkLoc ⟨#[]⟩ [0, 0, 0, 0, 0, 0, 0] [⟨#[]⟩, ⟨#[]⟩, ⟨#[]⟩, ⟨#[]⟩] [] [] []) zcells :=
  ⟨none, 0, none, 0, none, 0, rfl, Nat.le_refl _, Nat.le_refl _, Nat.le_refl _, Kd.C_nil _ _, Kd.C_nil _ _, Kd.C_nil _ _⟩
theorem zero_few : Few (mkLoc ⟨#[]⟩ [0, 0, 0, 0, 0, 0, 0] [⟨#[]⟩, ⟨#[]⟩, ⟨#[]⟩, ⟨#[]⟩] [] [] []) := ⟨by decide, by decide, by decide⟩
theorem zero_ok : (mkLoc ⟨#[]⟩ [0, 0, 0, 0, 0, 0, 0] [⟨#[]⟩, ⟨#[]⟩, ⟨#[]⟩, ⟨#[]⟩] [] [] []).s.ok := by
  intro z hz
  simp [mkLoc, syNums] at hz
  subst hz
  decide

set_option maxHeartbeats 3200000 in
set_option maxRecDepth 100000 in
theorem decode_none (xs ys : List Int) (A : Option Addr) (c : Nat) (w : World) (hx : RdB w A xs) (hc : xs.length ≤ c) (HC : ∀ W, Below w.heap.size w W → Calls Try.prog 32 #[.slice A xs.length c] W fun e w' => ∃ v, e = .returned (.tuple #[v, .int .i64 0]) ∧ OwnB w' W.heap.size v ys ∧ Below W.heap.size W w') (hl : locP ys = none) :
    Calls Try.prog 12 #[.slice A xs.length c] w fun e w' => e = .returned (.tuple #[.agg #[.string ⟨#[]⟩, .int .i32 0, .int .i32 0, .int .i32 0, .int .i32 0, .int .i32 0, .int .i32 0, .int .i32 0, .string ⟨#[]⟩, .string ⟨#[]⟩, .string ⟨#[]⟩, .string ⟨#[]⟩, .slice none 0 0, .slice none 0 0, .slice none 0 0], .int .i64 2]) ∧ Below w.heap.size w w' := by
  have HX := Aside0.mk hx
  have HCC := Aside0.mk hc
  have HC1 := Aside0.mk (HC _ ((Below.refl w.heap.size w).alloc (Nat.le_refl _) (.cells zcells.toArray 29)))
  have hblk := blk_new w (.cells zcells.toArray 29)
  have hbe := (Below.refl w.heap.size w).alloc (Nat.le_refl _) (.cells zcells.toArray 29)
  unfold zcells dcells at HC1 hblk hbe
  simp only [List.map_cons, List.map_nil, List.cons_append, List.nil_append] at HC1 hblk hbe
  clear HC hx hc
  go_enter Try.func12, Try.ntmps12
  go_wp2_with fail
  obtain ⟨g2, hg2⟩ : ∃ g, w.heap.size = g := ⟨_, rfl⟩
  have HBE := Aside0.mk hbe
  have HG := Aside0.mk hg2
  rw [hg2] at hblk ⊢
  clear hbe
  generalize w.alloc _ = w1 at HC1 hblk HBE ⊢
  refine HC1.out.mono ?_
  rintro e w2 ⟨v, rfl, ho, hb⟩
  obtain ⟨A1, c1, hv, hcc, hrd⟩ := Kd.R_reads ho
  subst hv
  have HRD := Aside0.mk hrd
  have HCY := Aside0.mk hcc
  have hblk2 := blk_below hblk hb (blk_lt hblk)
  have HB2 := Aside0.mk (below_then HBE.out HBE.out.size hb)
  have HLY : Aside0 (ys.length ≤ 9223372036854775807) := ⟨hrd.2.1⟩
  clear hb ho hcc hrd hblk HC1 HBE hg2
  go_wp2_with fail
  refine (read_calls ys A1 c1 _ HRD.out HCY.out).mono ?_
  rintro e w3 ⟨hb3, he⟩
  rw [hl] at he
  subst he
  have hblk3 := blk_below hblk2 hb3 (blk_lt hblk2)
  have HB3 := Aside0.mk (below_then HB2.out HB2.out.size hb3)
  have HBK3 := Aside0.mk hblk3
  clear hblk2 hblk3 hb3 HB2 HRD HCY
  unfold zcells dcells
  simp only [List.map_cons, List.map_nil, List.cons_append, List.nil_append]
  go_wp2_with fail
  have HE := Aside0.mk (encode_calls (mkLoc ⟨#[]⟩ [0, 0, 0, 0, 0, 0, 0] [⟨#[]⟩, ⟨#[]⟩, ⟨#[]⟩, ⟨#[]⟩] [] [] []) zcells (w3.alloc (.cells #[.string ⟨#[]⟩, .int .i32 0, .int .i32 0, .int .i32 0, .int .i32 0, .int .i32 0, .int .i32 0, .int .i32 0, .string ⟨#[]⟩, .string ⟨#[]⟩, .string ⟨#[]⟩, .string ⟨#[]⟩, .slice none 0 0, .slice none 0 0, .slice none 0 0] 29)) (zero_reads _) zero_few zero_ok)
  unfold zcells dcells at HE
  simp only [List.map_cons, List.map_nil, List.cons_append, List.nil_append] at HE
  have HBA := Aside0.mk ((Below.refl w3.heap.size w3).alloc (Nat.le_refl _) (.cells #[.string ⟨#[]⟩, .int .i32 0, .int .i32 0, .int .i32 0, .int .i32 0, .int .i32 0, .int .i32 0, .int .i32 0, .string ⟨#[]⟩, .string ⟨#[]⟩, .string ⟨#[]⟩, .string ⟨#[]⟩, .slice none 0 0, .slice none 0 0, .slice none 0 0] 29))
  generalize w3.alloc _ = w4 at HE HBA ⊢
  refine HE.out.mono ?_
  rintro e w5 ⟨hb5, he⟩
  obtain ⟨v5, k5, rfl⟩ : ∃ v k, e = .returned (.tuple #[v, .int .i64 k]) := by
    cases hz : encOk (mkLoc ⟨#[]⟩ [0, 0, 0, 0, 0, 0, 0] [⟨#[]⟩, ⟨#[]⟩, ⟨#[]⟩, ⟨#[]⟩] [] [] []) with
    | true =>
      rw [hz] at he
      obtain ⟨v, h, _⟩ := he
      exact ⟨v, 0, h⟩
    | false =>
      rw [hz] at he
      exact ⟨_, 1, he⟩
  have hb35 := below_then HBA.out HBA.out.size hb5
  have hblk5 := blk_below HBK3.out hb35 (blk_lt HBK3.out)
  have HB5 := Aside0.mk (below_then HB3.out HB3.out.size hb35)
  have HS := Aside0.mk (set15 w5 g2 (.string ⟨#[]⟩) (.int .i32 0) (.int .i32 0) (.int .i32 0) (.int .i32 0) (.int .i32 0) (.int .i32 0) (.int .i32 0) (.string ⟨#[]⟩) (.string ⟨#[]⟩) (.string ⟨#[]⟩) (.string ⟨#[]⟩) (.slice none 0 0) (.slice none 0 0) (.slice none 0 0) (.string ⟨#[]⟩) (.int .i32 0) (.int .i32 0) (.int .i32 0) (.int .i32 0) (.int .i32 0) (.int .i32 0) (.int .i32 0) (.string ⟨#[]⟩) (.string ⟨#[]⟩) (.string ⟨#[]⟩) (.string ⟨#[]⟩) (.slice none 0 0) (.slice none 0 0) (.slice none 0 0) hblk5)
  have HBS := Aside0.mk (below15 w5 g2 (.string ⟨#[]⟩) (.int .i32 0) (.int .i32 0) (.int .i32 0) (.int .i32 0) (.int .i32 0) (.int .i32 0) (.int .i32 0) (.string ⟨#[]⟩) (.string ⟨#[]⟩) (.string ⟨#[]⟩) (.string ⟨#[]⟩) (.slice none 0 0) (.slice none 0 0) (.slice none 0 0) HB5.out (Nat.le_of_eq HG.out))
  have hz0 := blk_cell hblk5 0
  have fhz0 := blk_free hblk5 0
  have hz1 := blk_cell hblk5 1
  have fhz1 := blk_free hblk5 1
  have hz2 := blk_cell hblk5 2
  have fhz2 := blk_free hblk5 2
  have hz3 := blk_cell hblk5 3
  have fhz3 := blk_free hblk5 3
  have hz4 := blk_cell hblk5 4
  have fhz4 := blk_free hblk5 4
  have hz5 := blk_cell hblk5 5
  have fhz5 := blk_free hblk5 5
  have hz6 := blk_cell hblk5 6
  have fhz6 := blk_free hblk5 6
  have hz7 := blk_cell hblk5 7
  have fhz7 := blk_free hblk5 7
  have hz8 := blk_cell hblk5 8
  have fhz8 := blk_free hblk5 8
  have hz9 := blk_cell hblk5 9
  have fhz9 := blk_free hblk5 9
  have hz10 := blk_cell hblk5 10
  have fhz10 := blk_free hblk5 10
  have hz11 := blk_cell hblk5 11
  have fhz11 := blk_free hblk5 11
  have hz12 := blk_cell hblk5 12
  have fhz12 := blk_free hblk5 12
  have hz13 := blk_cell hblk5 13
  have fhz13 := blk_free hblk5 13
  have hz14 := blk_cell hblk5 14
  have fhz14 := blk_free hblk5 14
  simp only [List.getElem?_toArray, List.getElem?_cons_zero, List.getElem?_cons_succ] at hz0 hz1 hz2 hz3 hz4 hz5 hz6 hz7 hz8 hz9 hz10 hz11 hz12 hz13 hz14
  have hlt := blk_lt hblk5
  clear he hb5 hb35 hblk5 HE HBA HB5 HB3 HBK3
  go_wp2
  exact bodyPost_ret (results_dec _ g2 _ rfl (.string ⟨#[]⟩) (.int .i32 0) (.int .i32 0) (.int .i32 0) (.int .i32 0) (.int .i32 0) (.int .i32 0) (.int .i32 0) (.string ⟨#[]⟩) (.string ⟨#[]⟩) (.string ⟨#[]⟩) (.string ⟨#[]⟩) (.slice none 0 0) (.slice none 0 0) (.slice none 0 0) _ rfl HS.out) rfl ⟨rfl, HBS.out⟩

def dsPost (xs : List Int) (l : Loc) (w : World) (e : Ending) (w' : World) : Prop :=
  Below w.heap.size w w' ∧ (match encOk l && eqB (enc l) xs with
    | true => ∃ L, e = .returned (.tuple #[.agg L.toArray, .int .i64 0]) ∧ OwnL w' w.heap.size l L
    | false => e = .returned (.tuple #[.agg #[.string ⟨#[]⟩, .int .i32 0, .int .i32 0, .int .i32 0, .int .i32 0, .int .i32 0, .int .i32 0, .int .i32 0, .string ⟨#[]⟩, .string ⟨#[]⟩, .string ⟨#[]⟩, .string ⟨#[]⟩, .slice none 0 0, .slice none 0 0, .slice none 0 0], .int .i64 2]))
set_option maxHeartbeats 6400000 in
set_option maxRecDepth 100000 in
theorem decode_some (xs ys : List Int) (A : Option Addr) (c : Nat) (w : World) (hx : RdB w A xs) (hc : xs.length ≤ c) (HC : ∀ W, Below w.heap.size w W → Calls Try.prog 32 #[.slice A xs.length c] W fun e w' => ∃ v, e = .returned (.tuple #[v, .int .i64 0]) ∧ OwnB w' W.heap.size v ys ∧ Below W.heap.size W w') (l : Loc) (hl : locP ys = some l) (hF : Few l) (hz : l.s.ok) :
    Calls Try.prog 12 #[.slice A xs.length c] w (dsPost xs l w) := by
  have HF := Aside0.mk hF
  have HZ := Aside0.mk hz
  clear hF hz
  have HX := Aside0.mk hx
  have HCC := Aside0.mk hc
  have HC1 := Aside0.mk (HC _ ((Below.refl w.heap.size w).alloc (Nat.le_refl _) (.cells zcells.toArray 29)))
  have hblk := blk_new w (.cells zcells.toArray 29)
  have hbe := (Below.refl w.heap.size w).alloc (Nat.le_refl _) (.cells zcells.toArray 29)
  unfold zcells dcells at HC1 hblk hbe
  simp only [List.map_cons, List.map_nil, List.cons_append, List.nil_append] at HC1 hblk hbe
  clear HC hx hc
  go_enter Try.func12, Try.ntmps12
  go_wp2_with fail
  obtain ⟨g2, hg2⟩ : ∃ g, w.heap.size = g := ⟨_, rfl⟩
  have HBE := Aside0.mk hbe
  have HG := Aside0.mk hg2
  rw [hg2] at hblk ⊢
  clear hbe
  generalize w.alloc _ = w1 at HC1 hblk HBE ⊢
  refine HC1.out.mono ?_
  rintro e w2 ⟨v, rfl, ho, hb⟩
  obtain ⟨A1, c1, hv, hcc, hrd⟩ := Kd.R_reads ho
  subst hv
  have HRD := Aside0.mk hrd
  have HCY := Aside0.mk hcc
  have hblk2 := blk_below hblk hb (blk_lt hblk)
  have HB2 := Aside0.mk (below_then HBE.out HBE.out.size hb)
  have HLY : Aside0 (ys.length ≤ 9223372036854775807) := ⟨hrd.2.1⟩
  clear hb ho hcc hrd hblk HC1 HBE hg2
  go_wp2_with fail
  refine (read_calls ys A1 c1 _ HRD.out HCY.out).mono ?_
  rintro e w3 ⟨hb3, he⟩
  rw [hl] at he
  obtain ⟨L, rfl, hol⟩ := he
  have HOL := Aside0.mk hol
  have HSZ2 : Aside0 (w.heap.size ≤ w2.heap.size ∧ g2 < w2.heap.size) := ⟨HB2.out.size, blk_lt hblk2⟩
  obtain ⟨vr, vc, vk, rfl, hr1, hr2, hr3⟩ := hol
  obtain ⟨Ar, mr, cr, hv⟩ := R_slice' hr1
  subst hv
  obtain ⟨Ac, mc, cc, hv⟩ := R_slice' hr2
  subst hv
  obtain ⟨Ak, mk, ck, hv⟩ := R_slice' hr3
  subst hv
  have hblk3 := blk_below hblk2 hb3 (blk_lt hblk2)
  have HB3 := Aside0.mk (below_then HB2.out HB2.out.size hb3)
  have HBK3 := Aside0.mk hblk3
  have HBA := Aside0.mk ((Below.refl w3.heap.size w3).alloc (Nat.le_refl _) (.cells (lcells l (.slice Ar mr cr) (.slice Ac mc cc) (.slice Ak mk ck)).toArray 29))
  have HE := Aside0.mk (encode_calls l (lcells l (.slice Ar mr cr) (.slice Ac mc cc) (.slice Ak mk ck)) _ (HOL.out.below HBA.out).reads HF.out HZ.out)
  have HG6 := Aside0.mk (blk_new w3 (.cells (lcells l (.slice Ar mr cr) (.slice Ac mc cc) (.slice Ak mk ck)).toArray 29))
  clear hblk2 hblk3 hb3 HB2 HRD HCY hr1 hr2 hr3 HF HZ
  unfold lcells at HBA HE HG6 ⊢
  go_wp2_with fail
  obtain ⟨g6, hg6⟩ : ∃ g, w3.heap.size = g := ⟨_, rfl⟩
  rw [hg6] at HG6 ⊢
  generalize w3.alloc _ = w4 at HE HBA HG6 ⊢
  clear hg6
  refine HE.out.mono ?_
  rintro e w5 ⟨hb5, he⟩
  have hb35 := below_then HBA.out HBA.out.size hb5
  have hblk5 := blk_below HBK3.out hb35 (blk_lt HBK3.out)
  have HB5 := Aside0.mk (below_then HB3.out HB3.out.size hb35)
  have HOL5 := Aside0.mk (HOL.out.below hb35)
  have HG65 := Aside0.mk (blk_below HG6.out hb5 (blk_lt HG6.out))
  cases hz : encOk l with
  | false =>
    rw [hz] at he
    subst he
    have HS := Aside0.mk (set15 w5 g2 (.string ⟨#[]⟩) (.int .i32 0) (.int .i32 0) (.int .i32 0) (.int .i32 0) (.int .i32 0) (.int .i32 0) (.int .i32 0) (.string ⟨#[]⟩) (.string ⟨#[]⟩) (.string ⟨#[]⟩) (.string ⟨#[]⟩) (.slice none 0 0) (.slice none 0 0) (.slice none 0 0) (.string ⟨#[]⟩) (.int .i32 0) (.int .i32 0) (.int .i32 0) (.int .i32 0) (.int .i32 0) (.int .i32 0) (.int .i32 0) (.string ⟨#[]⟩) (.string ⟨#[]⟩) (.string ⟨#[]⟩) (.string ⟨#[]⟩) (.slice none 0 0) (.slice none 0 0) (.slice none 0 0) hblk5)
    have HBS := Aside0.mk (below15 w5 g2 (.string ⟨#[]⟩) (.int .i32 0) (.int .i32 0) (.int .i32 0) (.int .i32 0) (.int .i32 0) (.int .i32 0) (.int .i32 0) (.string ⟨#[]⟩) (.string ⟨#[]⟩) (.string ⟨#[]⟩) (.string ⟨#[]⟩) (.slice none 0 0) (.slice none 0 0) (.slice none 0 0) HB5.out (Nat.le_of_eq HG.out))
    have hz0 := blk_cell hblk5 0
    have fhz0 := blk_free hblk5 0
    have hz1 := blk_cell hblk5 1
    have fhz1 := blk_free hblk5 1
    have hz2 := blk_cell hblk5 2
    have fhz2 := blk_free hblk5 2
    have hz3 := blk_cell hblk5 3
    have fhz3 := blk_free hblk5 3
    have hz4 := blk_cell hblk5 4
    have fhz4 := blk_free hblk5 4
    have hz5 := blk_cell hblk5 5
    have fhz5 := blk_free hblk5 5
    have hz6 := blk_cell hblk5 6
    have fhz6 := blk_free hblk5 6
    have hz7 := blk_cell hblk5 7
    have fhz7 := blk_free hblk5 7
    have hz8 := blk_cell hblk5 8
    have fhz8 := blk_free hblk5 8
    have hz9 := blk_cell hblk5 9
    have fhz9 := blk_free hblk5 9
    have hz10 := blk_cell hblk5 10
    have fhz10 := blk_free hblk5 10
    have hz11 := blk_cell hblk5 11
    have fhz11 := blk_free hblk5 11
    have hz12 := blk_cell hblk5 12
    have fhz12 := blk_free hblk5 12
    have hz13 := blk_cell hblk5 13
    have fhz13 := blk_free hblk5 13
    have hz14 := blk_cell hblk5 14
    have fhz14 := blk_free hblk5 14
    simp only [List.getElem?_toArray, List.getElem?_cons_zero, List.getElem?_cons_succ] at hz0 hz1 hz2 hz3 hz4 hz5 hz6 hz7 hz8 hz9 hz10 hz11 hz12 hz13 hz14
    have hlt := blk_lt hblk5
    have HZ := Aside0.mk hz
    clear hb5 hb35 hblk5 HE HBA HB5 HB3 HBK3 HOL HOL5 HG6 HG65 hz
    go_wp2
    refine bodyPost_ret (results_dec _ g2 _ rfl (.string ⟨#[]⟩) (.int .i32 0) (.int .i32 0) (.int .i32 0) (.int .i32 0) (.int .i32 0) (.int .i32 0) (.int .i32 0) (.string ⟨#[]⟩) (.string ⟨#[]⟩) (.string ⟨#[]⟩) (.string ⟨#[]⟩) (.slice none 0 0) (.slice none 0 0) (.slice none 0 0) _ rfl HS.out) rfl ⟨HBS.out, ?_⟩
    rw [HZ.out]
    exact rfl
  | true =>
    rw [hz] at he
    obtain ⟨v5, rfl, ho5⟩ := he
    obtain ⟨A5, c5, hv, hcc5, hrd5⟩ := Kd.R_reads ho5
    subst hv
    have HEQ := Aside0.mk (equal_calls (enc l) xs A5 A c5 c w5 hrd5 (Kd.C_below HX.out HB5.out))
    have HBK5 := Aside0.mk hblk5
    have HZ := Aside0.mk hz
    have hlE : (enc l).length ≤ 9223372036854775807 := hrd5.2.1
    obtain ⟨es, hes⟩ : ∃ es, enc l = es := ⟨_, rfl⟩
    have HES := Aside0.mk hes
    rw [hes] at HEQ hlE ⊢
    clear ho5 hcc5 hrd5 hb5 hb35 hblk5 HE HBA HB3 HBK3 HOL HG6 hz hes
    go_wp2_with fail
    refine HEQ.out.mono ?_
    rintro e w6 ⟨rfl, hb6⟩
    have hblk6 := blk_below HBK5.out hb6 (blk_lt HBK5.out)
    have hg66 := blk_below HG65.out hb6 (blk_lt HG65.out)
    have HB6 := Aside0.mk (below_then HB5.out HB5.out.size hb6)
    have HOL6 := Aside0.mk (HOL5.out.below hb6)
    have hz0 := blk_cell hblk6 0
    have fhz0 := blk_free hblk6 0
    have hz1 := blk_cell hblk6 1
    have fhz1 := blk_free hblk6 1
    have hz2 := blk_cell hblk6 2
    have fhz2 := blk_free hblk6 2
    have hz3 := blk_cell hblk6 3
    have fhz3 := blk_free hblk6 3
    have hz4 := blk_cell hblk6 4
    have fhz4 := blk_free hblk6 4
    have hz5 := blk_cell hblk6 5
    have fhz5 := blk_free hblk6 5
    have hz6 := blk_cell hblk6 6
    have fhz6 := blk_free hblk6 6
    have hz7 := blk_cell hblk6 7
    have fhz7 := blk_free hblk6 7
    have hz8 := blk_cell hblk6 8
    have fhz8 := blk_free hblk6 8
    have hz9 := blk_cell hblk6 9
    have fhz9 := blk_free hblk6 9
    have hz10 := blk_cell hblk6 10
    have fhz10 := blk_free hblk6 10
    have hz11 := blk_cell hblk6 11
    have fhz11 := blk_free hblk6 11
    have hz12 := blk_cell hblk6 12
    have fhz12 := blk_free hblk6 12
    have hz13 := blk_cell hblk6 13
    have fhz13 := blk_free hblk6 13
    have hz14 := blk_cell hblk6 14
    have fhz14 := blk_free hblk6 14
    simp only [List.getElem?_toArray, List.getElem?_cons_zero, List.getElem?_cons_succ] at hz0 hz1 hz2 hz3 hz4 hz5 hz6 hz7 hz8 hz9 hz10 hz11 hz12 hz13 hz14
    have hlt := blk_lt hblk6
    have HB66 := Aside0.mk hblk6
    cases hq : eqB es xs with
    | false =>
      have HS := Aside0.mk (set15 w6 g2 (.string ⟨#[]⟩) (.int .i32 0) (.int .i32 0) (.int .i32 0) (.int .i32 0) (.int .i32 0) (.int .i32 0) (.int .i32 0) (.string ⟨#[]⟩) (.string ⟨#[]⟩) (.string ⟨#[]⟩) (.string ⟨#[]⟩) (.slice none 0 0) (.slice none 0 0) (.slice none 0 0) (.string ⟨#[]⟩) (.int .i32 0) (.int .i32 0) (.int .i32 0) (.int .i32 0) (.int .i32 0) (.int .i32 0) (.int .i32 0) (.string ⟨#[]⟩) (.string ⟨#[]⟩) (.string ⟨#[]⟩) (.string ⟨#[]⟩) (.slice none 0 0) (.slice none 0 0) (.slice none 0 0) hblk6)
      have HBS := Aside0.mk (below15 w6 g2 (.string ⟨#[]⟩) (.int .i32 0) (.int .i32 0) (.int .i32 0) (.int .i32 0) (.int .i32 0) (.int .i32 0) (.int .i32 0) (.string ⟨#[]⟩) (.string ⟨#[]⟩) (.string ⟨#[]⟩) (.string ⟨#[]⟩) (.slice none 0 0) (.slice none 0 0) (.slice none 0 0) HB6.out (Nat.le_of_eq HG.out))
      have HQ := Aside0.mk hq
      clear hb6 hblk6 hg66 HEQ HB5 HBK5 HOL5 HG65 HB6 HOL6 hq
      go_wp2
      refine bodyPost_ret (results_dec _ g2 _ rfl (.string ⟨#[]⟩) (.int .i32 0) (.int .i32 0) (.int .i32 0) (.int .i32 0) (.int .i32 0) (.int .i32 0) (.int .i32 0) (.string ⟨#[]⟩) (.string ⟨#[]⟩) (.string ⟨#[]⟩) (.string ⟨#[]⟩) (.slice none 0 0) (.slice none 0 0) (.slice none 0 0) _ rfl HS.out) rfl ⟨HBS.out, ?_⟩
      rw [HZ.out, HES.out, HQ.out]
      exact rfl
    | true =>
      have HS := Aside0.mk (set15 w6 g2 (.string l.tag) (.int .i32 l.s.z0) (.int .i32 l.s.z1) (.int .i32 l.s.z2) (.int .i32 l.s.z3) (.int .i32 l.s.z4) (.int .i32 l.s.z5) (.int .i32 l.s.z6) (.string l.p0) (.string l.p1) (.string l.p2) (.string l.p3) (.slice Ar mr cr) (.slice Ac mc cc) (.slice Ak mk ck) (.string ⟨#[]⟩) (.int .i32 0) (.int .i32 0) (.int .i32 0) (.int .i32 0) (.int .i32 0) (.int .i32 0) (.int .i32 0) (.string ⟨#[]⟩) (.string ⟨#[]⟩) (.string ⟨#[]⟩) (.string ⟨#[]⟩) (.slice none 0 0) (.slice none 0 0) (.slice none 0 0) hblk6)
      have HBS := Aside0.mk (below15 w6 g2 (.string l.tag) (.int .i32 l.s.z0) (.int .i32 l.s.z1) (.int .i32 l.s.z2) (.int .i32 l.s.z3) (.int .i32 l.s.z4) (.int .i32 l.s.z5) (.int .i32 l.s.z6) (.string l.p0) (.string l.p1) (.string l.p2) (.string l.p3) (.slice Ar mr cr) (.slice Ac mc cc) (.slice Ak mk ck) HB6.out (Nat.le_of_eq HG.out))
      have HQ := Aside0.mk hq
      have hy0 := blk_cell hg66 0
      have fhy0 := blk_free hg66 0
      have hy1 := blk_cell hg66 1
      have fhy1 := blk_free hg66 1
      have hy2 := blk_cell hg66 2
      have fhy2 := blk_free hg66 2
      have hy3 := blk_cell hg66 3
      have fhy3 := blk_free hg66 3
      have hy4 := blk_cell hg66 4
      have fhy4 := blk_free hg66 4
      have hy5 := blk_cell hg66 5
      have fhy5 := blk_free hg66 5
      have hy6 := blk_cell hg66 6
      have fhy6 := blk_free hg66 6
      have hy7 := blk_cell hg66 7
      have fhy7 := blk_free hg66 7
      have hy8 := blk_cell hg66 8
      have fhy8 := blk_free hg66 8
      have hy9 := blk_cell hg66 9
      have fhy9 := blk_free hg66 9
      have hy10 := blk_cell hg66 10
      have fhy10 := blk_free hg66 10
      have hy11 := blk_cell hg66 11
      have fhy11 := blk_free hg66 11
      have hy12 := blk_cell hg66 12
      have fhy12 := blk_free hg66 12
      have hy13 := blk_cell hg66 13
      have fhy13 := blk_free hg66 13
      have hy14 := blk_cell hg66 14
      have fhy14 := blk_free hg66 14
      simp only [List.getElem?_toArray, List.getElem?_cons_zero, List.getElem?_cons_succ] at hy0 hy1 hy2 hy3 hy4 hy5 hy6 hy7 hy8 hy9 hy10 hy11 hy12 hy13 hy14
      have hltg := blk_lt hg66
      have HOF := Aside0.mk ((own15 w6 g2 (.string l.tag) (.int .i32 l.s.z0) (.int .i32 l.s.z1) (.int .i32 l.s.z2) (.int .i32 l.s.z3) (.int .i32 l.s.z4) (.int .i32 l.s.z5) (.int .i32 l.s.z6) (.string l.p0) (.string l.p1) (.string l.p2) (.string l.p3) (.slice Ar mr cr) (.slice Ac mc cc) (.slice Ak mk ck) HOL6.out HSZ2.out.2).lower HSZ2.out.1)
      clear hb6 hblk6 hg66 HEQ HB5 HBK5 HOL5 HG65 HB6 HOL6 hq
      go_wp2
      refine bodyPost_ret (results_dec _ g2 _ rfl (.string l.tag) (.int .i32 l.s.z0) (.int .i32 l.s.z1) (.int .i32 l.s.z2) (.int .i32 l.s.z3) (.int .i32 l.s.z4) (.int .i32 l.s.z5) (.int .i32 l.s.z6) (.string l.p0) (.string l.p1) (.string l.p2) (.string l.p3) (.slice Ar mr cr) (.slice Ac mc cc) (.slice Ak mk ck) _ rfl HS.out) rfl ⟨HBS.out, ?_⟩
      rw [HZ.out, HES.out, HQ.out]
      exact ⟨_, rfl, HOF.out⟩
end Go.Proofs.Ytfbmgjanplnabaa

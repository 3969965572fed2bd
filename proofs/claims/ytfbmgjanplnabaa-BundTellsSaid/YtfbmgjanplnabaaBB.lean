import Derived.Test.YtfbmgjanplnabaaBA
/- The writer of bundles: number. -/
namespace Go.Proofs.Ytfbmgjanplnabaa
open Go.RowKit Go.Proofs.YtfbmgjanplnabaaW.PrintWords Go.Proofs.YtfbmgjanplnabaaW.PrintLast Go.Proofs.YtfbmgjanplnabaaW.PrintMore
set_option linter.unusedVariables false
set_option linter.unusedSimpArgs false

def lim (size : Int) : Int := if size = 1 then 256 else if size = 2 then 65536 else 4294967296
def be (n size : Int) : List Int := if size = 1 then [n] else if size = 2 then [n / 256, n % 256] else [n / 16777216, n / 65536 % 256, n / 256 % 256, n % 256]
def fits (n size : Int) : Bool := decide (0 ≤ n) && decide (n < lim size)
/-- A number written behind bytes; what may not be written is told. -/
def wnum (st : List Int × Bool) (i : Int × Int) : List Int × Bool := if fits i.1 i.2 then (st.1 ++ be i.1 i.2, st.2) else (st.1, true)
theorem be_length (n size : Int) : (be n size).length ≤ 4 := by
  unfold be
  repeat' split
  all_goals simp
theorem wnum_length (st : List Int × Bool) (i : Int × Int) : (wnum st i).1.length ≤ st.1.length + 4 := by
  unfold wnum
  split
  · have := be_length i.1 i.2
    simp only [List.length_append]; omega
  · exact Nat.le_add_right _ _

theorem put_ok (size : Int) (hs : size = 1 ∨ size = 2 ∨ size = 4) (xs : List Int) (A : Option Addr) (c : Nat) (n : Int) (w : World) (hx : RdB w A xs) (hc : xs.length ≤ c) (hm : xs.length ≤ 140737488355000) (hf : fits n size = true) :
    Calls Try.prog 44 #[.slice A xs.length c, .int .u32 n, .int .i64 size] w (putPost (xs ++ be n size) w) := by
  simp only [fits, Bool.and_eq_true, decide_eq_true_eq] at hf
  rcases hs with rfl | rfl | rfl
  · exact put1_ok xs A c n w hx hc hm hf.1 hf.2
  · exact put2_ok xs A c n w hx hc hm hf.1 hf.2
  · exact put4_ok xs A c n w hx hc hm hf.1 hf.2
theorem put_bad (size : Int) (hs : size = 1 ∨ size = 2 ∨ size = 4) (v : Value) (n : Int) (w : World) (h0 : 0 ≤ n) (h1 : n < 4294967296) (hf : fits n size = false) :
    Calls Try.prog 44 #[v, .int .u32 n, .int .i64 size] w fun e w' => e = .returned (.tuple #[v, .int .i64 1]) ∧ w = w' := by
  simp only [fits, Bool.and_eq_false_iff, decide_eq_false_iff_not] at hf
  rcases hs with rfl | rfl | rfl
  · exact put1_bad v n w (by simp only [lim, if_pos] at hf; omega) h1
  · exact put2_bad v n w (by have : lim 2 = 65536 := rfl; omega) h1
  · exfalso; have : lim 4 = 4294967296 := rfl; omega

/-- The writer's cells: what is written, the places still to come, a locale, and whether all went well. -/
def wcells (vb vr : Value) (L : List Value) (bad : Bool) : Array Value := (vb :: vr :: (L ++ [.bool bad])).toArray
section
variable {vb vr : Value} {L : List Value} {bad : Bool}
theorem wcells_0 : (wcells vb vr L bad)[0]? = some vb := by simp [wcells]
theorem wcells_1 : (wcells vb vr L bad)[1]? = some vr := by simp [wcells]
theorem wcells_l (i : Nat) (h : i < L.length) : (wcells vb vr L bad)[2 + i]? = L[i]? := by
  rw [Nat.add_comm]; simp [wcells, List.getElem?_append_left h]
theorem wcells_17 (hL : L.length = 15) : (wcells vb vr L bad)[17]? = some (.bool bad) := by
  simp [wcells, List.getElem?_append_right, hL]
theorem wcells_set0 (v : Value) : (wcells vb vr L bad).setIfInBounds 0 v = wcells v vr L bad := by simp [wcells]
theorem wcells_set1 (v : Value) : (wcells vb vr L bad).setIfInBounds 1 v = wcells vb v L bad := by simp [wcells]
theorem wcells_set17 (hL : L.length = 15) (b : Bool) : (wcells vb vr L bad).setIfInBounds 17 (.bool b) = wcells vb vr L b := by
  simp [wcells, List.set_append_right, hL]
end

/-- The writer stands at the heap's end as it was; what is written is a row of its own. -/
def WSt (w0 : World) (L : List Value) (w : World) (vr : Value) (b : List Int) (bad : Bool) : Prop :=
  ∃ vb, w.heap[w0.heap.size]? = some (.cells (wcells vb vr L bad) 68 (0, 0)) ∧ OwnB w (w0.heap.size + 1) vb b ∧ Below w0.heap.size w0 w

theorem R_slice' {α : Type} {d : Kd α} {e : Nat} {w : World} {base : Nat} {ok : Nat → Prop} {v : Value} {xs : List α} (h : d.R e w base ok v xs) : ∃ A m c, v = .slice A m c := by
  obtain ⟨A, c, e⟩ := Kd.R_slice h
  exact ⟨A, _, c, e⟩
theorem grown_of_below' {w w1 : World} (h : Below w.heap.size w w1) (row : Option Nat) : w.grownBy w1 row := ⟨h.os, h.tape, h.output, h.size, fun i hi _ => h.block i hi⟩
theorem WSt.stay {w0 : World} {L : List Value} {w : World} {vb vr : Value} {b : List Int} {bad bad' : Bool} (hL : L.length = 15) (hK : w.heap[w0.heap.size]? = some (.cells (wcells vb vr L bad) 68 (0, 0))) (HB : Below w0.heap.size w0 w) (ho : OwnB w (w0.heap.size + 1) vb b) :
    WSt w0 L ((w.setCell ⟨w0.heap.size, 0, none⟩ vb).setCell ⟨w0.heap.size, 17, none⟩ (.bool bad')) vr b bad' ∧ w.grownBy ((w.setCell ⟨w0.heap.size, 0, none⟩ vb).setCell ⟨w0.heap.size, 17, none⟩ (.bool bad')) (some w0.heap.size) := by
  have hK2 := blk_set hK 0 vb
  rw [wcells_set0] at hK2
  have hK3 := blk_set hK2 17 (.bool bad')
  rw [wcells_set17 hL] at hK3
  have step : ∀ (W : World) (i : Nat) (u : Value), OwnB W (w0.heap.size + 1) vb b → OwnB (W.setCell ⟨w0.heap.size, i, none⟩ u) (w0.heap.size + 1) vb b := by
    intro W i u h
    refine Kd.R_mono (Kd.R_far (p := ⟨w0.heap.size, i, none⟩) (Kd.R_bound h) (fun k hk e => ?_) u) (fun _ _ => trivial)
    have := hk.2.1
    have e' : k = w0.heap.size := e
    omega
  exact ⟨⟨vb, hK3, step _ _ _ (step _ _ _ ho), (HB.setCell (Nat.le_refl _) _).setCell (Nat.le_refl _) _⟩, (grownBy_setc _ _ _ _).trans (grownBy_setc _ _ _ _)⟩
theorem WSt.put {w0 : World} {L : List Value} {w w1 : World} {vb vr v : Value} {b' : List Int} {bad bad' : Bool} (hL : L.length = 15) (hK : w.heap[w0.heap.size]? = some (.cells (wcells vb vr L bad) 68 (0, 0))) (HB : Below w0.heap.size w0 w) (hb : Below w.heap.size w w1) (ho : OwnB w1 w.heap.size v b') :
    WSt w0 L ((w1.setCell ⟨w0.heap.size, 0, none⟩ v).setCell ⟨w0.heap.size, 17, none⟩ (.bool bad')) vr b' bad' ∧ w.grownBy ((w1.setCell ⟨w0.heap.size, 0, none⟩ v).setCell ⟨w0.heap.size, 17, none⟩ (.bool bad')) (some w0.heap.size) := by
  have hlt := blk_lt hK
  have hK1 := blk_below hK hb hlt
  have hK2 := blk_set hK1 0 v
  rw [wcells_set0] at hK2
  have hK3 := blk_set hK2 17 (.bool bad')
  rw [wcells_set17 hL] at hK3
  have step : ∀ (W : World) (i : Nat) (u : Value), OwnB W (w0.heap.size + 1) v b' → OwnB (W.setCell ⟨w0.heap.size, i, none⟩ u) (w0.heap.size + 1) v b' := by
    intro W i u h
    refine Kd.R_mono (Kd.R_far (p := ⟨w0.heap.size, i, none⟩) (Kd.R_bound h) (fun k hk e => ?_) u) (fun _ _ => trivial)
    have := hk.2.1
    have e' : k = w0.heap.size := e
    omega
  refine ⟨⟨v, hK3, step _ _ _ (step _ _ _ (Kd.R_lower ho (by omega))), ((below_then HB HB.size hb).setCell (Nat.le_refl _) _).setCell (Nat.le_refl _) _⟩, ((grown_of_below' hb _).trans (grownBy_setc _ _ _ _)).trans (grownBy_setc _ _ _ _)⟩

set_option maxHeartbeats 400000 in
theorem number_calls (w0 : World) (L : List Value) (hL : L.length = 15) (w : World) (vr : Value) (b : List Int) (bad : Bool) (n size : Int) (hs : size = 1 ∨ size = 2 ∨ size = 4) (hS : WSt w0 L w vr b bad) (hm : b.length ≤ 140737488355000) :
    Calls Try.prog 29 #[.pointer (some ⟨w0.heap.size, 0, none⟩), .int .i64 n, .int .i64 size] w fun e w' => e = .returned (.tuple #[]) ∧ WSt w0 L w' vr (wnum (b, bad) (n, size)).1 (wnum (b, bad) (n, size)).2 ∧ w.grownBy w' (some w0.heap.size) := by
  obtain ⟨vb, hblk, hown, hbel⟩ := hS
  obtain ⟨g, hg⟩ : ∃ g, w0.heap.size = g := ⟨_, rfl⟩
  have hc0 := (blk_cell hblk 0).trans wcells_0
  have hcb := (blk_cell hblk 17).trans (wcells_17 hL)
  have hf0 := blk_free hblk 0
  have hf17 := blk_free hblk 17
  have HK := Aside0.mk hblk
  have HL := Aside0.mk hL
  have HO := Aside0.mk hown
  have HB := Aside0.mk hbel
  have HM := Aside0.mk hm
  clear hblk hL hown hbel hm
  by_cases hn : n < 0 ∨ 4294967295 < n
  · have hw : wnum (b, bad) (n, size) = (b, true) := by
      unfold wnum
      rw [if_neg]
      simp only [fits, Bool.and_eq_true, decide_eq_true_eq]
      rcases hs with rfl | rfl | rfl <;> simp only [lim] <;> simp <;> omega
    rw [hw]
    have hfin : WSt w0 L (w.setCell ⟨g, 17, none⟩ (.bool true)) vr b true ∧ w.grownBy (w.setCell ⟨g, 17, none⟩ (.bool true)) (some g) := by
      rw [← hg]
      refine ⟨⟨vb, ?_, Kd.R_far (p := ⟨w0.heap.size, 17, none⟩) (Kd.R_bound HO.out) (fun k hk e => by have := hk.2.1; simp at e; omega) _ |> fun h => Kd.R_mono h (fun _ _ => trivial), HB.out.setCell (Nat.le_refl _) _⟩, grownBy_setc _ _ _ _⟩
      rw [blk_set HK.out, wcells_set17 HL.out]
    have HF := Aside0.mk hfin
    rw [hg] at hc0 hcb hf0 hf17 ⊢
    clear hw hfin hg
    by_cases h1 : n < 0
    · clear hn
      go_enter Try.func29, Try.ntmps29
      go_wp2
      refine bodyPost_ret (results_none rfl _ _ _) rfl ?_
      exact ⟨rfl, HF.out⟩
    · have h2 : 4294967295 < n := by omega
      clear hn
      go_enter Try.func29, Try.ntmps29
      go_wp2
      refine bodyPost_ret (results_none rfl _ _ _) rfl ?_
      exact ⟨rfl, HF.out⟩
  · have h1 : ¬ n < 0 := by omega
    have h2 : ¬ 4294967295 < n := by omega
    have h0 : 0 ≤ n := by omega
    clear hn
    have hoB := HO.out
    obtain ⟨A, c, hvb, hcc, hrd⟩ := Kd.R_reads hoB
    subst hvb
    cases hf : fits n size with
    | true =>
      have hw : wnum (b, bad) (n, size) = (b ++ be n size, bad) := by unfold wnum; rw [if_pos hf]
      rw [hw]
      have HP := Aside0.mk (put_ok size hs b A c n w hrd hcc HM.out hf)
      have hlt := blk_lt HK.out
      have HFin : Aside0 (∀ w1 v, Below w.heap.size w w1 → OwnB w1 w.heap.size v (b ++ be n size) → WSt w0 L ((w1.setCell ⟨w0.heap.size, 0, none⟩ v).setCell ⟨w0.heap.size, 17, none⟩ (.bool bad)) vr (b ++ be n size) bad ∧ w.grownBy ((w1.setCell ⟨w0.heap.size, 0, none⟩ v).setCell ⟨w0.heap.size, 17, none⟩ (.bool bad)) (some w0.heap.size)) := ⟨fun w1 v h1 h2 => WSt.put HL.out HK.out HB.out h1 h2⟩
      rw [hg] at hc0 hcb hf0 hf17 hlt HFin ⊢
      clear hoB hrd hw hs hf hg HK HO
      cases bad
      all_goals
        go_enter Try.func29, Try.ntmps29
        go_wp2_with fail
        refine HP.out.mono ?_
        rintro e w1 ⟨v, rfl, ho, hb⟩
        have HF := Aside0.mk (HFin.out w1 v hb ho)
        have hd0 := (hb.cell (p := ⟨g, 0, none⟩) hlt).trans hc0
        have hd17 := (hb.cell (p := ⟨g, 17, none⟩) hlt).trans hcb
        have hg0 := (hb.frozen (p := ⟨g, 0, none⟩) hlt).trans hf0
        have hg17 := (hb.frozen (p := ⟨g, 17, none⟩) hlt).trans hf17
        obtain ⟨A2, m2, c2, rfl⟩ := R_slice' ho
        clear ho hb HFin HP hc0 hcb hf0 hf17
        go_wp2
        go_end0
        exact ⟨rfl, HF.out⟩
    | false =>
      have hw : wnum (b, bad) (n, size) = (b, true) := by unfold wnum; rw [if_neg (by simp only; rw [hf]; decide)]
      rw [hw]
      have HP := Aside0.mk (put_bad size hs (.slice A b.length c) n w h0 (by omega) hf)
      have hlt := blk_lt HK.out
      have HF := Aside0.mk (show WSt w0 L ((w.setCell ⟨w0.heap.size, 0, none⟩ (.slice A b.length c)).setCell ⟨w0.heap.size, 17, none⟩ (.bool true)) vr b true ∧ w.grownBy ((w.setCell ⟨w0.heap.size, 0, none⟩ (.slice A b.length c)).setCell ⟨w0.heap.size, 17, none⟩ (.bool true)) (some w0.heap.size) from WSt.stay HL.out HK.out HB.out HO.out)
      rw [hg] at hc0 hcb hf0 hf17 hlt HF ⊢
      clear hoB hrd hw hs hf hg HK HO
      cases bad
      all_goals
        go_enter Try.func29, Try.ntmps29
        go_wp2_with fail
        refine HP.out.mono ?_
        rintro e w1 ⟨rfl, rfl⟩
        clear HP
        go_wp2
        go_end0
        exact ⟨rfl, HF.out⟩
end Go.Proofs.Ytfbmgjanplnabaa
/- The writer of bundles: text. -/
namespace Go.Proofs.Ytfbmgjanplnabaa
open Go.RowKit Go.Proofs.YtfbmgjanplnabaaW.PrintWords Go.Proofs.YtfbmgjanplnabaaW.PrintLast Go.Proofs.YtfbmgjanplnabaaW.PrintMore
set_option linter.unusedVariables false
set_option linter.unusedSimpArgs false

theorem info3 : (Try.prog.info? 3).map (fun i => (i.zero, i.size, i.bytes)) = some (some (.int .i64 0), 1, 8) := by kernel_rfl

/-- The writer with the places still to come. -/
def WR (w0 : World) (L : List Value) (w : World) (refs : List Int) (st : List Int × Bool) : Prop :=
  ∃ Ar cr, refs.length ≤ cr ∧ (Kd.int .i64).C w0 Ar refs.length refs ∧ WSt w0 L w (.slice Ar refs.length cr) st.1 st.2

theorem number_WR (w0 : World) (L : List Value) (hL : L.length = 15) (w : World) (refs : List Int) (st : List Int × Bool) (n size : Int) (hs : size = 1 ∨ size = 2 ∨ size = 4) (hS : WR w0 L w refs st) (hm : st.1.length ≤ 140737488355000) :
    Calls Try.prog 29 #[.pointer (some ⟨w0.heap.size, 0, none⟩), .int .i64 n, .int .i64 size] w fun e w' => e = .returned (.tuple #[]) ∧ WR w0 L w' refs (wnum st (n, size)) ∧ w.grownBy w' (some w0.heap.size) := by
  obtain ⟨Ar, cr, h1, h2, h3⟩ := hS
  refine (number_calls w0 L hL w _ st.1 st.2 n size hs h3 hm).mono ?_
  rintro e w' ⟨rfl, h4, h5⟩
  exact ⟨rfl, ⟨Ar, cr, h1, h2, h4⟩, h5⟩

theorem WSt.refs {w0 : World} {L : List Value} {w : World} {vr vr' : Value} {b : List Int} {bad : Bool} (h : WSt w0 L w vr b bad) : WSt w0 L (w.setCell ⟨w0.heap.size, 1, none⟩ vr') vr' b bad := by
  obtain ⟨vb, hK, ho, hB⟩ := h
  have hK2 := blk_set hK 1 vr'
  rw [wcells_set1] at hK2
  refine ⟨vb, hK2, Kd.R_mono (Kd.R_far (p := ⟨w0.heap.size, 1, none⟩) (Kd.R_bound ho) (fun k hk e => ?_) vr') (fun _ _ => trivial), hB.setCell (Nat.le_refl _) _⟩
  have := hk.2.1
  have e' : k = w0.heap.size := e
  omega
theorem WSt.blk {w0 : World} {L : List Value} {w : World} {vr : Value} {b : List Int} {bad : Bool} (h : WSt w0 L w vr b bad) : w.cell? ⟨w0.heap.size, 1, none⟩ = some vr ∧ w.frozen? ⟨w0.heap.size, 1, none⟩ = false ∧ w0.heap.size < w.heap.size := by
  obtain ⟨vb, hK, _⟩ := h
  exact ⟨(blk_cell hK 1).trans wcells_1, blk_free hK 1, blk_lt hK⟩

set_option maxHeartbeats 400000 in
theorem text_WR (w0 : World) (L : List Value) (hL : L.length = 15) (w : World) (r : Int) (refs : List Int) (st : List Int × Bool) (hS : WR w0 L w (r :: refs) st) (hm : st.1.length ≤ 140737488355000) :
    Calls Try.prog 45 #[.pointer (some ⟨w0.heap.size, 0, none⟩)] w fun e w' => e = .returned (.tuple #[]) ∧ WR w0 L w' refs (wnum st (r, 2)) ∧ w.grownBy w' (some w0.heap.size) := by
  obtain ⟨Ar, cr, h1, h2, h3⟩ := hS
  obtain ⟨i0, hi, _, hsz, _⟩ := info_parts info3
  obtain ⟨A', hcut, hA, hC⟩ := print_drop_of (P := Try.prog) (Value.int .i64) 0 62 3 .i64 Try.underlying62 hi hsz Ar cr (r :: refs) 1 (by omega) (by simp only [List.length_cons]; omega) h1
  have HR2 := Aside0.mk (Kd.C_of_reads (h1 := fun _ => rfl) (hA _ (Kd.reads_of_C h2)))
  have HC2 := Aside0.mk hC
  simp only [show ((1 : Int).toNat) = 1 from rfl, List.drop_succ_cons, List.drop_zero, List.length_cons] at hcut HR2 HC2
  obtain ⟨b, off, rfl, hcell⟩ := C_plain h2 (by simp)
  have hc0 : w0.cell? ⟨b, off, none⟩ = some (.int .i64 r) := hcell 0 (by simp)
  have hblk := World.block_lt_of_cell? w0 _ hc0
  obtain ⟨hv, hB⟩ : (∃ vb, True) ∧ Below w0.heap.size w0 w := ⟨⟨0, trivial⟩, by obtain ⟨vb, _, _, h⟩ := h3; exact h⟩
  have hlen : (refs.length : Int) + 1 ≤ 9223372036854775807 := by have := h2.2.1; simp only [List.length_cons] at this; omega
  simp only [List.length_cons] at h3
  obtain ⟨hf1, hf2, hf3⟩ := h3.blk
  have hd0 := (hB.cell (p := ⟨b, off, none⟩) hblk).trans hc0
  have HN := Aside0.mk (number_calls w0 L hL w _ st.1 st.2 r 2 (.inr (.inl rfl)) h3 hm)
  obtain ⟨g, hg⟩ : ∃ g, w0.heap.size = g := ⟨_, rfl⟩
  rw [hg] at hf1 hf2 hf3 HN ⊢
  have HG := Aside0.mk hg
  clear h1 h2 h3 hcell hblk hv hB hc0 hg hA hC hi hsz hm
  go_enter Try.func45, Try.ntmps45
  go_wp2_with fail
  refine HN.out.mono ?_
  rintro e w1 ⟨rfl, hs1, hgr⟩
  obtain ⟨hg1, hg2, hg3⟩ := hs1.blk
  have HF := Aside0.mk (hs1.refs (vr' := .slice A' refs.length (cr - 1)))
  rw [HG.out] at hg1 hg2 hg3
  have HGR := Aside0.mk hgr
  clear hs1 hgr HN hf1 hf2 hd0
  go_wp2
  go_end0
  rw [HG.out] at HF
  exact ⟨rfl, ⟨A', cr - 1, HC2.out, HR2.out, HF.out⟩, HGR.out.trans (grownBy_setc _ _ _ _)⟩
end Go.Proofs.Ytfbmgjanplnabaa
/- The writer of bundles: head, pats. -/
namespace Go.Proofs.Ytfbmgjanplnabaa
open Go.RowKit Go.Proofs.YtfbmgjanplnabaaW.PrintWords Go.Proofs.YtfbmgjanplnabaaW.PrintLast Go.Proofs.YtfbmgjanplnabaaW.PrintMore
set_option linter.unusedVariables false
set_option linter.unusedSimpArgs false

def wrt (st : List Int × Bool) (items : List (Int × Int)) : List Int × Bool := items.foldl wnum st
theorem wrt_append (st : List Int × Bool) (xs ys : List (Int × Int)) : wrt st (xs ++ ys) = wrt (wrt st xs) ys := by simp [wrt]
theorem wrt_length (items : List (Int × Int)) : ∀ st : List Int × Bool, (wrt st items).1.length ≤ st.1.length + 4 * items.length := by
  induction items with
  | nil => intro st; simp [wrt]
  | cons i items ih =>
    intro st
    have h1 := wnum_length st i
    have h2 := ih (wnum st i)
    have h3 : wrt st (i :: items) = wrt (wnum st i) items := rfl
    rw [h3, List.length_cons]
    omega
theorem wrt_take (st : List Int × Bool) (items : List (Int × Int)) (k : Nat) (i : Int × Int) (h : items[k]? = some i) : wrt st (items.take (k + 1)) = wnum (wrt st (items.take k)) i := by
  obtain ⟨hk, rfl⟩ := List.getElem?_eq_some_iff.1 h
  rw [List.take_succ_eq_append_getElem hk, wrt_append]
  rfl

def syItems (s : Sy) : List (Int × Int) := [(s.z0, 4), (s.z1, 4), (s.z2, 4), (s.z3, 4), (s.z4, 4), (s.z5, 4), (s.z6, 4)]
def syNums (s : Sy) : List Int := [s.z0, s.z1, s.z2, s.z3, s.z4, s.z5, s.z6]
def Sy.ok (s : Sy) : Prop := ∀ z, z ∈ syNums s → -2147483648 ≤ z ∧ z ≤ 2147483647

/-- The cells of the writer's locale, where they lie. -/
theorem WR.cells {w0 : World} {L : List Value} {w : World} {refs : List Int} {st : List Int × Bool} (h : WR w0 L w refs st) (i : Nat) (v : Value) (hv : L[i]? = some v) : w.cell? ⟨w0.heap.size, 2 + i, none⟩ = some v := by
  obtain ⟨Ar, cr, _, _, vb, hK, _⟩ := h
  rw [blk_cell hK, wcells_l i (List.getElem?_eq_some_iff.1 hv).1, hv]
theorem WR.bel {w0 : World} {L : List Value} {w : World} {refs : List Int} {st : List Int × Bool} (h : WR w0 L w refs st) : Below w0.heap.size w0 w ∧ w0.heap.size < w.heap.size := by
  obtain ⟨Ar, cr, _, _, vb, hK, _, hB⟩ := h
  exact ⟨hB, blk_lt hK⟩
theorem WR.alloc {w0 : World} {L : List Value} {w : World} {refs : List Int} {st : List Int × Bool} (h : WR w0 L w refs st) (o : Obj) : WR w0 L (w.alloc o) refs st := by
  obtain ⟨Ar, cr, h1, h2, vb, hK, ho, hB⟩ := h
  exact ⟨Ar, cr, h1, h2, vb, blk_alloc hK o, Kd.R_alloc ho o, hB.alloc hB.size o⟩

set_option maxHeartbeats 800000 in
theorem head_WR (w0 : World) (l : Loc) (vr vc vk : Value) (w : World) (r : Int) (refs : List Int) (st : List Int × Bool) (hz : l.s.ok) (hS : WR w0 (lcells l vr vc vk) w (r :: refs) st) (hm : st.1.length ≤ 1000000) :
    Calls Try.prog 24 #[.pointer (some ⟨w0.heap.size, 0, none⟩)] w fun e w' => e = .returned (.tuple #[]) ∧ WR w0 (lcells l vr vc vk) w' refs (wrt (wnum st (r, 2)) (syItems l.s)) ∧ w.grownBy w' (some w0.heap.size) := by
  have HS := Aside0.mk hS
  have HM := Aside0.mk hm
  have HZ := Aside0.mk hz
  clear hz
  obtain ⟨g, hg⟩ : ∃ g, w0.heap.size = g := ⟨_, rfl⟩
  have HG := Aside0.mk hg
  clear hS hm
  rw [hg]
  clear hg
  go_enter Try.func24, Try.ntmps24
  go_wp2_with fail
  rw [← HG.out]
  refine (text_WR w0 _ rfl w r refs st HS.out (by have := HM.out; omega)).mono ?_
  rintro e w1 ⟨rfl, hs1, hgr1⟩
  have hc3 := hs1.cells 1 _ rfl
  have hc4 := hs1.cells 2 _ rfl
  have hc5 := hs1.cells 3 _ rfl
  have hc6 := hs1.cells 4 _ rfl
  have hc7 := hs1.cells 5 _ rfl
  have hc8 := hs1.cells 6 _ rfl
  have hc9 := hs1.cells 7 _ rfl
  simp only [Nat.reduceAdd] at hc3 hc4 hc5 hc6 hc7 hc8 hc9
  have HS1 := Aside0.mk hs1
  have HR1 := Aside0.mk hgr1
  rw [HG.out] at hc3 hc4 hc5 hc6 hc7 hc8 hc9 HR1 ⊢
  clear hs1 hgr1 HS
  go_wp2
  have HB0 := Aside0.mk (blk_new1 w1 (.cells (l.s.cells).toArray 21) (.cells (l.s.cells).toArray 23))
  have HSa := Aside0.mk ((HS1.out.alloc (.cells (l.s.cells).toArray 23)).alloc (.cells (l.s.cells).toArray 21))
  have HGa := Aside0.mk ((HR1.out.trans (World.grownBy_alloc w1 (.cells (l.s.cells).toArray 23) _)).trans (World.grownBy_alloc _ (.cells (l.s.cells).toArray 21) _))
  have HNE : Aside0 (g ≠ w1.heap.size + 1) := ⟨by have := HS1.out.bel.2; have := HG.out; omega⟩
  obtain ⟨B, hB⟩ : ∃ B, w1.heap.size + 1 = B := ⟨_, rfl⟩
  rw [hB] at HB0 HNE ⊢
  clear hc3 hc4 hc5 hc6 hc7 hc8 hc9 HS1 HR1 hB
  go_loopw [4, 28] (fun _ i W => ∃ k : Nat, k ≤ 7 ∧ i = .int .i64 k ∧ Aside0 (WR w0 (lcells l vr vc vk) W refs (wrt (wnum st (r, 2)) ((syItems l.s).take k))) ∧ Aside0 (W.heap[B]? = some (.cells (l.s.cells).toArray 21 (0, 0))) ∧ Aside0 (w.grownBy W (some g))) (fun _ i _ => 7 - (intOf i).toNat)
  case atStart => exact ⟨0, by omega, rfl, HSa, HB0, HGa⟩
  case round =>
    clear HSa HB0 HGa
    obtain ⟨k, hk, rfl, HS2, HB2, HG2⟩ := hrel
    by_cases hlt : k < 7
    · obtain ⟨z, hz, hit, hmem⟩ : ∃ z, (l.s.cells)[k]? = some (.int .i32 z) ∧ (syItems l.s)[k]? = some (z, 4) ∧ z ∈ syNums l.s := by
        rcases (show k = 0 ∨ k = 1 ∨ k = 2 ∨ k = 3 ∨ k = 4 ∨ k = 5 ∨ k = 6 by omega) with rfl | rfl | rfl | rfl | rfl | rfl | rfl <;> exact ⟨_, rfl, rfl, by simp [syNums]⟩
      have hcell : wr.cell? ⟨B, k, none⟩ = some (.int .i32 z) := by rw [blk_cell HB2.out]; simpa using hz
      have HI := Aside0.mk hit
      obtain ⟨hz1, hz2⟩ := HZ.out z hmem
      clear hz hit hmem
      go_wp2_with fail
      rw [← HG.out]
      refine (number_WR w0 _ rfl wr refs _ z 4 (.inr (.inr rfl)) HS2.out ?_).mono ?_
      · have h1 := wrt_length ((syItems l.s).take k) (wnum st (r, 2))
        have h2 := wnum_length st (r, 2)
        have h3 : ((syItems l.s).take k).length ≤ 7 := by rw [List.length_take]; exact Nat.min_le_right _ _
        have := HM.out
        omega
      rintro e w3 ⟨rfl, hs3, hg3⟩
      have HS3 := Aside0.mk hs3
      have HB3 := Aside0.mk (blk_grown HB2.out hg3 (fun e => HNE.out (by rw [HG.out] at e; injection e with e; exact e.symm)))
      rw [HG.out] at hg3 ⊢
      have HG3 := Aside0.mk (HG2.out.trans hg3)
      clear hs3 hg3 HS2 HB2 HG2 hcell
      go_wp2
      go_roundw
      case rel => exact ⟨k + 1, by omega, by go_num, ⟨by rw [wrt_take _ _ k _ HI.out]; exact HS3.out⟩, HB3, HG3⟩
      case measure => simp [intOf]; omega
    · obtain rfl : k = 7 := by omega
      go_wp2
      go_end0
      exact ⟨rfl, by have := HS2.out; exact this, HG2.out⟩
end Go.Proofs.Ytfbmgjanplnabaa
/- The writer of bundles: pats, rules. -/
namespace Go.Proofs.Ytfbmgjanplnabaa
open Go.RowKit Go.Proofs.YtfbmgjanplnabaaW.PrintWords Go.Proofs.YtfbmgjanplnabaaW.PrintLast Go.Proofs.YtfbmgjanplnabaaW.PrintMore
set_option linter.unusedVariables false
set_option linter.unusedSimpArgs false

def txItems (rs : List Int) : List (Int × Int) := rs.map fun r => (r, 2)
theorem drop_cons' {α : Type} (rs : List α) (k : Nat) (h : k < rs.length) : rs.drop k = rs[k] :: rs.drop (k + 1) := List.drop_eq_getElem_cons h
theorem txItems_succ (rs : List Int) (k : Nat) (h : k < rs.length) : txItems (rs.take (k + 1)) = txItems (rs.take k) ++ [(rs[k], 2)] := by
  unfold txItems
  rw [List.take_succ_eq_append_getElem h, List.map_append]
  rfl

set_option maxHeartbeats 800000 in
theorem pats_WR (w0 : World) (L : List Value) (hL : L.length = 15) (w : World) (rs : List Int) (st : List Int × Bool) (hr : 4 ≤ rs.length) (hS : WR w0 L w rs st) (hm : st.1.length ≤ 1000000) :
    Calls Try.prog 25 #[.pointer (some ⟨w0.heap.size, 0, none⟩)] w fun e w' => e = .returned (.tuple #[]) ∧ WR w0 L w' (rs.drop 4) (wrt st (txItems (rs.take 4))) ∧ w.grownBy w' (some w0.heap.size) := by
  have HS := Aside0.mk hS
  have HM := Aside0.mk hm
  have HL := Aside0.mk hL
  obtain ⟨g, hg⟩ : ∃ g, w0.heap.size = g := ⟨_, rfl⟩
  have HG := Aside0.mk hg
  clear hS hm hL
  rw [hg]
  clear hg
  go_enter Try.func25, Try.ntmps25
  go_wp2
  go_loopw [2] (fun i W => ∃ k : Nat, k ≤ 4 ∧ i = .int .i64 k ∧ Aside0 (WR w0 L W (rs.drop k) (wrt st (txItems (rs.take k)))) ∧ Aside0 (w.grownBy W (some g))) (fun i _ => 4 - (intOf i).toNat)
  case atStart => exact ⟨0, by omega, rfl, HS, ⟨World.grownBy.refl _ _⟩⟩
  case round =>
    clear HS
    obtain ⟨k, hk, rfl, HS2, HG2⟩ := hrel
    by_cases hlt : k < 4
    · have hk2 : k < rs.length := by omega
      have hd := drop_cons' rs k hk2
      have ht := Aside0.mk (txItems_succ rs k hk2)
      have hs2 := HS2.out
      rw [hd] at hs2
      have HS3 := Aside0.mk hs2
      obtain ⟨r, hr2⟩ : ∃ r, rs[k] = r := ⟨_, rfl⟩
      rw [hr2] at HS3 ht
      clear HS2 hd hs2 hr2
      go_wp2_with fail
      rw [← HG.out]
      refine (text_WR w0 L HL.out wr r _ _ HS3.out ?_).mono ?_
      · have h1 := wrt_length (txItems (rs.take k)) st
        have h3 : (txItems (rs.take k)).length ≤ 4 := by unfold txItems; rw [List.length_map, List.length_take]; omega
        have := HM.out
        omega
      rintro e w3 ⟨rfl, hs3, hg3⟩
      have HS4 := Aside0.mk hs3
      rw [HG.out] at hg3 ⊢
      have HG3 := Aside0.mk (HG2.out.trans hg3)
      clear hs3 hg3 HS3 HG2
      go_wp2
      go_roundw
      case rel => exact ⟨k + 1, by omega, by go_num, ⟨by rw [ht.out, wrt_append]; exact HS4.out⟩, HG3⟩
      case measure => simp [intOf]; omega
    · obtain rfl : k = 4 := by omega
      go_wp2
      go_end0
      exact ⟨rfl, HS2.out, HG2.out⟩

def ruIt : List Rl → List Int → List (Int × Int)
  | c :: cs, r :: rs => (c.1, 1) :: (r, 2) :: ruIt cs rs
  | _, _ => []
theorem wrt_nil (st : List Int × Bool) : wrt st [] = st := rfl
theorem ruIt_nil (rs : List Int) : ruIt [] rs = [] := by unfold ruIt; rfl
theorem ruIt_append : ∀ (cs cs' : List Rl) (rs rs' : List Int), cs.length = rs.length → ruIt (cs ++ cs') (rs ++ rs') = ruIt cs rs ++ ruIt cs' rs'
  | [], cs', [], rs', _ => rfl
  | c :: cs, cs', r :: rs, rs', h => by
    have ih := ruIt_append cs cs' rs rs' (by simpa using h)
    simp only [List.cons_append, ruIt, ih]
  | [], _, _ :: _, _, h => by simp at h
  | _ :: _, _, [], _, h => by simp at h
theorem ruIt_succ (cs : List Rl) (rs : List Int) (k : Nat) (h : k < cs.length) (h' : k < rs.length) : ruIt (cs.take (k + 1)) (rs.take (k + 1)) = ruIt (cs.take k) (rs.take k) ++ [(cs[k].1, 1), (rs[k], 2)] := by
  rw [List.take_succ_eq_append_getElem h, List.take_succ_eq_append_getElem h', ruIt_append _ _ _ _ (by simp; omega)]
  rfl
theorem ruIt_length : ∀ (cs : List Rl) (rs : List Int), (ruIt cs rs).length ≤ 2 * cs.length
  | [], _ => by simp [ruIt]
  | _ :: _, [] => by simp [ruIt]
  | c :: cs, r :: rs => by have := ruIt_length cs rs; simp only [ruIt, List.length_cons]; omega

set_option maxHeartbeats 800000 in
theorem rules_WR (w0 : World) (l : Loc) (Ar : Option Addr) (cr : Nat) (vc vk : Value) (w : World) (rs : List Int) (st : List Int × Bool) (hC : kRl.C w0 Ar l.rules.length l.rules) (hn : l.rules.length ≤ 65535) (hr : l.rules.length ≤ rs.length)
    (hS : WR w0 (lcells l (.slice Ar l.rules.length cr) vc vk) w rs st) (hm : st.1.length ≤ 1000000) :
    Calls Try.prog 26 #[.pointer (some ⟨w0.heap.size, 0, none⟩)] w fun e w' => e = .returned (.tuple #[]) ∧ WR w0 (lcells l (.slice Ar l.rules.length cr) vc vk) w' (rs.drop l.rules.length) (wrt (wnum st (l.rules.length, 2)) (ruIt l.rules (rs.take l.rules.length))) ∧ w.grownBy w' (some w0.heap.size) := by
  have hc14 := hS.cells 12 _ rfl
  simp only [Nat.reduceAdd] at hc14
  have HS := Aside0.mk hS
  have HM := Aside0.mk hm
  have HC := Aside0.mk hC
  obtain ⟨g, hg⟩ : ∃ g, w0.heap.size = g := ⟨_, rfl⟩
  have HG := Aside0.mk hg
  clear hS hm hC
  rw [hg] at hc14 ⊢
  clear hg
  go_enter Try.func26, Try.ntmps26
  go_wp2_with fail
  rw [← HG.out]
  refine (number_WR w0 _ rfl w rs st l.rules.length 2 (.inr (.inl rfl)) HS.out (by have := HM.out; omega)).mono ?_
  rintro e w1 ⟨rfl, hs1, hgr1⟩
  have hd14 := hs1.cells 12 _ rfl
  simp only [Nat.reduceAdd] at hd14
  rw [HG.out] at hd14 hgr1 ⊢
  have HS1 := Aside0.mk hs1
  have HR1 := Aside0.mk hgr1
  clear hs1 hgr1 HS hc14
  go_wp2
  go_loopw [3, 18] (fun _ i W => ∃ k : Nat, k ≤ l.rules.length ∧ i = .int .i64 k ∧ Aside0 (WR w0 (lcells l (.slice Ar l.rules.length cr) vc vk) W (rs.drop k) (wrt (wnum st (l.rules.length, 2)) (ruIt (l.rules.take k) (rs.take k)))) ∧ Aside0 (w.grownBy W (some g))) (fun _ i _ => l.rules.length - (intOf i).toNat)
  case atStart => exact ⟨0, by omega, rfl, ⟨by rw [List.take_zero, ruIt_nil, wrt_nil, List.drop_zero]; exact HS1.out⟩, HR1⟩
  case round =>
    clear HS1 HR1
    obtain ⟨k, hk, rfl, HS2, HG2⟩ := hrel
    by_cases hlt : k < l.rules.length
    · have hk2 : k < rs.length := by omega
      obtain ⟨b, off, rfl, hb⟩ := C_plainA pos_Rl HC.out (Nat.lt_of_le_of_lt (Nat.zero_le k) hlt)
      obtain ⟨ad, e, hc1, hc2⟩ := at_Rl HC.out k hlt
      injection e with e
      subst e
      rw [plain_add] at hc1 hc2
      rw [← Nat.add_assoc] at hc2
      have hB := HS2.out.bel.1
      have hd1 := (hB.cell (p := ⟨b, off + k * 2, none⟩) hb).trans hc1
      have hd2 := (hB.cell (p := ⟨b, off + k * 2 + 1, none⟩) hb).trans hc2
      have hd := drop_cons' rs k hk2
      have ht := Aside0.mk (ruIt_succ l.rules rs k hlt hk2)
      have hs2 := HS2.out
      rw [hd] at hs2
      have HS3 := Aside0.mk hs2
      obtain ⟨r, hr2⟩ : ∃ r, rs[k] = r := ⟨_, rfl⟩
      obtain ⟨cat, hcat⟩ : ∃ c, l.rules[k].1 = c := ⟨_, rfl⟩
      obtain ⟨txt, htxt⟩ : ∃ c, l.rules[k].2 = c := ⟨_, rfl⟩
      rw [hr2] at HS3 ht
      rw [hcat] at hd1 ht
      rw [htxt] at hd2
      clear HS2 hd hs2 hr2 hcat htxt hc1 hc2 hB
      go_wp2_with fail
      have HA := Aside0.mk (HS3.out.alloc (.cells #[.int .i64 cat, .string txt] 57))
      have HGa := Aside0.mk (HG2.out.trans (World.grownBy_alloc wr (.cells #[.int .i64 cat, .string txt] 57) _))
      have HNE : Aside0 (g ≠ wr.heap.size) := ⟨by have := HS3.out.bel.2; have := HG.out; omega⟩
      have HBL := Aside0.mk (blk_new wr (.cells #[.int .i64 cat, .string txt] 57))
      rw [← HG.out]
      refine (number_WR w0 _ rfl _ _ _ cat 1 (.inl rfl) HA.out ?_).mono ?_
      · have h1 := wrt_length (ruIt (l.rules.take k) (rs.take k)) (wnum st (l.rules.length, 2))
        have h2 := wnum_length st (l.rules.length, 2)
        have h3 := ruIt_length (l.rules.take k) (rs.take k)
        rw [List.length_take, Nat.min_eq_left hk] at h3
        have := HM.out
        omega
      rintro e w3 ⟨rfl, hs3, hg3⟩
      have HS4 := Aside0.mk hs3
      rw [HG.out] at hg3 ⊢
      have HG3 := Aside0.mk (HGa.out.trans hg3)
      clear hs3 hg3 HS3 HG2 HA HGa HBL hd1 hd2
      go_wp2_with fail
      rw [← HG.out]
      refine (text_WR w0 _ rfl _ r _ _ HS4.out ?_).mono ?_
      · have h1 := wrt_length (ruIt (l.rules.take k) (rs.take k)) (wnum st (l.rules.length, 2))
        have h2 := wnum_length st (l.rules.length, 2)
        have h3 := ruIt_length (l.rules.take k) (rs.take k)
        have h4 := wnum_length (wrt (wnum st (l.rules.length, 2)) (ruIt (l.rules.take k) (rs.take k))) (cat, 1)
        rw [List.length_take, Nat.min_eq_left hk] at h3
        have := HM.out
        omega
      rintro e w4 ⟨rfl, hs4, hg4⟩
      have HS5 := Aside0.mk hs4
      rw [HG.out] at hg4 ⊢
      have HG4 := Aside0.mk (HG3.out.trans hg4)
      clear hs4 hg4 HS4 HG3
      go_wp2
      go_roundw
      case rel => exact ⟨k + 1, by omega, by go_num, ⟨by rw [ht.out, wrt_append]; exact HS5.out⟩, HG4⟩
      case measure => simp [intOf]; omega
    · obtain rfl : k = l.rules.length := by omega
      go_wp2
      go_end0
      exact ⟨rfl, by have := HS2.out; rwa [List.take_length] at this, HG2.out⟩
end Go.Proofs.Ytfbmgjanplnabaa
/- The writer of bundles: curs, comps. -/
namespace Go.Proofs.Ytfbmgjanplnabaa
open Go.RowKit Go.Proofs.YtfbmgjanplnabaaW.PrintWords Go.Proofs.YtfbmgjanplnabaaW.PrintLast Go.Proofs.YtfbmgjanplnabaaW.PrintMore
set_option linter.unusedVariables false
set_option linter.unusedSimpArgs false

def cuIt : List Cu → List Int → List (Int × Int)
  | c :: cs, r :: q :: rs => (r, 2) :: (q, 2) :: (c.2.2, 1) :: cuIt cs rs
  | _, _ => []
theorem cuIt_nil (rs : List Int) : cuIt [] rs = [] := by unfold cuIt; rfl
theorem cuIt_append : ∀ (cs cs' : List Cu) (rs rs' : List Int), 2 * cs.length = rs.length → cuIt (cs ++ cs') (rs ++ rs') = cuIt cs rs ++ cuIt cs' rs'
  | [], cs', [], rs', _ => by simp [cuIt_nil]
  | c :: cs, cs', r :: q :: rs, rs', h => by
    have ih := cuIt_append cs cs' rs rs' (by simp only [List.length_cons] at h; omega)
    simp only [List.cons_append, cuIt, ih]
  | [], _, _ :: _, _, h => by simp at h
  | _ :: _, _, [], _, h => by simp at h
  | _ :: _, _, [_], _, h => by simp only [List.length_cons, List.length_nil] at h; omega
theorem cuIt_succ (cs : List Cu) (rs : List Int) (k : Nat) (h : k < cs.length) (h' : 2 * k + 1 < rs.length) : cuIt (cs.take (k + 1)) (rs.take (2 * (k + 1))) = cuIt (cs.take k) (rs.take (2 * k)) ++ [(rs[2 * k], 2), (rs[2 * k + 1], 2), (cs[k].2.2, 1)] := by
  rw [List.take_succ_eq_append_getElem h, show 2 * (k + 1) = 2 * k + 1 + 1 by omega, List.take_succ_eq_append_getElem h', List.take_succ_eq_append_getElem (show 2 * k < rs.length by omega), List.append_assoc, cuIt_append _ _ _ _ (by simp; omega)]
  rfl
theorem cuIt_length : ∀ (cs : List Cu) (rs : List Int), (cuIt cs rs).length ≤ 3 * cs.length
  | [], _ => by simp [cuIt]
  | _ :: _, [] => by simp [cuIt]
  | _ :: _, [_] => by simp [cuIt]
  | c :: cs, r :: q :: rs => by have := cuIt_length cs rs; simp only [cuIt, List.length_cons]; omega

def cmIt : List Cm → List Int → List (Int × Int)
  | c :: cs, r :: rs => (c.1, 1) :: (c.2.1, 1) :: (r, 2) :: cmIt cs rs
  | _, _ => []
theorem cmIt_nil (rs : List Int) : cmIt [] rs = [] := by unfold cmIt; rfl
theorem cmIt_append : ∀ (cs cs' : List Cm) (rs rs' : List Int), cs.length = rs.length → cmIt (cs ++ cs') (rs ++ rs') = cmIt cs rs ++ cmIt cs' rs'
  | [], cs', [], rs', _ => by simp [cmIt_nil]
  | c :: cs, cs', r :: rs, rs', h => by
    have ih := cmIt_append cs cs' rs rs' (by simpa using h)
    simp only [List.cons_append, cmIt, ih]
  | [], _, _ :: _, _, h => by simp at h
  | _ :: _, _, [], _, h => by simp at h
theorem cmIt_succ (cs : List Cm) (rs : List Int) (k : Nat) (h : k < cs.length) (h' : k < rs.length) : cmIt (cs.take (k + 1)) (rs.take (k + 1)) = cmIt (cs.take k) (rs.take k) ++ [(cs[k].1, 1), (cs[k].2.1, 1), (rs[k], 2)] := by
  rw [List.take_succ_eq_append_getElem h, List.take_succ_eq_append_getElem h', cmIt_append _ _ _ _ (by simp; omega)]
  rfl
theorem cmIt_length : ∀ (cs : List Cm) (rs : List Int), (cmIt cs rs).length ≤ 3 * cs.length
  | [], _ => by simp [cmIt]
  | _ :: _, [] => by simp [cmIt]
  | c :: cs, r :: rs => by have := cmIt_length cs rs; simp only [cmIt, List.length_cons]; omega

set_option maxHeartbeats 1600000 in
theorem curs_WR (w0 : World) (l : Loc) (Ax : Option Addr) (cx : Nat) (vr vk : Value) (w : World) (rs : List Int) (st : List Int × Bool) (hC : kCu.C w0 Ax l.curs.length l.curs) (hn : l.curs.length ≤ 65535) (hr : (2 * l.curs.length) ≤ rs.length)
    (hS : WR w0 (lcells l vr (.slice Ax l.curs.length cx) vk) w rs st) (hm : st.1.length ≤ 1000000) :
    Calls Try.prog 27 #[.pointer (some ⟨w0.heap.size, 0, none⟩)] w fun e w' => e = .returned (.tuple #[]) ∧ WR w0 (lcells l vr (.slice Ax l.curs.length cx) vk) w' (rs.drop (2 * l.curs.length)) (wrt (wnum st (l.curs.length, 2)) (cuIt l.curs (rs.take (2 * l.curs.length)))) ∧ w.grownBy w' (some w0.heap.size) := by
  have hcf := hS.cells 13 _ rfl
  simp only [Nat.reduceAdd] at hcf
  have HS := Aside0.mk hS
  have HM := Aside0.mk hm
  have HC := Aside0.mk hC
  obtain ⟨g, hg⟩ : ∃ g, w0.heap.size = g := ⟨_, rfl⟩
  have HG := Aside0.mk hg
  clear hS hm hC
  rw [hg] at hcf ⊢
  clear hg
  go_enter Try.func27, Try.ntmps27
  go_wp2_with fail
  rw [← HG.out]
  refine (number_WR w0 _ rfl w rs st l.curs.length 2 (.inr (.inl rfl)) HS.out (by have := HM.out; omega)).mono ?_
  rintro e w1 ⟨rfl, hs1, hgr1⟩
  have hdf := hs1.cells 13 _ rfl
  simp only [Nat.reduceAdd] at hdf
  rw [HG.out] at hdf hgr1 ⊢
  have HS1 := Aside0.mk hs1
  have HR1 := Aside0.mk hgr1
  clear hs1 hgr1 HS hcf
  go_wp2
  go_loopw [3, 18] (fun _ i W => ∃ k : Nat, k ≤ l.curs.length ∧ i = .int .i64 k ∧ Aside0 (WR w0 (lcells l vr (.slice Ax l.curs.length cx) vk) W (rs.drop (2 * k)) (wrt (wnum st (l.curs.length, 2)) (cuIt (l.curs.take k) (rs.take (2 * k))))) ∧ Aside0 (w.grownBy W (some g))) (fun _ i _ => l.curs.length - (intOf i).toNat)
  case atStart => exact ⟨0, by omega, rfl, ⟨by rw [List.take_zero, cuIt_nil, wrt_nil, Nat.mul_zero, List.drop_zero]; exact HS1.out⟩, HR1⟩
  case round =>
    clear HS1 HR1
    obtain ⟨k, hk, rfl, HS2, HG2⟩ := hrel
    by_cases hlt : k < l.curs.length
    · have hk2 : 2 * k + 1 < rs.length := by omega
      obtain ⟨b, off, rfl, hb⟩ := C_plainA pos_Cu HC.out (Nat.lt_of_le_of_lt (Nat.zero_le k) hlt)
      obtain ⟨ad, e, hc1, hc2, hc3⟩ := at_Cu HC.out k hlt
      injection e with e
      subst e
      rw [plain_add] at hc1 hc2 hc3
      rw [← Nat.add_assoc] at hc2 hc3
      have hB := HS2.out.bel.1
      have hd1 := (hB.cell (p := ⟨b, off + k * 3, none⟩) hb).trans hc1
      have hd2 := (hB.cell (p := ⟨b, off + k * 3 + 1, none⟩) hb).trans hc2
      have hd3 := (hB.cell (p := ⟨b, off + k * 3 + 2, none⟩) hb).trans hc3
      have hd := drop_cons' rs (2 * k) (by omega)
      rw [drop_cons' rs (2 * k + 1) hk2] at hd
      have ht := Aside0.mk (cuIt_succ l.curs rs k hlt hk2)
      have hs2 := HS2.out
      rw [hd] at hs2
      have HS3 := Aside0.mk hs2
      obtain ⟨r, hr2⟩ : ∃ r, rs[2 * k] = r := ⟨_, rfl⟩
      obtain ⟨q, hq2⟩ : ∃ r, rs[2 * k + 1] = r := ⟨_, rfl⟩
      obtain ⟨code, hcode⟩ : ∃ c, l.curs[k].1 = c := ⟨_, rfl⟩
      obtain ⟨sign, hsign⟩ : ∃ c, l.curs[k].2.1 = c := ⟨_, rfl⟩
      obtain ⟨digs, hdigs⟩ : ∃ c, l.curs[k].2.2 = c := ⟨_, rfl⟩
      rw [hr2, hq2] at HS3 ht
      rw [hdigs] at hd3 ht
      rw [hcode] at hd1
      rw [hsign] at hd2
      clear HS2 hd hs2 hr2 hq2 hcode hsign hdigs hc1 hc2 hc3 hB
      go_wp2_with fail
      have HA := Aside0.mk (HS3.out.alloc (.cells #[.string code, .string sign, .int .i64 digs] 59))
      have HGa := Aside0.mk (HG2.out.trans (World.grownBy_alloc wr (.cells #[.string code, .string sign, .int .i64 digs] 59) _))
      have HNE : Aside0 (g ≠ wr.heap.size) := ⟨by have := HS3.out.bel.2; have := HG.out; omega⟩
      have HBL := Aside0.mk (blk_new wr (.cells #[.string code, .string sign, .int .i64 digs] 59))
      rw [← HG.out]
      refine (text_WR w0 _ rfl _ r _ _ HA.out ?_).mono ?_
      · have h1 := wrt_length (cuIt (l.curs.take k) (rs.take (2 * k))) (wnum st (l.curs.length, 2))
        have h2 := wnum_length st (l.curs.length, 2)
        have h3 := cuIt_length (l.curs.take k) (rs.take (2 * k))
        rw [List.length_take, Nat.min_eq_left hk] at h3
        have := HM.out
        omega
      rintro e w4 ⟨rfl, hs, hg⟩
      have HS4 := Aside0.mk hs
      have HBL4 := Aside0.mk (blk_grown HBL.out hg (fun e => HNE.out (by rw [HG.out] at e; injection e with e; exact e.symm)))
      rw [HG.out] at hg ⊢
      have HG4 := Aside0.mk (HGa.out.trans hg)
      clear hs hg HS3 HG2 HA HGa HBL hd1 hd2 hd3
      go_wp2_with fail
      rw [← HG.out]
      refine (text_WR w0 _ rfl _ q _ _ HS4.out ?_).mono ?_
      · have h1 := wrt_length (cuIt (l.curs.take k) (rs.take (2 * k))) (wnum st (l.curs.length, 2))
        have h2 := wnum_length st (l.curs.length, 2)
        have h3 := cuIt_length (l.curs.take k) (rs.take (2 * k))
        have h5 := wnum_length (wrt (wnum st (l.curs.length, 2)) (cuIt (l.curs.take k) (rs.take (2 * k)))) (r, 2)
        rw [List.length_take, Nat.min_eq_left hk] at h3
        have := HM.out
        omega
      rintro e w5 ⟨rfl, hs, hg⟩
      have HS5 := Aside0.mk hs
      have HBL5 := Aside0.mk (blk_grown HBL4.out hg (fun e => HNE.out (by rw [HG.out] at e; injection e with e; exact e.symm)))
      rw [HG.out] at hg ⊢
      have HG5 := Aside0.mk (HG4.out.trans hg)
      have hx5 := blk_cell HBL5.out 2
      simp only [List.getElem?_toArray, List.getElem?_cons_succ, List.getElem?_cons_zero] at hx5
      clear hs hg HS4 HG4 HBL4
      go_wp2_with fail
      rw [← HG.out]
      refine (number_WR w0 _ rfl _ _ _ digs 1 (.inl rfl) HS5.out ?_).mono ?_
      · have h1 := wrt_length (cuIt (l.curs.take k) (rs.take (2 * k))) (wnum st (l.curs.length, 2))
        have h2 := wnum_length st (l.curs.length, 2)
        have h3 := cuIt_length (l.curs.take k) (rs.take (2 * k))
        have h5 := wnum_length (wrt (wnum st (l.curs.length, 2)) (cuIt (l.curs.take k) (rs.take (2 * k)))) (r, 2)
        have h6 := wnum_length (wnum (wrt (wnum st (l.curs.length, 2)) (cuIt (l.curs.take k) (rs.take (2 * k)))) (r, 2)) (q, 2)
        rw [List.length_take, Nat.min_eq_left hk] at h3
        have := HM.out
        omega
      rintro e w6 ⟨rfl, hs, hg⟩
      have HS6 := Aside0.mk hs
      rw [HG.out] at hg ⊢
      have HG6 := Aside0.mk (HG5.out.trans hg)
      clear hs hg HS5 HG5 HBL5 hx5
      go_wp2
      go_roundw
      case rel => exact ⟨k + 1, by omega, by go_num, ⟨by rw [ht.out, wrt_append]; exact HS6.out⟩, HG6⟩
      case measure => simp [intOf]; omega
    · obtain rfl : k = l.curs.length := by omega
      go_wp2
      go_end0
      exact ⟨rfl, by have := HS2.out; rwa [List.take_length] at this, HG2.out⟩

set_option maxHeartbeats 1600000 in
theorem comps_WR (w0 : World) (l : Loc) (Ax : Option Addr) (cx : Nat) (vr vc : Value) (w : World) (rs : List Int) (st : List Int × Bool) (hC : kCm.C w0 Ax l.comps.length l.comps) (hn : l.comps.length ≤ 65535) (hr : l.comps.length ≤ rs.length)
    (hS : WR w0 (lcells l vr vc (.slice Ax l.comps.length cx)) w rs st) (hm : st.1.length ≤ 1000000) :
    Calls Try.prog 28 #[.pointer (some ⟨w0.heap.size, 0, none⟩)] w fun e w' => e = .returned (.tuple #[]) ∧ WR w0 (lcells l vr vc (.slice Ax l.comps.length cx)) w' (rs.drop l.comps.length) (wrt (wnum st (l.comps.length, 2)) (cmIt l.comps (rs.take l.comps.length))) ∧ w.grownBy w' (some w0.heap.size) := by
  have hcf := hS.cells 14 _ rfl
  simp only [Nat.reduceAdd] at hcf
  have HS := Aside0.mk hS
  have HM := Aside0.mk hm
  have HC := Aside0.mk hC
  obtain ⟨g, hg⟩ : ∃ g, w0.heap.size = g := ⟨_, rfl⟩
  have HG := Aside0.mk hg
  clear hS hm hC
  rw [hg] at hcf ⊢
  clear hg
  go_enter Try.func28, Try.ntmps28
  go_wp2_with fail
  rw [← HG.out]
  refine (number_WR w0 _ rfl w rs st l.comps.length 2 (.inr (.inl rfl)) HS.out (by have := HM.out; omega)).mono ?_
  rintro e w1 ⟨rfl, hs1, hgr1⟩
  have hdf := hs1.cells 14 _ rfl
  simp only [Nat.reduceAdd] at hdf
  rw [HG.out] at hdf hgr1 ⊢
  have HS1 := Aside0.mk hs1
  have HR1 := Aside0.mk hgr1
  clear hs1 hgr1 HS hcf
  go_wp2
  go_loopw [3, 18] (fun _ i W => ∃ k : Nat, k ≤ l.comps.length ∧ i = .int .i64 k ∧ Aside0 (WR w0 (lcells l vr vc (.slice Ax l.comps.length cx)) W (rs.drop k) (wrt (wnum st (l.comps.length, 2)) (cmIt (l.comps.take k) (rs.take k)))) ∧ Aside0 (w.grownBy W (some g))) (fun _ i _ => l.comps.length - (intOf i).toNat)
  case atStart => exact ⟨0, by omega, rfl, ⟨by rw [List.take_zero, cmIt_nil, wrt_nil, List.drop_zero]; exact HS1.out⟩, HR1⟩
  case round =>
    clear HS1 HR1
    obtain ⟨k, hk, rfl, HS2, HG2⟩ := hrel
    by_cases hlt : k < l.comps.length
    · have hk2 : k < rs.length := by omega
      obtain ⟨b, off, rfl, hb⟩ := C_plainA pos_Cm HC.out (Nat.lt_of_le_of_lt (Nat.zero_le k) hlt)
      obtain ⟨ad, e, hc1, hc2, hc3⟩ := at_Cm HC.out k hlt
      injection e with e
      subst e
      rw [plain_add] at hc1 hc2 hc3
      rw [← Nat.add_assoc] at hc2 hc3
      have hB := HS2.out.bel.1
      have hd1 := (hB.cell (p := ⟨b, off + k * 3, none⟩) hb).trans hc1
      have hd2 := (hB.cell (p := ⟨b, off + k * 3 + 1, none⟩) hb).trans hc2
      have hd3 := (hB.cell (p := ⟨b, off + k * 3 + 2, none⟩) hb).trans hc3
      have hd := drop_cons' rs k hk2
      have ht := Aside0.mk (cmIt_succ l.comps rs k hlt hk2)
      have hs2 := HS2.out
      rw [hd] at hs2
      have HS3 := Aside0.mk hs2
      obtain ⟨r, hr2⟩ : ∃ r, rs[k] = r := ⟨_, rfl⟩
      obtain ⟨mag, hmag⟩ : ∃ c, l.comps[k].1 = c := ⟨_, rfl⟩
      obtain ⟨cat, hcat⟩ : ∃ c, l.comps[k].2.1 = c := ⟨_, rfl⟩
      obtain ⟨pat, hpat⟩ : ∃ c, l.comps[k].2.2 = c := ⟨_, rfl⟩
      rw [hr2] at HS3 ht
      rw [hmag] at hd1 ht
      rw [hcat] at hd2 ht
      rw [hpat] at hd3
      clear HS2 hd hs2 hr2 hmag hcat hpat hc1 hc2 hc3 hB
      go_wp2_with fail
      have HA := Aside0.mk (HS3.out.alloc (.cells #[.int .i64 mag, .int .i64 cat, .string pat] 61))
      have HGa := Aside0.mk (HG2.out.trans (World.grownBy_alloc wr (.cells #[.int .i64 mag, .int .i64 cat, .string pat] 61) _))
      have HNE : Aside0 (g ≠ wr.heap.size) := ⟨by have := HS3.out.bel.2; have := HG.out; omega⟩
      have HBL := Aside0.mk (blk_new wr (.cells #[.int .i64 mag, .int .i64 cat, .string pat] 61))
      rw [← HG.out]
      refine (number_WR w0 _ rfl _ _ _ mag 1 (.inl rfl) HA.out ?_).mono ?_
      · have h1 := wrt_length (cmIt (l.comps.take k) (rs.take k)) (wnum st (l.comps.length, 2))
        have h2 := wnum_length st (l.comps.length, 2)
        have h3 := cmIt_length (l.comps.take k) (rs.take k)
        rw [List.length_take, Nat.min_eq_left hk] at h3
        have := HM.out
        omega
      rintro e w4 ⟨rfl, hs, hg⟩
      have HS4 := Aside0.mk hs
      have HBL4 := Aside0.mk (blk_grown HBL.out hg (fun e => HNE.out (by rw [HG.out] at e; injection e with e; exact e.symm)))
      rw [HG.out] at hg ⊢
      have HG4 := Aside0.mk (HGa.out.trans hg)
      have hx4 := blk_cell HBL4.out 1
      simp only [List.getElem?_toArray, List.getElem?_cons_succ, List.getElem?_cons_zero] at hx4
      clear hs hg HS3 HG2 HA HGa HBL hd1 hd2 hd3
      go_wp2_with fail
      rw [← HG.out]
      refine (number_WR w0 _ rfl _ _ _ cat 1 (.inl rfl) HS4.out ?_).mono ?_
      · have h1 := wrt_length (cmIt (l.comps.take k) (rs.take k)) (wnum st (l.comps.length, 2))
        have h2 := wnum_length st (l.comps.length, 2)
        have h3 := cmIt_length (l.comps.take k) (rs.take k)
        have h5 := wnum_length (wrt (wnum st (l.comps.length, 2)) (cmIt (l.comps.take k) (rs.take k))) (mag, 1)
        rw [List.length_take, Nat.min_eq_left hk] at h3
        have := HM.out
        omega
      rintro e w5 ⟨rfl, hs, hg⟩
      have HS5 := Aside0.mk hs
      rw [HG.out] at hg ⊢
      have HG5 := Aside0.mk (HG4.out.trans hg)
      clear hs hg HS4 HG4 HBL4 hx4
      go_wp2_with fail
      rw [← HG.out]
      refine (text_WR w0 _ rfl _ r _ _ HS5.out ?_).mono ?_
      · have h1 := wrt_length (cmIt (l.comps.take k) (rs.take k)) (wnum st (l.comps.length, 2))
        have h2 := wnum_length st (l.comps.length, 2)
        have h3 := cmIt_length (l.comps.take k) (rs.take k)
        have h5 := wnum_length (wrt (wnum st (l.comps.length, 2)) (cmIt (l.comps.take k) (rs.take k))) (mag, 1)
        have h6 := wnum_length (wnum (wrt (wnum st (l.comps.length, 2)) (cmIt (l.comps.take k) (rs.take k))) (mag, 1)) (cat, 1)
        rw [List.length_take, Nat.min_eq_left hk] at h3
        have := HM.out
        omega
      rintro e w6 ⟨rfl, hs, hg⟩
      have HS6 := Aside0.mk hs
      rw [HG.out] at hg ⊢
      have HG6 := Aside0.mk (HG5.out.trans hg)
      clear hs hg HS5 HG5
      go_wp2
      go_roundw
      case rel => exact ⟨k + 1, by omega, by go_num, ⟨by rw [ht.out, wrt_append]; exact HS6.out⟩, HG6⟩
      case measure => simp [intOf]; omega
    · obtain rfl : k = l.comps.length := by omega
      go_wp2
      go_end0
      exact ⟨rfl, by have := HS2.out; rwa [List.take_length] at this, HG2.out⟩
end Go.Proofs.Ytfbmgjanplnabaa

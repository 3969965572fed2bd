import Derived.Test.YtfbmgjanplnabaaBE
import Derived.Test.YtfbmgjanplnabaaBD
import Derived.Laws.BitsAllLaws
/- pack.Take. -/
namespace Go.Proofs.Ytfbmgjanplnabaa
open Go.RowKit Go.Proofs.YtfbmgjanplnabaaW.PrintWords Go.Proofs.YtfbmgjanplnabaaW.PrintLast Go.Proofs.YtfbmgjanplnabaaW.PrintMore
set_option linter.unusedVariables false
set_option linter.unusedSimpArgs false

/-- One byte more of a number. -/
def tk (n b : Int) : Int := Go.bits .or .u32 ((n * 256) % 4294967296) (b % 4294967296)
def val (ys : List Int) : Int := ys.foldl tk 0
theorem val_succ (ys : List Int) (k : Nat) (h : k < ys.length) : val (ys.take (k + 1)) = tk (val (ys.take k)) (ys[k]) := by
  unfold val
  rw [List.take_succ_eq_append_getElem h, List.foldl_append]
  rfl
/-- The bytes of a number that stands at a place. -/
def seg (xs : List Int) (at_ size : Nat) : List Int := (xs.take (at_ + size)).drop at_
theorem seg_length (xs : List Int) (at_ size : Nat) (h : at_ + size ≤ xs.length) : (seg xs at_ size).length = size := by
  unfold seg
  rw [List.length_drop, List.length_take, Nat.min_eq_left h]
  omega

set_option maxHeartbeats 800000 in
theorem take_ok (size : Nat) (hs : size = 1 ∨ size = 2 ∨ size = 4) (xs : List Int) (A : Option Addr) (c : Nat) (at_ : Nat) (w : World) (hx : RdB w A xs) (hc : xs.length ≤ c) (h : at_ + size ≤ xs.length) :
    Calls Try.prog 77 #[.slice A xs.length c, .int .i64 at_, .int .i64 size] w fun e w' => e = .returned (.tuple #[.int .u32 (val (seg xs at_ size)), .int .i64 (at_ + size : Nat), .int .i64 0]) ∧ Below w.heap.size w w' := by
  obtain ⟨i0, hi, _, hsz, _⟩ := info_parts info5
  have hlen : xs.length ≤ 9223372036854775807 := hx.2.1
  obtain ⟨A', hcut, hA, hC⟩ := print_mid_of (P := Try.prog) (Value.int .u8) 0 32 5 .i64 .i64 Try.underlying32 hi hsz A c xs (at_ : Int) ((at_ + size : Nat) : Int) (by omega) (by omega) (by omega) hc
  have HX := Aside0.mk (Kd.C_of_reads (h1 := fun _ => rfl) (hA _ (Kd.reads_of_C hx)))
  simp only [Int.toNat_natCast] at hcut HX
  have hseg : (xs.take (at_ + size)).drop at_ = seg xs at_ size := rfl
  rw [hseg] at hcut HX
  have hlt : 0 < (seg xs at_ size).length := by rw [seg_length xs at_ size h]; omega
  obtain ⟨b, off, rfl, hcell⟩ := C_plain HX.out hlt
  rw [seg_length xs at_ size h] at hcut
  have HSL := Aside0.mk (seg_length xs at_ size h)
  obtain ⟨ys, hys⟩ : ∃ ys, seg xs at_ size = ys := ⟨_, rfl⟩
  rw [hys] at HSL HX hcell ⊢
  have HCELL : Aside0 (∀ (j : Nat) (hj : j < ys.length), w.cell? ⟨b, off + j, none⟩ = some (.int .u8 ys[j])) := ⟨fun j hj => by have := hcell j hj; rw [this]; simp [rd, List.getD_eq_getElem?_getD, List.getElem?_eq_getElem hj]⟩
  have hb := World.block_lt_of_cell? w _ (hcell 0 (by rw [HSL.out]; omega))
  have hnn : ¬ (at_ : Int) < 0 := by omega
  rw [show ((at_ + size : Nat) : Int) = (at_ : Int) + (size : Int) by omega] at hcut
  clear hx hc hA hC hi hsz hcell hys hseg hlt
  rcases hs with rfl | rfl | rfl
  all_goals
    first | simp only [Int.cast_ofNat_Int] at hcut | push_cast at hcut
    go_enter Try.func77, Try.ntmps77
    go_wp2_with (go_at_call 64; go_in)
    go_loopw [9, 11, 32] (fun v9 _ i W => ∃ k : Nat, k ≤ ys.length ∧ i = .int .i64 k ∧ v9 = .int .u32 (val (ys.take k)) ∧ Aside0 (Below w.heap.size w W)) (fun _ _ i _ => ys.length - (intOf i).toNat)
    case atStart => exact ⟨0, by omega, rfl, rfl, ⟨Below.refl _ _⟩⟩
    case round =>
      obtain ⟨k, hk, rfl, rfl, HB⟩ := hrel
      by_cases hlt : k < ys.length
      · have hck := (HB.out.cell (p := ⟨b, off + k, none⟩) hb).trans (HCELL.out k hlt)
        have hv := val_succ ys k hlt
        have HV := Aside0.mk hv
        have HSL2 := HSL.out
        clear hv
        go_wp2
        go_roundw
        case rel => exact ⟨k + 1, by omega, by go_num, by rw [HV.out]; rfl, HB⟩
        case measure => simp [intOf]; omega
      · obtain rfl : k = ys.length := by omega
        have HT : Aside0 (val (ys.take ys.length) = val ys) := ⟨by rw [List.take_length]⟩
        have HSL2 := HSL.out
        go_wp2
        go_ret3
        refine ⟨?_, HB.out⟩
        rw [HT.out]
        first | rfl | (push_cast; rfl)

set_option maxHeartbeats 400000 in
theorem take_bad (size : Nat) (hs : size = 1 ∨ size = 2 ∨ size = 4) (n : Nat) (A : Option Addr) (c : Nat) (at_ : Nat) (w : World) (hn : n ≤ 9223372036854775807) (h : n < at_ + size) :
    Calls Try.prog 77 #[.slice A n c, .int .i64 at_, .int .i64 size] w fun e w' => e = .returned (.tuple #[.int .u32 0, .int .i64 0, .int .i64 2]) ∧ Below w.heap.size w w' := by
  have hnn : ¬ (at_ : Int) < 0 := by omega
  rcases hs with rfl | rfl | rfl
  all_goals
    go_enter Try.func77, Try.ntmps77
    go_wp2_with (go_at_call 64; go_in)
    go_ret3
    exact ⟨rfl, Below.refl _ _⟩

/-- A number told at a place. -/
def takePost (size : Nat) (xs : List Int) (at_ : Nat) (w : World) (e : Ending) (w' : World) : Prop :=
  (if at_ + size ≤ xs.length then e = .returned (.tuple #[.int .u32 (val (seg xs at_ size)), .int .i64 (at_ + size : Nat), .int .i64 0]) else e = .returned (.tuple #[.int .u32 0, .int .i64 0, .int .i64 2])) ∧ Below w.heap.size w w'
theorem take_calls (size : Nat) (hs : size = 1 ∨ size = 2 ∨ size = 4) (xs : List Int) (A : Option Addr) (c : Nat) (at_ : Nat) (w : World) (hx : RdB w A xs) (hc : xs.length ≤ c) :
    Calls Try.prog 77 #[.slice A xs.length c, .int .i64 at_, .int .i64 size] w (takePost size xs at_ w) := by
  by_cases h : at_ + size ≤ xs.length
  · refine (take_ok size hs xs A c at_ w hx hc h).mono ?_
    rintro e w' ⟨rfl, hb⟩
    exact ⟨by rw [if_pos h], hb⟩
  · refine (take_bad size hs xs.length A c at_ w hx.2.1 (by omega)).mono ?_
    rintro e w' ⟨rfl, hb⟩
    exact ⟨by rw [if_neg h], hb⟩
end Go.Proofs.Ytfbmgjanplnabaa
/- pack.TakePool's next text. -/
namespace Go.Proofs.Ytfbmgjanplnabaa
open Go.RowKit Go.Proofs.YtfbmgjanplnabaaW.PrintWords Go.Proofs.YtfbmgjanplnabaaW.PrintLast Go.Proofs.YtfbmgjanplnabaaW.PrintMore
set_option linter.unusedVariables false
set_option linter.unusedSimpArgs false

theorem tk_range (n b : Int) : 0 ≤ tk n b ∧ tk n b < 4294967296 := by
  unfold tk
  rw [u32_or _ _ (by omega) (by omega) (by omega) (by omega)]
  have h := Nat.or_lt_two_pow (n := 32) (x := ((n * 256) % 4294967296).toNat) (y := (b % 4294967296).toNat) (by omega) (by omega)
  have e : (2 : Nat) ^ 32 = 4294967296 := rfl
  omega
theorem val_range (ys : List Int) : 0 ≤ val ys ∧ val ys < 4294967296 := by
  unfold val
  have : ∀ (l : List Int) (a : Int), 0 ≤ a ∧ a < 4294967296 → 0 ≤ l.foldl tk a ∧ l.foldl tk a < 4294967296 := by
    intro l
    induction l with
    | nil => intro a h; exact h
    | cons b l ih => intro a h; exact ih _ (tk_range a b)
  exact this ys 0 (by omega)

/-- The text at a place, and where it ends. -/
def nextS (xs : List Int) (at_ : Nat) : Option (ByteArray × Nat) :=
  if at_ + 2 ≤ xs.length then
    (if at_ + 2 + (val (seg xs at_ 2)).toNat ≤ xs.length then some (strOfNums (seg xs (at_ + 2) (val (seg xs at_ 2)).toNat), at_ + 2 + (val (seg xs at_ 2)).toNat) else none)
  else none
def nextPost (xs : List Int) (ga at_ : Nat) (w : World) (e : Ending) (w' : World) : Prop :=
  w.grownBy w' (some ga) ∧ (match nextS xs at_ with
    | some (s, fin) => e = .returned (.tuple #[.string s, .bool true]) ∧ w'.heap[ga]? = some (.cells #[.int .i64 fin] 3 (0, 0))
    | none => e = .returned (.tuple #[.string ⟨#[]⟩, .bool false]))

set_option maxHeartbeats 800000 in
set_option maxRecDepth 100000 in
theorem next_calls (w0 : World) (xs : List Int) (A : Option Addr) (c gb ga at_ : Nat) (w : World) (hx0 : RdB w0 A xs) (hw0 : Below w0.heap.size w0 w) (hg0 : w0.heap.size ≤ ga) (hc : xs.length ≤ c) (hb : w.heap[gb]? = some (.cells #[.slice A xs.length c] 32 (0, 0))) (ha : w.heap[ga]? = some (.cells #[.int .i64 at_] 3 (0, 0))) (hne : gb ≠ ga) :
    Calls Try.prog 78 #[.pointer (some ⟨gb, 0, none⟩), .pointer (some ⟨ga, 0, none⟩)] w (nextPost xs ga at_ w) := by
  have hx : RdB w A xs := Kd.C_below hx0 hw0
  have HW0 := Aside0.mk hw0
  have hlen : xs.length ≤ 9223372036854775807 := hx.2.1
  have HX := Aside0.mk hx
  have hb0 := blk_cell hb 0
  have ha0 := blk_cell ha 0
  simp only [List.getElem?_toArray, List.getElem?_cons_zero] at hb0 ha0
  have haf := blk_free ha 0
  have hbl := blk_lt hb
  have hal := blk_lt ha
  have HAA := Aside0.mk ha
  have HCC := Aside0.mk hc
  clear ha hb
  by_cases h1 : at_ + 2 ≤ xs.length
  · have HT := Aside0.mk (take_ok 2 (.inr (.inl rfl)) xs A c at_ w hx hc h1)
    obtain ⟨n, hn⟩ : ∃ n : Nat, val (seg xs at_ 2) = (n : Int) := ⟨(val (seg xs at_ 2)).toNat, by have := (val_range (seg xs at_ 2)).1; omega⟩
    have hn2 : (n : Int) < 4294967296 := by rw [← hn]; exact (val_range _).2
    rw [hn] at HT
    have HN := Aside0.mk hn
    by_cases h2 : at_ + 2 + n ≤ xs.length
    · have hnx : nextS xs at_ = some (strOfNums (seg xs (at_ + 2) n), at_ + 2 + n) := by
        unfold nextS
        rw [if_pos h1, hn, Int.toNat_natCast, if_pos h2]
      obtain ⟨i0, hi, _, hsz, _⟩ := info_parts info5
      obtain ⟨A', hcut, hA, hC⟩ := print_mid_of (P := Try.prog) (Value.int .u8) 0 32 5 .i64 .i64 Try.underlying32 hi hsz A c xs ((at_ + 2 : Nat) : Int) ((at_ + 2 + n : Nat) : Int) (by omega) (by omega) (by omega) hc
      have hX2 := Kd.C_of_reads (h1 := fun _ => rfl) (hA _ (Kd.reads_of_C hx0))
      simp only [Int.toNat_natCast] at hcut hX2
      have hseg : (xs.take (at_ + 2 + n)).drop (at_ + 2) = seg xs (at_ + 2) n := rfl
      rw [hseg] at hcut hX2
      obtain ⟨ys, hys⟩ : ∃ ys, seg xs (at_ + 2) n = ys := ⟨_, rfl⟩
      rw [hys] at hcut hX2 hnx
      obtain ⟨c2, hc2⟩ : ∃ c2, c - (at_ + 2) = c2 := ⟨_, rfl⟩
      rw [hc2] at hcut
      clear hc2
      have hys2 : ys.length = n := by rw [← hys]; exact seg_length xs (at_ + 2) n h2
      rw [hys2] at hcut
      have HCV : Aside0 (∀ W, Below w0.heap.size w0 W → (convert 32 9 (.slice A' n c2)).run Try.prog W = .ok (.string (strOfNums ys)) W) := ⟨fun W h => Kd.C_string (P := Try.prog) (c := c2) Try.underlying32 Try.underlying5 Try.underlying9 (Kd.C_below (by rw [hys2] at hX2; exact hX2) h)⟩
      rw [show ((at_ + 2 : Nat) : Int) = (at_ : Int) + 2 by omega, show ((at_ + 2 + n : Nat) : Int) = (at_ : Int) + 2 + n by omega] at hcut
      rw [show ((at_ + 2 : Nat) : Int) = (at_ : Int) + 2 by omega] at HT
      have HCUT := Aside0.mk hcut
      clear hcut
      suffices H : Calls Try.prog 78 #[.pointer (some ⟨gb, 0, none⟩), .pointer (some ⟨ga, 0, none⟩)] w (fun e w' => e = .returned (.tuple #[.string (strOfNums ys), .bool true]) ∧ w.grownBy w' (some ga) ∧ w'.heap[ga]? = some (.cells #[.int .i64 (at_ + 2 + n : Nat)] 3 (0, 0))) by
        refine H.mono ?_
        rintro e w' ⟨rfl, h1, h2⟩
        refine ⟨h1, ?_⟩
        rw [hnx]
        exact ⟨rfl, h2⟩
      clear hys2 hnx hC hA hi hsz hys hseg hX2 hx hx0 hw0 hn
      go_enter Try.func78, Try.ntmps78
      go_wp2_with fail
      refine HT.out.mono ?_
      rintro e w1 ⟨rfl, hb⟩
      have HB := Aside0.mk hb
      have hb1 := (hb.cell (p := ⟨gb, 0, none⟩) hbl).trans hb0
      have ha1 := (hb.cell (p := ⟨ga, 0, none⟩) hal).trans ha0
      have hf1 := (hb.frozen (p := ⟨ga, 0, none⟩) hal).trans haf
      have hcut := HCUT.out (w1.setCell ⟨ga, 0, none⟩ (.int .i64 ((at_ : Int) + 2 + n)))
      have hcv := HCV.out (w1.setCell ⟨ga, 0, none⟩ (.int .i64 ((at_ : Int) + 2 + n))) ((below_then HW0.out HW0.out.size hb).setCell hg0 _)
      clear hb hb0 ha0 haf hn2
      go_wp2_with fail
      go_ret2
      refine ⟨rfl, (grown_of_below' HB.out (some ga)).trans (grownBy_setc _ _ _ _), ?_⟩
      have hs := blk_set (blk_below HAA.out HB.out hal) 0 (.int .i64 ((at_ : Int) + 2 + n))
      simp only [List.setIfInBounds_toArray, List.set_cons_zero] at hs
      rw [hs]
      congr 4
    · have hnx : nextS xs at_ = none := by
        unfold nextS
        rw [if_pos h1, hn, Int.toNat_natCast, if_neg h2]
      suffices H : Calls Try.prog 78 #[.pointer (some ⟨gb, 0, none⟩), .pointer (some ⟨ga, 0, none⟩)] w (fun e w' => e = .returned (.tuple #[.string ⟨#[]⟩, .bool false]) ∧ w.grownBy w' (some ga)) by
        refine H.mono ?_
        rintro e w' ⟨rfl, h1⟩
        refine ⟨h1, ?_⟩
        rw [hnx]
      rw [show ((at_ + 2 : Nat) : Int) = (at_ : Int) + 2 by omega] at HT
      clear hnx hx hx0 hw0 hn
      go_enter Try.func78, Try.ntmps78
      go_wp2_with fail
      refine HT.out.mono ?_
      rintro e w1 ⟨rfl, hb⟩
      have HB := Aside0.mk hb
      have hb1 := (hb.cell (p := ⟨gb, 0, none⟩) hbl).trans hb0
      clear hb hb0 ha0 haf
      have hn3 : (n : Int) ≤ 4294967295 := by omega
      clear hn2
      go_wp2_with fail
      go_ret2
      exact ⟨rfl, grown_of_below' HB.out _⟩
  · have HT := Aside0.mk (take_bad 2 (.inr (.inl rfl)) xs.length A c at_ w hlen (by omega))
    have hnx : nextS xs at_ = none := by
      unfold nextS
      rw [if_neg h1]
    suffices H : Calls Try.prog 78 #[.pointer (some ⟨gb, 0, none⟩), .pointer (some ⟨ga, 0, none⟩)] w (fun e w' => e = .returned (.tuple #[.string ⟨#[]⟩, .bool false]) ∧ w.grownBy w' (some ga)) by
      refine H.mono ?_
      rintro e w' ⟨rfl, h1⟩
      refine ⟨h1, ?_⟩
      rw [hnx]
    clear hnx hx hx0 hw0
    go_enter Try.func78, Try.ntmps78
    go_wp2_with fail
    refine HT.out.mono ?_
    rintro e w1 ⟨rfl, hb⟩
    have HB := Aside0.mk hb
    have hb1 := (hb.cell (p := ⟨gb, 0, none⟩) hbl).trans hb0
    clear hb hb0 ha0 haf
    go_wp2_with fail
    go_ret2
    exact ⟨rfl, grown_of_below' HB.out _⟩
end Go.Proofs.Ytfbmgjanplnabaa
/- pack.TakePool. -/
namespace Go.Proofs.Ytfbmgjanplnabaa
open Go.RowKit Go.Proofs.YtfbmgjanplnabaaW.PrintWords Go.Proofs.YtfbmgjanplnabaaW.PrintLast Go.Proofs.YtfbmgjanplnabaaW.PrintMore
set_option linter.unusedVariables false
set_option linter.unusedSimpArgs false

/-- Some texts that stand one behind the other. -/
def pullS (xs : List Int) : Nat → Nat → Option (List ByteArray × Nat)
  | 0, at_ => some ([], at_)
  | k + 1, at_ => (nextS xs at_).bind fun r => (pullS xs k r.2).map fun q => (r.1 :: q.1, q.2)
def takePool (xs : List Int) (at_ : Nat) : Option (List ByteArray × Nat) :=
  if at_ + 2 ≤ xs.length then (pullS xs (val (seg xs at_ 2)).toNat (at_ + 2)).bind fun r => if isPool r.1 then some r else none else none
def poolPost (xs : List Int) (at_ : Nat) (w : World) (e : Ending) (w' : World) : Prop :=
  Below w.heap.size w w' ∧ (match takePool xs at_ with
    | some (ts, fin) => ∃ v, e = .returned (.tuple #[v, .int .i64 fin, .int .i64 0]) ∧ OwnS w' w.heap.size v ts
    | none => e = .returned (.tuple #[.slice none 0 0, .int .i64 0, .int .i64 2]))

/-- Between two texts. -/
structure TInv (w : World) (xs : List Int) (A : Option Addr) (c : Nat) (W : World) (vp : Value) (acc : List ByteArray) (at_ : Nat) : Prop where
  own : OwnS W (w.heap.size + 2) vp acc
  bx : W.heap[w.heap.size]? = some (.cells #[.slice A xs.length c] 32 (0, 0))
  pos : W.heap[w.heap.size + 1]? = some (.cells #[.int .i64 at_] 3 (0, 0))
  below : Below w.heap.size w W
section
variable {w : World} {xs : List Int} {A : Option Addr} {c : Nat} {W W' : World} {vp : Value} {acc : List ByteArray} {at_ at' : Nat}
theorem TInv.call (h : TInv w xs A c W vp acc at_) (hg : W.grownBy W' (some (w.heap.size + 1))) (hp : W'.heap[w.heap.size + 1]? = some (.cells #[.int .i64 at'] 3 (0, 0))) : TInv w xs A c W' vp acc at' where
  own := Kd.R_mono (Kd.R_grown (Kd.R_bound h.own) hg (fun k hk e => by injection e with e; have := hk.2.1; omega)) (fun _ _ => trivial)
  bx := blk_grown h.bx hg (fun e => by injection e with e; omega)
  pos := hp
  below := below_grown h.below hg h.below.size (Nat.le_succ _)
theorem TInv.size (h : TInv w xs A c W vp acc at_) : w.heap.size + 2 ≤ W.heap.size := blk_lt h.pos
theorem TInv.alloc (h : TInv w xs A c W vp acc at_) (o : Obj) : TInv w xs A c (W.alloc o) vp acc at_ where
  own := Kd.R_alloc h.own o
  bx := blk_alloc h.bx o
  pos := blk_alloc h.pos o
  below := h.below.alloc h.below.size o
theorem TInv.appended {v1 : Value} {acc' : List ByteArray} (h : TInv w xs A c W vp acc at_) (ho : OwnS W' (w.heap.size + 2) v1 acc') (hb : Below (w.heap.size + 2) W W') : TInv w xs A c W' v1 acc' at_ where
  own := ho
  bx := blk_below h.bx hb (by omega)
  pos := blk_below h.pos hb (by omega)
  below := ⟨hb.os.trans h.below.os, hb.tape.trans h.below.tape, hb.output.trans h.below.output, Nat.le_trans h.below.size hb.size, fun i hi => (hb.block i (by omega)).trans (h.below.block i hi)⟩
end

set_option maxHeartbeats 1600000 in
set_option maxRecDepth 100000 in
theorem takePool_calls (xs : List Int) (A : Option Addr) (c at_ : Nat) (w : World) (hx : RdB w A xs) (hc : xs.length ≤ c) :
    Calls Try.prog 67 #[.slice A xs.length c, .int .i64 at_] w (poolPost xs at_ w) := by
  have hlen : xs.length ≤ 9223372036854775807 := hx.2.1
  have HX := Aside0.mk hx
  have HC := Aside0.mk hc
  have hmf := run_makeFunc
  by_cases h1 : at_ + 2 ≤ xs.length
  · obtain ⟨n, hn⟩ : ∃ n : Nat, val (seg xs at_ 2) = (n : Int) := ⟨(val (seg xs at_ 2)).toNat, by have := (val_range (seg xs at_ 2)).1; omega⟩
    have hn2 : n ≤ 4294967295 := by have := (val_range (seg xs at_ 2)).2; omega
    have htp : takePool xs at_ = (pullS xs n (at_ + 2)).bind fun r => if isPool r.1 then some r else none := by
      unfold takePool
      rw [if_pos h1, hn, Int.toNat_natCast]
    have HN2 := Aside0.mk hn2
    have HTP := Aside0.mk htp
    have HN := Aside0.mk hn
    clear hx hc hn htp hn2
    go_enter Try.func67, Try.ntmps67
    go_wp2_with fail
    have HT0 : Aside0 (TInv w xs A c ((w.alloc (.cells #[.slice A xs.length c] 32)).alloc (.cells #[.int .i64 at_] 3)) (.slice none 0 0) [] at_) :=
      ⟨⟨Kd.R_nil _ _ _ _ _, blk_alloc (blk_new _ _) _, blk_new1 _ _ _, ((Below.refl _ _).alloc (Nat.le_refl _) _).alloc (by simp) _⟩⟩
    obtain ⟨g, hg⟩ : ∃ g, w.heap.size = g := ⟨_, rfl⟩
    have HG := Aside0.mk hg
    rw [hg]
    clear hg
    generalize (w.alloc (.cells #[.slice A xs.length c] 32)).alloc (.cells #[.int .i64 at_] 3) = w2 at HT0 ⊢
    refine (take_ok 2 (.inr (.inl rfl)) xs A c at_ _ (Kd.C_below HX.out HT0.out.below) HC.out h1).mono ?_
    rintro e w3 ⟨rfl, hb⟩
    have HT1 := Aside0.mk (HT0.out.appended (Kd.R_nil _ _ _ _ _) (Below.mono hb HT0.out.size))
    have hf := blk_free HT1.out.pos 0
    have hc1 := blk_cell HT1.out.pos 0
    simp only [List.getElem?_toArray, List.getElem?_cons_zero] at hc1
    have HT2 := Aside0.mk (HT1.out.call (grownBy_setc _ _ 0 (.int .i64 (at_ + 2 : Nat))) (blk_set HT1.out.pos 0 (.int .i64 (at_ + 2 : Nat))))
    rw [HG.out] at hf hc1 HT2
    rw [HN.out, show ((at_ + 2 : Nat) : Int) = (at_ : Int) + 2 by omega]
    rw [show ((at_ + 2 : Nat) : Int) = (at_ : Int) + 2 by omega] at HT2
    clear hb HT0 HT1 HN
    go_wp2_with fail
    generalize w3.setCell ⟨g + 1, 0, none⟩ (.int .i64 ((at_ : Int) + 2)) = w4 at HT2 ⊢
    clear hf hc1
    go_loopw [10, 11, 12, 25] (fun vp _ _ i W => ∃ (k : Nat) (acc : List ByteArray) (p : Nat), k ≤ n ∧ i = .int .u32 k ∧ (∃ A m c, vp = .slice A m c) ∧ acc.length = k ∧ Aside0 (pullS xs n (at_ + 2) = (pullS xs (n - k) p).map fun r => (acc ++ r.1, r.2)) ∧ Aside0 (TInv w xs A c W vp acc p)) (fun _ _ _ i _ => n - (intOf i).toNat)
    case atStart => exact ⟨0, [], at_ + 2, by omega, rfl, ⟨_, _, _, rfl⟩, rfl, ⟨by cases pullS xs n (at_ + 2) <;> rfl⟩, HT2⟩
    case round =>
      clear HT2
      obtain ⟨k, acc, p, hk, rfl, ⟨Av, mv, cv, rfl⟩, hacc, HP, HT⟩ := hrel
      by_cases hlt : k < n
      · have HN := Aside0.mk (next_calls w xs A c w.heap.size (w.heap.size + 1) p wr HX.out HT.out.below (Nat.le_succ _) HC.out HT.out.bx HT.out.pos (by omega))
        rw [HG.out] at HN
        have hpl : pullS xs (n - k) p = (nextS xs p).bind fun r => (pullS xs (n - (k + 1)) r.2).map fun q => (r.1 :: q.1, q.2) := by
          rw [show n - k = (n - (k + 1)) + 1 by omega]
          rfl
        cases hnx : nextS xs p with
        | none =>
          rw [hnx] at hpl
          have HNO : Aside0 (takePool xs at_ = none) := ⟨by rw [HTP.out, HP.out, hpl]; rfl⟩
          have HN' : Aside0 (Calls Try.prog 78 #[.pointer (some ⟨g, 0, none⟩), .pointer (some ⟨g + 1, 0, none⟩)] wr fun e w' => e = .returned (.tuple #[.string ⟨#[]⟩, .bool false]) ∧ wr.grownBy w' (some (g + 1))) := ⟨by
            refine HN.out.mono ?_
            rintro e w' ⟨h1, h2⟩
            rw [hnx] at h2
            exact ⟨h2, h1⟩⟩
          clear hnx hpl HN HP
          go_wp2_with fail
          refine HN'.out.mono ?_
          rintro e w5 ⟨rfl, hg5⟩
          have HB5 := Aside0.mk (below_grown HT.out.below hg5 HT.out.below.size (by have := HG.out; omega))
          clear hg5 HN' HT
          go_wp2_with fail
          go_ret3
          refine ⟨HB5.out, ?_⟩
          rw [HNO.out]
          exact rfl
        | some r =>
          obtain ⟨s, q⟩ := r
          rw [hnx] at hpl
          have HN' : Aside0 (Calls Try.prog 78 #[.pointer (some ⟨g, 0, none⟩), .pointer (some ⟨g + 1, 0, none⟩)] wr fun e w' => e = .returned (.tuple #[.string s, .bool true]) ∧ wr.grownBy w' (some (g + 1)) ∧ w'.heap[g + 1]? = some (.cells #[.int .i64 q] 3 (0, 0))) := ⟨by
            refine HN.out.mono ?_
            rintro e w' ⟨h1, h2⟩
            rw [hnx] at h2
            exact ⟨h2.1, h1, h2.2⟩⟩
          have HPL := Aside0.mk hpl
          clear hnx hpl HN
          go_wp2_with fail
          refine HN'.out.mono ?_
          rintro e w5 ⟨rfl, hg5, hp5⟩
          have HT5 := Aside0.mk (HT.out.call (at' := q) (by rw [HG.out]; exact hg5) (by rw [HG.out]; exact hp5))
          clear hg5 hp5 HN' HT
          have hsz := HT5.out.size
          have HSZ := Aside0.mk hsz
          have HL16 : Aside0 ((acc.length + 1) * 16 ≤ 140737488355328) := ⟨by have := HN2.out; omega⟩
          clear hsz
          go_wp2_with ((with_reducible refine gate_builtin (b := .append) (xs := #[.tmp 34, .tmp 36]) rfl ?_); at_builtin; go_must (refine appSS (w0 := w5) (w.heap.size + 2) rfl (.tmp 34) (.tmp 36) rfl (.slice Av mv cv) acc [s] _ 1 rfl rfl (Kd.R_alloc HT5.out.own _) (C_blkS [s] (blk_new _ _) (by simp)) ((Below.refl _ _).alloc HSZ.out _) (Nat.le_trans HSZ.out (by simp)) HL16.out ?_); intro v6 w6 ho hb6 hgr; have HT6 := Aside0.mk (HT5.out.appended ho hb6); obtain ⟨A6, m6, c6, hv6⟩ := R_slice' ho; subst hv6; clear ho hb6 hgr)
          go_roundw
          case rel =>
            refine ⟨k + 1, acc ++ [s], q, by omega, by congr 1; have := HN2.out; omega, ⟨_, _, _, rfl⟩, by rw [List.length_append, hacc]; rfl, ⟨?_⟩, HT6⟩
            rw [HP.out, HPL.out]
            simp only [Option.bind_some, Option.map_map]
            congr 1
            funext r
            simp
          case measure => have := HN2.out; simp [intOf]; omega
      · obtain rfl : k = n := by omega
        rw [Nat.sub_self] at HP
        have HNO : Aside0 (takePool xs at_ = if isPool acc then some (acc, p) else none) := ⟨by rw [HTP.out, HP.out]; simp [pullS]⟩
        obtain ⟨A', c', e, _, hr⟩ := Kd.R_reads HT.out.own
        injection e with e1 e2 e3
        subst e1 e2 e3
        have HR := Aside0.mk hr
        have hp0 := blk_cell HT.out.pos 0
        simp only [List.getElem?_toArray, List.getElem?_cons_zero] at hp0
        have hpl := blk_lt HT.out.pos
        rw [HG.out] at hp0 hpl
        have HL16 : Aside0 (acc.length * 16 ≤ 140737488351232) := ⟨by have := HN2.out; omega⟩
        have HLB := Aside0.mk HT.out.below
        have HOW := Aside0.mk (Kd.R_lower HT.out.own (show w.heap.size ≤ w.heap.size + 2 by omega))
        clear hr HP HT HTP hacc
        cases hip : isPool acc with
        | true =>
          rw [hip, if_pos rfl] at HNO
          have HI := Aside0.mk hip
          clear hip
          go_wp2_with (go_at_call 43; refine (isPool_calls acc _ _ _ HR.out HL16.out).mono ?_; rintro e w5 ⟨rfl, hb⟩; rw [HI.out]; have HB5 := Aside0.mk (below_then HLB.out HLB.out.size hb); have hp5 := (hb.cell (p := ⟨g + 1, 0, none⟩) hpl).trans hp0; have HO5 := Aside0.mk (Kd.R_below HOW.out hb); clear hb)
          go_region
          all_goals go_wp2
          all_goals go_ret3
          all_goals refine ⟨HB5.out.drew, ?_⟩
          all_goals rw [HNO.out]
          all_goals exact ⟨_, rfl, Kd.R_drew HO5.out⟩
        | false =>
          rw [hip] at HNO
          have HI := Aside0.mk hip
          clear hip
          go_wp2_with (go_at_call 43; refine (isPool_calls acc _ _ _ HR.out HL16.out).mono ?_; rintro e w5 ⟨rfl, hb⟩; rw [HI.out]; have HB5 := Aside0.mk (below_then HLB.out HLB.out.size hb); clear hb)
          go_ret3
          refine ⟨HB5.out, ?_⟩
          rw [HNO.out]
          exact rfl
  · have htp : takePool xs at_ = none := by unfold takePool; rw [if_neg h1]
    have HTP := Aside0.mk htp
    clear hx hc htp
    go_enter Try.func67, Try.ntmps67
    go_wp2_with fail
    have HB1 := Aside0.mk (((Below.refl w.heap.size w).alloc (Nat.le_refl _) (.cells #[.slice A xs.length c] 32)).alloc (by simp) (.cells #[.int .i64 at_] 3))
    obtain ⟨g, hg⟩ : ∃ g, w.heap.size = g := ⟨_, rfl⟩
    have HG := Aside0.mk hg
    have hcl := blk_cell (blk_new1 w (.cells #[.int .i64 at_] 3) (.cells #[.slice A xs.length c] 32)) 0
    have hfz := blk_free (blk_new1 w (.cells #[.int .i64 at_] 3) (.cells #[.slice A xs.length c] 32)) 0
    have hlt := blk_lt (blk_new1 w (.cells #[.int .i64 at_] 3) (.cells #[.slice A xs.length c] 32))
    simp only [List.getElem?_toArray, List.getElem?_cons_zero] at hcl
    rw [hg] at hcl hfz hlt ⊢
    clear hg
    generalize (w.alloc (.cells #[.slice A xs.length c] 32)).alloc (.cells #[.int .i64 at_] 3) = w2 at HB1 hcl hfz hlt ⊢
    refine (take_bad 2 (.inr (.inl rfl)) xs.length A c at_ _ hlen (by omega)).mono ?_
    rintro e w3 ⟨rfl, hb⟩
    have hc1 := (hb.cell (p := ⟨g + 1, 0, none⟩) hlt).trans hcl
    have hf1 := (hb.frozen (p := ⟨g + 1, 0, none⟩) hlt).trans hfz
    have HB3 := Aside0.mk (below_grown (below_then HB1.out HB1.out.size hb) (grownBy_setc _ (g + 1) 0 (.int .i64 0)) (Nat.le_trans HB1.out.size hb.size) (by have := HG.out; omega))
    clear hb hcl hfz
    go_wp2_with fail
    go_ret3
    refine ⟨HB3.out, ?_⟩
    rw [HTP.out]
    exact rfl
end Go.Proofs.Ytfbmgjanplnabaa
/- The reader of bundles: numbers and texts. -/
namespace Go.Proofs.Ytfbmgjanplnabaa
open Go.RowKit Go.Proofs.YtfbmgjanplnabaaW.PrintWords Go.Proofs.YtfbmgjanplnabaaW.PrintLast Go.Proofs.YtfbmgjanplnabaaW.PrintMore
set_option linter.unusedVariables false
set_option linter.unusedSimpArgs false

def wrong : Ending := .panicked [{ v := .iface 115 (.agg #[]), recovered := false }]

/-- The reader, its pool, its place. -/
structure RInv (w0 : World) (xs : List Int) (A : Option Addr) (c g B : Nat) (vp : Value) (pool : List ByteArray) (W : World) (p : Nat) : Prop where
  rd : W.heap[g]? = some (.cells #[.slice A xs.length c, .int .i64 p, vp] 91 (0, 0))
  pl : Kd.string.R 9 W (g + 1) (fun k => k < B) vp pool
  below : Below w0.heap.size w0 W
  xs_ : RdB w0 A xs
  cap : xs.length ≤ c
  le : w0.heap.size ≤ g
section
variable {w0 : World} {xs : List Int} {A : Option Addr} {c g B : Nat} {vp : Value} {pool : List ByteArray} {W W' : World} {p p' : Nat}
/-- Other memory turns. -/
theorem RInv.other {j : Nat} (h : RInv w0 xs A c g B vp pool W p) (hg : W.grownBy W' (some j)) (hj : j ≠ g) (hB : B ≤ j) (h0 : w0.heap.size ≤ j) : RInv w0 xs A c g B vp pool W' p where
  rd := blk_grown h.rd hg (fun e => by injection e with e; exact hj e.symm)
  pl := Kd.R_grown h.pl hg (fun k hk e => by injection e with e; omega)
  below := below_grown h.below hg h.below.size h0
  xs_ := h.xs_
  cap := h.cap
  le := h.le
theorem RInv.belowB (h : RInv w0 xs A c g B vp pool W p) (hb : Below W.heap.size W W') : RInv w0 xs A c g B vp pool W' p where
  rd := blk_below h.rd hb (blk_lt h.rd)
  pl := Kd.R_below h.pl hb
  below := below_then h.below h.below.size hb
  xs_ := h.xs_
  cap := h.cap
  le := h.le
/-- The place turns. -/
theorem RInv.move (h : RInv w0 xs A c g B vp pool W p) : RInv w0 xs A c g B vp pool (W.setCell ⟨g, 1, none⟩ (.int .i64 p')) p' where
  rd := blk_set h.rd 1 _
  pl := Kd.R_mono (Kd.R_grown (Kd.R_bound h.pl) (grownBy_setc W g 1 _) (fun k hk e => by injection e with e; have := hk.2.1; omega)) (fun _ hk => hk.1)
  below := h.below.setCell h.le _
  xs_ := h.xs_
  cap := h.cap
  le := h.le
end

def numPost (w0 : World) (xs : List Int) (A : Option Addr) (c g B : Nat) (vp : Value) (pool : List ByteArray) (p size : Nat) (W : World) (e : Ending) (W' : World) : Prop :=
  W.grownBy W' (some g) ∧ (if p + size ≤ xs.length then e = .returned (.int .i64 (val (seg xs p size))) ∧ RInv w0 xs A c g B vp pool W' (p + size) else e = wrong)

set_option maxHeartbeats 800000 in
set_option maxRecDepth 100000 in
theorem number_ok (w0 : World) (xs : List Int) (A : Option Addr) (c g B : Nat) (vp : Value) (pool : List ByteArray) (p size : Nat) (W : World) (hs : size = 1 ∨ size = 2 ∨ size = 4) (hI : RInv w0 xs A c g B vp pool W p) (h : p + size ≤ xs.length) :
    Calls Try.prog 70 #[.pointer (some ⟨g, 0, none⟩), .int .i64 size] W (fun e W' => e = .returned (.int .i64 (val (seg xs p size))) ∧ W.grownBy W' (some g) ∧ RInv w0 xs A c g B vp pool W' (p + size)) := by
  have HI := Aside0.mk hI
  have HT := Aside0.mk (fun Wx (hb : Below W.heap.size W Wx) => take_ok size hs xs A c p Wx (Kd.C_below hI.xs_ (hI.belowB hb).below) hI.cap h)
  have hc0 := blk_cell hI.rd 0
  have hc1 := blk_cell hI.rd 1
  have hf1 := blk_free hI.rd 1
  have hlt := blk_lt hI.rd
  simp only [List.getElem?_toArray, List.getElem?_cons_zero, List.getElem?_cons_succ] at hc0 hc1
  obtain ⟨n, hn⟩ : ∃ n : Nat, val (seg xs p size) = (n : Int) := ⟨(val (seg xs p size)).toNat, by have := (val_range (seg xs p size)).1; omega⟩
  have hn2 : (n : Int) ≤ 4294967295 := by have := (val_range (seg xs p size)).2; omega
  rw [hn] at HT ⊢
  obtain ⟨q, hq⟩ : ∃ q, p + size = q := ⟨_, rfl⟩
  rw [hq] at HT ⊢
  clear hI h hn hq
  rcases hs with rfl | rfl | rfl
  all_goals
    go_enter Try.func70, Try.ntmps70
    go_upto_region 1 with (fail)
    go_region_law (go_simp; go_at_call 77; refine (HT.out _ ((Below.refl _ _).drew)).mono ?_; rintro e w2 ⟨rfl, hb⟩; have HB := Aside0.mk hb; have hd1 := (hb.cell (p := ⟨g, 1, none⟩) hlt).trans hc1; have hg1 := (hb.frozen (p := ⟨g, 1, none⟩) hlt).trans hf1; clear hb; go_simp)
    all_goals go_wp2
    all_goals go_ret
    all_goals have hW := below_then ((Below.refl W.heap.size W).drew) (Nat.le_refl _) HB.out
    all_goals exact ⟨rfl, (grown_of_below' hW (some g)).trans (grownBy_setc _ _ _ _), (HI.out.belowB hW).move⟩

set_option maxHeartbeats 800000 in
set_option maxRecDepth 100000 in
theorem number_bad (w0 : World) (xs : List Int) (A : Option Addr) (c g B : Nat) (vp : Value) (pool : List ByteArray) (p size : Nat) (W : World) (hs : size = 1 ∨ size = 2 ∨ size = 4) (hI : RInv w0 xs A c g B vp pool W p) (h : xs.length < p + size) :
    Calls Try.prog 70 #[.pointer (some ⟨g, 0, none⟩), .int .i64 size] W (fun e W' => e = wrong ∧ W.grownBy W' (some g)) := by
  have HT := Aside0.mk (fun (Wx : World) (hb : Below W.heap.size W Wx) => take_bad size hs xs.length A c p Wx hI.xs_.2.1 h)
  have hc0 := blk_cell hI.rd 0
  have hc1 := blk_cell hI.rd 1
  have hlt := blk_lt hI.rd
  simp only [List.getElem?_toArray, List.getElem?_cons_zero, List.getElem?_cons_succ] at hc0 hc1
  clear hI h
  rcases hs with rfl | rfl | rfl
  all_goals
    go_enter Try.func70, Try.ntmps70
    go_upto_region 1 with (fail)
    go_region_law (go_simp; go_at_call 77; refine (HT.out _ ((Below.refl _ _).drew)).mono ?_; rintro e w2 ⟨rfl, hb⟩; have HB := Aside0.mk hb; clear hb; go_simp)
    all_goals go_wp2
    all_goals have hW := below_then ((Below.refl W.heap.size W).drew) (Nat.le_refl _) HB.out
    all_goals exact ⟨rfl, rfl, grown_of_below' hW (some g)⟩
theorem number_R (w0 : World) (xs : List Int) (A : Option Addr) (c g B : Nat) (vp : Value) (pool : List ByteArray) (p size : Nat) (W : World) (hs : size = 1 ∨ size = 2 ∨ size = 4) (hI : RInv w0 xs A c g B vp pool W p) :
    Calls Try.prog 70 #[.pointer (some ⟨g, 0, none⟩), .int .i64 size] W (numPost w0 xs A c g B vp pool p size W) := by
  by_cases h : p + size ≤ xs.length
  · refine (number_ok w0 xs A c g B vp pool p size W hs hI h).mono ?_
    rintro e w' ⟨rfl, h1, h2⟩
    exact ⟨h1, by rw [if_pos h]; exact ⟨rfl, h2⟩⟩
  · refine (number_bad w0 xs A c g B vp pool p size W hs hI (by omega)).mono ?_
    rintro e w' ⟨rfl, h1⟩
    exact ⟨h1, by rw [if_neg h]⟩
end Go.Proofs.Ytfbmgjanplnabaa

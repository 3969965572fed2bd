import Derived.Test.YtfbmgjanplnabaaBS
import Derived.Test.YtfbmgjanplnabaaBG
import Derived.Test.YtfbmgjanplnabaaBM
/- exergueref09.TakePool. -/
namespace Go.Proofs.Ytfbmgjanplnabaa
open Go.RowKit Go.Proofs.YtfbmgjanplnabaaW.PrintWords Go.Proofs.YtfbmgjanplnabaaW.PrintLast Go.Proofs.YtfbmgjanplnabaaW.PrintMore
set_option linter.unusedVariables false
set_option linter.unusedSimpArgs false

theorem numP_two {xs : List Int} (hby : Bytes xs) {p n q : Nat} (h : numP xs 2 p = some (n, q)) : n ≤ 65535 ∧ q = p + 2 ∧ p + 2 ≤ xs.length ∧ (val (seg xs p 2)).toNat = n := by
  unfold numP at h
  split at h
  case isTrue hl =>
    injection h with h
    injection h with h1 h2
    have hs := seg_length xs p 2 hl
    have hv := val_small (seg xs p 2) (seg_bytes hby p 2) 2 (by omega) (by omega)
    rw [List.take_of_length_le (by omega)] at hv
    have := hv.2.2.1 (by omega)
    exact ⟨by omega, h2.symm, hl, h1⟩
  case isFalse => cases h
theorem nextS_ok {xs : List Int} (hby : Bytes xs) {p m q : Nat} (h : numP xs 2 p = some (m, q)) (hl : q + m ≤ xs.length) : nextS xs p = some (strOfNums (seg xs q m), q + m) := by
  obtain ⟨_, rfl, h1, h2⟩ := numP_two hby h
  unfold nextS
  rw [if_pos h1, h2, if_pos hl]
theorem nextS_far {xs : List Int} (hby : Bytes xs) {p m q : Nat} (h : numP xs 2 p = some (m, q)) (hl : ¬ q + m ≤ xs.length) : nextS xs p = none := by
  obtain ⟨_, rfl, h1, h2⟩ := numP_two hby h
  unfold nextS
  rw [if_pos h1, h2, if_neg hl]
theorem nextS_short {xs : List Int} {p : Nat} (h : numP xs 2 p = none) : nextS xs p = none := by
  unfold numP at h
  split at h
  case isTrue => cases h
  case isFalse hl => unfold nextS; rw [if_neg hl]
theorem takePool_num {xs : List Int} (hby : Bytes xs) {p n q : Nat} (h : numP xs 2 p = some (n, q)) : takePool xs p = (rep (nextS xs) n q).bind fun r => if isPool r.1 then some r else none := by
  obtain ⟨_, rfl, h1, h2⟩ := numP_two hby h
  unfold takePool
  rw [if_pos h1, h2, pullS_rep]
theorem takePool_short {xs : List Int} {p : Nat} (h : numP xs 2 p = none) : takePool xs p = none := by
  unfold numP at h
  split at h
  case isTrue => cases h
  case isFalse hl => unfold takePool; rw [if_neg hl]
theorem RepT.none_ {α : Type} {f : PS α} {n p0 k p : Nat} {acc : List α} (h : RepT f n p0 false acc k p true) : rep f n p0 = none := by
  rcases h with ⟨_, h1, _⟩ | ⟨_, h | h⟩
  · cases h1
  · cases h
  · exact h
def poolQ (xs : List Int) (p : Nat) (w : World) (e : Ending) (w' : World) : Prop :=
  ∃ (v : Value) (pool : List ByteArray) (q : Nat) (k : Int), e = .returned (.tuple #[v, .int .i64 q, .int .i64 k]) ∧ OwnS w' w.heap.size v pool ∧ q ≤ xs.length ∧ Below w.heap.size w w' ∧
    (((k == 0) = true ∧ (k != 0) = false ∧ takePool xs p = some (pool, q)) ∨ ((k == 0) = false ∧ (k != 0) = true ∧ takePool xs p = none))
theorem poolQ_no {xs : List Int} {p : Nat} {w w' : World} (h : takePool xs p = none) (hb : Below w.heap.size w w') : poolQ xs p w (.returned (.tuple #[.slice none 0 0, .int .i64 0, .int .i64 2])) w' :=
  ⟨_, [], 0, 2, rfl, Kd.R_nil _ _ _ _ _, Nat.zero_le _, hb, .inr ⟨rfl, rfl, h⟩⟩
set_option maxHeartbeats 3200000 in
set_option maxRecDepth 100000 in
theorem refTakePool_calls (xs : List Int) (A : Option Addr) (c p : Nat) (w : World) (hx : RdB w A xs) (hc : xs.length ≤ c) (hby : Bytes xs) (hm : xs.length ≤ 1000000) :
    Calls Try.prog 58 #[.slice A xs.length c, .int .i64 p] w (poolQ xs p w) := by
  have HX := Aside0.mk hx
  have HBY := Aside0.mk hby
  have HT0 := Aside0.mk (refTake_calls 2 (.inr (.inl rfl)) xs A c p w hx hby)
  have hnn : ¬ (p : Int) < 0 := by omega
  have HC := Aside0.mk hc
  clear hx hby hc
  go_enter Try.func58, Try.ntmps58
  go_wp2_with fail
  refine HT0.out.mono ?_
  rintro e w' ⟨rfl, n, p2, k0, rfl, hn, hp2, ⟨rfl, e1, e2, hv⟩ | ⟨rfl, e1, e2, hv, rfl, rfl⟩⟩
  case inr =>
    have HNO := Aside0.mk (poolQ_no (takePool_short hv) (Below.refl w.heap.size w))
    clear hv HT0
    go_wp2
    go_ret3
    exact HNO.out
  have HTP := Aside0.mk (takePool_num HBY.out hv)
  have HN := Aside0.mk (numP_two HBY.out hv).1
  have hn5 := (numP_two HBY.out hv).1
  clear hv HT0
  go_wp2_with fail
  go_loopw [8, 10, 11] (fun v8 v10 i W => ∃ (k q : Nat) (acc : List ByteArray), k ≤ n ∧ i = .int .i64 k ∧ v8 = .int .i64 q ∧ q ≤ xs.length ∧ Aside0 (acc.length = k ∧ OwnS W w.heap.size v10 acc) ∧ Aside0 (Below w.heap.size w W) ∧ Aside0 (RepT (nextS xs) n p2 false acc k q false)) (fun _ _ i _ => n - (intOf i).toNat)
  case atStart => exact ⟨0, p2, [], by omega, rfl, rfl, hp2, ⟨rfl, Kd.R_nil _ _ _ _ _⟩, ⟨Below.refl _ _⟩, ⟨RepT.start _ _ _ _⟩⟩
  case round =>
    obtain ⟨k, q, acc, hk, rfl, rfl, hq, HA, HB, HR⟩ := hrel
    by_cases hlt : k < n
    · obtain ⟨hal, hos⟩ := HA.out
      obtain ⟨Av, mv, cv, rfl⟩ := R_slice' hos
      have HOS := Aside0.mk hos
      have HAL := Aside0.mk hal
      have hxr := Kd.C_below HX.out HB.out
      have HXR := Aside0.mk hxr
      have HT := Aside0.mk (refTake_calls 2 (.inr (.inl rfl)) xs A c q wr hxr HBY.out)
      have HSW := Aside0.mk HB.out.size
      clear hal hos HA hxr
      go_wp2_with fail
      refine HT.out.mono ?_
      rintro e w' ⟨rfl, m, q2, k2, rfl, hm2, hq2, ⟨rfl, e3, e4, hv⟩ | ⟨rfl, e3, e4, hv, rfl, rfl⟩⟩
      case inr =>
        have HNO := Aside0.mk (poolQ_no (p := p) (by rw [HTP.out, (HR.out.step (v := ⟨#[]⟩) (q := 0) (b' := true) hlt (.inr ⟨rfl, .inr (nextS_short hv)⟩)).none_]; rfl) HB.out)
        clear hv HT
        go_wp2
        go_ret3
        exact HNO.out
      by_cases hfit : q2 + m ≤ xs.length
      case neg =>
        have HNO := Aside0.mk (poolQ_no (p := p) (by rw [HTP.out, (HR.out.step (v := ⟨#[]⟩) (q := 0) (b' := true) hlt (.inr ⟨rfl, .inr (nextS_far HBY.out hv hfit)⟩)).none_]; rfl) HB.out)
        clear hv HT
        go_wp2
        go_ret3
        exact HNO.out
      have HR2 := Aside0.mk (HR.out.step (b' := false) hlt (.inl ⟨rfl, rfl, nextS_ok HBY.out hv hfit⟩))
      obtain ⟨i0, hi, _, hsz, _⟩ := info_parts info5
      obtain ⟨A', hcut, hA, hC⟩ := print_mid_of (P := Try.prog) (Value.int .u8) 0 32 5 .i64 .i64 Try.underlying32 hi hsz A c xs ((q2 : Nat) : Int) ((q2 + m : Nat) : Int) (by omega) (by omega) (by omega) HC.out
      have hX2 := Kd.C_of_reads (h1 := fun _ => rfl) (hA _ (Kd.reads_of_C HXR.out))
      simp only [Int.toNat_natCast] at hcut hX2
      have hseg : (xs.take (q2 + m)).drop q2 = seg xs q2 m := rfl
      rw [hseg] at hcut hX2
      obtain ⟨ys, hys⟩ : ∃ ys, seg xs q2 m = ys := ⟨_, rfl⟩
      rw [hys] at hcut hX2 HR2
      obtain ⟨c2, hc2⟩ : ∃ c2, c - q2 = c2 := ⟨_, rfl⟩
      rw [hc2] at hcut
      have hys2 : ys.length = m := by rw [← hys]; exact seg_length xs q2 m hfit
      rw [hys2] at hcut hX2
      have hcv : (convert 32 9 (.slice A' m c2)).run Try.prog wr = .ok (.string (strOfNums ys)) wr := Kd.C_string (P := Try.prog) (c := c2) Try.underlying32 Try.underlying5 Try.underlying9 hX2
      obtain ⟨s, hs⟩ : ∃ s, strOfNums ys = s := ⟨_, rfl⟩
      rw [hs] at hcv HR2
      rw [show ((q2 + m : Nat) : Int) = (q2 : Int) + m by omega] at hcut
      have hcutw := hcut wr
      clear hv HT hi hsz hA hC hX2 hseg hys hc2 hys2 hs hcut
      go_wp2_with ((with_reducible refine gate_builtin (b := .append) (xs := #[.tmp 52, .tmp 61]) rfl ?_); at_builtin; refine appSS (w0 := w) w.heap.size rfl (.tmp 52) (.tmp 61) rfl (.slice Av mv cv) acc [s] (some ⟨wr.heap.size, 0, none⟩) 1 rfl rfl (Kd.R_alloc HOS.out _) (C_blkS [s] (blk_new _ _) (by simp)) (HB.out.alloc HSW.out _) (Nat.le_trans HSW.out (by simp)) (by have := HAL.out; have := HN.out; simp; omega) ?_; intro v2 w2 ho hb hg; have HO2 := Aside0.mk ho; have HB2 := Aside0.mk hb; clear ho hb hg)
      go_roundw
      case rel => exact ⟨k + 1, q2 + m, _, by omega, by go_num, by go_num, hfit, ⟨by rw [List.length_append, HAL.out]; rfl, HO2.out⟩, HB2, HR2⟩
      case measure => simp [intOf]; omega
    · obtain rfl : k = n := by omega
      obtain ⟨Av, cv, rfl, _, hrv⟩ := Kd.R_reads HA.out.2
      have HRV := Aside0.mk HA.out.2
      have HP := Aside0.mk (refPool_calls acc Av cv wr hrv)
      have HF : Aside0 (takePool xs p = if isPool acc then some (acc, q) else none) := ⟨by
        rcases HR.out.end_ with ⟨_, _, h⟩ | ⟨h, _⟩
        · rw [HTP.out, h]; rfl
        · cases h⟩
      clear hrv HA HR
      go_wp2_with fail
      refine HP.out.mono ?_
      rintro e w' ⟨rfl, rfl⟩
      cases hip : isPool acc with
      | true =>
        rw [hip, if_pos rfl] at HF
        go_wp2
        go_ret3
        exact ⟨_, acc, q, 0, rfl, HRV.out, hq, HB.out, .inl ⟨rfl, rfl, HF.out⟩⟩
      | false =>
        have h0 := HF.out
        rw [hip] at h0
        have HNO := Aside0.mk (poolQ_no (p := p) (h0.trans rfl) HB.out)
        clear h0
        go_wp2
        go_ret3
        exact HNO.out
end Go.Proofs.Ytfbmgjanplnabaa
/- exergueref16.locale: the state of the walk. -/
namespace Go.Proofs.Ytfbmgjanplnabaa
open Go.RowKit Go.Proofs.YtfbmgjanplnabaaW.PrintWords Go.Proofs.YtfbmgjanplnabaaW.PrintLast Go.Proofs.YtfbmgjanplnabaaW.PrintMore
set_option linter.unusedVariables false
set_option linter.unusedSimpArgs false

/-- The result's variable g, the locale's g + 1, the reader's t. -/
structure LI (w0 : World) (g : Nat) (A : Option Addr) (n c : Nat) (vp : Value) (pool : List ByteArray) (W : World) (t p : Nat) (b : Bool) (tag : ByteArray) (S : List Int) (P : List ByteArray) (vr vc vk : Value) (rules : List Rl) (curs : List Cu) (comps : List Cm) : Prop where
  gz : W.heap[g]? = some (.cells ZC.toArray 29 (0, 0))
  lb : W.heap[g + 1]? = some (.cells (dcells tag S P vr vc vk).toArray 29 (0, 0))
  rd : W.heap[t]? = some (.cells #[.slice A n c, .int .i64 p, .bool b] 101 (0, 0))
  rr : kRl.R 57 W (g + 2) (fun _ => True) vr rules
  rc : kCu.R 59 W (g + 2) (fun _ => True) vc curs
  rk : kCm.R 61 W (g + 2) (fun _ => True) vk comps
  below : Below g w0 W
  ht : g + 2 ≤ t
  pl : OwnS W (g + 2) vp pool
section
variable {w0 : World} {g : Nat} {A : Option Addr} {n c : Nat} {vp : Value} {pool : List ByteArray} {W W' : World} {t p : Nat} {b : Bool} {tag tag' : ByteArray} {S S' : List Int} {P P' : List ByteArray} {vr vc vk : Value} {rules : List Rl} {curs : List Cu} {comps : List Cm}
theorem LI.size (h : LI w0 g A n c vp pool W t p b tag S P vr vc vk rules curs comps) : g + 2 < W.heap.size := Nat.lt_of_le_of_lt h.ht (blk_lt h.rd)
theorem LI.call (h : LI w0 g A n c vp pool W t p b tag S P vr vc vk rules curs comps) (hb : Below W.heap.size W W') : LI w0 g A n c vp pool W' t p b tag S P vr vc vk rules curs comps :=
  ⟨blk_below h.gz hb (blk_lt h.gz), blk_below h.lb hb (blk_lt h.lb), blk_below h.rd hb (blk_lt h.rd), Kd.R_below h.rr hb, Kd.R_below h.rc hb, Kd.R_below h.rk hb, below_then h.below (by have := h.size; omega) hb, h.ht, Kd.R_below h.pl hb⟩
theorem LI.alloc (h : LI w0 g A n c vp pool W t p b tag S P vr vc vk rules curs comps) (o : Obj) : LI w0 g A n c vp pool (W.alloc o) t p b tag S P vr vc vk rules curs comps :=
  h.call ((Below.refl _ _).alloc (Nat.le_refl _) o)
/-- Another reader. -/
theorem LI.over (h : LI w0 g A n c vp pool W t p b tag S P vr vc vk rules curs comps) {t' p' : Nat} {b' : Bool} (hr : W.heap[t']? = some (.cells #[.slice A n c, .int .i64 p', .bool b'] 101 (0, 0))) (ht : g + 2 ≤ t') : LI w0 g A n c vp pool W t' p' b' tag S P vr vc vk rules curs comps :=
  ⟨h.gz, h.lb, hr, h.rr, h.rc, h.rk, h.below, ht, h.pl⟩
/-- A store into a reader. -/
theorem LI.put (h : LI w0 g A n c vp pool W t p b tag S P vr vc vk rules curs comps) {t' : Nat} {cs : Array Value} (hr : W.heap[t']? = some (.cells cs 101 (0, 0))) (ht : g + 2 ≤ t') (i : Nat) (u : Value) (hne : t ≠ t') : LI w0 g A n c vp pool (W.setCell ⟨t', i, none⟩ u) t p b tag S P vr vc vk rules curs comps :=
  ⟨blk_other h.gz (show g ≠ t' by omega) u, blk_other h.lb (show g + 1 ≠ t' by omega) u, blk_other h.rd hne u,
   Kd.R_grown2 h.rr rfl (grownBy_setc W t' i u) (fun k hk e => by injection hk with hk; subst hk; exact Kd.R_ne h.rr hr (by decide) e),
   Kd.R_grown2 h.rc rfl (grownBy_setc W t' i u) (fun k hk e => by injection hk with hk; subst hk; exact Kd.R_ne h.rc hr (by decide) e),
   Kd.R_grown2 h.rk rfl (grownBy_setc W t' i u) (fun k hk e => by injection hk with hk; subst hk; exact Kd.R_ne h.rk hr (by decide) e),
   h.below.setCell (by show g ≤ t'; omega) u, h.ht,
   Kd.R_grown2 h.pl rfl (grownBy_setc W t' i u) (fun k hk e => by injection hk with hk; subst hk; exact Kd.R_ne h.pl hr (by decide) e)⟩
/-- The reader goes on. -/
theorem LI.move (h : LI w0 g A n c vp pool W t p b tag S P vr vc vk rules curs comps) (q : Nat) (b' : Bool) : LI w0 g A n c vp pool (((W.setCell ⟨t, 0, none⟩ (.slice A n c)).setCell ⟨t, 1, none⟩ (.int .i64 q)).setCell ⟨t, 2, none⟩ (.bool b')) t q b' tag S P vr vc vk rules curs comps := by
  have ht := h.ht
  have hg : W.grownBy (((W.setCell ⟨t, 0, none⟩ (.slice A n c)).setCell ⟨t, 1, none⟩ (.int .i64 q)).setCell ⟨t, 2, none⟩ (.bool b')) (some t) := ((grownBy_setc W t 0 _).trans (grownBy_setc _ t 1 _)).trans (grownBy_setc _ t 2 _)
  refine ⟨blk_grown h.gz hg (fun e => by injection e with e; omega), blk_grown h.lb hg (fun e => by injection e with e; omega), set3 h.rd, ?_, ?_, ?_, below3 _ _ _ _ _ h.below (by omega), ht, ?_⟩
  · exact Kd.R_grown2 h.rr rfl hg (fun k hk e => by injection hk with hk; subst hk; exact Kd.R_ne h.rr h.rd (by decide) e)
  · exact Kd.R_grown2 h.rc rfl hg (fun k hk e => by injection hk with hk; subst hk; exact Kd.R_ne h.rc h.rd (by decide) e)
  · exact Kd.R_grown2 h.rk rfl hg (fun k hk e => by injection hk with hk; subst hk; exact Kd.R_ne h.rk h.rd (by decide) e)
  · exact Kd.R_grown2 h.pl rfl hg (fun k hk e => by injection hk with hk; subst hk; exact Kd.R_ne h.pl h.rd (by decide) e)
/-- A cell of the locale that is none of its rows. -/
theorem LI.setl (h : LI w0 g A n c vp pool W t p b tag S P vr vc vk rules curs comps) (i : Nat) (u : Value) (he : (dcells tag S P vr vc vk).set i u = dcells tag' S' P' vr vc vk) : LI w0 g A n c vp pool (W.setCell ⟨g + 1, i, none⟩ u) t p b tag' S' P' vr vc vk rules curs comps where
  gz := blk_other h.gz (show g ≠ g + 1 by omega) u
  lb := by
    have := blk_set h.lb i u
    rw [List.setIfInBounds_toArray, he] at this
    exact this
  rd := blk_other h.rd (show t ≠ g + 1 by have := h.ht; omega) u
  rr := Kd.R_grown2 h.rr rfl (grownBy_setc W (g + 1) i u) (fun k hk e => by injection hk with hk; have := own_ge h.rr k e.symm; omega)
  rc := Kd.R_grown2 h.rc rfl (grownBy_setc W (g + 1) i u) (fun k hk e => by injection hk with hk; have := own_ge h.rc k e.symm; omega)
  rk := Kd.R_grown2 h.rk rfl (grownBy_setc W (g + 1) i u) (fun k hk e => by injection hk with hk; have := own_ge h.rk k e.symm; omega)
  below := h.below.setCell (by show g ≤ g + 1; omega) u
  ht := h.ht
  pl := Kd.R_grown2 h.pl rfl (grownBy_setc W (g + 1) i u) (fun k hk e => by injection hk with hk; have := own_ge h.pl k e.symm; omega)
/-- A row has grown, and its value is stored. -/
theorem LI.stored (h : LI w0 g A n c vp pool W t p b tag S P vr vc vk rules curs comps) {row : Option Nat} (hg : W.grownBy W' row) (hrow : ∀ k, row = some k → g + 2 ≤ k ∧ k ≠ t) (hpl : OwnS W' (g + 2) vp pool) (i : Nat) {vr' vc' vk' : Value} {rules' : List Rl} {curs' : List Cu} {comps' : List Cm} (u : Value)
    (he : (dcells tag S P vr vc vk).set i u = dcells tag S P vr' vc' vk') (hr : kRl.R 57 W' (g + 2) (fun _ => True) vr' rules') (hc : kCu.R 59 W' (g + 2) (fun _ => True) vc' curs') (hk : kCm.R 61 W' (g + 2) (fun _ => True) vk' comps') :
    LI w0 g A n c vp pool (W'.setCell ⟨g + 1, i, none⟩ u) t p b tag S P vr' vc' vk' rules' curs' comps' where
  gz := blk_other (blk_grown h.gz hg (fun e => by have := (hrow _ e.symm).1; omega)) (show g ≠ g + 1 by omega) u
  lb := by
    have := blk_set (blk_grown h.lb hg (fun e => by have := (hrow _ e.symm).1; omega)) i u
    rw [List.setIfInBounds_toArray, he] at this
    exact this
  rd := blk_other (blk_grown h.rd hg (fun e => (hrow _ e.symm).2 rfl)) (show t ≠ g + 1 by have := h.ht; omega) u
  rr := Kd.R_grown2 hr rfl (grownBy_setc W' (g + 1) i u) (fun k hk e => by injection hk with hk; have := own_ge hr k e.symm; omega)
  rc := Kd.R_grown2 hc rfl (grownBy_setc W' (g + 1) i u) (fun k hk e => by injection hk with hk; have := own_ge hc k e.symm; omega)
  rk := Kd.R_grown2 hk rfl (grownBy_setc W' (g + 1) i u) (fun k hk' e => by injection hk' with hk'; have := own_ge hk k e.symm; omega)
  below := (h.below.grown hg (by have := h.size; omega) (fun k hk => by have := (hrow k hk).1; omega)).setCell (by show g ≤ g + 1; omega) u
  ht := h.ht
  pl := Kd.R_grown2 hpl rfl (grownBy_setc W' (g + 1) i u) (fun k hk e => by injection hk with hk; have := own_ge hpl k e.symm; omega)
theorem LI.start {w2 w4 : World} (h0 : w2.heap[g]? = some (.cells ZC.toArray 29 (0, 0))) (h1 : w2.heap[g + 1]? = some (.cells ZC.toArray 29 (0, 0))) (hs : w2.heap.size = g + 2) (hb0 : Below g w0 w2) (hb : Below w2.heap.size w2 w4) (hp : OwnS w4 (g + 2) vp pool) (p : Nat) (b : Bool) :
    LI w0 g A n c vp pool (w4.alloc (.cells #[.slice A n c, .int .i64 p, .bool b] 101)) w4.heap.size p b ⟨#[]⟩ [0, 0, 0, 0, 0, 0, 0] [⟨#[]⟩, ⟨#[]⟩, ⟨#[]⟩, ⟨#[]⟩] (.slice none 0 0) (.slice none 0 0) (.slice none 0 0) [] [] [] := by
  have hsz := hb.size
  exact ⟨blk_alloc (blk_below h0 hb (blk_lt h0)) _, blk_alloc (blk_below h1 hb (blk_lt h1)) _, blk_new _ _, Kd.R_nil _ _ _ _ _, Kd.R_nil _ _ _ _ _, Kd.R_nil _ _ _ _ _, (below_then hb0 (by omega) hb).alloc (by omega) _, by omega, Kd.R_alloc hp _⟩
theorem LI.cell (h : LI w0 g A n c vp pool W t p b tag S P vr vc vk rules curs comps) (i : Nat) : W.cell? ⟨g + 1, i, none⟩ = (dcells tag S P vr vc vk)[i]? := by
  have := blk_cell h.lb i
  rw [List.getElem?_toArray] at this
  exact this
theorem LI.free (h : LI w0 g A n c vp pool W t p b tag S P vr vc vk rules curs comps) (i : Nat) : W.frozen? ⟨g + 1, i, none⟩ = false := blk_free h.lb i
theorem LI.rcell (h : LI w0 g A n c vp pool W t p b tag S P vr vc vk rules curs comps) : W.cell? ⟨t, 0, none⟩ = some (.slice A n c) ∧ W.cell? ⟨t, 1, none⟩ = some (.int .i64 p) ∧ W.cell? ⟨t, 2, none⟩ = some (.bool b) := by
  have c0 := blk_cell h.rd 0
  have c1 := blk_cell h.rd 1
  have c2 := blk_cell h.rd 2
  simp only [List.getElem?_toArray, List.getElem?_cons_zero, List.getElem?_cons_succ] at c0 c1 c2
  exact ⟨c0, c1, c2⟩
end
end Go.Proofs.Ytfbmgjanplnabaa
/- exergueref16.locale: what the reader's steps say of the whole. -/
namespace Go.Proofs.Ytfbmgjanplnabaa
open Go.RowKit Go.Proofs.YtfbmgjanplnabaaW.PrintWords Go.Proofs.YtfbmgjanplnabaaW.PrintLast Go.Proofs.YtfbmgjanplnabaaW.PrintMore
set_option linter.unusedVariables false
set_option linter.unusedSimpArgs false

/-- The whole is what is still to be said; or nothing, where the reader is bad. -/
def Cn (X : Option Loc) (b : Bool) (Y : Option Loc) : Prop := (b = false ∧ X = Y) ∨ (b = true ∧ X = none)
theorem Cn.step {α : Type} {X : Option Loc} {f : PS α} {p q : Nat} {b b' : Bool} {v : α} {K : α × Nat → Option Loc} (h : Cn X b ((f p).bind K)) (ht : Tot f p b v q b') : Cn X b' (K (v, q)) := by
  rcases ht with ⟨t0, t1, t2⟩ | ⟨t1, t2⟩
  · rcases h with ⟨h0, h1⟩ | ⟨h0, h1⟩
    · refine .inl ⟨t1, ?_⟩
      rw [h1, t2]
      rfl
    · rw [t0] at h0; cases h0
  · refine .inr ⟨t1, ?_⟩
    rcases h with ⟨h0, h1⟩ | ⟨h0, h1⟩
    · rcases t2 with t2 | t2
      · rw [t2] at h0; cases h0
      · rw [h1, t2]
        rfl
    · exact h1
theorem Cn.many {α : Type} {X : Option Loc} {xs : List Int} {f : PS α} {p n q : Nat} {b b' : Bool} {K : List α × Nat → Option Loc} (h : Cn X b ((manyP xs f p).bind K)) (ht : Tot (numP xs 2) p b n q b') : Cn X b' ((rep f n q).bind K) := by
  have e : ((manyP xs f p).bind K) = (numP xs 2 p).bind fun r => (rep f r.1 r.2).bind K := by
    unfold manyP
    rw [Option.bind_assoc]
  rw [e] at h
  exact h.step ht
theorem tot_rul {xs : List Int} {pool : List ByteArray} {p a q q2 : Nat} {s : ByteArray} {b b1 b2 : Bool} (h1 : Tot (numP xs 1) p b a q b1) (h2 : Tot (txtP xs pool) q b1 s q2 b2) : Tot (rulP xs pool) p b ((a : Int), s) q2 b2 := by
  rcases h2 with ⟨c0, c1, c2⟩ | ⟨c1, c2⟩
  · rcases h1 with ⟨a0, a1, a2⟩ | ⟨a1, a2⟩
    · exact .inl ⟨a0, c1, by unfold rulP; rw [a2]; simp only [Option.bind_some]; rw [c2]; rfl⟩
    · rw [a1] at c0; cases c0
  · refine .inr ⟨c1, ?_⟩
    rcases h1 with ⟨a0, a1, a2⟩ | ⟨a1, a2 | a2⟩
    · rcases c2 with c2 | c2
      · rw [a1] at c2; cases c2
      · exact .inr (by unfold rulP; rw [a2]; simp only [Option.bind_some]; rw [c2]; rfl)
    · exact .inl a2
    · exact .inr (by unfold rulP; rw [a2]; rfl)
theorem tot_cur {xs : List Int} {pool : List ByteArray} {p a q q2 q3 : Nat} {s u : ByteArray} {b b1 b2 b3 : Bool} (h1 : Tot (txtP xs pool) p b s q b1) (h2 : Tot (txtP xs pool) q b1 u q2 b2) (h3 : Tot (numP xs 1) q2 b2 a q3 b3) : Tot (curP xs pool) p b (s, (u, (a : Int))) q3 b3 := by
  rcases h3 with ⟨d0, d1, d2⟩ | ⟨d1, d2⟩
  · rcases h2 with ⟨c0, c1, c2⟩ | ⟨c1, c2⟩
    · rcases h1 with ⟨a0, a1, a2⟩ | ⟨a1, a2⟩
      · exact .inl ⟨a0, d1, by unfold curP; rw [a2]; simp only [Option.bind_some]; rw [c2]; simp only [Option.bind_some]; rw [d2]; rfl⟩
      · rw [a1] at c0; cases c0
    · rw [c1] at d0; cases d0
  · refine .inr ⟨d1, ?_⟩
    rcases h1 with ⟨a0, a1, a2⟩ | ⟨a1, a2 | a2⟩
    · rcases h2 with ⟨c0, c1, c2⟩ | ⟨c1, c2 | c2⟩
      · rcases d2 with d2 | d2
        · rw [c1] at d2; cases d2
        · exact .inr (by unfold curP; rw [a2]; simp only [Option.bind_some]; rw [c2]; simp only [Option.bind_some]; rw [d2]; rfl)
      · rw [a1] at c2; cases c2
      · exact .inr (by unfold curP; rw [a2]; simp only [Option.bind_some]; rw [c2]; rfl)
    · exact .inl a2
    · exact .inr (by unfold curP; rw [a2]; rfl)
theorem tot_cmp {xs : List Int} {pool : List ByteArray} {p a m q q2 q3 : Nat} {s : ByteArray} {b b1 b2 b3 : Bool} (h1 : Tot (numP xs 1) p b a q b1) (h2 : Tot (numP xs 1) q b1 m q2 b2) (h3 : Tot (txtP xs pool) q2 b2 s q3 b3) : Tot (cmpP xs pool) p b ((a : Int), ((m : Int), s)) q3 b3 := by
  rcases h3 with ⟨d0, d1, d2⟩ | ⟨d1, d2⟩
  · rcases h2 with ⟨c0, c1, c2⟩ | ⟨c1, c2⟩
    · rcases h1 with ⟨a0, a1, a2⟩ | ⟨a1, a2⟩
      · exact .inl ⟨a0, d1, by unfold cmpP; rw [a2]; simp only [Option.bind_some]; rw [c2]; simp only [Option.bind_some]; rw [d2]; rfl⟩
      · rw [a1] at c0; cases c0
    · rw [c1] at d0; cases d0
  · refine .inr ⟨d1, ?_⟩
    rcases h1 with ⟨a0, a1, a2⟩ | ⟨a1, a2 | a2⟩
    · rcases h2 with ⟨c0, c1, c2⟩ | ⟨c1, c2 | c2⟩
      · rcases d2 with d2 | d2
        · rw [c1] at d2; cases d2
        · exact .inr (by unfold cmpP; rw [a2]; simp only [Option.bind_some]; rw [c2]; simp only [Option.bind_some]; rw [d2]; rfl)
      · rw [a1] at c2; cases c2
      · exact .inr (by unfold cmpP; rw [a2]; simp only [Option.bind_some]; rw [c2]; rfl)
    · exact .inl a2
    · exact .inr (by unfold cmpP; rw [a2]; rfl)
/-- How many there are, while the reader is good. -/
theorem tot_few {xs : List Int} (hby : Bytes xs) {p n q : Nat} {b b' : Bool} (h : Tot (numP xs 2) p b n q b') : b' = false → n ≤ 65535 := by
  rintro rfl
  rcases h with ⟨_, _, h⟩ | ⟨h, _⟩
  · exact (numP_two hby h).1
  · cases h
theorem RepT.good {α : Type} {f : PS α} {n p0 k p : Nat} {b0 : Bool} {acc : List α} (h : RepT f n p0 b0 acc k p false) : b0 = false := by
  rcases h with ⟨h, _⟩ | ⟨h, _⟩
  · exact h
  · cases h
/-- What locale leaves. -/
def locQ (xs : List Int) (w : World) (e : Ending) (w' : World) : Prop :=
  ∃ (l : Loc) (L : List Value) (ok : Bool), e = .returned (.tuple #[.agg L.toArray, .bool ok]) ∧ OwnL w' w.heap.size l L ∧ Few l ∧ l.s.ok ∧ Below w.heap.size w w' ∧ ((ok = true ∧ locP xs = some l) ∨ (ok = false ∧ locP xs = none))
theorem locP_start {xs : List Int} {pool : List ByteArray} {q : Nat} (h : takePool xs 56 = some (pool, q)) : locP xs = (txtP xs pool q).bind fun t => locS xs pool t.1 t.2 := by
  unfold locP
  rw [h]
  rfl
theorem locP_stop {xs : List Int} (h : takePool xs 56 = none) : locP xs = none := by
  unfold locP
  rw [h]
  rfl
theorem own_rdS {W : World} {base n c : Nat} {A : Option Addr} {xs : List ByteArray} (h : OwnS W base (.slice A n c) xs) : RdS W A xs := by
  obtain ⟨A', c', e, _, hr⟩ := Kd.R_reads h
  injection e with e1 e2 e3
  subst e1
  exact hr
theorem set7l (W : World) {w0 : World} {g : Nat} {A : Option Addr} {n c t p : Nat} {vp : Value} {pool : List ByteArray} {b : Bool} {tag : ByteArray} {P : List ByteArray} {vr vc vk : Value} {rules : List Rl} {curs : List Cu} {comps : List Cm} (h : LI w0 g A n c vp pool W t p b tag [0, 0, 0, 0, 0, 0, 0] P vr vc vk rules curs comps) (z0 z1 z2 z3 z4 z5 z6 : Int) :
    LI w0 g A n c vp pool (((((((W.setCell ⟨g + 1, 1, none⟩ (.int .i32 z0)).setCell ⟨g + 1, 2, none⟩ (.int .i32 z1)).setCell ⟨g + 1, 3, none⟩ (.int .i32 z2)).setCell ⟨g + 1, 4, none⟩ (.int .i32 z3)).setCell ⟨g + 1, 5, none⟩ (.int .i32 z4)).setCell ⟨g + 1, 6, none⟩ (.int .i32 z5)).setCell ⟨g + 1, 7, none⟩ (.int .i32 z6)) t p b tag [z0, z1, z2, z3, z4, z5, z6] P vr vc vk rules curs comps :=
  ((((((h.setl (S' := [z0, 0, 0, 0, 0, 0, 0]) 1 _ rfl).setl (S' := [z0, z1, 0, 0, 0, 0, 0]) 2 _ rfl).setl (S' := [z0, z1, z2, 0, 0, 0, 0]) 3 _ rfl).setl (S' := [z0, z1, z2, z3, 0, 0, 0]) 4 _ rfl).setl (S' := [z0, z1, z2, z3, z4, 0, 0]) 5 _ rfl).setl (S' := [z0, z1, z2, z3, z4, z5, 0]) 6 _ rfl).setl 7 _ rfl
theorem grownBy_setRow (w : World) (g : Nat) (cs : Array Value) : w.grownBy (w.setRow g cs) (some g) := ⟨rfl, rfl, rfl, by simp, fun k hk hne => setRow_other w g k cs (fun e => hne (by rw [e]))⟩
theorem list15 {L : List Value} (h : L.length = 15) : ∃ v0 v1 v2 v3 v4 v5 v6 v7 v8 v9 v10 v11 v12 v13 v14, L = [v0, v1, v2, v3, v4, v5, v6, v7, v8, v9, v10, v11, v12, v13, v14] := by
  match L, h with
  | [v0, v1, v2, v3, v4, v5, v6, v7, v8, v9, v10, v11, v12, v13, v14], _ => exact ⟨v0, v1, v2, v3, v4, v5, v6, v7, v8, v9, v10, v11, v12, v13, v14, rfl⟩
/-- The locale laid into the result's variable. -/
theorem LI.finish {w0 : World} {g : Nat} {A : Option Addr} {n c : Nat} {vp : Value} {pool : List ByteArray} {W : World} {t p : Nat} {b : Bool} {tag : ByteArray} {S : List Int} {P : List ByteArray} {vr vc vk : Value} {R : List Rl} {C : List Cu} {M : List Cm}
    (h : LI w0 g A n c vp pool W t p b tag S P vr vc vk R C M) (hS : S.length = 7) (hP : P.length = 4) (hSr : ∀ z ∈ S, -2147483648 ≤ z ∧ z ≤ 2147483647) (hR : R.length ≤ 65535) (hC : C.length ≤ 65535) (hM : M.length ≤ 65535) :
    ∃ (W1 : World) (D : List Value), D.length = 15 ∧ D = dcells tag S P vr vc vk ∧ (Ld (.pointer (some ⟨g + 1, 0, none⟩))).run Try.prog W.drew = .ok (.agg D.toArray) W.drew ∧ (St (.pointer (some ⟨g, 0, none⟩)) (.agg D.toArray)).run Try.prog W.drew = .ok () W1.drew ∧
      W1.heap[g]? = some (.cells D.toArray 29 (0, 0)) ∧ W1.cell? ⟨t, 2, none⟩ = some (.bool b) ∧ OwnL W1.drew (g + 2) (mkLoc tag S P R C M) D ∧ Few (mkLoc tag S P R C M) ∧ (mkLoc tag S P R C M).s.ok ∧ Below g w0 W1.drew := by
  obtain ⟨s0, s1, s2, s3, s4, s5, s6, rfl⟩ := list7 hS
  obtain ⟨a0, a1, a2, a3, rfl⟩ := four hP
  have hgr := grownBy_setRow W g (dcells tag [s0, s1, s2, s3, s4, s5, s6] [a0, a1, a2, a3] vr vc vk).toArray
  have hrr := Kd.R_grown2 h.rr rfl hgr (fun k hk e => by injection hk with hk; have := own_ge h.rr k e.symm; omega)
  have hrc := Kd.R_grown2 h.rc rfl hgr (fun k hk e => by injection hk with hk; have := own_ge h.rc k e.symm; omega)
  have hrk := Kd.R_grown2 h.rk rfl hgr (fun k hk e => by injection hk with hk; have := own_ge h.rk k e.symm; omega)
  obtain ⟨Ar, cr, rfl, h1, h2⟩ := Kd.R_reads hrr
  obtain ⟨Ac, cc, rfl, h3, h4⟩ := Kd.R_reads hrc
  obtain ⟨Ak, ck, rfl, h5, h6⟩ := Kd.R_reads hrk
  have hrd : RdL (W.setRow g (dcells tag [s0, s1, s2, s3, s4, s5, s6] [a0, a1, a2, a3] (.slice Ar R.length cr) (.slice Ac C.length cc) (.slice Ak M.length ck)).toArray) (mkLoc tag [s0, s1, s2, s3, s4, s5, s6] [a0, a1, a2, a3] R C M) (dcells tag [s0, s1, s2, s3, s4, s5, s6] [a0, a1, a2, a3] (.slice Ar R.length cr) (.slice Ac C.length cc) (.slice Ak M.length ck)) := ⟨Ar, cr, Ac, cc, Ak, ck, rfl, h1, h3, h5, h2, h4, h6⟩
  refine ⟨W.setRow g (dcells tag [s0, s1, s2, s3, s4, s5, s6] [a0, a1, a2, a3] (.slice Ar R.length cr) (.slice Ac C.length cc) (.slice Ak M.length ck)).toArray, dcells tag [s0, s1, s2, s3, s4, s5, s6] [a0, a1, a2, a3] (.slice Ar R.length cr) (.slice Ac C.length cc) (.slice Ak M.length ck), rfl, rfl, load29 rfl h.lb, ?_, setRow_heap _ _ _ _ _ _ h.gz, ?_, OwnL.below (W := W.setRow g (dcells tag [s0, s1, s2, s3, s4, s5, s6] [a0, a1, a2, a3] (.slice Ar R.length cr) (.slice Ac C.length cc) (.slice Ak M.length ck)).toArray) ⟨_, _, _, rfl, hrr, hrc, hrk⟩ (Below.refl _ _).drew, ⟨hR, hC, hM⟩, ?_, (below_setRow h.below (Nat.le_refl _) _).drew⟩
  · have hs := run_storeVar_row (P := Try.prog) W.drew g 29 29 ZC.toArray (dcells tag [s0, s1, s2, s3, s4, s5, s6] [a0, a1, a2, a3] (.slice Ar R.length cr) (.slice Ac C.length cc) (.slice Ak M.length ck)).toArray h.gz (by rw [size29]; rfl) rfl hrd.one
    simp only [St, Instr.storeAt, Instr.sureAddr, Sem.run_bind, Sem.run_pure, Result.andThen_ok, hs]
    rfl
  · exact (cell_setRow_other W g _ ⟨t, 2, none⟩ (show t ≠ g by have := h.ht; omega)).trans h.rcell.2.2
  · unfold Sy.ok
    intro z hz
    exact hSr z hz
set_option maxHeartbeats 1600000 in
theorem results_l42 (W : World) (g2 : Nat) (tmps : Array Value) (ht : tmps[2]? = some (.pointer (some ⟨g2, 0, none⟩))) (v0 v1 v2 v3 v4 v5 v6 v7 v8 v9 v10 v11 v12 v13 v14 u : Value) (ht3 : tmps[3]? = some u) (h : W.heap[g2]? = some (.cells #[v0, v1, v2, v3, v4, v5, v6, v7, v8, v9, v10, v11, v12, v13, v14] 29 (0, 0))) : (results Try.f42 tmps).run Try.prog W = .ok (.tuple #[.agg #[v0, v1, v2, v3, v4, v5, v6, v7, v8, v9, v10, v11, v12, v13, v14], u]) W := by
  have h0 := blk_cell h 0
  have h1 := blk_cell h 1
  have h2 := blk_cell h 2
  have h3 := blk_cell h 3
  have h4 := blk_cell h 4
  have h5 := blk_cell h 5
  have h6 := blk_cell h 6
  have h7 := blk_cell h 7
  have h8 := blk_cell h 8
  have h9 := blk_cell h 9
  have h10 := blk_cell h 10
  have h11 := blk_cell h 11
  have h12 := blk_cell h 12
  have h13 := blk_cell h 13
  have h14 := blk_cell h 14
  simp only [List.getElem?_toArray, List.getElem?_cons_zero, List.getElem?_cons_succ] at h0 h1 h2 h3 h4 h5 h6 h7 h8 h9 h10 h11 h12 h13 h14
  clear h
  simp [results, Try.results42, go_sem, ht, ht3, h0, h1, h2, h3, h4, h5, h6, h7, h8, h9, h10, h11, h12, h13, h14]
end Go.Proofs.Ytfbmgjanplnabaa

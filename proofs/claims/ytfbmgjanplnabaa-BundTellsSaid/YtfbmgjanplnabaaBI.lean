import Derived.Test.YtfbmgjanplnabaaBH
import Derived.Defers
import Derived.Recover
import Derived.Test.YtfbmgjanplnabaaBE
import Derived.Test.YtfbmgjanplnabaaBA
/- bund.read: the deferred closure. -/
namespace Go.Proofs.Ytfbmgjanplnabaa
open Go.RowKit Go.Proofs.YtfbmgjanplnabaaW.PrintWords Go.Proofs.YtfbmgjanplnabaaW.PrintLast Go.Proofs.YtfbmgjanplnabaaW.PrintMore
set_option linter.unusedVariables false
set_option linter.unusedSimpArgs false

theorem locale_calls (w0 : World) (xs : List Int) (A : Option Addr) (c g : Nat) (vp : Value) (W : World) (hI : RInv w0 xs A c g g vp [] W 0) : Calls Try.prog 51 #[.pointer (some ⟨g, 0, none⟩)] W (locPost xs g W) := by
  cases hT : takePool xs 56 with
  | none =>
    refine (locale_pool w0 xs A c g vp W hI hT).mono ?_
    rintro e w' ⟨rfl, hg⟩
    refine ⟨hg, ?_⟩
    have : locP xs = none := by unfold locP; rw [hT]; rfl
    rw [this]
  | some r => exact locale_main w0 xs A c g vp W hI r.1 r.2 hT

/-- The world behind the closure where it recovers. -/
def wiped (W : World) (gL gB : Nat) : World := ((((((((((((((((W.setCell ⟨gL, 0, none⟩ (.string ⟨#[]⟩)).setCell ⟨gL, 1, none⟩ (.int .i32 0)).setCell ⟨gL, 2, none⟩ (.int .i32 0)).setCell ⟨gL, 3, none⟩ (.int .i32 0)).setCell ⟨gL, 4, none⟩ (.int .i32 0)).setCell ⟨gL, 5, none⟩ (.int .i32 0)).setCell ⟨gL, 6, none⟩ (.int .i32 0)).setCell ⟨gL, 7, none⟩ (.int .i32 0)).setCell ⟨gL, 8, none⟩ (.string ⟨#[]⟩)).setCell ⟨gL, 9, none⟩ (.string ⟨#[]⟩)).setCell ⟨gL, 10, none⟩ (.string ⟨#[]⟩)).setCell ⟨gL, 11, none⟩ (.string ⟨#[]⟩)).setCell ⟨gL, 12, none⟩ (.slice none 0 0)).setCell ⟨gL, 13, none⟩ (.slice none 0 0)).setCell ⟨gL, 14, none⟩ (.slice none 0 0)).setCell ⟨gB, 0, none⟩ (.bool false))

set_option maxHeartbeats 3200000 in
set_option maxRecDepth 100000 in
theorem catch_panicking (gL gB : Nat) (u : TypeId) (pv : Value) (older : List PanicEntry) (W : World) (y0 y1 y2 y3 y4 y5 y6 y7 y8 y9 y10 y11 y12 y13 y14 : Value) (b : Bool) (hL : W.heap[gL]? = some (.cells #[y0, y1, y2, y3, y4, y5, y6, y7, y8, y9, y10, y11, y12, y13, y14] 29 (0, 0))) (hB : W.heap[gB]? = some (.cells #[.bool b] 4 (0, 0))) (hne : gL ≠ gB) :
    CallsD Try.prog 50 #[.pointer (some ⟨gL, 0, none⟩), .pointer (some ⟨gB, 0, none⟩)] (.panicking ({ v := .iface u pv, recovered := false } :: older)) W fun e u' w' =>
      e = .returned (.tuple #[]) ∧ u' = .panicking ({ v := .iface u pv, recovered := true } :: older) ∧ w' = wiped W gL gB := by
  have h0 := blk_cell hL 0
  have f0 := blk_free hL 0
  have h1 := blk_cell hL 1
  have f1 := blk_free hL 1
  have h2 := blk_cell hL 2
  have f2 := blk_free hL 2
  have h3 := blk_cell hL 3
  have f3 := blk_free hL 3
  have h4 := blk_cell hL 4
  have f4 := blk_free hL 4
  have h5 := blk_cell hL 5
  have f5 := blk_free hL 5
  have h6 := blk_cell hL 6
  have f6 := blk_free hL 6
  have h7 := blk_cell hL 7
  have f7 := blk_free hL 7
  have h8 := blk_cell hL 8
  have f8 := blk_free hL 8
  have h9 := blk_cell hL 9
  have f9 := blk_free hL 9
  have h10 := blk_cell hL 10
  have f10 := blk_free hL 10
  have h11 := blk_cell hL 11
  have f11 := blk_free hL 11
  have h12 := blk_cell hL 12
  have f12 := blk_free hL 12
  have h13 := blk_cell hL 13
  have f13 := blk_free hL 13
  have h14 := blk_cell hL 14
  have f14 := blk_free hL 14
  simp only [List.getElem?_toArray, List.getElem?_cons_zero, List.getElem?_cons_succ] at h0 h1 h2 h3 h4 h5 h6 h7 h8 h9 h10 h11 h12 h13 h14
  have hb := blk_cell hB 0
  have fb := blk_free hB 0
  simp only [List.getElem?_toArray, List.getElem?_cons_zero] at hb
  have hlL := blk_lt hL
  have hlB := blk_lt hB
  have hne2 : gB ≠ gL := fun e => hne e.symm
  unfold wiped
  clear hL hB
  refine callsD_of_wpS Try.func50 rfl fun c₀ cs hu => ?_
  apply wpS_seq
  apply wpS_region
  simp [wpOpsS, go_sem, recoverD, hu, Try.ntmps50, Exit.thenS]
  refine wpS_cond (t := true) (by simp [Act.eval, Array.replicate]) ?_
  simp only [if_true]
  rw [show (#[Value.pointer (some ⟨gL, 0, none⟩), Value.pointer (some ⟨gB, 0, none⟩)] ++ ((Array.replicate 3 undef).setIfInBounds 0 (Value.iface u pv)).setIfInBounds 1 (Value.bool true) : Array Value) = #[Value.pointer (some ⟨gL, 0, none⟩), Value.pointer (some ⟨gB, 0, none⟩), Value.iface u pv, Value.bool true, undef] from rfl]
  refine wpS_of_wp ?_
  go_wp2
  exact ⟨rfl, _, rfl, _, results_none rfl _ _ _, rfl, rfl, rfl⟩

theorem catch_idle (gL gB : Nat) (W : World) :
    CallsD Try.prog 50 #[.pointer (some ⟨gL, 0, none⟩), .pointer (some ⟨gB, 0, none⟩)] .returning W fun e u' w' => e = .returned (.tuple #[]) ∧ u' = .returning ∧ w' = W := by
  refine callsD_of_wpS Try.func50 rfl fun c₀ cs hu => ?_
  apply wpS_seq
  apply wpS_region
  simp [wpOpsS, go_sem, recoverD, hu, Try.ntmps50, Exit.thenS]
  refine wpS_cond (t := false) (by simp [Act.eval, Array.replicate]) ?_
  simp only [Bool.false_eq_true, if_false]
  refine wpS_of_wp (wp_skip ?_)
  cases c₀
  simp_all [bodyPostS, results, Try.results50]
end Go.Proofs.Ytfbmgjanplnabaa
/- bund.read. -/
namespace Go.Proofs.Ytfbmgjanplnabaa
open Go.RowKit Go.Proofs.YtfbmgjanplnabaaW.PrintWords Go.Proofs.YtfbmgjanplnabaaW.PrintLast Go.Proofs.YtfbmgjanplnabaaW.PrintMore
set_option linter.unusedVariables false
set_option linter.unusedSimpArgs false

def zcells : List Value := dcells ⟨#[]⟩ [0, 0, 0, 0, 0, 0, 0] [⟨#[]⟩, ⟨#[]⟩, ⟨#[]⟩, ⟨#[]⟩] (.slice none 0 0) (.slice none 0 0) (.slice none 0 0)
def readPost (xs : List Int) (w : World) (e : Ending) (w' : World) : Prop :=
  Below w.heap.size w w' ∧ (match locP xs with
    | some l => ∃ L, e = .returned (.tuple #[.agg L.toArray, .bool true]) ∧ OwnL w' w.heap.size l L
    | none => e = .returned (.tuple #[.agg zcells.toArray, .bool false]))

set_option maxHeartbeats 1600000 in
set_option maxRecDepth 100000 in
theorem results_read (W : World) (gL gB : Nat) (tmps : Array Value) (ht : tmps[2]? = some (.pointer (some ⟨gL, 0, none⟩))) (ht3 : tmps[3]? = some (.pointer (some ⟨gB, 0, none⟩))) (v0 v1 v2 v3 v4 v5 v6 v7 v8 v9 v10 v11 v12 v13 v14 : Value) (b : Bool) (h : W.heap[gL]? = some (.cells #[v0, v1, v2, v3, v4, v5, v6, v7, v8, v9, v10, v11, v12, v13, v14] 29 (0, 0))) (hb : W.heap[gB]? = some (.cells #[.bool b] 4 (0, 0))) : (results Try.f33 tmps).run Try.prog W = .ok (.tuple #[.agg #[v0, v1, v2, v3, v4, v5, v6, v7, v8, v9, v10, v11, v12, v13, v14], .bool b]) W := by
  have h0 := blk_cell h 0
  have h1 := blk_cell h 1
  have h2 := blk_cell h 2
  have h3 := blk_cell h 3
  have h4 := blk_cell h 4
  have h5 := blk_cell h 5
  have h6 := blk_cell h 6
  have h7 := blk_cell h 7
  have h8 := blk_cell h 8
  have h9 := blk_cell h 9
  have h10 := blk_cell h 10
  have h11 := blk_cell h 11
  have h12 := blk_cell h 12
  have h13 := blk_cell h 13
  have h14 := blk_cell h 14
  have hb0 := blk_cell hb 0
  simp only [List.getElem?_toArray, List.getElem?_cons_zero, List.getElem?_cons_succ] at h0 h1 h2 h3 h4 h5 h6 h7 h8 h9 h10 h11 h12 h13 h14 hb0
  clear h hb
  simp [results, Try.results33, go_sem, ht, ht3, hb0, h0, h1, h2, h3, h4, h5, h6, h7, h8, h9, h10, h11, h12, h13, h14]

/-- The two results are written. -/
def written (W : World) (gL gB : Nat) (v0 v1 v2 v3 v4 v5 v6 v7 v8 v9 v10 v11 v12 v13 v14 : Value) (b : Bool) : World := (((((((((((((((W.setCell ⟨gL, 0, none⟩ v0).setCell ⟨gL, 1, none⟩ v1).setCell ⟨gL, 2, none⟩ v2).setCell ⟨gL, 3, none⟩ v3).setCell ⟨gL, 4, none⟩ v4).setCell ⟨gL, 5, none⟩ v5).setCell ⟨gL, 6, none⟩ v6).setCell ⟨gL, 7, none⟩ v7).setCell ⟨gL, 8, none⟩ v8).setCell ⟨gL, 9, none⟩ v9).setCell ⟨gL, 10, none⟩ v10).setCell ⟨gL, 11, none⟩ v11).setCell ⟨gL, 12, none⟩ v12).setCell ⟨gL, 13, none⟩ v13).setCell ⟨gL, 14, none⟩ v14).setCell ⟨gB, 0, none⟩ (.bool b)
theorem blk_written {W : World} {gL gB : Nat} {y0 y1 y2 y3 y4 y5 y6 y7 y8 y9 y10 y11 y12 y13 y14 : Value} {b' : Bool} (v0 v1 v2 v3 v4 v5 v6 v7 v8 v9 v10 v11 v12 v13 v14 : Value) (b : Bool) (hL : W.heap[gL]? = some (.cells #[y0, y1, y2, y3, y4, y5, y6, y7, y8, y9, y10, y11, y12, y13, y14] 29 (0, 0))) (hB : W.heap[gB]? = some (.cells #[.bool b'] 4 (0, 0))) (hne : gL ≠ gB) :
    (written W gL gB v0 v1 v2 v3 v4 v5 v6 v7 v8 v9 v10 v11 v12 v13 v14 b).heap[gL]? = some (.cells #[v0, v1, v2, v3, v4, v5, v6, v7, v8, v9, v10, v11, v12, v13, v14] 29 (0, 0)) ∧ (written W gL gB v0 v1 v2 v3 v4 v5 v6 v7 v8 v9 v10 v11 v12 v13 v14 b).heap[gB]? = some (.cells #[.bool b] 4 (0, 0)) := by
  unfold written
  refine ⟨blk_other (set15 W gL v0 v1 v2 v3 v4 v5 v6 v7 v8 v9 v10 v11 v12 v13 v14 y0 y1 y2 y3 y4 y5 y6 y7 y8 y9 y10 y11 y12 y13 y14 hL) hne _, ?_⟩
  have k0 := blk_other hB (p := ⟨gL, 0, none⟩) (fun e => hne e.symm) v0
  have k1 := blk_other k0 (p := ⟨gL, 1, none⟩) (fun e => hne e.symm) v1
  have k2 := blk_other k1 (p := ⟨gL, 2, none⟩) (fun e => hne e.symm) v2
  have k3 := blk_other k2 (p := ⟨gL, 3, none⟩) (fun e => hne e.symm) v3
  have k4 := blk_other k3 (p := ⟨gL, 4, none⟩) (fun e => hne e.symm) v4
  have k5 := blk_other k4 (p := ⟨gL, 5, none⟩) (fun e => hne e.symm) v5
  have k6 := blk_other k5 (p := ⟨gL, 6, none⟩) (fun e => hne e.symm) v6
  have k7 := blk_other k6 (p := ⟨gL, 7, none⟩) (fun e => hne e.symm) v7
  have k8 := blk_other k7 (p := ⟨gL, 8, none⟩) (fun e => hne e.symm) v8
  have k9 := blk_other k8 (p := ⟨gL, 9, none⟩) (fun e => hne e.symm) v9
  have k10 := blk_other k9 (p := ⟨gL, 10, none⟩) (fun e => hne e.symm) v10
  have k11 := blk_other k10 (p := ⟨gL, 11, none⟩) (fun e => hne e.symm) v11
  have k12 := blk_other k11 (p := ⟨gL, 12, none⟩) (fun e => hne e.symm) v12
  have k13 := blk_other k12 (p := ⟨gL, 13, none⟩) (fun e => hne e.symm) v13
  have k14 := blk_other k13 (p := ⟨gL, 14, none⟩) (fun e => hne e.symm) v14
  exact blk_set k14 0 (.bool b)
theorem below_written {B : Nat} {w W : World} {gL gB : Nat} (v0 v1 v2 v3 v4 v5 v6 v7 v8 v9 v10 v11 v12 v13 v14 : Value) (b : Bool) (h : Below B w W) (h1 : B ≤ gL) (h2 : B ≤ gB) : Below B w (written W gL gB v0 v1 v2 v3 v4 v5 v6 v7 v8 v9 v10 v11 v12 v13 v14 b) := by
  unfold written
  repeat (refine Below.setCell ?_ (by first | exact h1 | exact h2) _)
  exact h
theorem own_written {base : Nat} {W : World} {gL gB : Nat} (v0 v1 v2 v3 v4 v5 v6 v7 v8 v9 v10 v11 v12 v13 v14 : Value) (b : Bool) {l : Loc} {L : List Value} (h : OwnL W base l L) (h1 : gL < base) (h2 : gB < base) : OwnL (written W gL gB v0 v1 v2 v3 v4 v5 v6 v7 v8 v9 v10 v11 v12 v13 v14 b) base l L := by
  unfold written
  repeat (refine OwnL.setc ?_ _ _ _ (by first | exact h1 | exact h2))
  exact h
theorem blk_wiped {W : World} {gL gB : Nat} {y0 y1 y2 y3 y4 y5 y6 y7 y8 y9 y10 y11 y12 y13 y14 : Value} {b : Bool} (hL : W.heap[gL]? = some (.cells #[y0, y1, y2, y3, y4, y5, y6, y7, y8, y9, y10, y11, y12, y13, y14] 29 (0, 0))) (hB : W.heap[gB]? = some (.cells #[.bool b] 4 (0, 0))) (hne : gL ≠ gB) :
    (wiped W gL gB).heap[gL]? = some (.cells #[(.string ⟨#[]⟩), (.int .i32 0), (.int .i32 0), (.int .i32 0), (.int .i32 0), (.int .i32 0), (.int .i32 0), (.int .i32 0), (.string ⟨#[]⟩), (.string ⟨#[]⟩), (.string ⟨#[]⟩), (.string ⟨#[]⟩), (.slice none 0 0), (.slice none 0 0), (.slice none 0 0)] 29 (0, 0)) ∧ (wiped W gL gB).heap[gB]? = some (.cells #[.bool false] 4 (0, 0)) := by
  unfold wiped
  refine ⟨blk_other (set15 W gL (.string ⟨#[]⟩) (.int .i32 0) (.int .i32 0) (.int .i32 0) (.int .i32 0) (.int .i32 0) (.int .i32 0) (.int .i32 0) (.string ⟨#[]⟩) (.string ⟨#[]⟩) (.string ⟨#[]⟩) (.string ⟨#[]⟩) (.slice none 0 0) (.slice none 0 0) (.slice none 0 0) y0 y1 y2 y3 y4 y5 y6 y7 y8 y9 y10 y11 y12 y13 y14 hL) hne _, ?_⟩
  have k0 := blk_other hB (p := ⟨gL, 0, none⟩) (fun e => hne e.symm) (.string ⟨#[]⟩)
  have k1 := blk_other k0 (p := ⟨gL, 1, none⟩) (fun e => hne e.symm) (.int .i32 0)
  have k2 := blk_other k1 (p := ⟨gL, 2, none⟩) (fun e => hne e.symm) (.int .i32 0)
  have k3 := blk_other k2 (p := ⟨gL, 3, none⟩) (fun e => hne e.symm) (.int .i32 0)
  have k4 := blk_other k3 (p := ⟨gL, 4, none⟩) (fun e => hne e.symm) (.int .i32 0)
  have k5 := blk_other k4 (p := ⟨gL, 5, none⟩) (fun e => hne e.symm) (.int .i32 0)
  have k6 := blk_other k5 (p := ⟨gL, 6, none⟩) (fun e => hne e.symm) (.int .i32 0)
  have k7 := blk_other k6 (p := ⟨gL, 7, none⟩) (fun e => hne e.symm) (.int .i32 0)
  have k8 := blk_other k7 (p := ⟨gL, 8, none⟩) (fun e => hne e.symm) (.string ⟨#[]⟩)
  have k9 := blk_other k8 (p := ⟨gL, 9, none⟩) (fun e => hne e.symm) (.string ⟨#[]⟩)
  have k10 := blk_other k9 (p := ⟨gL, 10, none⟩) (fun e => hne e.symm) (.string ⟨#[]⟩)
  have k11 := blk_other k10 (p := ⟨gL, 11, none⟩) (fun e => hne e.symm) (.string ⟨#[]⟩)
  have k12 := blk_other k11 (p := ⟨gL, 12, none⟩) (fun e => hne e.symm) (.slice none 0 0)
  have k13 := blk_other k12 (p := ⟨gL, 13, none⟩) (fun e => hne e.symm) (.slice none 0 0)
  have k14 := blk_other k13 (p := ⟨gL, 14, none⟩) (fun e => hne e.symm) (.slice none 0 0)
  exact blk_set k14 0 (.bool false)
theorem below_wiped {B : Nat} {w W : World} {gL gB : Nat} (h : Below B w W) (h1 : B ≤ gL) (h2 : B ≤ gB) : Below B w (wiped W gL gB) := by
  unfold wiped
  repeat (refine Below.setCell ?_ (by first | exact h1 | exact h2) _)
  exact h

set_option maxHeartbeats 3200000 in
set_option maxRecDepth 100000 in
theorem read_calls (xs : List Int) (A : Option Addr) (c : Nat) (w : World) (hx : RdB w A xs) (hc : xs.length ≤ c) :
    Calls Try.prog 33 #[.slice A xs.length c] w (readPost xs w) := by
  have hmf := run_makeFunc
  have hI : RInv w xs A c (w.heap.size + 2) (w.heap.size + 2) (.slice none 0 0) [] (((w.alloc (.cells zcells.toArray 29)).alloc (.cells #[.bool false] 4)).alloc (.cells #[.slice A xs.length c, .int .i64 0, .slice none 0 0] 91)) 0 := by
    refine ⟨?_, Kd.R_nil _ _ _ _ _, (((Below.refl _ _).alloc (Nat.le_refl _) _).alloc (by simp) _).alloc (by simp; omega) _, hx, hc, by omega⟩
    have := blk_new1 (w.alloc (.cells zcells.toArray 29)) (.cells #[.slice A xs.length c, .int .i64 0, .slice none 0 0] 91) (.cells #[.bool false] 4)
    rw [size_alloc] at this
    exact this
  have hL := blk_alloc (blk_alloc (blk_new w (.cells zcells.toArray 29)) (.cells #[.bool false] 4)) (.cells #[.slice A xs.length c, .int .i64 0, .slice none 0 0] 91)
  have hB := blk_alloc (blk_new1 w (.cells #[.bool false] 4) (.cells zcells.toArray 29)) (.cells #[.slice A xs.length c, .int .i64 0, .slice none 0 0] 91)
  have HC := Aside0.mk (locale_calls w xs A c (w.heap.size + 2) (.slice none 0 0) _ hI)
  have HBE : Aside0 (Below w.heap.size w _) := ⟨hI.below⟩
  unfold zcells dcells at HC HBE hL hB
  simp only [List.map_cons, List.map_nil, List.cons_append, List.nil_append] at HC HBE hL hB
  go_enter_defers Try.func33, Try.ntmps33
  go_wp2_with fail
  obtain ⟨gL, hgL⟩ : ∃ gL, w.heap.size = gL := ⟨_, rfl⟩
  have HG := Aside0.mk hgL
  rw [hgL] at HC HBE hL hB ⊢
  generalize ((w.alloc _).alloc _).alloc _ = w3 at HC HBE hL hB ⊢
  have HLB := Aside0.mk hL
  have HBB := Aside0.mk hB
  clear hI hL hB hgL hx hc
  refine HC.out.mono ?_
  rintro e w4 ⟨hg4, he⟩
  have hL4 := blk_grown HLB.out hg4 (fun e => by injection e with e; omega)
  have hB4 := blk_grown HBB.out hg4 (fun e => by injection e with e; omega)
  have HB4 := Aside0.mk (below_grown HBE.out hg4 (Nat.le_trans (Nat.le_of_eq HG.out.symm) HBE.out.size) (by omega))
  cases hl : locP xs with
  | none =>
    rw [hl] at he
    unfold wrong at he
    subst he
    have HW := Aside0.mk (blk_wiped hL4 hB4 (by omega))
    have HBW := Aside0.mk (below_wiped HB4.out (Nat.le_refl _) (Nat.le_succ gL))
    have hcp := catch_panicking gL (gL + 1) 115 (.agg #[]) [] w4 _ _ _ _ _ _ _ _ _ _ _ _ _ _ _ _ hL4 hB4 (by omega)
    clear HC HLB HBB hg4 HBE hL4 hB4 HB4
    go_wp2
    refine leaves_cons (f := 50) (args := #[.pointer (some ⟨gL, 0, none⟩), .pointer (some ⟨gL + 1, 0, none⟩)]) (by simp) (by simp [go_sem]) ?_
    refine hcp.mono ?_
    rintro e u' w'' ⟨rfl, rfl, rfl⟩
    refine ⟨_, results_read _ gL (gL + 1) _ rfl rfl _ _ _ _ _ _ _ _ _ _ _ _ _ _ _ _ HW.out.1 HW.out.2, by rw [HG.out]; exact HBW.out, ?_⟩
    rw [hl]
    exact rfl
  | some l =>
    rw [hl] at he
    obtain ⟨L, rfl, hr⟩ := he
    have HOL := Aside0.mk hr
    obtain ⟨vr, vc, vk, rfl, hr1, hr2, hr3⟩ := hr
    obtain ⟨Ar, mr, cr, hv⟩ := R_slice' hr1
    subst hv
    obtain ⟨Ac, mc, cc, hv⟩ := R_slice' hr2
    subst hv
    obtain ⟨Ak, mk, ck, hv⟩ := R_slice' hr3
    subst hv
    have HW := Aside0.mk (blk_written (.string l.tag) (.int .i32 l.s.z0) (.int .i32 l.s.z1) (.int .i32 l.s.z2) (.int .i32 l.s.z3) (.int .i32 l.s.z4) (.int .i32 l.s.z5) (.int .i32 l.s.z6) (.string l.p0) (.string l.p1) (.string l.p2) (.string l.p3) (.slice Ar mr cr) (.slice Ac mc cc) (.slice Ak mk ck) true hL4 hB4 (by omega))
    have HBW := Aside0.mk (below_written (.string l.tag) (.int .i32 l.s.z0) (.int .i32 l.s.z1) (.int .i32 l.s.z2) (.int .i32 l.s.z3) (.int .i32 l.s.z4) (.int .i32 l.s.z5) (.int .i32 l.s.z6) (.string l.p0) (.string l.p1) (.string l.p2) (.string l.p3) (.slice Ar mr cr) (.slice Ac mc cc) (.slice Ak mk ck) true HB4.out (Nat.le_refl _) (Nat.le_succ gL))
    have HOW := Aside0.mk ((own_written (.string l.tag) (.int .i32 l.s.z0) (.int .i32 l.s.z1) (.int .i32 l.s.z2) (.int .i32 l.s.z3) (.int .i32 l.s.z4) (.int .i32 l.s.z5) (.int .i32 l.s.z6) (.string l.p0) (.string l.p1) (.string l.p2) (.string l.p3) (.slice Ar mr cr) (.slice Ac mc cc) (.slice Ak mk ck) true HOL.out (show gL < w3.heap.size from blk_lt HLB.out) (blk_lt HBB.out)).lower (show w.heap.size ≤ w3.heap.size from HBE.out.size))
    have hz0 := blk_cell hL4 0
    have hw0 := blk_free hL4 0
    have hz1 := blk_cell hL4 1
    have hw1 := blk_free hL4 1
    have hz2 := blk_cell hL4 2
    have hw2 := blk_free hL4 2
    have hz3 := blk_cell hL4 3
    have hw3 := blk_free hL4 3
    have hz4 := blk_cell hL4 4
    have hw4 := blk_free hL4 4
    have hz5 := blk_cell hL4 5
    have hw5 := blk_free hL4 5
    have hz6 := blk_cell hL4 6
    have hw6 := blk_free hL4 6
    have hz7 := blk_cell hL4 7
    have hw7 := blk_free hL4 7
    have hz8 := blk_cell hL4 8
    have hw8 := blk_free hL4 8
    have hz9 := blk_cell hL4 9
    have hw9 := blk_free hL4 9
    have hz10 := blk_cell hL4 10
    have hw10 := blk_free hL4 10
    have hz11 := blk_cell hL4 11
    have hw11 := blk_free hL4 11
    have hz12 := blk_cell hL4 12
    have hw12 := blk_free hL4 12
    have hz13 := blk_cell hL4 13
    have hw13 := blk_free hL4 13
    have hz14 := blk_cell hL4 14
    have hw14 := blk_free hL4 14
    have hzb := blk_cell hB4 0
    have hwb := blk_free hB4 0
    have hlL := blk_lt hL4
    have hlB := blk_lt hB4
    have hne : gL ≠ gL + 1 := by omega
    simp only [List.getElem?_toArray, List.getElem?_cons_zero, List.getElem?_cons_succ] at hzb hz0 hz1 hz2 hz3 hz4 hz5 hz6 hz7 hz8 hz9 hz10 hz11 hz12 hz13 hz14
    clear HC HLB HBB hg4 HBE hL4 hB4 HB4 HOL hr1 hr2 hr3
    unfold written at HW HBW HOW
    unfold lcells
    go_wp2
    refine leaves_cons (f := 50) (args := #[.pointer (some ⟨gL, 0, none⟩), .pointer (some ⟨gL + 1, 0, none⟩)]) (by simp) (by simp [go_sem]) ?_
    refine (catch_idle gL (gL + 1) _).mono ?_
    rintro e u' w'' ⟨rfl, rfl, rfl⟩
    refine ⟨_, results_read _ gL (gL + 1) _ rfl rfl _ _ _ _ _ _ _ _ _ _ _ _ _ _ _ _ HW.out.1 HW.out.2, by rw [HG.out]; exact HBW.out, ?_⟩
    rw [hl]
    exact ⟨_, rfl, HOW.out⟩
end Go.Proofs.Ytfbmgjanplnabaa
/- bytes.Equal; numbers of bytes in their range; how long a told locale's rows are. -/
namespace Go.Proofs.Ytfbmgjanplnabaa
open Go.RowKit Go.Proofs.YtfbmgjanplnabaaW.PrintWords Go.Proofs.YtfbmgjanplnabaaW.PrintLast Go.Proofs.YtfbmgjanplnabaaW.PrintMore
set_option linter.unusedVariables false
set_option linter.unusedSimpArgs false

def eqB (xs ys : List Int) : Bool := (strOfNums xs).toList == (strOfNums ys).toList
theorem equal_calls (xs ys : List Int) (A A' : Option Addr) (c c' : Nat) (w : World) (hx : RdB w A xs) (hy : RdB w A' ys) :
    Calls Try.prog 34 #[.slice A xs.length c, .slice A' ys.length c'] w fun e w' => e = .returned (.bool (eqB xs ys)) ∧ Below w.heap.size w w' := by
  have hcv3 := Kd.C_string (P := Try.prog) (A := A) (c := c) Try.underlying32 Try.underlying5 Try.underlying9 hx
  have hcv4 := Kd.C_string (P := Try.prog) (A := A') (c := c') Try.underlying32 Try.underlying5 Try.underlying9 hy
  clear hx hy
  go_enter Try.func34, Try.ntmps34
  go_wp2
  go_ret
  exact ⟨rfl, Below.refl _ _⟩

def Bytes (xs : List Int) : Prop := ∀ x ∈ xs, 0 ≤ x ∧ x < 256
theorem tk_eq (n b : Int) (h0 : 0 ≤ n) (h1 : n < 16777216) (h2 : 0 ≤ b) (h3 : b < 256) : tk n b = n * 256 + b := by
  unfold tk
  rw [u32_or _ _ (by omega) (by omega) (by omega) (by omega)]
  have e1 : ((n * 256) % 4294967296).toNat = 2 ^ 8 * n.toNat := by omega
  have e2 : (b % 4294967296).toNat = b.toNat := by omega
  rw [e1, e2, ← Nat.two_pow_add_eq_or_of_lt (by omega)]
  omega
theorem val1 (a : Int) (ha : 0 ≤ a ∧ a < 256) : val [a] = a := by
  show tk 0 a = a
  rw [tk_eq 0 a (by omega) (by omega) ha.1 ha.2]; omega
theorem val2 (a b : Int) (ha : 0 ≤ a ∧ a < 256) (hb : 0 ≤ b ∧ b < 256) : val [a, b] = a * 256 + b := by
  show tk (tk 0 a) b = _
  rw [tk_eq 0 a (by omega) (by omega) ha.1 ha.2, tk_eq _ b (by omega) (by omega) hb.1 hb.2]; omega
theorem val4 (a b c d : Int) (ha : 0 ≤ a ∧ a < 256) (hb : 0 ≤ b ∧ b < 256) (hc : 0 ≤ c ∧ c < 256) (hd : 0 ≤ d ∧ d < 256) : val [a, b, c, d] = ((a * 256 + b) * 256 + c) * 256 + d := by
  show tk (tk (tk (tk 0 a) b) c) d = _
  rw [tk_eq 0 a (by omega) (by omega) ha.1 ha.2, tk_eq _ b (by omega) (by omega) hb.1 hb.2, tk_eq _ c (by omega) (by omega) hc.1 hc.2, tk_eq _ d (by omega) (by omega) hd.1 hd.2]; omega
theorem Bytes.seg {xs : List Int} (h : Bytes xs) (p n : Nat) : Bytes (seg xs p n) := fun x hx => h x (List.mem_of_mem_take (List.mem_of_mem_drop hx))
theorem num2_lt {xs : List Int} {p n q : Nat} (hb : Bytes xs) (h : numP xs 2 p = some (n, q)) : n ≤ 65535 := by
  unfold numP at h
  split at h
  case isTrue hl =>
    injection h with h
    injection h with h1 h2
    have hs := seg_length xs p 2 hl
    have hb2 := hb.seg p 2
    match hc : seg xs p 2, hs with
    | [a, b], _ =>
      rw [hc] at h1 hb2
      rw [val2 a b (hb2 a (by simp)) (hb2 b (by simp))] at h1
      have := hb2 a (by simp)
      have := hb2 b (by simp)
      omega
  case isFalse => cases h
theorem rep_length {α : Type} {f : PS α} : ∀ {n p : Nat} {r : List α × Nat}, rep f n p = some r → r.1.length = n := by
  intro n
  induction n with
  | zero => intro p r h; injection h with h; subst h; rfl
  | succ n ih =>
    intro p r h
    have h' : ((f p).bind fun r => (rep f n r.2).map fun q => (r.1 :: q.1, q.2)) = some r := h
    obtain ⟨a, ha, h2⟩ := Option.bind_eq_some_iff.1 h'
    obtain ⟨b, hb, rfl⟩ := Option.map_eq_some_iff.1 h2
    simp [ih hb]
theorem many_length {α : Type} {xs : List Int} {f : PS α} {p : Nat} {r : List α × Nat} (hb : Bytes xs) (h : manyP xs f p = some r) : r.1.length ≤ 65535 := by
  obtain ⟨a, ha, h2⟩ := Option.bind_eq_some_iff.1 h
  rw [rep_length h2]
  exact num2_lt hb (q := a.2) (by rw [ha])
theorem rep_all {α : Type} {f : PS α} {C : α → Prop} (hf : ∀ p r, f p = some r → C r.1) : ∀ {n p : Nat} {r : List α × Nat}, rep f n p = some r → ∀ x ∈ r.1, C x := by
  intro n
  induction n with
  | zero => intro p r h; injection h with h; subst h; intro x hx; cases hx
  | succ n ih =>
    intro p r h
    have h' : ((f p).bind fun r => (rep f n r.2).map fun q => (r.1 :: q.1, q.2)) = some r := h
    obtain ⟨a, ha, h2⟩ := Option.bind_eq_some_iff.1 h'
    obtain ⟨b, hb, rfl⟩ := Option.map_eq_some_iff.1 h2
    intro x hx
    rcases List.mem_cons.1 hx with rfl | hx
    · exact hf p a ha
    · exact ih hb x hx
theorem strOfNums_inj {xs ys : List Int} (hx : Bytes xs) (hy : Bytes ys) (h : strOfNums xs = strOfNums ys) : xs = ys := by
  have h1 : (strOfNums xs).data.toList = (strOfNums ys).data.toList := by rw [h]
  rw [strOfNums_data, strOfNums_data] at h1
  have h2 : ∀ (l : List Int), Bytes l → (l.map fun n => UInt8.ofNat n.toNat).map (fun u => (u.toNat : Int)) = l := by
    intro l hl
    rw [List.map_map]
    conv => rhs; rw [← List.map_id l]
    refine List.map_congr_left (fun n hn => ?_)
    have := hl n hn
    simp [Function.comp, UInt8.toNat_ofNat']
    omega
  rw [← h2 xs hx, h1, h2 ys hy]
theorem eqB_true {xs ys : List Int} (hx : Bytes xs) (hy : Bytes ys) : eqB xs ys = decide (xs = ys) := by
  unfold eqB
  rw [Bool.eq_iff_iff]
  simp only [beq_iff_eq, decide_eq_true_eq]
  exact ⟨fun h => strOfNums_inj hx hy (toList_inj h), fun h => by rw [h]⟩
theorem wrap32_ok (n : Int) : -2147483648 ≤ wrap32 n ∧ wrap32 n ≤ 2147483647 := by
  unfold wrap32
  omega
theorem locP_some {xs : List Int} {l : Loc} (h : locP xs = some l) : ∃ pool p0 tag p1 S p2 P p3 R p4 C p5 M p6, takePool xs 56 = some (pool, p0) ∧ txtP xs pool p0 = some (tag, p1) ∧ rep (sgnP xs) 7 p1 = some (S, p2) ∧ rep (txtP xs pool) 4 p2 = some (P, p3) ∧ manyP xs (rulP xs pool) p3 = some (R, p4) ∧ manyP xs (curP xs pool) p4 = some (C, p5) ∧ manyP xs (cmpP xs pool) p5 = some (M, p6) ∧ l = mkLoc tag S P R C M := by
  obtain ⟨⟨pool, p0⟩, h1, h⟩ := Option.bind_eq_some_iff.1 h
  obtain ⟨⟨tag, p1⟩, h2, h⟩ := Option.bind_eq_some_iff.1 h
  obtain ⟨⟨S, p2⟩, h3, h⟩ := Option.bind_eq_some_iff.1 h
  obtain ⟨⟨P, p3⟩, h4, h⟩ := Option.bind_eq_some_iff.1 h
  obtain ⟨⟨R, p4⟩, h5, h⟩ := Option.bind_eq_some_iff.1 h
  obtain ⟨⟨C, p5⟩, h6, h⟩ := Option.bind_eq_some_iff.1 h
  obtain ⟨⟨M, p6⟩, h7, h⟩ := Option.bind_eq_some_iff.1 h
  injection h with h
  exact ⟨pool, p0, tag, p1, S, p2, P, p3, R, p4, C, p5, M, p6, h1, h2, h3, h4, h5, h6, h7, h.symm⟩
theorem locP_few {xs : List Int} {l : Loc} (hb : Bytes xs) (h : locP xs = some l) : Few l ∧ l.s.ok := by
  obtain ⟨pool, p0, tag, p1, S, p2, P, p3, R, p4, C, p5, M, p6, h1, h2, h3, h4, h5, h6, h7, rfl⟩ := locP_some h
  refine ⟨⟨many_length hb h5, many_length hb h6, many_length hb h7⟩, ?_⟩
  have hS := rep_length h3
  have hall := rep_all (C := fun z : Int => -2147483648 ≤ z ∧ z ≤ 2147483647) (fun p r hr => by
    obtain ⟨a, _, rfl⟩ := Option.map_eq_some_iff.1 hr
    exact wrap32_ok _) h3
  obtain ⟨s0, s1, s2, s3, s4, s5, s6, rfl⟩ := seven hS
  intro z hz
  exact hall z hz
end Go.Proofs.Ytfbmgjanplnabaa
/- bund.Decode. -/
namespace Go.Proofs.Ytfbmgjanplnabaa
open Go.RowKit Go.Proofs.YtfbmgjanplnabaaW.PrintWords Go.Proofs.YtfbmgjanplnabaaW.PrintLast Go.Proofs.YtfbmgjanplnabaaW.PrintMore
set_option linter.unusedVariables false
set_option linter.unusedSimpArgs false

/-- What bytes are told to be; or how they are wrong. -/
def decode (xs : List Int) : Loc ⊕ Int :=
  if xs.length < 4 then .inr 2
  else if xs.drop (xs.length - 4) = le4 (crcOn 0 (xs.take (xs.length - 4))) then
    (match locP (xs.take (xs.length - 4)) with
      | none => .inr 2
      | some l => if encOk l && eqB (enc l) xs then .inl l else .inr 2)
  else .inr 6
def decPost (xs : List Int) (w : World) (e : Ending) (w' : World) : Prop :=
  Below w.heap.size w w' ∧ (match decode xs with
    | .inl l => ∃ L, e = .returned (.tuple #[.agg L.toArray, .int .i64 0]) ∧ OwnL w' w.heap.size l L
    | .inr c => e = .returned (.tuple #[.agg zcells.toArray, .int .i64 c]))

theorem OwnL.below {W W' : World} {base : Nat} {l : Loc} {L : List Value} (h : OwnL W base l L) (hb : Below W.heap.size W W') : OwnL W' base l L := by
  obtain ⟨vr, vc, vk, rfl, h1, h2, h3⟩ := h
  exact ⟨vr, vc, vk, rfl, Kd.R_below h1 hb, Kd.R_below h2 hb, Kd.R_below h3 hb⟩

set_option maxHeartbeats 1600000 in
set_option maxRecDepth 100000 in
theorem results_dec (W : World) (g2 : Nat) (tmps : Array Value) (ht : tmps[2]? = some (.pointer (some ⟨g2, 0, none⟩))) (v0 v1 v2 v3 v4 v5 v6 v7 v8 v9 v10 v11 v12 v13 v14 : Value) (c : Int) (ht3 : tmps[3]? = some (.int .i64 c)) (h : W.heap[g2]? = some (.cells #[v0, v1, v2, v3, v4, v5, v6, v7, v8, v9, v10, v11, v12, v13, v14] 29 (0, 0))) : (results Try.f12 tmps).run Try.prog W = .ok (.tuple #[.agg #[v0, v1, v2, v3, v4, v5, v6, v7, v8, v9, v10, v11, v12, v13, v14], .int .i64 c]) W := by
  have h0 := blk_cell h 0
  have h1 := blk_cell h 1
  have h2 := blk_cell h 2
  have h3 := blk_cell h 3
  have h4 := blk_cell h 4
  have h5 := blk_cell h 5
  have h6 := blk_cell h 6
  have h7 := blk_cell h 7
  have h8 := blk_cell h 8
  have h9 := blk_cell h 9
  have h10 := blk_cell h 10
  have h11 := blk_cell h 11
  have h12 := blk_cell h 12
  have h13 := blk_cell h 13
  have h14 := blk_cell h 14
  simp only [List.getElem?_toArray, List.getElem?_cons_zero, List.getElem?_cons_succ] at h0 h1 h2 h3 h4 h5 h6 h7 h8 h9 h10 h11 h12 h13 h14
  clear h
  simp [results, Try.results12, go_sem, ht, ht3, h0, h1, h2, h3, h4, h5, h6, h7, h8, h9, h10, h11, h12, h13, h14]

theorem below15 {B : Nat} {w : World} (W : World) (g2 : Nat) (v0 v1 v2 v3 v4 v5 v6 v7 v8 v9 v10 v11 v12 v13 v14 : Value) (h : Below B w W) (hB : B ≤ g2) : Below B w (((((((((((((((W.setCell ⟨g2, 0, none⟩ v0).setCell ⟨g2, 1, none⟩ v1).setCell ⟨g2, 2, none⟩ v2).setCell ⟨g2, 3, none⟩ v3).setCell ⟨g2, 4, none⟩ v4).setCell ⟨g2, 5, none⟩ v5).setCell ⟨g2, 6, none⟩ v6).setCell ⟨g2, 7, none⟩ v7).setCell ⟨g2, 8, none⟩ v8).setCell ⟨g2, 9, none⟩ v9).setCell ⟨g2, 10, none⟩ v10).setCell ⟨g2, 11, none⟩ v11).setCell ⟨g2, 12, none⟩ v12).setCell ⟨g2, 13, none⟩ v13).setCell ⟨g2, 14, none⟩ v14) := (((((((((((((((h.setCell hB _).setCell hB _).setCell hB _).setCell hB _).setCell hB _).setCell hB _).setCell hB _).setCell hB _).setCell hB _).setCell hB _).setCell hB _).setCell hB _).setCell hB _).setCell hB _).setCell hB _)
theorem own15 {base : Nat} {l : Loc} {L : List Value} (W : World) (g2 : Nat) (v0 v1 v2 v3 v4 v5 v6 v7 v8 v9 v10 v11 v12 v13 v14 : Value) (h : OwnL W base l L) (hB : g2 < base) : OwnL (((((((((((((((W.setCell ⟨g2, 0, none⟩ v0).setCell ⟨g2, 1, none⟩ v1).setCell ⟨g2, 2, none⟩ v2).setCell ⟨g2, 3, none⟩ v3).setCell ⟨g2, 4, none⟩ v4).setCell ⟨g2, 5, none⟩ v5).setCell ⟨g2, 6, none⟩ v6).setCell ⟨g2, 7, none⟩ v7).setCell ⟨g2, 8, none⟩ v8).setCell ⟨g2, 9, none⟩ v9).setCell ⟨g2, 10, none⟩ v10).setCell ⟨g2, 11, none⟩ v11).setCell ⟨g2, 12, none⟩ v12).setCell ⟨g2, 13, none⟩ v13).setCell ⟨g2, 14, none⟩ v14) base l L := (((((((((((((((h.setc g2 0 v0 hB).setc g2 1 v1 hB).setc g2 2 v2 hB).setc g2 3 v3 hB).setc g2 4 v4 hB).setc g2 5 v5 hB).setc g2 6 v6 hB).setc g2 7 v7 hB).setc g2 8 v8 hB).setc g2 9 v9 hB).setc g2 10 v10 hB).setc g2 11 v11 hB).setc g2 12 v12 hB).setc g2 13 v13 hB).setc g2 14 v14 hB)
theorem decode_short {xs : List Int} (h : xs.length < 4) : decode xs = .inr 2 := by unfold decode; rw [if_pos h]
set_option maxHeartbeats 1600000 in
set_option maxRecDepth 100000 in
/-- Cut refuses: an empty locale, and how. -/
theorem decode_refused (xs : List Int) (A : Option Addr) (c : Nat) (w : World) (k : Int) (hk : k = 2 ∨ k = 6) (HC : ∀ W, Below w.heap.size w W → Calls Try.prog 32 #[.slice A xs.length c] W fun e w' => e = .returned (.tuple #[.slice none 0 0, .int .i64 k]) ∧ Below W.heap.size W w') :
    Calls Try.prog 12 #[.slice A xs.length c] w fun e w' => e = .returned (.tuple #[.agg zcells.toArray, .int .i64 k]) ∧ Below w.heap.size w w' := by
  have HC1 := Aside0.mk (HC _ ((Below.refl w.heap.size w).alloc (Nat.le_refl _) (.cells zcells.toArray 29)))
  have hblk := blk_new w (.cells zcells.toArray 29)
  have hbe := (Below.refl w.heap.size w).alloc (Nat.le_refl _) (.cells zcells.toArray 29)
  unfold zcells dcells at HC1 hblk hbe ⊢
  simp only [List.map_cons, List.map_nil, List.cons_append, List.nil_append] at HC1 hblk hbe ⊢
  clear HC
  go_enter Try.func12, Try.ntmps12
  go_wp2_with fail
  obtain ⟨g2, hg2⟩ : ∃ g, w.heap.size = g := ⟨_, rfl⟩
  have HBE := Aside0.mk hbe
  have HG := Aside0.mk hg2
  rw [hg2] at hblk ⊢
  clear hbe
  generalize w.alloc _ = w1 at HC1 hblk HBE ⊢
  refine HC1.out.mono ?_
  rintro e w2 ⟨rfl, hb⟩
  have hblk2 := blk_below hblk hb (blk_lt hblk)
  have HB2 := Aside0.mk (below_then HBE.out HBE.out.size hb)
  have HS := Aside0.mk (set15 w2 g2 (.string ⟨#[]⟩) (.int .i32 0) (.int .i32 0) (.int .i32 0) (.int .i32 0) (.int .i32 0) (.int .i32 0) (.int .i32 0) (.string ⟨#[]⟩) (.string ⟨#[]⟩) (.string ⟨#[]⟩) (.string ⟨#[]⟩) (.slice none 0 0) (.slice none 0 0) (.slice none 0 0) (.string ⟨#[]⟩) (.int .i32 0) (.int .i32 0) (.int .i32 0) (.int .i32 0) (.int .i32 0) (.int .i32 0) (.int .i32 0) (.string ⟨#[]⟩) (.string ⟨#[]⟩) (.string ⟨#[]⟩) (.string ⟨#[]⟩) (.slice none 0 0) (.slice none 0 0) (.slice none 0 0) hblk2)
  have hz0 := blk_cell hblk2 0
  have hw0 := blk_free hblk2 0
  have hz1 := blk_cell hblk2 1
  have hw1 := blk_free hblk2 1
  have hz2 := blk_cell hblk2 2
  have hw2 := blk_free hblk2 2
  have hz3 := blk_cell hblk2 3
  have hw3 := blk_free hblk2 3
  have hz4 := blk_cell hblk2 4
  have hw4 := blk_free hblk2 4
  have hz5 := blk_cell hblk2 5
  have hw5 := blk_free hblk2 5
  have hz6 := blk_cell hblk2 6
  have hw6 := blk_free hblk2 6
  have hz7 := blk_cell hblk2 7
  have hw7 := blk_free hblk2 7
  have hz8 := blk_cell hblk2 8
  have hw8 := blk_free hblk2 8
  have hz9 := blk_cell hblk2 9
  have hw9 := blk_free hblk2 9
  have hz10 := blk_cell hblk2 10
  have hw10 := blk_free hblk2 10
  have hz11 := blk_cell hblk2 11
  have hw11 := blk_free hblk2 11
  have hz12 := blk_cell hblk2 12
  have hw12 := blk_free hblk2 12
  have hz13 := blk_cell hblk2 13
  have hw13 := blk_free hblk2 13
  have hz14 := blk_cell hblk2 14
  have hw14 := blk_free hblk2 14
  simp only [List.getElem?_toArray, List.getElem?_cons_zero, List.getElem?_cons_succ] at hz0 hz1 hz2 hz3 hz4 hz5 hz6 hz7 hz8 hz9 hz10 hz11 hz12 hz13 hz14
  have hlt := blk_lt hblk2
  have HBS := Aside0.mk (below15 w2 g2 (.string ⟨#[]⟩) (.int .i32 0) (.int .i32 0) (.int .i32 0) (.int .i32 0) (.int .i32 0) (.int .i32 0) (.int .i32 0) (.string ⟨#[]⟩) (.string ⟨#[]⟩) (.string ⟨#[]⟩) (.string ⟨#[]⟩) (.slice none 0 0) (.slice none 0 0) (.slice none 0 0) HB2.out (Nat.le_of_eq hg2))
  clear hblk2 hblk hb HC1 hg2 HB2 HBE
  rcases hk with rfl | rfl
  all_goals
    go_wp2
    refine bodyPost_ret (results_dec _ g2 _ rfl (.string ⟨#[]⟩) (.int .i32 0) (.int .i32 0) (.int .i32 0) (.int .i32 0) (.int .i32 0) (.int .i32 0) (.int .i32 0) (.string ⟨#[]⟩) (.string ⟨#[]⟩) (.string ⟨#[]⟩) (.string ⟨#[]⟩) (.slice none 0 0) (.slice none 0 0) (.slice none 0 0) _ rfl HS.out) rfl ⟨rfl, HBS.out⟩
end Go.Proofs.Ytfbmgjanplnabaa

import Derived.Test.YtfbmgjanplnabaaBF
/- The reader of bundles: texts and signs. -/
namespace Go.Proofs.Ytfbmgjanplnabaa
open Go.RowKit Go.Proofs.YtfbmgjanplnabaaW.PrintWords Go.Proofs.YtfbmgjanplnabaaW.PrintLast Go.Proofs.YtfbmgjanplnabaaW.PrintMore
set_option linter.unusedVariables false
set_option linter.unusedSimpArgs false

section
variable (w0 : World) (xs : List Int) (A : Option Addr) (c g B : Nat) (vp : Value) (pool : List ByteArray) (p : Nat) (W : World)

set_option maxHeartbeats 800000 in
set_option maxRecDepth 100000 in
theorem text_ok (n : Nat) (hn : val (seg xs p 2) = (n : Int)) (hI : RInv w0 xs A c g B vp pool W p) (h : p + 2 ≤ xs.length) (hlt : n < pool.length) :
    Calls Try.prog 68 #[.pointer (some ⟨g, 0, none⟩)] W (fun e W' => e = .returned (.string pool[n]) ∧ W.grownBy W' (some g) ∧ RInv w0 xs A c g B vp pool W' (p + 2)) := by
  have HN := Aside0.mk (number_ok w0 xs A c g B vp pool p 2 W (.inr (.inl rfl)) hI h)
  rw [hn] at HN
  obtain ⟨s, hs⟩ : ∃ s, pool[n] = s := ⟨_, rfl⟩
  rw [hs]
  clear hn hI h
  go_enter Try.func68, Try.ntmps68
  go_wp2_with fail
  refine HN.out.mono ?_
  rintro e w1 ⟨rfl, hg, hI⟩
  have HI := Aside0.mk hI
  have HG := Aside0.mk hg
  obtain ⟨Ap, cp, e, hcp, hr⟩ := Kd.R_reads hI.pl
  subst e
  obtain ⟨ad, e, hcell⟩ := at_S hr n hlt
  subst e
  have hc2 := blk_cell hI.rd 2
  simp only [List.getElem?_toArray, List.getElem?_cons_zero, List.getElem?_cons_succ] at hc2
  have hpl : pool.length ≤ 9223372036854775807 := hr.2.1
  rw [hs] at hcell
  clear hI hg hr HN hs
  go_wp2
  go_ret
  exact ⟨rfl, HG.out, HI.out⟩

set_option maxHeartbeats 800000 in
set_option maxRecDepth 100000 in
theorem text_bad1 (hI : RInv w0 xs A c g B vp pool W p) (h : xs.length < p + 2) :
    Calls Try.prog 68 #[.pointer (some ⟨g, 0, none⟩)] W (fun e W' => e = wrong ∧ W.grownBy W' (some g)) := by
  have HN := Aside0.mk (number_bad w0 xs A c g B vp pool p 2 W (.inr (.inl rfl)) hI h)
  unfold wrong at HN ⊢
  clear hI h
  go_enter Try.func68, Try.ntmps68
  go_wp2_with fail
  refine HN.out.mono ?_
  rintro e w1 ⟨rfl, hg⟩
  go_wp2
  exact ⟨rfl, rfl, hg⟩

set_option maxHeartbeats 800000 in
set_option maxRecDepth 100000 in
theorem text_bad2 (n : Nat) (hn : val (seg xs p 2) = (n : Int)) (hI : RInv w0 xs A c g B vp pool W p) (h : p + 2 ≤ xs.length) (hlt : pool.length ≤ n) :
    Calls Try.prog 68 #[.pointer (some ⟨g, 0, none⟩)] W (fun e W' => e = wrong ∧ W.grownBy W' (some g)) := by
  have HN := Aside0.mk (number_ok w0 xs A c g B vp pool p 2 W (.inr (.inl rfl)) hI h)
  rw [hn] at HN
  unfold wrong
  clear hn hI h
  go_enter Try.func68, Try.ntmps68
  go_wp2_with fail
  refine HN.out.mono ?_
  rintro e w1 ⟨rfl, hg, hI⟩
  have HG := Aside0.mk hg
  obtain ⟨Ap, cp, e, hcp, hr⟩ := Kd.R_reads hI.pl
  subst e
  have hc2 := blk_cell hI.rd 2
  simp only [List.getElem?_toArray, List.getElem?_cons_zero, List.getElem?_cons_succ] at hc2
  have hpl : pool.length ≤ 9223372036854775807 := hr.2.1
  clear hI hg hr HN
  go_wp2
  exact ⟨rfl, rfl, HG.out⟩

set_option maxHeartbeats 800000 in
set_option maxRecDepth 100000 in
theorem sign_ok (n : Nat) (hn : val (seg xs p 4) = (n : Int)) (hI : RInv w0 xs A c g B vp pool W p) (h : p + 4 ≤ xs.length) :
    Calls Try.prog 69 #[.pointer (some ⟨g, 0, none⟩)] W (fun e W' => e = .returned (.int .i32 (wrap32 n)) ∧ W.grownBy W' (some g) ∧ RInv w0 xs A c g B vp pool W' (p + 4)) := by
  have HN := Aside0.mk (number_ok w0 xs A c g B vp pool p 4 W (.inr (.inr rfl)) hI h)
  rw [hn] at HN
  clear hn hI h
  go_enter Try.func69, Try.ntmps69
  go_wp2_with fail
  refine HN.out.mono ?_
  rintro e w1 ⟨rfl, hg, hI⟩
  clear HN
  go_wp2
  go_ret
  exact ⟨rfl, hg, hI⟩
set_option maxHeartbeats 800000 in
set_option maxRecDepth 100000 in
theorem sign_bad (hI : RInv w0 xs A c g B vp pool W p) (h : xs.length < p + 4) :
    Calls Try.prog 69 #[.pointer (some ⟨g, 0, none⟩)] W (fun e W' => e = wrong ∧ W.grownBy W' (some g)) := by
  have HN := Aside0.mk (number_bad w0 xs A c g B vp pool p 4 W (.inr (.inr rfl)) hI h)
  unfold wrong at HN ⊢
  clear hI h
  go_enter Try.func69, Try.ntmps69
  go_wp2_with fail
  refine HN.out.mono ?_
  rintro e w1 ⟨rfl, hg⟩
  go_wp2
  exact ⟨rfl, rfl, hg⟩
end
end Go.Proofs.Ytfbmgjanplnabaa
/- The reader of bundles as Lean functions; the contracts in their words; the state of the locale's walk. -/
namespace Go.Proofs.Ytfbmgjanplnabaa
open Go.RowKit Go.Proofs.YtfbmgjanplnabaaW.PrintWords Go.Proofs.YtfbmgjanplnabaaW.PrintLast Go.Proofs.YtfbmgjanplnabaaW.PrintMore
set_option linter.unusedVariables false
set_option linter.unusedSimpArgs false

abbrev PS (α : Type) := Nat → Option (α × Nat)
def numP (xs : List Int) (size : Nat) : PS Nat := fun p => if p + size ≤ xs.length then some ((val (seg xs p size)).toNat, p + size) else none
def txtP (xs : List Int) (pool : List ByteArray) : PS ByteArray := fun p => (numP xs 2 p).bind fun r => (pool[r.1]?).map fun s => (s, r.2)
def sgnP (xs : List Int) : PS Int := fun p => (numP xs 4 p).map fun r => (wrap32 r.1, r.2)
def rep {α : Type} (f : PS α) : Nat → PS (List α)
  | 0, p => some ([], p)
  | k + 1, p => (f p).bind fun r => (rep f k r.2).map fun q => (r.1 :: q.1, q.2)
def rulP (xs : List Int) (pool : List ByteArray) : PS Rl := fun p => (numP xs 1 p).bind fun r => (txtP xs pool r.2).map fun q => (((r.1 : Int), q.1), q.2)
def curP (xs : List Int) (pool : List ByteArray) : PS Cu := fun p => (txtP xs pool p).bind fun a => (txtP xs pool a.2).bind fun b => (numP xs 1 b.2).map fun n => ((a.1, (b.1, (n.1 : Int))), n.2)
def cmpP (xs : List Int) (pool : List ByteArray) : PS Cm := fun p => (numP xs 1 p).bind fun a => (numP xs 1 a.2).bind fun b => (txtP xs pool b.2).map fun n => (((a.1 : Int), ((b.1 : Int), n.1)), n.2)
def manyP {α : Type} (xs : List Int) (f : PS α) : PS (List α) := fun p => (numP xs 2 p).bind fun r => rep f r.1 r.2
def mkLoc (tag : ByteArray) (S : List Int) (P : List ByteArray) (rules : List Rl) (curs : List Cu) (comps : List Cm) : Loc :=
  { tag := tag, s := ⟨S.getD 0 0, S.getD 1 0, S.getD 2 0, S.getD 3 0, S.getD 4 0, S.getD 5 0, S.getD 6 0⟩, p0 := P.getD 0 ⟨#[]⟩, p1 := P.getD 1 ⟨#[]⟩, p2 := P.getD 2 ⟨#[]⟩, p3 := P.getD 3 ⟨#[]⟩, rules := rules, curs := curs, comps := comps }
def locD (xs : List Int) (pool : List ByteArray) (tag : ByteArray) (S : List Int) (P : List ByteArray) (R : List Rl) (C : List Cu) (M : List Cm) (p : Nat) : Option Loc := some (mkLoc tag S P R C M)
def locC (xs : List Int) (pool : List ByteArray) (tag : ByteArray) (S : List Int) (P : List ByteArray) (R : List Rl) (C : List Cu) (p : Nat) : Option Loc := (manyP xs (cmpP xs pool) p).bind fun m => locD xs pool tag S P R C m.1 m.2
def locB (xs : List Int) (pool : List ByteArray) (tag : ByteArray) (S : List Int) (P : List ByteArray) (R : List Rl) (p : Nat) : Option Loc := (manyP xs (curP xs pool) p).bind fun c => locC xs pool tag S P R c.1 c.2
def locA (xs : List Int) (pool : List ByteArray) (tag : ByteArray) (S : List Int) (P : List ByteArray) (p : Nat) : Option Loc := (manyP xs (rulP xs pool) p).bind fun r => locB xs pool tag S P r.1 r.2
def locT (xs : List Int) (pool : List ByteArray) (tag : ByteArray) (S : List Int) (p : Nat) : Option Loc := (rep (txtP xs pool) 4 p).bind fun q => locA xs pool tag S q.1 q.2
def locS (xs : List Int) (pool : List ByteArray) (tag : ByteArray) (p : Nat) : Option Loc := (rep (sgnP xs) 7 p).bind fun s => locT xs pool tag s.1 s.2
def locP (xs : List Int) : Option Loc := (takePool xs 56).bind fun a => (txtP xs a.1 a.2).bind fun t => locS xs a.1 t.1 t.2
theorem rep_some {α β : Type} {f : PS α} {p q n : Nat} {v : α} (K : List α → Nat → Option β) (acc : List α) (h : f p = some (v, q)) : ((rep f (n + 1) p).bind fun s => K (acc ++ s.1) s.2) = (rep f n q).bind fun s => K ((acc ++ [v]) ++ s.1) s.2 := by
  rw [show rep f (n + 1) p = (f p).bind fun r => (rep f n r.2).map fun q => (r.1 :: q.1, q.2) from rfl, h]
  cases hq : rep f n q <;> simp [hq]
theorem rep_none {α β : Type} {f : PS α} {p n : Nat} (K : List α × Nat → Option β) (h : f p = none) : (rep f (n + 1) p).bind K = none := by
  rw [show rep f (n + 1) p = (f p).bind fun r => (rep f n r.2).map fun q => (r.1 :: q.1, q.2) from rfl, h]
  rfl

section
variable (w0 : World) (xs : List Int) (A : Option Addr) (c g B : Nat) (vp : Value) (pool : List ByteArray) (p : Nat) (W : World)
theorem numP_val (size : Nat) (h : p + size ≤ xs.length) : numP xs size p = some ((val (seg xs p size)).toNat, p + size) := by unfold numP; rw [if_pos h]
theorem val_nat (ys : List Int) : val ys = ((val ys).toNat : Int) := by have := (val_range ys).1; omega
theorem num_some {n q size : Nat} (hs : size = 1 ∨ size = 2 ∨ size = 4) (h : numP xs size p = some (n, q)) (hI : RInv w0 xs A c g B vp pool W p) :
    Calls Try.prog 70 #[.pointer (some ⟨g, 0, none⟩), .int .i64 size] W (fun e W' => e = .returned (.int .i64 n) ∧ W.grownBy W' (some g) ∧ RInv w0 xs A c g B vp pool W' q) := by
  unfold numP at h
  split at h
  case isTrue hl =>
    injection h with h
    injection h with h1 h2
    subst h1 h2
    have := number_ok w0 xs A c g B vp pool p size W hs hI hl
    rw [val_nat] at this
    exact this
  case isFalse => cases h
theorem num_none {size : Nat} (hs : size = 1 ∨ size = 2 ∨ size = 4) (h : numP xs size p = none) (hI : RInv w0 xs A c g B vp pool W p) :
    Calls Try.prog 70 #[.pointer (some ⟨g, 0, none⟩), .int .i64 size] W (fun e W' => e = wrong ∧ W.grownBy W' (some g)) := by
  unfold numP at h
  split at h
  case isTrue => cases h
  case isFalse hl => exact number_bad w0 xs A c g B vp pool p size W hs hI (by omega)
theorem num_lt {n q size : Nat} (h : numP xs size p = some (n, q)) : n ≤ 4294967295 := by
  unfold numP at h
  split at h
  case isTrue hl =>
    injection h with h
    injection h with h1 h2
    have := (val_range (seg xs p size)).2
    omega
  case isFalse => cases h
theorem txt_some {s : ByteArray} {q : Nat} (h : txtP xs pool p = some (s, q)) (hI : RInv w0 xs A c g B vp pool W p) :
    Calls Try.prog 68 #[.pointer (some ⟨g, 0, none⟩)] W (fun e W' => e = .returned (.string s) ∧ W.grownBy W' (some g) ∧ RInv w0 xs A c g B vp pool W' q) := by
  unfold txtP at h
  by_cases hl : p + 2 ≤ xs.length
  · rw [numP_val xs p 2 hl] at h
    simp only [Option.bind_some] at h
    by_cases hn : (val (seg xs p 2)).toNat < pool.length
    · rw [List.getElem?_eq_getElem hn] at h
      simp only [Option.map_some, Option.some.injEq, Prod.mk.injEq] at h
      obtain ⟨rfl, rfl⟩ := h
      exact text_ok w0 xs A c g B vp pool p W _ (val_nat _) hI hl hn
    · rw [List.getElem?_eq_none (by omega)] at h
      cases h
  · unfold numP at h
    rw [if_neg hl] at h
    cases h
theorem txt_none (h : txtP xs pool p = none) (hI : RInv w0 xs A c g B vp pool W p) :
    Calls Try.prog 68 #[.pointer (some ⟨g, 0, none⟩)] W (fun e W' => e = wrong ∧ W.grownBy W' (some g)) := by
  unfold txtP at h
  by_cases hl : p + 2 ≤ xs.length
  · rw [numP_val xs p 2 hl] at h
    simp only [Option.bind_some] at h
    by_cases hn : (val (seg xs p 2)).toNat < pool.length
    · rw [List.getElem?_eq_getElem hn] at h
      cases h
    · exact text_bad2 w0 xs A c g B vp pool p W _ (val_nat _) hI hl (by omega)
  · exact text_bad1 w0 xs A c g B vp pool p W hI (by omega)
theorem sgn_some {s : Int} {q : Nat} (h : sgnP xs p = some (s, q)) (hI : RInv w0 xs A c g B vp pool W p) :
    Calls Try.prog 69 #[.pointer (some ⟨g, 0, none⟩)] W (fun e W' => e = .returned (.int .i32 s) ∧ W.grownBy W' (some g) ∧ RInv w0 xs A c g B vp pool W' q) := by
  unfold sgnP at h
  by_cases hl : p + 4 ≤ xs.length
  · rw [numP_val xs p 4 hl] at h
    simp only [Option.map_some, Option.some.injEq, Prod.mk.injEq] at h
    obtain ⟨rfl, rfl⟩ := h
    exact sign_ok w0 xs A c g B vp pool p W _ (val_nat _) hI hl
  · unfold numP at h
    rw [if_neg hl] at h
    cases h
theorem sgn_none (h : sgnP xs p = none) (hI : RInv w0 xs A c g B vp pool W p) :
    Calls Try.prog 69 #[.pointer (some ⟨g, 0, none⟩)] W (fun e W' => e = wrong ∧ W.grownBy W' (some g)) := by
  unfold sgnP at h
  by_cases hl : p + 4 ≤ xs.length
  · rw [numP_val xs p 4 hl] at h
    cases h
  · exact sign_bad w0 xs A c g B vp pool p W hI (by omega)
end

/-! the locale's walk -/
/-- The fifteen cells while they are read. -/
def dcells (tag : ByteArray) (S : List Int) (P : List ByteArray) (vr vc vk : Value) : List Value := .string tag :: (S.map (Value.int .i32) ++ (P.map Value.string ++ [vr, vc, vk]))
theorem dcells_sign (tag : ByteArray) (acc : List Int) (k : Nat) (P : List ByteArray) (vr vc vk : Value) (v : Int) (h : acc.length = 7 - (k + 1)) :
    (dcells tag (acc ++ List.replicate (k + 1) 0) P vr vc vk).set (1 + acc.length) (.int .i32 v) = dcells tag (acc ++ [v] ++ List.replicate k 0) P vr vc vk := by
  unfold dcells
  rw [Nat.add_comm 1, List.set_cons_succ]
  congr 1
  rw [List.set_append_left _ _ (by simp), List.map_append, List.set_append_right _ _ (by simp)]
  simp [List.replicate_succ]
theorem dcells_pat (tag : ByteArray) (S : List Int) (acc : List ByteArray) (k : Nat) (vr vc vk : Value) (v : ByteArray) (hS : S.length = 7) :
    (dcells tag S (acc ++ List.replicate (k + 1) ⟨#[]⟩) vr vc vk).set (8 + acc.length) (.string v) = dcells tag S (acc ++ [v] ++ List.replicate k ⟨#[]⟩) vr vc vk := by
  unfold dcells
  rw [show 8 + acc.length = (7 + acc.length) + 1 by omega, List.set_cons_succ]
  congr 1
  rw [List.set_append_right _ _ (by simp [hS]), List.set_append_left _ _ (by simp [hS]), List.map_append, List.set_append_right _ _ (by simp [hS])]
  simp [List.replicate_succ, hS]
end Go.Proofs.Ytfbmgjanplnabaa
/- The state of the locale's walk. -/
namespace Go.Proofs.Ytfbmgjanplnabaa
open Go.RowKit Go.Proofs.YtfbmgjanplnabaaW.PrintWords Go.Proofs.YtfbmgjanplnabaaW.PrintLast Go.Proofs.YtfbmgjanplnabaaW.PrintMore
set_option linter.unusedVariables false
set_option linter.unusedSimpArgs false

theorem info57 : (Try.prog.info? 57).map (fun i => (i.zero, i.size, i.bytes)) = some (some (.agg #[.int .i64 0, .string ⟨#[]⟩]), 2, 24) := by kernel_rfl
theorem info59 : (Try.prog.info? 59).map (fun i => (i.zero, i.size, i.bytes)) = some (some (.agg #[.string ⟨#[]⟩, .string ⟨#[]⟩, .int .i64 0]), 3, 40) := by kernel_rfl
theorem info61 : (Try.prog.info? 61).map (fun i => (i.zero, i.size, i.bytes)) = some (some (.agg #[.int .i64 0, .int .i64 0, .string ⟨#[]⟩]), 3, 32) := by kernel_rfl

theorem grown_other {w W W' : World} {g : Nat} {row : Option Nat} (h : w.grownBy W (some g)) (hg : W.grownBy W' row) (hr : ∀ k, row = some k → w.heap.size ≤ k) : w.grownBy W' (some g) :=
  ⟨hg.os.trans h.os, hg.tape.trans h.tape, hg.output.trans h.output, Nat.le_trans h.size hg.size, fun k hk hne => (hg.block k (Nat.lt_of_lt_of_le hk h.size) (fun e => by have := hr k e.symm; omega)).trans (h.block k hk hne)⟩
/-- Two rows of two types: one grows, the other stands. -/
theorem R_two {α β : Type} {d : Kd α} {d' : Kd β} {e e' base base' : Nat} {ok ok' : Nat → Prop} {v v' : Value} {xs : List α} {xs' : List β} {W W' : World} (h : d.R e W base ok v xs) (hE : d.E = []) (h' : d'.R e' W base' ok' v' xs') (hee : e ≠ e') (hg : W.grownBy W' v'.ownBlock) : d.R e W' base ok v xs :=
  Kd.R_grown2 h hE hg (fun k hk => by
    obtain ⟨inner, ho⟩ := Kd.R_own h'
    obtain ⟨cells, hc⟩ := own_typed ho k hk
    exact Kd.R_ne h hc hee)
theorem own_ge {α : Type} {d : Kd α} {e base : Nat} {ok : Nat → Prop} {v : Value} {xs : List α} {W : World} (h : d.R e W base ok v xs) (k : Nat) (hk : v.ownBlock = some k) : base ≤ k := by
  obtain ⟨inner, ho⟩ := Kd.R_own h
  exact own_base ho k hk
theorem RInv.others {w0 : World} {xs : List Int} {A : Option Addr} {c g B : Nat} {vp : Value} {pool : List ByteArray} {W W' : World} {p : Nat} {row : Option Nat} (h : RInv w0 xs A c g B vp pool W p) (hg : W.grownBy W' row) (hr : ∀ j, row = some j → j ≠ g ∧ B ≤ j ∧ w0.heap.size ≤ j) : RInv w0 xs A c g B vp pool W' p where
  rd := blk_grown h.rd hg (fun e => (hr _ e.symm).1 rfl)
  pl := Kd.R_grown h.pl hg (fun k hk e => by have := (hr _ e.symm).2.1; omega)
  below := h.below.grown hg h.below.size (fun k hk => (hr k hk).2.2)
  xs_ := h.xs_
  cap := h.cap
  le := h.le

/-- What stands behind the reader: the result's variable g2, the locale's gl. -/
structure LInv (W0 w0 : World) (xs : List Int) (A : Option Addr) (c g B : Nat) (vp : Value) (pool : List ByteArray) (g2 gl : Nat) (W : World) (p : Nat) (tag : ByteArray) (S : List Int) (P : List ByteArray) (vr vc vk : Value) (rules : List Rl) (curs : List Cu) (comps : List Cm) : Prop where
  ri : RInv w0 xs A c g B vp pool W p
  lb : W.heap[gl]? = some (.cells (dcells tag S P vr vc vk).toArray 29 (0, 0))
  gx : ∃ cs, W.heap[g2]? = some (.cells cs 29 (0, 0)) ∧ cs.size = 15
  rr : kRl.R 57 W (gl + 1) (fun _ => True) vr rules
  rc : kCu.R 59 W (gl + 1) (fun _ => True) vc curs
  rk : kCm.R 61 W (gl + 1) (fun _ => True) vk comps
  gr : W0.grownBy W (some g)
  o1 : g < g2
  o2 : g2 < gl
  o3 : B ≤ gl
  o4 : W0.heap.size ≤ g2
section
variable {W0 w0 : World} {xs : List Int} {A : Option Addr} {c g B : Nat} {vp : Value} {pool : List ByteArray} {g2 gl : Nat} {W W' : World} {p p' : Nat} {tag tag' : ByteArray} {S S' : List Int} {P P' : List ByteArray} {vr vc vk v1 : Value} {rules : List Rl} {curs : List Cu} {comps : List Cm}
/-- The reader goes on. -/
theorem LInv.call (h : LInv W0 w0 xs A c g B vp pool g2 gl W p tag S P vr vc vk rules curs comps) (hg : W.grownBy W' (some g)) (hr : RInv w0 xs A c g B vp pool W' p') : LInv W0 w0 xs A c g B vp pool g2 gl W' p' tag S P vr vc vk rules curs comps where
  ri := hr
  lb := blk_grown h.lb hg (fun e => by injection e with e; have := h.o1; have := h.o2; omega)
  gx := by
    obtain ⟨cs, h1, h2⟩ := h.gx
    exact ⟨cs, blk_grown h1 hg (fun e => by injection e with e; have := h.o1; omega), h2⟩
  rr := Kd.R_grown2 h.rr rfl hg (fun k hk e => by injection hk with hk; have := own_ge h.rr k e.symm; have := h.o1; have := h.o2; omega)
  rc := Kd.R_grown2 h.rc rfl hg (fun k hk e => by injection hk with hk; have := own_ge h.rc k e.symm; have := h.o1; have := h.o2; omega)
  rk := Kd.R_grown2 h.rk rfl hg (fun k hk e => by injection hk with hk; have := own_ge h.rk k e.symm; have := h.o1; have := h.o2; omega)
  gr := h.gr.trans hg
  o1 := h.o1
  o2 := h.o2
  o3 := h.o3
  o4 := h.o4
theorem LInv.belowB (h : LInv W0 w0 xs A c g B vp pool g2 gl W p tag S P vr vc vk rules curs comps) (hb : Below W.heap.size W W') : LInv W0 w0 xs A c g B vp pool g2 gl W' p tag S P vr vc vk rules curs comps := h.call (grown_of_below' hb _) (h.ri.belowB hb)
/-- A cell of the locale that is none of its rows. -/
theorem LInv.setl (h : LInv W0 w0 xs A c g B vp pool g2 gl W p tag S P vr vc vk rules curs comps) (i : Nat) (u : Value) (he : (dcells tag S P vr vc vk).set i u = dcells tag' S' P' vr vc vk) : LInv W0 w0 xs A c g B vp pool g2 gl (W.setCell ⟨gl, i, none⟩ u) p tag' S' P' vr vc vk rules curs comps where
  ri := h.ri.others (grownBy_setc W gl i u) (fun j hj => by injection hj with hj; have := h.o1; have := h.o2; have := h.o3; have := h.ri.le; omega)
  lb := by
    have := blk_set h.lb i u
    rw [List.setIfInBounds_toArray, he] at this
    exact this
  gx := by
    obtain ⟨cs, h1, h2⟩ := h.gx
    exact ⟨cs, blk_other h1 (show g2 ≠ gl by have := h.o2; omega) u, h2⟩
  rr := Kd.R_grown2 h.rr rfl (grownBy_setc W gl i u) (fun k hk e => by injection hk with hk; have := own_ge h.rr k e.symm; omega)
  rc := Kd.R_grown2 h.rc rfl (grownBy_setc W gl i u) (fun k hk e => by injection hk with hk; have := own_ge h.rc k e.symm; omega)
  rk := Kd.R_grown2 h.rk rfl (grownBy_setc W gl i u) (fun k hk e => by injection hk with hk; have := own_ge h.rk k e.symm; omega)
  gr := grown_other h.gr (grownBy_setc W gl i u) (fun k hk => by injection hk with hk; have := h.o2; have := h.o4; omega)
  o1 := h.o1
  o2 := h.o2
  o3 := h.o3
  o4 := h.o4
/-- A row has grown, and its value is stored. -/
theorem LInv.stored (h : LInv W0 w0 xs A c g B vp pool g2 gl W p tag S P vr vc vk rules curs comps) {row : Option Nat} (hg : W.grownBy W' row) (hrow : ∀ k, row = some k → gl + 1 ≤ k) (i : Nat) {vr' vc' vk' : Value} {rules' : List Rl} {curs' : List Cu} {comps' : List Cm} (u : Value)
    (he : (dcells tag S P vr vc vk).set i u = dcells tag S P vr' vc' vk') (hr : kRl.R 57 W' (gl + 1) (fun _ => True) vr' rules') (hc : kCu.R 59 W' (gl + 1) (fun _ => True) vc' curs') (hk : kCm.R 61 W' (gl + 1) (fun _ => True) vk' comps') :
    LInv W0 w0 xs A c g B vp pool g2 gl (W'.setCell ⟨gl, i, none⟩ u) p tag S P vr' vc' vk' rules' curs' comps' where
  ri := (h.ri.others hg (fun j hj => by have := hrow j hj; have := h.o1; have := h.o2; have := h.o3; have := h.ri.le; omega)).others (grownBy_setc W' gl i u) (fun j hj => by injection hj with hj; have := h.o1; have := h.o2; have := h.o3; have := h.ri.le; omega)
  lb := by
    have := blk_set (blk_grown h.lb hg (fun e => by have := hrow _ e.symm; omega)) i u
    rw [List.setIfInBounds_toArray, he] at this
    exact this
  gx := by
    obtain ⟨cs, h1, h2⟩ := h.gx
    exact ⟨cs, blk_other (blk_grown h1 hg (fun e => by have := hrow _ e.symm; have := h.o2; omega)) (show g2 ≠ gl by have := h.o2; omega) u, h2⟩
  rr := Kd.R_grown2 hr rfl (grownBy_setc W' gl i u) (fun k hk e => by injection hk with hk; have := own_ge hr k e.symm; omega)
  rc := Kd.R_grown2 hc rfl (grownBy_setc W' gl i u) (fun k hk e => by injection hk with hk; have := own_ge hc k e.symm; omega)
  rk := Kd.R_grown2 hk rfl (grownBy_setc W' gl i u) (fun k hk' e => by injection hk' with hk'; have := own_ge hk k e.symm; omega)
  gr := grown_other (grown_other h.gr hg (fun k hk => by have := hrow k hk; have := h.o2; have := h.o4; omega)) (grownBy_setc W' gl i u) (fun k hk => by injection hk with hk; have := h.o2; have := h.o4; omega)
  o1 := h.o1
  o2 := h.o2
  o3 := h.o3
  o4 := h.o4
theorem LInv.cell (h : LInv W0 w0 xs A c g B vp pool g2 gl W p tag S P vr vc vk rules curs comps) (i : Nat) : W.cell? ⟨gl, i, none⟩ = (dcells tag S P vr vc vk)[i]? := by
  have := blk_cell h.lb i
  rw [List.getElem?_toArray] at this
  exact this
theorem LInv.free (h : LInv W0 w0 xs A c g B vp pool g2 gl W p tag S P vr vc vk rules curs comps) (i : Nat) : W.frozen? ⟨gl, i, none⟩ = false := blk_free h.lb i
theorem LInv.start {B0 : Nat} {vp0 v : Value} {W3 : World} (hI : RInv w0 xs A c g B0 vp0 [] W 0) (hb : Below (W.alloc (.cells (dcells ⟨#[]⟩ [0, 0, 0, 0, 0, 0, 0] [⟨#[]⟩, ⟨#[]⟩, ⟨#[]⟩, ⟨#[]⟩] (.slice none 0 0) (.slice none 0 0) (.slice none 0 0)).toArray 29)).heap.size (W.alloc (.cells (dcells ⟨#[]⟩ [0, 0, 0, 0, 0, 0, 0] [⟨#[]⟩, ⟨#[]⟩, ⟨#[]⟩, ⟨#[]⟩] (.slice none 0 0) (.slice none 0 0) (.slice none 0 0)).toArray 29)) W3)
    (ho : OwnS W3 (W.alloc (.cells (dcells ⟨#[]⟩ [0, 0, 0, 0, 0, 0, 0] [⟨#[]⟩, ⟨#[]⟩, ⟨#[]⟩, ⟨#[]⟩] (.slice none 0 0) (.slice none 0 0) (.slice none 0 0)).toArray 29)).heap.size v pool) :
    LInv W w0 xs A c g W3.heap.size v pool W.heap.size W3.heap.size (((W3.setCell ⟨g, 2, none⟩ v).setCell ⟨g, 1, none⟩ (.int .i64 p)).alloc (.cells (dcells ⟨#[]⟩ [0, 0, 0, 0, 0, 0, 0] [⟨#[]⟩, ⟨#[]⟩, ⟨#[]⟩, ⟨#[]⟩] (.slice none 0 0) (.slice none 0 0) (.slice none 0 0)).toArray 29)) p ⟨#[]⟩ [0, 0, 0, 0, 0, 0, 0] [⟨#[]⟩, ⟨#[]⟩, ⟨#[]⟩, ⟨#[]⟩] (.slice none 0 0) (.slice none 0 0) (.slice none 0 0) [] [] [] := by
  have hlt := blk_lt hI.rd
  have hs := hb.size
  rw [size_alloc] at hs ho hb
  have hrd : W3.heap[g]? = _ := blk_below (blk_alloc hI.rd _) hb (by omega)
  have hBel : Below w0.heap.size w0 W3 := below_then (hI.below.alloc hI.below.size _) (Nat.le_trans hI.below.size (by simp)) (by rw [size_alloc]; exact hb)
  have hsz : ((W3.setCell ⟨g, 2, none⟩ v).setCell ⟨g, 1, none⟩ (.int .i64 p)).heap.size = W3.heap.size := by simp [World.setCell]
  have hgr : W.grownBy W3 (some g) := ⟨hb.os, hb.tape, hb.output, by omega, fun k hk _ => (hb.block k (by omega)).trans (Below.heap_alloc W _ k hk)⟩
  refine ⟨⟨blk_alloc (blk_set (blk_set hrd 2 v) 1 (.int .i64 p)) _, ?_, ((hBel.setCell hI.le _).setCell hI.le _).alloc (by rw [hsz]; exact hBel.size) _, hI.xs_, hI.cap, hI.le⟩, ?_, ⟨_, blk_alloc (blk_other (blk_other (blk_below (blk_new W _) hb (by omega)) (show W.heap.size ≠ g by omega) v) (show W.heap.size ≠ g by omega) _) _, rfl⟩, Kd.R_nil _ _ _ _ _, Kd.R_nil _ _ _ _ _, Kd.R_nil _ _ _ _ _, ?_, hlt, by omega, Nat.le_refl _, Nat.le_refl _⟩
  · have h1 := Kd.R_bound ho
    have h2 := Kd.R_grown h1 (grownBy_setc W3 g 2 v) (fun k hk e => by injection e with e; have := hk.2.1; omega)
    have h3 := Kd.R_grown h2 (grownBy_setc (W3.setCell ⟨g, 2, none⟩ v) g 1 (.int .i64 p)) (fun k hk e => by injection e with e; have := hk.2.1; omega)
    exact Kd.R_mono (Kd.R_lower (Kd.R_alloc h3 _) (by omega)) (fun k hk => hk.2.2.1)
  · have := blk_new ((W3.setCell ⟨g, 2, none⟩ v).setCell ⟨g, 1, none⟩ (.int .i64 p)) (.cells (dcells ⟨#[]⟩ [0, 0, 0, 0, 0, 0, 0] [⟨#[]⟩, ⟨#[]⟩, ⟨#[]⟩, ⟨#[]⟩] (.slice none 0 0) (.slice none 0 0) (.slice none 0 0)).toArray 29)
    rw [hsz] at this
    exact this
  · refine grown_other (row := none) ((hgr.trans (grownBy_setc _ _ _ _)).trans (grownBy_setc _ _ _ _)) (World.grownBy_alloc _ _ _) (fun k hk => by cases hk)
end
/-- The pointers to the seven signs. -/
def ptrs (gl : Nat) : List Value := [.pointer (some ⟨gl, 1, none⟩), .pointer (some ⟨gl, 2, none⟩), .pointer (some ⟨gl, 3, none⟩), .pointer (some ⟨gl, 4, none⟩), .pointer (some ⟨gl, 5, none⟩), .pointer (some ⟨gl, 6, none⟩), .pointer (some ⟨gl, 7, none⟩)]
theorem ptrs_get (gl k : Nat) (h : k < 7) : (ptrs gl)[k]? = some (.pointer (some ⟨gl, 1 + k, none⟩)) := by
  match k, h with
  | 0, _ => rfl
  | 1, _ => rfl
  | 2, _ => rfl
  | 3, _ => rfl
  | 4, _ => rfl
  | 5, _ => rfl
  | 6, _ => rfl
theorem dcells_get1 (tag : ByteArray) (S : List Int) (P : List ByteArray) (vr vc vk : Value) (k : Nat) (h : k < S.length) : (dcells tag S P vr vc vk)[1 + k]? = some (.int .i32 S[k]) := by
  unfold dcells
  rw [Nat.add_comm 1, List.getElem?_cons_succ, List.getElem?_append_left (by simpa using h)]
  simp [h]
theorem dcells_get2 (tag : ByteArray) (S : List Int) (P : List ByteArray) (vr vc vk : Value) (hS : S.length = 7) (k : Nat) (h : k < P.length) : (dcells tag S P vr vc vk)[8 + k]? = some (.string P[k]) := by
  unfold dcells
  rw [show 8 + k = (7 + k) + 1 by omega, List.getElem?_cons_succ, List.getElem?_append_right (by simp [hS]), List.getElem?_append_left (by simp [hS]; omega)]
  simp [hS, h]
section
variable (tag : ByteArray) (S : List Int) (P : List ByteArray) (vr vc vk u : Value) (hS : S.length = 7) (hP : P.length = 4)
include hS hP
theorem dcells_12 : (dcells tag S P vr vc vk)[12]? = some vr := by simp [dcells, List.getElem?_append, hS, hP]
theorem dcells_13 : (dcells tag S P vr vc vk)[13]? = some vc := by simp [dcells, List.getElem?_append, hS, hP]
theorem dcells_14 : (dcells tag S P vr vc vk)[14]? = some vk := by simp [dcells, List.getElem?_append, hS, hP]
theorem dcells_set12 : (dcells tag S P vr vc vk).set 12 u = dcells tag S P u vc vk := by simp [dcells, List.set_append, hS, hP]
theorem dcells_set13 : (dcells tag S P vr vc vk).set 13 u = dcells tag S P vr u vk := by simp [dcells, List.set_append, hS, hP]
theorem dcells_set14 : (dcells tag S P vr vc vk).set 14 u = dcells tag S P vr vc u := by simp [dcells, List.set_append, hS, hP]
end
/-- A panic out of a region that draws: the goal, held as a region's end. -/
theorem panic_dummy {P : Program} {md : Region.Mode} {G : Prop} {w : World} (h : wpAny P md #[] (fun _ _ _ => G) 0 #[] { tmps := #[], defers := [] } w) : G := by
  unfold wpAny at h
  exact h.2
theorem seven {S : List Int} (h : S.length = 7) : ∃ s0 s1 s2 s3 s4 s5 s6, S = [s0, s1, s2, s3, s4, s5, s6] := by
  match S, h with
  | [s0, s1, s2, s3, s4, s5, s6], _ => exact ⟨_, _, _, _, _, _, _, rfl⟩
theorem four {S : List ByteArray} (h : S.length = 4) : ∃ s0 s1 s2 s3, S = [s0, s1, s2, s3] := by
  match S, h with
  | [s0, s1, s2, s3], _ => exact ⟨_, _, _, _, rfl⟩
theorem fifteen {cs : Array Value} (h : cs.size = 15) : ∃ y0 y1 y2 y3 y4 y5 y6 y7 y8 y9 y10 y11 y12 y13 y14, cs = #[y0, y1, y2, y3, y4, y5, y6, y7, y8, y9, y10, y11, y12, y13, y14] := by
  obtain ⟨l⟩ := cs
  match l, h with
  | [y0, y1, y2, y3, y4, y5, y6, y7, y8, y9, y10, y11, y12, y13, y14], _ => exact ⟨_, _, _, _, _, _, _, _, _, _, _, _, _, _, _, rfl⟩
/-- What is left of the state while the result's variable is written. -/
structure FI (W0 W : World) (g g2 gl : Nat) (vr vc vk : Value) (rules : List Rl) (curs : List Cu) (comps : List Cm) : Prop where
  rr : kRl.R 57 W (gl + 1) (fun _ => True) vr rules
  rc : kCu.R 59 W (gl + 1) (fun _ => True) vc curs
  rk : kCm.R 61 W (gl + 1) (fun _ => True) vk comps
  gr : W0.grownBy W (some g)
  o2 : g2 < gl
  o4 : W0.heap.size ≤ g2
theorem FI.set {W0 W : World} {g g2 gl : Nat} {vr vc vk : Value} {rules : List Rl} {curs : List Cu} {comps : List Cm} (h : FI W0 W g g2 gl vr vc vk rules curs comps) (i : Nat) (u : Value) : FI W0 (W.setCell ⟨g2, i, none⟩ u) g g2 gl vr vc vk rules curs comps where
  rr := Kd.R_grown2 h.rr rfl (grownBy_setc W g2 i u) (fun k hk e => by injection hk with hk; have := own_ge h.rr k e.symm; have := h.o2; omega)
  rc := Kd.R_grown2 h.rc rfl (grownBy_setc W g2 i u) (fun k hk e => by injection hk with hk; have := own_ge h.rc k e.symm; have := h.o2; omega)
  rk := Kd.R_grown2 h.rk rfl (grownBy_setc W g2 i u) (fun k hk e => by injection hk with hk; have := own_ge h.rk k e.symm; have := h.o2; omega)
  gr := grown_other h.gr (grownBy_setc W g2 i u) (fun k hk => by injection hk with hk; have := h.o4; omega)
  o2 := h.o2
  o4 := h.o4
theorem FI.reads {W0 W : World} {g g2 gl : Nat} {vr vc vk : Value} {rules : List Rl} {curs : List Cu} {comps : List Cm} (h : FI W0 W g g2 gl vr vc vk rules curs comps) (tag : ByteArray) (s0 s1 s2 s3 s4 s5 s6 : Int) (a0 a1 a2 a3 : ByteArray) :
    RdL W (mkLoc tag [s0, s1, s2, s3, s4, s5, s6] [a0, a1, a2, a3] rules curs comps) (dcells tag [s0, s1, s2, s3, s4, s5, s6] [a0, a1, a2, a3] vr vc vk) := by
  obtain ⟨Ar, cr, rfl, h1, h2⟩ := Kd.R_reads h.rr
  obtain ⟨Ac, cc, rfl, h3, h4⟩ := Kd.R_reads h.rc
  obtain ⟨Ak, ck, rfl, h5, h6⟩ := Kd.R_reads h.rk
  exact ⟨Ar, cr, Ac, cc, Ak, ck, rfl, h1, h3, h5, h2, h4, h6⟩
/-- Fifteen cells that read as a locale, its rows the call's own. -/
def OwnL (W : World) (base : Nat) (l : Loc) (L : List Value) : Prop :=
  ∃ vr vc vk, L = lcells l vr vc vk ∧ kRl.R 57 W base (fun _ => True) vr l.rules ∧ kCu.R 59 W base (fun _ => True) vc l.curs ∧ kCm.R 61 W base (fun _ => True) vk l.comps
theorem OwnL.reads {W : World} {base : Nat} {l : Loc} {L : List Value} (h : OwnL W base l L) : RdL W l L := by
  obtain ⟨vr, vc, vk, rfl, h1, h2, h3⟩ := h
  obtain ⟨Ar, cr, rfl, k1, k2⟩ := Kd.R_reads h1
  obtain ⟨Ac, cc, rfl, k3, k4⟩ := Kd.R_reads h2
  obtain ⟨Ak, ck, rfl, k5, k6⟩ := Kd.R_reads h3
  exact ⟨Ar, cr, Ac, cc, Ak, ck, rfl, k1, k3, k5, k2, k4, k6⟩
theorem OwnL.setc {W : World} {base : Nat} {l : Loc} {L : List Value} (h : OwnL W base l L) (b i : Nat) (u : Value) (hb : b < base) : OwnL (W.setCell ⟨b, i, none⟩ u) base l L := by
  obtain ⟨vr, vc, vk, rfl, h1, h2, h3⟩ := h
  refine ⟨vr, vc, vk, rfl, ?_, ?_, ?_⟩
  · exact Kd.R_grown2 h1 rfl (grownBy_setc W b i u) (fun k hk e => by injection hk with hk; have := own_ge h1 k e.symm; omega)
  · exact Kd.R_grown2 h2 rfl (grownBy_setc W b i u) (fun k hk e => by injection hk with hk; have := own_ge h2 k e.symm; omega)
  · exact Kd.R_grown2 h3 rfl (grownBy_setc W b i u) (fun k hk e => by injection hk with hk; have := own_ge h3 k e.symm; omega)
theorem OwnL.lower {W : World} {base base' : Nat} {l : Loc} {L : List Value} (h : OwnL W base l L) (hb : base' ≤ base) : OwnL W base' l L := by
  obtain ⟨vr, vc, vk, rfl, h1, h2, h3⟩ := h
  exact ⟨vr, vc, vk, rfl, Kd.R_lower h1 hb, Kd.R_lower h2 hb, Kd.R_lower h3 hb⟩
theorem FI.owns {W0 W : World} {g g2 gl : Nat} {vr vc vk : Value} {rules : List Rl} {curs : List Cu} {comps : List Cm} (h : FI W0 W g g2 gl vr vc vk rules curs comps) (tag : ByteArray) (s0 s1 s2 s3 s4 s5 s6 : Int) (a0 a1 a2 a3 : ByteArray) :
    OwnL W W0.heap.size (mkLoc tag [s0, s1, s2, s3, s4, s5, s6] [a0, a1, a2, a3] rules curs comps) (dcells tag [s0, s1, s2, s3, s4, s5, s6] [a0, a1, a2, a3] vr vc vk) := by
  have h1 := h.o2
  have h2 := h.o4
  exact ⟨vr, vc, vk, rfl, Kd.R_lower h.rr (by omega), Kd.R_lower h.rc (by omega), Kd.R_lower h.rk (by omega)⟩
end Go.Proofs.Ytfbmgjanplnabaa
/- What the locale's walk hands back. -/
namespace Go.Proofs.Ytfbmgjanplnabaa
open Go.RowKit Go.Proofs.YtfbmgjanplnabaaW.PrintWords Go.Proofs.YtfbmgjanplnabaaW.PrintLast Go.Proofs.YtfbmgjanplnabaaW.PrintMore
set_option linter.unusedVariables false
set_option linter.unusedSimpArgs false

set_option maxHeartbeats 1600000 in
set_option maxRecDepth 100000 in
theorem results_loc (W : World) (g2 : Nat) (tmps : Array Value) (ht : tmps[2]? = some (.pointer (some ⟨g2, 0, none⟩))) (v0 v1 v2 v3 v4 v5 v6 v7 v8 v9 v10 v11 v12 v13 v14 : Value) (h : W.heap[g2]? = some (.cells #[v0, v1, v2, v3, v4, v5, v6, v7, v8, v9, v10, v11, v12, v13, v14] 29 (0, 0))) : (results Try.f51 tmps).run Try.prog W = .ok (.agg #[v0, v1, v2, v3, v4, v5, v6, v7, v8, v9, v10, v11, v12, v13, v14]) W := by
  have h0 := blk_cell h 0
  have h1 := blk_cell h 1
  have h2 := blk_cell h 2
  have h3 := blk_cell h 3
  have h4 := blk_cell h 4
  have h5 := blk_cell h 5
  have h6 := blk_cell h 6
  have h7 := blk_cell h 7
  have h8 := blk_cell h 8
  have h9 := blk_cell h 9
  have h10 := blk_cell h 10
  have h11 := blk_cell h 11
  have h12 := blk_cell h 12
  have h13 := blk_cell h 13
  have h14 := blk_cell h 14
  simp only [List.getElem?_toArray, List.getElem?_cons_zero, List.getElem?_cons_succ] at h0 h1 h2 h3 h4 h5 h6 h7 h8 h9 h10 h11 h12 h13 h14
  clear h
  simp [results, Try.results51, go_sem, ht, h0, h1, h2, h3, h4, h5, h6, h7, h8, h9, h10, h11, h12, h13, h14]
theorem set15 (W : World) (g2 : Nat) (v0 v1 v2 v3 v4 v5 v6 v7 v8 v9 v10 v11 v12 v13 v14 y0 y1 y2 y3 y4 y5 y6 y7 y8 y9 y10 y11 y12 y13 y14 : Value) (h : W.heap[g2]? = some (.cells #[y0, y1, y2, y3, y4, y5, y6, y7, y8, y9, y10, y11, y12, y13, y14] 29 (0, 0))) : (((((((((((((((W.setCell ⟨g2, 0, none⟩ v0).setCell ⟨g2, 1, none⟩ v1).setCell ⟨g2, 2, none⟩ v2).setCell ⟨g2, 3, none⟩ v3).setCell ⟨g2, 4, none⟩ v4).setCell ⟨g2, 5, none⟩ v5).setCell ⟨g2, 6, none⟩ v6).setCell ⟨g2, 7, none⟩ v7).setCell ⟨g2, 8, none⟩ v8).setCell ⟨g2, 9, none⟩ v9).setCell ⟨g2, 10, none⟩ v10).setCell ⟨g2, 11, none⟩ v11).setCell ⟨g2, 12, none⟩ v12).setCell ⟨g2, 13, none⟩ v13).setCell ⟨g2, 14, none⟩ v14).heap[g2]? = some (.cells #[v0, v1, v2, v3, v4, v5, v6, v7, v8, v9, v10, v11, v12, v13, v14] 29 (0, 0)) := by
  have k0 := blk_set h 0 v0
  simp only [List.setIfInBounds_toArray, List.set_cons_zero, List.set_cons_succ] at k0
  have k1 := blk_set k0 1 v1
  simp only [List.setIfInBounds_toArray, List.set_cons_zero, List.set_cons_succ] at k1
  have k2 := blk_set k1 2 v2
  simp only [List.setIfInBounds_toArray, List.set_cons_zero, List.set_cons_succ] at k2
  have k3 := blk_set k2 3 v3
  simp only [List.setIfInBounds_toArray, List.set_cons_zero, List.set_cons_succ] at k3
  have k4 := blk_set k3 4 v4
  simp only [List.setIfInBounds_toArray, List.set_cons_zero, List.set_cons_succ] at k4
  have k5 := blk_set k4 5 v5
  simp only [List.setIfInBounds_toArray, List.set_cons_zero, List.set_cons_succ] at k5
  have k6 := blk_set k5 6 v6
  simp only [List.setIfInBounds_toArray, List.set_cons_zero, List.set_cons_succ] at k6
  have k7 := blk_set k6 7 v7
  simp only [List.setIfInBounds_toArray, List.set_cons_zero, List.set_cons_succ] at k7
  have k8 := blk_set k7 8 v8
  simp only [List.setIfInBounds_toArray, List.set_cons_zero, List.set_cons_succ] at k8
  have k9 := blk_set k8 9 v9
  simp only [List.setIfInBounds_toArray, List.set_cons_zero, List.set_cons_succ] at k9
  have k10 := blk_set k9 10 v10
  simp only [List.setIfInBounds_toArray, List.set_cons_zero, List.set_cons_succ] at k10
  have k11 := blk_set k10 11 v11
  simp only [List.setIfInBounds_toArray, List.set_cons_zero, List.set_cons_succ] at k11
  have k12 := blk_set k11 12 v12
  simp only [List.setIfInBounds_toArray, List.set_cons_zero, List.set_cons_succ] at k12
  have k13 := blk_set k12 13 v13
  simp only [List.setIfInBounds_toArray, List.set_cons_zero, List.set_cons_succ] at k13
  have k14 := blk_set k13 14 v14
  simp only [List.setIfInBounds_toArray, List.set_cons_zero, List.set_cons_succ] at k14
  exact k14
end Go.Proofs.Ytfbmgjanplnabaa

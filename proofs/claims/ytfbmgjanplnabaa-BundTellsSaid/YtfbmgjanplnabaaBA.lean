import Derived.Test.YtfbmgjanplnabaaPBundTellsx0
import Derived.OneCell
import Derived.ChangeKeysEq
import Derived.Laws.StructEq
import Derived.Lib.SliceRun
import Derived.Lib.AppendZerosOnto
import Derived.Deep.RegionLaw
import Derived.Deep.AppendLies
import Derived.WalkLawsBesides
import Derived.Laws.Cover3
import Derived.LoopN
/- General words of this claim on blocks of memory: what a block's cells hold, and what becomes of it. Plain lemmas on any world. -/
namespace Go.Proofs.Ytfbmgjanplnabaa
open Go.RowKit Go.Proofs.YtfbmgjanplnabaaW.PrintWords Go.Proofs.YtfbmgjanplnabaaW.PrintLast Go.Proofs.YtfbmgjanplnabaaW.PrintMore
set_option linter.unusedVariables false
set_option linter.unusedSimpArgs false

section
variable {w : World} {g : Nat} {cs : Array Value} {t : TypeId}
theorem blk_lt {o : Obj} (h : w.heap[g]? = some o) : g < w.heap.size := lt_of_block h
theorem blk_cell (h : w.heap[g]? = some (.cells cs t (0, 0))) (i : Nat) : w.cell? ⟨g, i, none⟩ = cs[i]? := by simp [World.cell?, h]
theorem blk_free (h : w.heap[g]? = some (.cells cs t (0, 0))) (i : Nat) : w.frozen? ⟨g, i, none⟩ = false := by simp [World.frozen?, h]
theorem blk_set (h : w.heap[g]? = some (.cells cs t (0, 0))) (i : Nat) (u : Value) : (w.setCell ⟨g, i, none⟩ u).heap[g]? = some (.cells (cs.setIfInBounds i u) t (0, 0)) := by
  have hlt := lt_of_block h
  have h' : w.heap[g] = .cells cs t (0, 0) := by simpa [Array.getElem?_eq_getElem hlt] using h
  show (w.heap.modify g _)[g]? = _
  rw [Array.getElem?_eq_getElem (by simpa using hlt), Array.getElem_modify_self, h']
  rfl
theorem blk_other {o : Obj} (h : w.heap[g]? = some o) {p : Addr} (hne : g ≠ p.block) (u : Value) : (w.setCell p u).heap[g]? = some o := by rw [Below.heap_setCell w p u g hne]; exact h
theorem blk_alloc {o : Obj} (h : w.heap[g]? = some o) (o' : Obj) : (w.alloc o').heap[g]? = some o := by rw [Below.heap_alloc w o' g (lt_of_block h)]; exact h
theorem blk_below {o : Obj} {w1 : World} {B : Nat} (h : w.heap[g]? = some o) (hb : Below B w w1) (hg : g < B) : w1.heap[g]? = some o := by rw [hb.block g hg]; exact h
theorem blk_grown {o : Obj} {w1 : World} {row : Option Nat} (h : w.heap[g]? = some o) (hb : w.grownBy w1 row) (hg : some g ≠ row) : w1.heap[g]? = some o := by rw [hb.block g (lt_of_block h) hg]; exact h
end
theorem add_block (a : Addr) (n : Nat) : (a.add n).block = a.block := by unfold Addr.add; split <;> rfl
theorem grownBy_setc (w : World) (b i : Nat) (v : Value) : w.grownBy (w.setCell ⟨b, i, none⟩ v) (some b) :=
  ⟨rfl, rfl, rfl, by simp [World.setCell], fun k _ hk => Below.heap_setCell w _ v k (fun e => hk (by rw [e]))⟩
theorem blk_new (w : World) (o : Obj) : (w.alloc o).heap[w.heap.size]? = some o := heap_alloc_new w o
theorem blk_new1 (w : World) (o o' : Obj) : ((w.alloc o').alloc o).heap[w.heap.size + 1]? = some o := by have := heap_alloc_new (w.alloc o') o; simpa using this
theorem size_alloc (w : World) (o : Obj) : (w.alloc o).heap.size = w.heap.size + 1 := by simp
/-- What is read lies below the heap's size. -/
theorem C_block {α : Type} {d : Kd α} (hd : 0 < d.sz) {w : World} {A : Option Addr} {n : Nat} {xs : List α} (h : d.C w A n xs) (hn : 0 < xs.length) : ∀ ad, A = some ad → ad.block < w.heap.size := by
  intro ad e
  obtain ⟨ad', c, e', hl, _, hc⟩ := Kd.C_get h (xs[0]'hn) 0 (by omega) (by have := h.1; omega)
  rw [e] at e'
  injection e' with e'
  subst e'
  have h0 : 0 < c.length := by omega
  have := hc 0 c[0] (by simp [h0])
  have := World.block_lt_of_cell? w _ this
  rwa [add_block] at this
/-- A block of whole numbers is read as these. -/
theorem C_blk {w : World} {g : Nat} {t : TypeId} {fr : Nat × Nat} (k : IntKind) (xs : List Int) (h : w.heap[g]? = some (.cells (xs.map (Value.int k)).toArray t fr)) (hm : xs.length ≤ 9223372036854775807) : (Kd.int k).C w (some ⟨g, 0, none⟩) xs.length xs := by
  refine Kd.C_of_reads (d := (0 : Int)) (h1 := fun _ => rfl) ⟨rfl, hm, fun _ => ⟨_, rfl, fun j hj => ?_⟩⟩
  rw [add_plain]
  simp [World.cell?, h, List.getElem?_eq_getElem hj, List.getD_eq_getElem?_getD]
/-- What is read has a plain place. -/
theorem C_plain {k : IntKind} {w : World} {A : Option Addr} {xs : List Int} (h : (Kd.int k).C w A xs.length xs) (hn : 0 < xs.length) : ∃ b off, A = some ⟨b, off, none⟩ ∧ ∀ j, j < xs.length → w.cell? ⟨b, off + j, none⟩ = some (.int k (rd xs j)) := by
  obtain ⟨ad, e, hc⟩ := Kd.at_int h 0 (by omega) (by omega)
  obtain ⟨b, off, sp⟩ := ad
  have hsp : sp = none := by
    cases sp with
    | none => rfl
    | some s =>
      exfalso
      simp only [Int.toNat_zero, Addr.add, World.cell?] at hc
      revert hc
      simp
      split <;> simp
  subst hsp
  refine ⟨b, off, e, fun j hj => ?_⟩
  obtain ⟨ad', e', hc'⟩ := Kd.at_int h (j : Int) (by omega) (by omega)
  rw [e] at e'
  injection e' with e'
  subst e'
  rw [Int.toNat_natCast] at hc'
  unfold Addr.add at hc'
  split at hc'
  · rename_i h0
    subst h0
    exact hc'
  · exact hc'
theorem sz_int (k : IntKind) : 0 < (Kd.int k).sz := by show 0 < 1; omega
theorem below_grown {B : Nat} {a w w' : World} {g : Nat} (h : Below B a w) (hg : w.grownBy w' (some g)) (hB : B ≤ w.heap.size) (hr : B ≤ g) : Below B a w' := h.grown hg hB (fun k hk => by injection hk with hk; omega)
end Go.Proofs.Ytfbmgjanplnabaa
/- '==' of arrays of four. -/
namespace Go.Proofs.Ytfbmgjanplnabaa
open Go.RowKit
set_option linter.unusedVariables false
set_option linter.unusedSimpArgs false

theorem run_eqItems4 {e : TypeId} (x0 x1 x2 x3 y0 y1 y2 y3 : Value) (b0 b1 b2 b3 : Bool) (w : World) (hagg : ∀ w, (isAgg e).run Try.prog w = .ok false w)
    (h0 : (Op.equalIn 9999 e x0 y0).run Try.prog w = .ok b0 w) (h1 : (Op.equalIn 9999 e x1 y1).run Try.prog w = .ok b1 w) (h2 : (Op.equalIn 9999 e x2 y2).run Try.prog w = .ok b2 w) (h3 : (Op.equalIn 9999 e x3 y3).run Try.prog w = .ok b3 w) :
    (Op.eqItems 9999 e 1 #[x0, x1, x2, x3] #[y0, y1, y2, y3] [0, 1, 2, 3]).run Try.prog w = .ok (b0 && b1 && b2 && b3) w := by
  have hp : ∀ (cs : Array Value) (i : Nat) (v : Value), cs[i]? = some v → (part e cs i).run Try.prog w = .ok v w := by
    intro cs i v h
    simp [part, hagg, h]
  simp only [Op.eqItems, Sem.run_bind, Nat.zero_mul, Nat.one_mul, Nat.mul_one]
  rw [hp _ 0 x0 rfl, Result.andThen_ok, hp _ 0 y0 rfl, Result.andThen_ok, h0, Result.andThen_ok]
  cases b0
  · simp
  simp only [Bool.not_true, Bool.false_eq_true, if_false, Sem.run_bind]
  rw [hp _ 1 x1 rfl, Result.andThen_ok, hp _ 1 y1 rfl, Result.andThen_ok, h1, Result.andThen_ok]
  cases b1
  · simp
  simp only [Bool.not_true, Bool.false_eq_true, if_false, Sem.run_bind]
  rw [hp _ 2 x2 rfl, Result.andThen_ok, hp _ 2 y2 rfl, Result.andThen_ok, h2, Result.andThen_ok]
  cases b2
  · simp
  simp only [Bool.not_true, Bool.false_eq_true, if_false, Sem.run_bind]
  rw [hp _ 3 x3 rfl, Result.andThen_ok, hp _ 3 y3 rfl, Result.andThen_ok, h3, Result.andThen_ok]
  cases b3
  · simp
  simp

theorem info5a : ∃ i, Try.prog.info? 5 = some i := Option.isSome_iff_exists.1 (by kernel_rfl)
theorem info9a : ∃ i, Try.prog.info? 9 = some i := Option.isSome_iff_exists.1 (by kernel_rfl)
theorem agg5 (w : World) : (isAgg 5).run Try.prog w = .ok false w := by kernel_rfl
theorem agg9 (w : World) : (isAgg 9).run Try.prog w = .ok false w := by kernel_rfl
theorem eq_arr50 (x0 x1 x2 x3 y0 y1 y2 y3 : Int) (w : World) :
    (Op.equalIn 10000 50 (.agg #[.int .u8 x0, .int .u8 x1, .int .u8 x2, .int .u8 x3]) (.agg #[.int .u8 y0, .int .u8 y1, .int .u8 y2, .int .u8 y3])).run Try.prog w = .ok (x0 == y0 && x1 == y1 && x2 == y2 && x3 == y3) w := by
  obtain ⟨i, hi⟩ := info5a
  rw [run_equalIn_array w 9999 _ _ Try.underlying50 hi, show Try.prog.cellsOf 5 = 1 by kernel_rfl]
  exact run_eqItems4 _ _ _ _ _ _ _ _ _ _ _ _ w agg5 (run_equalIn_int w 9998 5 _ _ _ _ Try.underlying5) (run_equalIn_int w 9998 5 _ _ _ _ Try.underlying5) (run_equalIn_int w 9998 5 _ _ _ _ Try.underlying5) (run_equalIn_int w 9998 5 _ _ _ _ Try.underlying5)
theorem eq_arr24 (x0 x1 x2 x3 y0 y1 y2 y3 : ByteArray) (w : World) :
    (Op.equalIn 10000 24 (.agg #[.string x0, .string x1, .string x2, .string x3]) (.agg #[.string y0, .string y1, .string y2, .string y3])).run Try.prog w = .ok (x0.toList == y0.toList && x1.toList == y1.toList && x2.toList == y2.toList && x3.toList == y3.toList) w := by
  obtain ⟨i, hi⟩ := info9a
  rw [run_equalIn_array w 9999 _ _ Try.underlying24 hi, show Try.prog.cellsOf 9 = 1 by kernel_rfl]
  exact run_eqItems4 _ _ _ _ _ _ _ _ _ _ _ _ w agg9 (run_equalIn_string w 9998 9 _ _ Try.underlying9) (run_equalIn_string w 9998 9 _ _ Try.underlying9) (run_equalIn_string w 9998 9 _ _ Try.underlying9) (run_equalIn_string w 9998 9 _ _ Try.underlying9)
end Go.Proofs.Ytfbmgjanplnabaa
/- A locale as Lean data, and what its cells are. -/
namespace Go.Proofs.Ytfbmgjanplnabaa
open Go.RowKit Go.Proofs.YtfbmgjanplnabaaW.PrintWords Go.Proofs.YtfbmgjanplnabaaW.PrintLast Go.Proofs.YtfbmgjanplnabaaW.PrintMore
set_option linter.unusedVariables false
set_option linter.unusedSimpArgs false

theorem toList_inj {s t : ByteArray} (h : s.toList = t.toList) : s = t := by
  have : s.data.toList = t.data.toList := by rw [ByteArray.toList_eq, ByteArray.toList_eq] at h; exact h
  cases s; cases t
  congr 1
  exact Array.toList_inj.1 this
instance : LawfulBEq ByteArray where
  eq_of_beq := fun {a b} h => by rw [beq_toListBytes] at h; exact toList_inj (by simpa using h)
  rfl := fun {a} => by rw [beq_toListBytes]; simp

structure Sy where
  z0 : Int
  z1 : Int
  z2 : Int
  z3 : Int
  z4 : Int
  z5 : Int
  z6 : Int
deriving DecidableEq
abbrev Rl := Int × ByteArray
abbrev Cu := ByteArray × (ByteArray × Int)
abbrev Cm := Int × (Int × ByteArray)
structure Loc where
  tag : ByteArray
  s : Sy
  p0 : ByteArray
  p1 : ByteArray
  p2 : ByteArray
  p3 : ByteArray
  rules : List Rl
  curs : List Cu
  comps : List Cm
deriving DecidableEq

/-- The kinds of the three structs in a locale's rows (types 57, 59, 61). -/
def kRl : Kd Rl := Kd.pair (Kd.int .i64) Kd.string
def kCu : Kd Cu := Kd.pair Kd.string (Kd.pair Kd.string (Kd.int .i64))
def kCm : Kd Cm := Kd.pair (Kd.int .i64) (Kd.pair (Kd.int .i64) Kd.string)
theorem sz_Rl : kRl.sz = 2 := rfl
theorem sz_Cu : kCu.sz = 3 := rfl
theorem sz_Cm : kCm.sz = 3 := rfl
theorem pos_Rl : 0 < kRl.sz := Nat.succ_pos 1
theorem pos_Cu : 0 < kCu.sz := Nat.succ_pos 2
theorem pos_Cm : 0 < kCm.sz := Nat.succ_pos 2

def Sy.cells (s : Sy) : List Value := [.int .i32 s.z0, .int .i32 s.z1, .int .i32 s.z2, .int .i32 s.z3, .int .i32 s.z4, .int .i32 s.z5, .int .i32 s.z6]
/-- A locale's fifteen cells. -/
def lcells (l : Loc) (vr vc vk : Value) : List Value :=
  [.string l.tag, .int .i32 l.s.z0, .int .i32 l.s.z1, .int .i32 l.s.z2, .int .i32 l.s.z3, .int .i32 l.s.z4, .int .i32 l.s.z5, .int .i32 l.s.z6, .string l.p0, .string l.p1, .string l.p2, .string l.p3, vr, vc, vk]
theorem lcells_length (l : Loc) (vr vc vk : Value) : (lcells l vr vc vk).length = 15 := rfl

/-- Fifteen cells that read as a locale. -/
def RdL (w : World) (l : Loc) (L : List Value) : Prop :=
  ∃ Ar cr Ac cc Ak ck, L = lcells l (.slice Ar l.rules.length cr) (.slice Ac l.curs.length cc) (.slice Ak l.comps.length ck) ∧ l.rules.length ≤ cr ∧ l.curs.length ≤ cc ∧ l.comps.length ≤ ck ∧
    kRl.C w Ar l.rules.length l.rules ∧ kCu.C w Ac l.curs.length l.curs ∧ kCm.C w Ak l.comps.length l.comps
theorem RdL.below {w w1 : World} {l : Loc} {L : List Value} (h : RdL w l L) (hb : Below w.heap.size w w1) : RdL w1 l L := by
  obtain ⟨Ar, cr, Ac, cc, Ak, ck, rfl, h1, h2, h3, h4, h5, h6⟩ := h
  exact ⟨Ar, cr, Ac, cc, Ak, ck, rfl, h1, h2, h3, Kd.C_below h4 hb, Kd.C_below h5 hb, Kd.C_below h6 hb⟩

/-- An element of each row, cell by cell. -/
theorem at_Rl {w : World} {A : Option Addr} {xs : List Rl} (h : kRl.C w A xs.length xs) (k : Nat) (hk : k < xs.length) : ∃ ad, A = some ad ∧ w.cell? (ad.add (k * 2)) = some (.int .i64 xs[k].1) ∧ w.cell? (ad.add (k * 2 + 1)) = some (.string xs[k].2) := by
  obtain ⟨ad, c, e, _, hK, hc⟩ := Kd.C_get h xs[k] (k : Int) (by omega) (by omega)
  rw [Int.toNat_natCast] at hK hc
  simp only [List.getD_eq_getElem?_getD, List.getElem?_eq_getElem hk, Option.getD_some] at hK
  obtain ⟨c0, c1, rfl, h0, h1⟩ := hK
  cases h0
  cases h1
  exact ⟨ad, e, hc 0 _ rfl, hc 1 _ rfl⟩
theorem at_Cu {w : World} {A : Option Addr} {xs : List Cu} (h : kCu.C w A xs.length xs) (k : Nat) (hk : k < xs.length) : ∃ ad, A = some ad ∧ w.cell? (ad.add (k * 3)) = some (.string xs[k].1) ∧ w.cell? (ad.add (k * 3 + 1)) = some (.string xs[k].2.1) ∧ w.cell? (ad.add (k * 3 + 2)) = some (.int .i64 xs[k].2.2) := by
  obtain ⟨ad, c, e, _, hK, hc⟩ := Kd.C_get h xs[k] (k : Int) (by omega) (by omega)
  rw [Int.toNat_natCast] at hK hc
  simp only [List.getD_eq_getElem?_getD, List.getElem?_eq_getElem hk, Option.getD_some] at hK
  obtain ⟨c0, c1, rfl, h0, c2, c3, rfl, h1, h2⟩ := hK
  cases h0
  cases h1
  cases h2
  exact ⟨ad, e, hc 0 _ rfl, hc 1 _ rfl, hc 2 _ rfl⟩
theorem at_Cm {w : World} {A : Option Addr} {xs : List Cm} (h : kCm.C w A xs.length xs) (k : Nat) (hk : k < xs.length) : ∃ ad, A = some ad ∧ w.cell? (ad.add (k * 3)) = some (.int .i64 xs[k].1) ∧ w.cell? (ad.add (k * 3 + 1)) = some (.int .i64 xs[k].2.1) ∧ w.cell? (ad.add (k * 3 + 2)) = some (.string xs[k].2.2) := by
  obtain ⟨ad, c, e, _, hK, hc⟩ := Kd.C_get h xs[k] (k : Int) (by omega) (by omega)
  rw [Int.toNat_natCast] at hK hc
  simp only [List.getD_eq_getElem?_getD, List.getElem?_eq_getElem hk, Option.getD_some] at hK
  obtain ⟨c0, c1, rfl, h0, c2, c3, rfl, h1, h2⟩ := hK
  cases h0
  cases h1
  cases h2
  exact ⟨ad, e, hc 0 _ rfl, hc 1 _ rfl, hc 2 _ rfl⟩
/-- The place of what is read is plain. -/
theorem plain_addr {w : World} {ad : Addr} {n : Nat} {v : Value} (h : w.cell? (ad.add n) = some v) (hn : n = 0 ∨ ad.spot = none) : ad.spot = none := by
  rcases hn with rfl | h1
  · obtain ⟨b, off, sp⟩ := ad
    cases sp with
    | none => rfl
    | some s =>
      exfalso
      simp only [Addr.add, World.cell?] at h
      revert h
      simp
      split <;> simp
  · exact h1
theorem C_plainA {α : Type} {d : Kd α} (hd : 0 < d.sz) {w : World} {A : Option Addr} {n : Nat} {xs : List α} (h : d.C w A n xs) (hn : 0 < xs.length) : ∃ b off, A = some ⟨b, off, none⟩ ∧ b < w.heap.size := by
  obtain ⟨ad, c, e, hl, _, hc⟩ := Kd.C_get h (xs[0]'hn) 0 (by omega) (by have := h.1; omega)
  have h0 : 0 < c.length := by omega
  have h1 := hc 0 c[0] (by simp [h0])
  simp only [Int.toNat_zero, Nat.zero_mul, Nat.zero_add] at h1
  have h2 := plain_addr h1 (.inl rfl)
  have h3 := World.block_lt_of_cell? w _ h1
  rw [add_block] at h3
  obtain ⟨b, off, sp⟩ := ad
  cases h2
  exact ⟨b, off, e, h3⟩
theorem plain_add (b off n : Nat) : (⟨b, off, none⟩ : Addr).add n = ⟨b, off + n, none⟩ := by unfold Addr.add; split <;> simp_all
end Go.Proofs.Ytfbmgjanplnabaa
/- The checksum of the program (package crc): what Step, On and Of answer. -/
namespace Go.Proofs.Ytfbmgjanplnabaa
open Go.RowKit Go.Proofs.YtfbmgjanplnabaaW.PrintWords Go.Proofs.YtfbmgjanplnabaaW.PrintLast Go.Proofs.YtfbmgjanplnabaaW.PrintMore
set_option linter.unusedVariables false
set_option linter.unusedSimpArgs false

/-! crc.Step -/
def crcBit (x : Int) : Int := bits .xor .u32 (x / 2) (bits .and .u32 3988292384 ((-bits .and .u32 x 1) % 4294967296))
def crcBits : Nat → Int → Int
  | 0, x => x
  | k + 1, x => crcBit (crcBits k x)
def crcStep (s c : Int) : Int := crcBits 8 (bits .xor .u32 s (c % 4294967296))
def crcFold (s : Int) (xs : List Int) : Int := xs.foldl crcStep s

theorem crcFold_take (s : Int) (xs : List Int) (k : Nat) (h : k < xs.length) : crcFold s (xs.take (k + 1)) = crcStep (crcFold s (xs.take k)) (rd xs k) := by
  unfold crcFold rd
  rw [List.take_succ_eq_append_getElem h, List.foldl_append]
  simp [List.getD_eq_getElem?_getD, List.getElem?_eq_getElem h]

set_option maxHeartbeats 400000 in
theorem crcStep_calls (s c : Int) (w : World) :
    Calls Try.prog 76 #[.int .u32 s, .int .u8 c] w fun e w' => e = .returned (.int .u32 (crcStep s c)) ∧ w = w' := by
  go_enter Try.func76, Try.ntmps76
  go_wp2
  go_loop [0, 9] (fun v i => ∃ k : Nat, k ≤ 8 ∧ i = .int .i64 k ∧ v = .int .u32 (crcBits k (bits .xor .u32 s (c % 4294967296)))) (fun _ i => 8 - (intOf i).toNat)
  case atStart => exact ⟨0, by omega, rfl, rfl⟩
  case round =>
    obtain ⟨k, hk, rfl, rfl⟩ := hrel
    go_wp2
    · go_round
      case rel => exact ⟨k + 1, by omega, by go_num, rfl⟩
      case measure => simp [intOf]; omega
    · go_ret
      have : k = 8 := by omega
      subst this
      exact ⟨rfl, rfl⟩

set_option maxHeartbeats 400000 in
theorem crcOn2_calls (c s : Int) (g : Nat) (w : World) (h : w.heap[g]? = some (.cells #[.int .u32 s] 76 (0, 0))) :
    Calls Try.prog 75 #[.int .u8 c, .pointer (some ⟨g, 0, none⟩)] w fun e w' => e = .returned (.tuple #[]) ∧ w' = w.setCell ⟨g, 0, none⟩ (.int .u32 (crcStep s c)) := by
  have hc := cell_of_one h
  have hf := free_of_one h
  clear h
  go_enter Try.func75, Try.ntmps75
  go_wp2_with (go_at_call 76; refine (crcStep_calls s c _).mono ?_; rintro e w' ⟨rfl, rfl⟩)
  go_end0
  exact ⟨rfl, rfl⟩

set_option maxHeartbeats 400000 in
theorem crcOn1_calls (xs : List Int) (A : Option Addr) (n : Nat) (s : Int) (gs gb : Nat) (w : World)
    (hs : w.heap[gs]? = some (.cells #[.int .u32 s] 76 (0, 0))) (hb : w.heap[gb]? = some (.cells #[.slice A xs.length n] 32 (0, 0))) (hne : gb ≠ gs) (hx : (Kd.int .u8).C w A xs.length xs) (hxg : 0 < xs.length → ∀ ad, A = some ad → ad.block ≠ gs) :
    Calls Try.prog 74 #[.func (.func 75) #[] #[.pointer (some ⟨gs, 0, none⟩)], .pointer (some ⟨gb, 0, none⟩)] w fun e w' => e = .returned (.tuple #[]) ∧ w'.heap[gs]? = some (.cells #[.int .u32 (crcFold s xs)] 76 (0, 0)) ∧ w.grownBy w' (some gs) := by
  have hcb := cell_of_one hb
  have HX := Aside0.mk hx
  have HS := Aside0.mk hs
  have HG := Aside0.mk hxg
  have hlen : xs.length ≤ 9223372036854775807 := hx.2.1
  clear hs hb hx hxg
  go_enter Try.func74, Try.ntmps74
  go_wp2
  go_loopw [4, 7] (fun _ i wr => ∃ k : Nat, k ≤ xs.length ∧ i = .int .i64 k ∧ Aside0 (wr.heap[gs]? = some (.cells #[.int .u32 (crcFold s (xs.take k))] 76 (0, 0))) ∧ Aside0 (w.grownBy wr (some gs))) (fun _ i _ => xs.length - (intOf i).toNat)
  case atStart => exact ⟨0, by omega, rfl, HS, ⟨World.grownBy.refl _ _⟩⟩
  case round =>
    obtain ⟨k, hk, rfl, HB, HW⟩ := hrel
    by_cases hlt : k < xs.length
    · obtain ⟨ad, e, hcell⟩ := Kd.at_int HX.out (k : Int) (by omega) (by omega)
      subst e
      rw [Int.toNat_natCast] at hcell
      have hcell2 := HW.out.cell hcell (by rw [add_block]; intro e; injection e with e; exact HG.out (by omega) ad rfl e)
      clear hcell
      go_wp2_with (go_at_call 75; refine (crcOn2_calls _ _ gs _ HB.out).mono ?_; rintro e w' ⟨rfl, rfl⟩)
      go_roundw
      case rel => exact ⟨k + 1, by omega, by go_num, ⟨by rw [crcFold_take s xs k hlt]; exact one_setCell HB.out⟩, ⟨HW.out.trans (grownBy_setc _ _ _ _)⟩⟩
      case measure => simp [intOf]; omega
    · go_wp2
      go_end0
      obtain rfl : k = xs.length := by omega
      exact ⟨rfl, by rw [List.take_length] at HB; exact HB.out, HW.out⟩

theorem run_makeFunc (fn : Fn) (first cap : Array Value) (w : World) : (Instr.makeFunc fn first cap).run Try.prog w = .ok (.func fn first cap) w := rfl


def crcNot (s : Int) : Int := bits .xor .u32 IntKind.u32.max s
def crcOn (sum : Int) (xs : List Int) : Int := crcNot (crcFold (crcNot sum) xs)

set_option maxHeartbeats 400000 in
theorem crcOn_calls (sum : Int) (xs : List Int) (A : Option Addr) (n : Nat) (w : World) (hx : (Kd.int .u8).C w A xs.length xs) :
    Calls Try.prog 66 #[.int .u32 sum, .slice A xs.length n] w fun e w' => e = .returned (.int .u32 (crcOn sum xs)) ∧ Below w.heap.size w w' := by
  have hmf := run_makeFunc
  have HX := Aside0.mk hx
  clear hx
  go_enter Try.func66, Try.ntmps66
  go_wp2_with fail
  refine (crcOn1_calls xs A n (crcNot sum) w.heap.size (w.heap.size + 1) _ (blk_alloc (blk_new _ _) _) (blk_new1 _ _ _) (by omega) (Kd.C_alloc (Kd.C_alloc HX.out _) _) (fun hn ad e => by have := C_block (sz_int _) HX.out hn ad e; omega)).mono ?_
  rintro e w' ⟨rfl, hb, hg⟩
  have hc := cell_of_one hb
  have HB := Aside0.mk (below_grown (((Below.refl w.heap.size w).alloc (Nat.le_refl _) _).alloc (by simp) _) hg (by simp; omega) (Nat.le_refl _))
  clear hb hg
  go_wp2
  go_ret
  exact ⟨rfl, HB.out⟩

theorem crcOf_calls (xs : List Int) (A : Option Addr) (n : Nat) (w : World) (hx : (Kd.int .u8).C w A xs.length xs) :
    Calls Try.prog 47 #[.slice A xs.length n] w fun e w' => e = .returned (.int .u32 (crcOn 0 xs)) ∧ Below w.heap.size w w' := by
  have HX := Aside0.mk hx
  clear hx
  go_enter Try.func47, Try.ntmps47
  go_wp2_with fail
  refine (crcOn_calls 0 xs A n _ HX.out).mono ?_
  rintro e w' ⟨rfl, hb⟩
  have HB := Aside0.mk hb
  clear hb
  go_wp2
  go_ret
  exact ⟨rfl, HB.out⟩
end Go.Proofs.Ytfbmgjanplnabaa
/- The library's slices.Clone, Clip, Grow and Concat at bytes; crc.told, Put, Cut. -/
namespace Go.Proofs.Ytfbmgjanplnabaa
open Go.RowKit Go.Proofs.YtfbmgjanplnabaaW.PrintWords Go.Proofs.YtfbmgjanplnabaaW.PrintLast Go.Proofs.YtfbmgjanplnabaaW.PrintMore
set_option linter.unusedVariables false
set_option linter.unusedSimpArgs false

theorem info5 : (Try.prog.info? 5).map (fun i => (i.zero, i.size, i.bytes)) = some (some (.int .u8 0), 1, 1) := by kernel_rfl

/-- A row of bytes of the call's own. -/
abbrev OwnB (w : World) (base : Nat) (v : Value) (xs : List Int) : Prop := (Kd.int .u8).R 5 w base (fun _ => True) v xs
/-- A row of bytes that is read. -/
abbrev RdB (w : World) (A : Option Addr) (xs : List Int) : Prop := (Kd.int .u8).C w A xs.length xs


theorem own_row {α : Type} (d : Kd α) (e : Nat) (W : World) (base : Nat) (hb : base ≤ W.heap.size) : d.R e (W.alloc (.cells #[] e)) base (fun _ => True) (.slice (some ⟨W.heap.size, 0, none⟩) 0 0) [] :=
  ⟨fun _ _ => trivial, [], by have := World.ownsRow_lit (base := base) (e := e) (size := d.sz) W #[] 0 hb (by simp [maxLen]) (by simp); simpa using this, Reps.none _ _⟩
section
variable {ops : Array Oper} {rest : List Oper} {o : Oper} {a : Act} {Q : Exit → Act → World → Prop}
/-- append(v, ys...) at bytes. -/
theorem appB {w0 W : World} (base : Nat) (hgd : o.guard = none) (s x : Operand)
    (ho : o.op = .call { callee := .builtin .append, args := #[s, x], argTypes := #[32, 32] })
    (v : Value) (xs ys : List Int) (A : Option Addr) (c : Nat) (hs : a.eval s = v) (hx : a.eval x = .slice A ys.length c)
    (HO : OwnB W base v xs) (HR : RdB W A ys) (HB : Below base w0 W) (hbase : base ≤ W.heap.size) (hl : xs.length + ys.length ≤ 140737488355328)
    (h : ∀ v1 w1, OwnB w1 base v1 (xs ++ ys) → Below base w0 w1 → W.grownBy w1 v.ownBlock → (v1.ownBlock = v.ownBlock ∨ ∃ b, v1.ownBlock = some b ∧ W.heap.size ≤ b) → wpList Try.prog ops Q rest (a.put o.dst v1) w1) :
    wpList Try.prog ops Q (o :: rest) a W :=
  Kd.R_append_rows (Kd.int .u8) (Rr := (Kd.int .u8).K W) base hgd s x 32 5 (.int .u8 0) 1 ho Try.underlying32 info5 rfl (by decide) (by omega) v xs ys A ys.length c (fun _ => True) (fun _ => False) hs hx HO HR (fun _ _ h => h) (fun _ h => h.elim) (fun _ _ => trivial) HB hbase (by omega) h
end

set_option maxHeartbeats 400000 in
theorem clone_calls (xs : List Int) (A : Option Addr) (c : Nat) (w : World) (hx : RdB w A xs) (hm : xs.length ≤ 140737488355328) :
    Calls Try.prog 48 #[.slice A xs.length c] w fun e w' => ∃ v, e = .returned v ∧ OwnB w' w.heap.size v xs ∧ Below w.heap.size w w' := by
  have qT : ∀ (w : World) (a : Option Addr) (n c n' c' : Nat), (binOp .eql 32 (.slice a n c) (.slice none n' c')).run Try.prog w = .ok (.bool a.isNone) w := fun w a n c n' c' => Lib.run_eql_slice_nil w _ _ a n c n' c' Try.underlying32
  have HX := Aside0.mk hx
  have HM := Aside0.mk hm
  clear hx hm
  rcases A with _ | ad
  · have h0 : xs = [] := by
      rcases Nat.eq_zero_or_pos xs.length with h | h
      · exact List.eq_nil_of_length_eq_zero h
      · obtain ⟨ad, e, _⟩ := HX.out.2.2 h
        cases e
    subst h0
    go_enter Try.func48, Try.ntmps48
    go_wp2
    go_ret
    exact ⟨_, rfl, Kd.R_nil _ _ _ _ _, Below.refl _ _⟩
  · go_enter Try.func48, Try.ntmps48
    go_wp2_with ((with_reducible refine gate_builtin (b := .append) (xs := #[.tmp 5, .tmp 6]) rfl ?_); at_builtin; refine appB (w0 := w) w.heap.size rfl _ _ rfl _ [] xs (some ad) c rfl rfl (own_row _ _ _ _ (Nat.le_refl _)) (Kd.C_alloc HX.out _) ((Below.refl _ _).alloc (Nat.le_refl _) _) (by simp) (by simpa using HM.out) ?_; intro v1 w1 ho hb hg _; have HO := Aside0.mk ho; have HB := Aside0.mk hb; clear ho hb hg)
    go_ret
    exact ⟨_, rfl, HO.out, HB.out⟩

set_option maxHeartbeats 400000 in
theorem clip_calls (n c : Nat) (A : Option Addr) (w : World) (hm : n ≤ 9223372036854775807) (hc : n ≤ c) :
    Calls Try.prog 65 #[.slice A n c] w fun e w' => e = .returned (.slice A n n) ∧ w = w' := by
  go_enter Try.func65, Try.ntmps65
  go_wp2
  go_ret
  exact ⟨rfl, rfl⟩

theorem own_fresh (w : World) (cur : Array Value) (G : Nat) (h : cur.size = G) (hm : G ≤ maxLen) : OwnB (w.alloc (.cells cur 5)).drew w.heap.size (.slice (some ⟨w.heap.size, 0, none⟩) 0 G) [] := by
  refine ⟨fun _ _ => trivial, [], ⟨rfl, .inr ⟨w.heap.size, G, cur, rfl, Nat.le_refl _, blk_new w _, Nat.zero_le _, hm, ?_, rfl⟩⟩, Reps.none _ _⟩
  rw [h]; exact (Nat.mul_one _).symm
set_option maxHeartbeats 400000 in
theorem grow_calls (m : Nat) (w : World) (hm : m ≤ 140737488355328) :
    Calls Try.prog 49 #[.slice none 0 0, .int .i64 m] w fun e w' => ∃ v, e = .returned v ∧ OwnB w' w.heap.size v [] ∧ Below w.heap.size w w' := by
  obtain ⟨i0, hi, hz0, hz1, hz2⟩ := info_parts info5
  by_cases h : m = 0
  · subst h
    go_enter Try.func49, Try.ntmps49
    go_wp2
    go_ret
    exact ⟨_, rfl, Kd.R_nil _ _ _ _ _, Below.refl _ _⟩
  · have h4 : (m : Int) > 0 := by omega
    have hfit : Builtin.nextslicecap (0 + m) 0 * i0.bytes ≤ 281474976710656 := by rw [hz2]; exact growslice_fits (by omega) (by omega)
    have hrz : ∀ ty, _ := fun ty => Lib.run_append_grow_zeros (P := Try.prog) w 32 3 ty 5 i0 (.int .u8 0) .i64 .i64 Try.underlying32 Try.underlying3 hi hz0 none 0 0 [] (run_firstCells_none w.drew i0.size 0 0 0) m (by omega) (by omega) (by omega) (by omega) (by rw [hz2]; omega) hfit
    obtain ⟨G, hG⟩ : ∃ G, G = grownCap w (0 + m) 0 5 := ⟨_, rfl⟩
    have hGn : 0 + m ≤ G := by rw [hG]; exact grownCap_ge w _ _ _
    have hGm : G ≤ maxLen := by rw [hG]; exact grownCap_le_maxLen w (0 + m) 0 5 (by unfold maxLen; omega)
    have hG63 : G ≤ 9223372036854775807 := by unfold maxLen at hGm; omega
    rw [← hG] at hrz
    simp only [Nat.zero_add] at hrz hGn
    have HH := Aside0.mk hGm
    clear hG hi hz0 hz1 hz2 hfit hGm
    go_enter Try.func49, Try.ntmps49
    go_wp2_with (at_builtin; refine Lib.wpList_append_run _ rfl _ _ _ _ rfl _ _ rfl rfl _ _ (hrz _) ?_)
    all_goals go_ret
    exact ⟨_, rfl, own_fresh w _ G (by simp [size_zeroCells]; omega) HH.out, ((Below.refl _ _).alloc (Nat.le_refl _) _).drew⟩

/-- A row of rows of bytes that is read. -/
abbrev RdBB (w : World) (A : Option Addr) (xs : List (List Int)) : Prop := (Kd.slice 5 (Kd.int .u8)).C w A xs.length xs
theorem at_BB {w : World} {A : Option Addr} {xs : List (List Int)} (h : RdBB w A xs) (k : Nat) (hk : k < xs.length) : ∃ ad A0 c0, A = some ad ∧ w.cell? (ad.add k) = some (.slice A0 (xs.getD k []).length c0) ∧ (xs.getD k []).length ≤ c0 ∧ RdB w A0 (xs.getD k []) := by
  obtain ⟨ad, c, e, _, hK, hc0⟩ := Kd.C_get h ([] : List Int) (k : Int) (by omega) (by omega)
  rw [Int.toNat_natCast] at hK hc0
  have hc : ∀ j u, c[j]? = some u → w.cell? (ad.add (k * 1 + j)) = some u := hc0
  obtain ⟨A0, c0, rfl, l0, g0⟩ := hK
  exact ⟨ad, A0, c0, e, by have hq := hc 0 _ rfl; rwa [Nat.mul_one, Nat.add_zero] at hq, l0, g0⟩

def sumLen (xs : List (List Int)) (k : Nat) : Nat := (xs.take k).flatten.length
theorem sumLen_succ (xs : List (List Int)) (k : Nat) (hk : k < xs.length) : sumLen xs (k + 1) = sumLen xs k + (xs.getD k []).length := by
  unfold sumLen
  rw [List.take_succ_eq_append_getElem hk, List.flatten_append, List.length_append]
  simp [List.getD_eq_getElem?_getD, List.getElem?_eq_getElem hk]
theorem sumLen_le (xs : List (List Int)) (k : Nat) : sumLen xs k ≤ xs.flatten.length := by
  unfold sumLen
  conv => rhs; rw [← List.take_append_drop k xs, List.flatten_append, List.length_append]
  omega
theorem flatten_take (xs : List (List Int)) (k : Nat) (hk : k < xs.length) : (xs.take (k + 1)).flatten = (xs.take k).flatten ++ xs.getD k [] := by
  rw [List.take_succ_eq_append_getElem hk, List.flatten_append]
  simp [List.getD_eq_getElem?_getD, List.getElem?_eq_getElem hk]

set_option maxHeartbeats 400000 in
theorem concat_calls (xs : List (List Int)) (A : Option Addr) (c : Nat) (w : World) (hx : RdBB w A xs) (hm : xs.flatten.length ≤ 140737488355328) :
    Calls Try.prog 31 #[.slice A xs.length c] w fun e w' => ∃ v, e = .returned v ∧ OwnB w' w.heap.size v xs.flatten ∧ Below w.heap.size w w' := by
  have HX := Aside0.mk hx
  have HM := Aside0.mk hm
  have hlen : xs.length ≤ 9223372036854775807 := hx.2.1
  clear hx hm
  go_enter Try.func31, Try.ntmps31
  go_wp2
  go_loop [3, 5, 11] (fun v _ i => ∃ k : Nat, k ≤ xs.length ∧ i = .int .i64 k ∧ v = .int .i64 (sumLen xs k)) (fun _ _ i => xs.length - (intOf i).toNat)
  case atStart => exact ⟨0, by omega, rfl, rfl⟩
  case round =>
    obtain ⟨k, hk, rfl, rfl⟩ := hrel
    by_cases hlt : k < xs.length
    · obtain ⟨ad, A0, c0, e, hcell, hl0, hr0⟩ := at_BB HX.out k hlt
      subst e
      have hs1 := sumLen_succ xs k hlt
      have hs2 := sumLen_le xs (k + 1)
      obtain ⟨y, hy⟩ : ∃ y, xs.getD k [] = y := ⟨_, rfl⟩
      rw [hy] at hs1 hcell
      have HS := Aside0.mk hs1
      have hb1 : sumLen xs k + y.length ≤ 140737488355328 := by have := HM.out; omega
      clear hs1 hs2 hl0 hr0 hy
      go_wp2
      go_round
      case rel => exact ⟨k + 1, by omega, by go_num, by rw [HS.out]; go_num⟩
      case measure => simp [intOf]; omega
    · obtain rfl : k = xs.length := by omega
      have hm2 : sumLen xs xs.length ≤ 140737488355328 := by unfold sumLen; rw [List.take_length]; exact HM.out
      go_wp2_with fail
      refine (grow_calls _ _ hm2).mono ?_
      rintro e w1 ⟨v, rfl, ho, hb⟩
      have HO := Aside0.mk ho
      have HB := Aside0.mk hb
      clear ho hb
      go_wp2
      go_loopw [6, 8, 27] (fun v _ i wr => ∃ k : Nat, k ≤ xs.length ∧ i = .int .i64 k ∧ Aside0 (OwnB wr w.heap.size v (xs.take k).flatten) ∧ Aside0 (Below w.heap.size w wr)) (fun _ _ i _ => xs.length - (intOf i).toNat)
      case atStart => exact ⟨0, by omega, rfl, HO, HB⟩
      case round =>
        clear HO HB
        obtain ⟨k, hk, rfl, HO, HB⟩ := hrel
        by_cases hlt : k < xs.length
        · obtain ⟨ad, A0, c0, e, hcell, hl0, hr0⟩ := at_BB (Kd.C_below HX.out HB.out) k hlt
          subst e
          have hf := flatten_take xs k hlt
          have hs1 := sumLen_succ xs k hlt
          have hs2 := sumLen_le xs (k + 1)
          obtain ⟨y, hy⟩ : ∃ y, xs.getD k [] = y := ⟨_, rfl⟩
          rw [hy] at hf hcell hr0 hs1
          have HF := Aside0.mk hf
          have HR := Aside0.mk hr0
          have HL : Aside0 ((xs.take k).flatten.length + y.length ≤ 140737488355328) := ⟨by unfold sumLen at hs1 hs2; have := HM.out; omega⟩
          clear hf hr0 hy hl0 hs1 hs2
          go_wp2_with ((with_reducible refine gate_builtin (b := .append) (xs := #[.tmp 31, .tmp 32]) rfl ?_); at_builtin; refine appB (w0 := w) w.heap.size rfl _ _ rfl _ _ y A0 c0 rfl rfl HO.out HR.out HB.out HB.out.size HL.out ?_; intro v1 w2 ho hb hg _; have HO2 := Aside0.mk ho; have HB2 := Aside0.mk hb; clear ho hb hg)
          go_roundw
          case rel => exact ⟨k + 1, by omega, by go_num, ⟨by rw [HF.out]; exact HO2.out⟩, HB2⟩
          case measure => simp [intOf]; omega
        · obtain rfl : k = xs.length := by omega
          go_wp2
          go_ret
          exact ⟨_, rfl, by have := HO.out; rwa [List.take_length] at this, HB.out⟩
end Go.Proofs.Ytfbmgjanplnabaa
/- crc.told, Put, Cut. -/
namespace Go.Proofs.Ytfbmgjanplnabaa
open Go.RowKit Go.Proofs.YtfbmgjanplnabaaW.PrintWords Go.Proofs.YtfbmgjanplnabaaW.PrintLast Go.Proofs.YtfbmgjanplnabaaW.PrintMore
set_option linter.unusedVariables false
set_option linter.unusedSimpArgs false


section
variable {ops : Array Oper} {o : Oper} {a : Act} {Q : Exit → Act → World → Prop} {K : Act → World → Prop}
/-- append(v, ys...) at bytes, as one step of a region that draws. -/
theorem appB_step {w0 W : World} (base : Nat) (hw : Region.wanted o (yielded ops a.tmps) = true) (s x : Operand)
    (ho : o.op = .call { callee := .builtin .append, args := #[s, x], argTypes := #[32, 32] })
    (v : Value) (xs ys : List Int) (A : Option Addr) (c : Nat) (hs : a.eval s = v) (hx : a.eval x = .slice A ys.length c)
    (HO : OwnB W base v xs) (HR : RdB W A ys) (HB : Below base w0 W) (hbase : base ≤ W.heap.size) (hl : xs.length + ys.length ≤ 140737488355328)
    (h : ∀ v1 w1, OwnB w1 base v1 (xs ++ ys) → Below base w0 w1 → W.grownBy w1 v.ownBlock → (v1.ownBlock = v.ownBlock ∨ ∃ b, v1.ownBlock = some b ∧ W.heap.size ≤ b) → K (a.put o.dst v1) w1) :
    if Region.wanted o (yielded ops a.tmps) = true then Oper.wp Try.prog o a W K Q else K (a.put o.dst undef) W :=
  Kd.R_append_rows_step (Kd.int .u8) (Rr := (Kd.int .u8).K W) base hw s x 32 5 (.int .u8 0) 1 ho Try.underlying32 info5 rfl (by decide) (by omega) v xs ys A ys.length c (fun _ => True) (fun _ => False) hs hx HO HR (fun _ _ h => h) (fun _ h => h.elim) (fun _ _ => trivial) HB hbase (by omega) h
end

def le4 (s : Int) : List Int := [s % 256, s / 256 % 256, s / 65536 % 256, s / 16777216 % 256]
set_option maxHeartbeats 400000 in
theorem told_calls (s : Int) (w : World) :
    Calls Try.prog 46 #[.int .u32 s] w fun e w' => e = .returned (.agg #[.int .u8 (s % 256), .int .u8 (s / 256 % 256), .int .u8 (s / 65536 % 256), .int .u8 (s / 16777216 % 256)]) ∧ Below w.heap.size w w' := by
  go_enter Try.func46, Try.ntmps46
  go_wp2
  exact bodyPost_ret (v := .agg #[.int .u8 (s % 256), .int .u8 (s / 256 % 256), .int .u8 (s / 65536 % 256), .int .u8 (s / 16777216 % 256)]) (by simp [results, Try.results46, go_sem]) rfl ⟨rfl, (Below.refl _ _).alloc (Nat.le_refl _) _⟩

set_option maxHeartbeats 400000 in
theorem crcPut_calls (xs : List Int) (A : Option Addr) (c : Nat) (w : World) (hx : RdB w A xs) (hm : xs.length + 4 ≤ 140737488355328) :
    Calls Try.prog 30 #[.slice A xs.length c] w fun e w' => ∃ v, e = .returned v ∧ OwnB w' w.heap.size v (xs ++ le4 (crcOn 0 xs)) ∧ Below w.heap.size w w' := by
  have HX := Aside0.mk hx
  have HM := Aside0.mk hm
  clear hx hm
  go_enter Try.func30, Try.ntmps30
  go_wp2_with fail
  refine (crcOf_calls xs A c _ HX.out).mono ?_
  rintro e w1 ⟨rfl, hb⟩
  have HB := Aside0.mk hb
  clear hb
  go_wp2_with fail
  refine (told_calls _ _).mono ?_
  rintro e w2 ⟨rfl, hb⟩
  have HB2 := Aside0.mk (below_then HB.out HB.out.size hb)
  clear hb HB
  go_wp2_with fail
  have HBL := Aside0.mk (blk_new w2 (.cells ((le4 (crcOn 0 xs)).map (Value.int .u8)).toArray 50))
  generalize hs : crcOn 0 xs = s at HBL ⊢
  have HS := Aside0.mk hs
  clear hs
  have HB3 := Aside0.mk (HB2.out.alloc HB2.out.size (.cells ((le4 s).map (Value.int .u8)).toArray 50))
  obtain ⟨g, hg⟩ : ∃ g, g = w2.heap.size := ⟨_, rfl⟩
  rw [← hg] at HBL ⊢
  change Code.wp _ _ _ _ (w2.alloc (.cells ((le4 s).map (Value.int .u8)).toArray 50))
  generalize w2.alloc (.cells ((le4 s).map (Value.int .u8)).toArray 50) = w3 at HBL HB3 ⊢
  clear hg HB2
  go_region_law (first
    | (go_simp; go_at_call 48; refine (clone_calls xs A c _ (Kd.C_below HX.out HB3.out.drew) (by have := HM.out; omega)).mono ?_; rintro e w4 ⟨v, rfl, ho, hb⟩; have HO := Aside0.mk (Kd.R_lower ho HB3.out.drew.size); have HB4 := Aside0.mk (below_then HB3.out.drew HB3.out.drew.size hb); have HBL4 := Aside0.mk (blk_below (show w3.drew.heap[g]? = _ from HBL.out) hb (blk_lt HBL.out)); clear ho hb; go_simp)
    | (refine appB_step (w0 := w) w.heap.size (by rfl) _ _ rfl _ xs (le4 s) (some ⟨g, 0, none⟩) 4 rfl rfl HO.out (C_blk .u8 (le4 s) HBL4.out (by simp [le4])) HB4.out HB4.out.size HM.out ?_; intro v1 w5 ho hb hg _; have HO5 := Aside0.mk ho; have HB5 := Aside0.mk hb; clear ho hb hg))
  all_goals go_wp2
  all_goals go_ret
  all_goals exact ⟨_, rfl, by rw [HS.out]; exact HO5.out, HB5.out⟩
end Go.Proofs.Ytfbmgjanplnabaa
/- crc.Cut. -/
namespace Go.Proofs.Ytfbmgjanplnabaa
open Go.RowKit Go.Proofs.YtfbmgjanplnabaaW.PrintWords Go.Proofs.YtfbmgjanplnabaaW.PrintLast Go.Proofs.YtfbmgjanplnabaaW.PrintMore
set_option linter.unusedVariables false
set_option linter.unusedSimpArgs false

set_option maxHeartbeats 400000 in
theorem cut_short (xs : List Int) (A : Option Addr) (c : Nat) (w : World) (hm : xs.length < 4) :
    Calls Try.prog 32 #[.slice A xs.length c] w fun e w' => e = .returned (.tuple #[.slice none 0 0, .int .i64 2]) ∧ w = w' := by
  go_enter Try.func32, Try.ntmps32
  go_wp2
  go_ret2
  exact ⟨rfl, rfl⟩

/-- What Cut answers of a body and four bytes. -/
def cutPost (xs : List Int) (same : Bool) (w : World) (e : Ending) (w' : World) : Prop :=
  (match same with
    | true => ∃ v, e = .returned (.tuple #[v, .int .i64 0]) ∧ OwnB w' w.heap.size v xs
    | false => e = .returned (.tuple #[.slice none 0 0, .int .i64 6])) ∧ Below w.heap.size w w'

set_option maxHeartbeats 400000 in
theorem cut_body (xs : List Int) (y0 y1 y2 y3 : Int) (A : Option Addr) (c : Nat) (w : World) (hx : RdB w A (xs ++ [y0, y1, y2, y3])) (hc : (xs ++ [y0, y1, y2, y3]).length ≤ c) (hm : xs.length ≤ 140737488355328) :
    Calls Try.prog 32 #[.slice A (xs.length + 4) c] w (cutPost xs (decide ([y0, y1, y2, y3] = le4 (crcOn 0 xs))) w) := by
  obtain ⟨i0, hi, _, hsz, _⟩ := info_parts info5
  have hlen : (xs ++ [y0, y1, y2, y3]).length = xs.length + 4 := by rw [List.length_append]; rfl
  obtain ⟨A', hcut, hA, hC⟩ := print_drop_of (P := Try.prog) (Value.int .u8) 0 32 5 .i64 Try.underlying32 hi hsz A c (xs ++ [y0, y1, y2, y3]) (xs.length : Int) (by omega) (by omega) hc
  obtain ⟨hcut2, hA2, hC2⟩ := print_take_of (P := Try.prog) (Value.int .u8) 0 32 5 .i64 Try.underlying32 hi hsz A c (xs ++ [y0, y1, y2, y3]) (xs.length : Int) (by omega) (by omega) hc
  have HX := Aside0.mk (Kd.C_of_reads (h1 := fun _ => rfl) (hA _ (Kd.reads_of_C hx)))
  have HX2 := Aside0.mk (Kd.C_of_reads (h1 := fun _ => rfl) (hA2 _ (Kd.reads_of_C hx)))
  simp only [Int.toNat_natCast, List.drop_left, List.take_left] at hcut hcut2 HX HX2
  rw [hlen] at hcut hcut2
  obtain ⟨b, off, rfl, hcell⟩ := C_plain HX.out (by simp)
  have hc0 : w.cell? ⟨b, off, none⟩ = some (.int .u8 y0) := hcell 0 (by simp)
  have hc1 : w.cell? ⟨b, off + 1, none⟩ = some (.int .u8 y1) := hcell 1 (by simp)
  have hc2 : w.cell? ⟨b, off + 2, none⟩ = some (.int .u8 y2) := hcell 2 (by simp)
  have hc3 : w.cell? ⟨b, off + 3, none⟩ = some (.int .u8 y3) := hcell 3 (by simp)
  have hb := World.block_lt_of_cell? w _ hc0
  have hat : ∀ w, (Instr.arrayAt 50 (.slice (some ⟨b, off, none⟩) 4 (c - xs.length))).run Try.prog w = .ok (.pointer (some ⟨b, off, none⟩)) w := fun w => run_arrayAt w 50 5 4 _ _ _ Try.underlying50 (by omega)
  have HM := Aside0.mk hm
  have hm2 := hm
  have hcut' : ∀ W, (Instr.slice 32 (.slice A (xs.length + 4) c) (some (.int .i64 (xs.length : Int))) none none).run Try.prog W = .ok (.slice (some ⟨b, off, none⟩) 4 (c - xs.length)) W := hcut
  clear hx hm hc hA hA2 hC hC2 hi hsz hlen hcell hcut
  obtain ⟨s, hs⟩ : ∃ s, crcOn 0 xs = s := ⟨_, rfl⟩
  obtain ⟨B, hB⟩ : ∃ B, decide ([y0, y1, y2, y3] = le4 (crcOn 0 xs)) = B := ⟨_, rfl⟩
  rw [hB]
  have hq : ∀ w, (Op.equalIn 10000 50 (.agg #[.int .u8 y0, .int .u8 y1, .int .u8 y2, .int .u8 y3]) (.agg #[.int .u8 (s % 256), .int .u8 (s / 256 % 256), .int .u8 (s / 65536 % 256), .int .u8 (s / 16777216 % 256)])).run Try.prog w = .ok B w := by
    intro w
    rw [eq_arr50, ← hB, hs]
    congr 1
    rw [Bool.eq_iff_iff]
    simp [le4, and_assoc]
  have HS := Aside0.mk hs
  clear hB hs
  cases B
  · go_enter Try.func32, Try.ntmps32
    go_wp2_with fail
    go_region_law (first
      | (go_simp; go_at_call 47; refine (crcOf_calls xs A c _ (Kd.C_drew HX2.out)).mono ?_; rintro e w1 ⟨rfl, hb1⟩; have HB1 := Aside0.mk (show Below w.heap.size w w1 from (below_then (Below.refl _ _).drew (Nat.le_refl _) hb1)); rw [HS.out]; have hd0 := (HB1.out.cell hb).trans hc0; have hd1 := (HB1.out.cell (p := ⟨b, off + 1, none⟩) hb).trans hc1; have hd2 := (HB1.out.cell (p := ⟨b, off + 2, none⟩) hb).trans hc2; have hd3 := (HB1.out.cell (p := ⟨b, off + 3, none⟩) hb).trans hc3; clear hb1; go_simp)
      | (go_simp; go_at_call 46; refine (told_calls _ _).mono ?_; rintro e w2 ⟨rfl, hb2⟩; have HB2 := Aside0.mk (below_then HB1.out HB1.out.size hb2); clear hb2; have he0 := (HB2.out.cell hb).trans hc0; have he1 := (HB2.out.cell (p := ⟨b, off + 1, none⟩) hb).trans hc1; have he2 := (HB2.out.cell (p := ⟨b, off + 2, none⟩) hb).trans hc2; have he3 := (HB2.out.cell (p := ⟨b, off + 3, none⟩) hb).trans hc3; go_simp))
    all_goals clear hc0 hc1 hc2 hc3 hd0 hd1 hd2 hd3 he0 he1 he2 he3
    all_goals go_wp2
    all_goals go_ret2
    all_goals exact ⟨rfl, HB2.out⟩
  · go_enter Try.func32, Try.ntmps32
    go_wp2_with fail
    go_region_law (first
      | (go_simp; go_at_call 47; refine (crcOf_calls xs A c _ (Kd.C_drew HX2.out)).mono ?_; rintro e w1 ⟨rfl, hb1⟩; have HB1 := Aside0.mk (show Below w.heap.size w w1 from (below_then (Below.refl _ _).drew (Nat.le_refl _) hb1)); rw [HS.out]; have hd0 := (HB1.out.cell hb).trans hc0; have hd1 := (HB1.out.cell (p := ⟨b, off + 1, none⟩) hb).trans hc1; have hd2 := (HB1.out.cell (p := ⟨b, off + 2, none⟩) hb).trans hc2; have hd3 := (HB1.out.cell (p := ⟨b, off + 3, none⟩) hb).trans hc3; clear hb1; go_simp)
      | (go_simp; go_at_call 46; refine (told_calls _ _).mono ?_; rintro e w2 ⟨rfl, hb2⟩; have HB2 := Aside0.mk (below_then HB1.out HB1.out.size hb2); clear hb2; have he0 := (HB2.out.cell hb).trans hc0; have he1 := (HB2.out.cell (p := ⟨b, off + 1, none⟩) hb).trans hc1; have he2 := (HB2.out.cell (p := ⟨b, off + 2, none⟩) hb).trans hc2; have he3 := (HB2.out.cell (p := ⟨b, off + 3, none⟩) hb).trans hc3; go_simp))
    all_goals clear hc0 hc1 hc2 hc3 hd0 hd1 hd2 hd3 he0 he1 he2 he3
    all_goals go_wp2_with (go_at_call 48; refine (clone_calls xs A c _ (Kd.C_below HX2.out HB2.out) (by have := HM.out; omega)).mono ?_; rintro e w4 ⟨v, rfl, ho, hb4⟩; have HO := Aside0.mk (Kd.R_lower ho HB2.out.size); have HB4 := Aside0.mk (below_then HB2.out HB2.out.size hb4); clear ho hb4)
    all_goals go_ret2
    all_goals exact ⟨⟨_, rfl, HO.out⟩, HB4.out⟩
end Go.Proofs.Ytfbmgjanplnabaa
/- pack.Put: a number laid behind bytes. -/
namespace Go.Proofs.Ytfbmgjanplnabaa
open Go.RowKit Go.Proofs.YtfbmgjanplnabaaW.PrintWords Go.Proofs.YtfbmgjanplnabaaW.PrintLast Go.Proofs.YtfbmgjanplnabaaW.PrintMore
set_option linter.unusedVariables false
set_option linter.unusedSimpArgs false

section
variable {ops : Array Oper} {rest : List Oper} {o : Oper} {a : Act} {Q : Exit → Act → World → Prop}
/-- append(v, y) at bytes of a slice that is cut at its length: a new row. -/
theorem appB_new {W : World} (hgd : o.guard = none) (s x : Operand)
    (ho : o.op = .call { callee := .builtin .append, args := #[s, x], argTypes := #[32, 32] })
    (xs : List Int) (y : Int) (A : Option Addr) (hs : a.eval s = .slice A xs.length xs.length) (hx : a.eval x = .slice (some ⟨W.heap.size, 0, none⟩) 1 1)
    (HR : RdB W A xs) (hl : xs.length + 1 ≤ 140737488355328)
    (h : ∀ v1 w1, OwnB w1 W.heap.size v1 (xs ++ [y]) → Below W.heap.size W w1 → wpList Try.prog ops Q rest (a.put o.dst v1) w1) :
    wpList Try.prog ops Q (o :: rest) a (W.alloc (.cells #[.int .u8 y] 5)) := by
  obtain ⟨i0, hi, hz0, hz1, hz2⟩ := info_parts info5
  have hr := (Kd.reads_of_C (d := (0 : Int)) (Kd.C_alloc HR (.cells #[.int .u8 y] 5))).2.2
  refine wpList_append_grows (W.alloc (.cells #[.int .u8 y] 5)) hgd s x 32 ho 5 i0 (.int .u8 0) 1 1 Try.underlying32 hi hz0 hz1 hz2 rfl (by omega) A xs.length xs.length (nums .u8 xs) hs ?_ (by simp [nums]) ?_ ⟨W.heap.size, 0, none⟩ 1 1 [.int .u8 y] hx rfl (World.news_of_block (cs := #[.int .u8 y]) (t := 5) (fr := (0, 0)) (blk_new W _)) (by simp [Value.oneCell']) (by omega) (by simp only [maxLen]; omega) (by omega) ?_
  · intro e
    have h0 : xs.length = 0 := by
      rcases Nat.eq_zero_or_pos xs.length with h | h
      · exact h
      · obtain ⟨ad, e', _⟩ := hr h
        rw [e] at e'
        cases e'
    exact ⟨h0, h0⟩
  · intro b e j u hu
    have hj : j < xs.length := by
      rcases Nat.lt_or_ge j xs.length with h | h
      · exact h
      · rw [List.getElem?_eq_none (by simp [nums]; exact h)] at hu
        cases hu
    obtain ⟨ad, e', hc⟩ := hr (Nat.lt_of_le_of_lt (Nat.zero_le _) hj)
    have e2 := Option.some.inj (e.symm.trans e')
    subst e2
    have h3 : nums .u8 xs = xs.map (Value.int .u8) := rfl
    rw [h3, List.getElem?_map, List.getElem?_eq_getElem hj] at hu
    have h4 := hc j hj
    rw [List.getD_eq_getElem?_getD, List.getElem?_eq_getElem hj] at h4
    exact h4.trans hu
  · intro v1 w1 hown hg
    refine h v1 w1 (Kd.R_of_own ?_ (fun _ _ => trivial)) ?_
    · have : nums .u8 xs ++ [Value.int .u8 y] = encs (Value.int .u8) (xs ++ [y]) := by simp [nums, encs]
      rw [this] at hown
      have h2 : (xs ++ [y]).length = xs.length + 1 := by simp
      rw [h2]
      exact own_weaken hown (by simp)
    · exact ((Below.refl _ _).alloc (Nat.le_refl _) _).grown hg (by simp) (fun _ hk => by cases hk)
end

def putPost (xs : List Int) (w : World) (e : Ending) (w' : World) : Prop := ∃ v, e = .returned (.tuple #[v, .int .i64 0]) ∧ OwnB w' w.heap.size v xs ∧ Below w.heap.size w w'

set_option maxHeartbeats 400000 in
theorem put1_ok (xs : List Int) (A : Option Addr) (c : Nat) (n : Int) (w : World) (hx : RdB w A xs) (hc : xs.length ≤ c) (hm : xs.length ≤ 140737488355000) (h0 : 0 ≤ n) (h1 : n < 256) :
    Calls Try.prog 44 #[.slice A xs.length c, .int .u32 n, .int .i64 1] w (putPost (xs ++ [n]) w) := by
  have HX := Aside0.mk hx
  have HM := Aside0.mk hm
  have hlen : xs.length ≤ 9223372036854775807 := hx.2.1
  clear hx hm
  have hg : (n / 256 != 0) = false := by rw [bne_eq_false_iff_eq]; omega
  go_enter Try.func44, Try.ntmps44
  go_wp2_with (first | (go_at_call 64; go_in) | (go_at_call 65; go_in))
  refine wp_loop_rounds 2 ?_
  rw [rounds_succ]
  go_wp2_with (first
    | ((with_reducible refine gate_builtin (b := .append) (xs := #[.tmp 30, .tmp 36]) rfl ?_); at_builtin; refine appB_new rfl _ _ rfl xs _ A rfl rfl HX.out (by have := HM.out; omega) ?_; intro v1 w1 ho hb; have HO := Aside0.mk ho; have HB := Aside0.mk hb; clear ho hb))
  rw [rounds_succ]
  go_wp2
  go_ret2
  exact ⟨_, rfl, HO.out, HB.out⟩

set_option maxHeartbeats 400000 in
theorem put2_ok (xs : List Int) (A : Option Addr) (c : Nat) (n : Int) (w : World) (hx : RdB w A xs) (hc : xs.length ≤ c) (hm : xs.length ≤ 140737488355000) (h0 : 0 ≤ n) (h1 : n < 65536) :
    Calls Try.prog 44 #[.slice A xs.length c, .int .u32 n, .int .i64 2] w (putPost (xs ++ [n / 256, n % 256]) w) := by
  have HX := Aside0.mk hx
  have HM := Aside0.mk hm
  have hlen : xs.length ≤ 9223372036854775807 := hx.2.1
  clear hx hm
  have hg : (n / 65536 != 0) = false := by rw [bne_eq_false_iff_eq]; omega
  go_enter Try.func44, Try.ntmps44
  go_wp2_with (first | (go_at_call 64; go_in) | (go_at_call 65; go_in))
  refine wp_loop_rounds 3 ?_
  rw [rounds_succ]
  go_wp2_with (first
    | ((with_reducible refine gate_builtin (b := .append) (xs := #[.tmp 30, .tmp 36]) rfl ?_); at_builtin; refine appB_new rfl _ _ rfl xs _ A rfl rfl HX.out (by have := HM.out; omega) ?_; intro v1 w1 ho hb; have HO := Aside0.mk ho; have HB := Aside0.mk hb; clear ho hb))
  rw [rounds_succ]
  go_wp2_with (first
    | ((with_reducible refine gate_builtin (b := .append) (xs := #[.tmp 30, .tmp 36]) rfl ?_); at_builtin; refine appB (w0 := w) w.heap.size rfl _ _ rfl _ _ [_] _ 1 rfl rfl (Kd.R_alloc HO.out _) (C_blk .u8 [_] (blk_new _ _) (by simp)) (HB.out.alloc HB.out.size _) (Nat.le_trans HB.out.size (by simp)) (by have := HM.out; simp; omega) ?_; intro v2 w2 ho hb h3 h4; have HO2 := Aside0.mk ho; have HB2 := Aside0.mk hb; clear ho hb h3 h4))
  rw [rounds_succ]
  go_wp2
  go_ret2
  exact ⟨_, rfl, by have := HO2.out; rwa [List.append_assoc] at this, HB2.out⟩

set_option maxHeartbeats 800000 in
theorem put4_ok (xs : List Int) (A : Option Addr) (c : Nat) (n : Int) (w : World) (hx : RdB w A xs) (hc : xs.length ≤ c) (hm : xs.length ≤ 140737488355000) (h0 : 0 ≤ n) (h1 : n < 4294967296) :
    Calls Try.prog 44 #[.slice A xs.length c, .int .u32 n, .int .i64 4] w (putPost (xs ++ [n / 16777216, n / 65536 % 256, n / 256 % 256, n % 256]) w) := by
  have HX := Aside0.mk hx
  have HM := Aside0.mk hm
  have hlen : xs.length ≤ 9223372036854775807 := hx.2.1
  clear hx hm
  have hg : (n / 4294967296 != 0) = false := by rw [bne_eq_false_iff_eq]; omega
  go_enter Try.func44, Try.ntmps44
  go_wp2_with (first | (go_at_call 64; go_in) | (go_at_call 65; go_in))
  refine wp_loop_rounds 5 ?_
  rw [rounds_succ]
  go_wp2_with (first
    | ((with_reducible refine gate_builtin (b := .append) (xs := #[.tmp 30, .tmp 36]) rfl ?_); at_builtin; refine appB_new rfl _ _ rfl xs _ A rfl rfl HX.out (by have := HM.out; omega) ?_; intro v1 w1 ho hb; have HO := Aside0.mk ho; have HB := Aside0.mk hb; clear ho hb))
  rw [rounds_succ]
  go_wp2_with ((with_reducible refine gate_builtin (b := .append) (xs := #[.tmp 30, .tmp 36]) rfl ?_); at_builtin; refine appB (w0 := w) w.heap.size rfl _ _ rfl _ _ [_] _ 1 rfl rfl (Kd.R_alloc HO.out _) (C_blk .u8 [_] (blk_new _ _) (by simp)) (HB.out.alloc HB.out.size _) (Nat.le_trans HB.out.size (by simp)) (by have := HM.out; simp; omega) ?_; intro v2 w2 ho hb h3 h4; have HO2 := Aside0.mk ho; have HB2 := Aside0.mk hb; clear ho hb h3 h4)
  rw [rounds_succ]
  go_wp2_with ((with_reducible refine gate_builtin (b := .append) (xs := #[.tmp 30, .tmp 36]) rfl ?_); at_builtin; refine appB (w0 := w) w.heap.size rfl _ _ rfl _ _ [_] _ 1 rfl rfl (Kd.R_alloc HO2.out _) (C_blk .u8 [_] (blk_new _ _) (by simp)) (HB2.out.alloc HB2.out.size _) (Nat.le_trans HB2.out.size (by simp)) (by have := HM.out; simp; omega) ?_; intro v3 w3 ho hb h3 h4; have HO3 := Aside0.mk ho; have HB3 := Aside0.mk hb; clear ho hb h3 h4)
  rw [rounds_succ]
  go_wp2_with ((with_reducible refine gate_builtin (b := .append) (xs := #[.tmp 30, .tmp 36]) rfl ?_); at_builtin; refine appB (w0 := w) w.heap.size rfl _ _ rfl _ _ [_] _ 1 rfl rfl (Kd.R_alloc HO3.out _) (C_blk .u8 [_] (blk_new _ _) (by simp)) (HB3.out.alloc HB3.out.size _) (Nat.le_trans HB3.out.size (by simp)) (by have := HM.out; simp; omega) ?_; intro v4 w4 ho hb h3 h4; have HO4 := Aside0.mk ho; have HB4 := Aside0.mk hb; clear ho hb h3 h4)
  rw [rounds_succ]
  go_wp2
  go_ret2
  refine ⟨_, rfl, ?_, HB4.out⟩
  have h5 := HO4.out
  simp only [List.append_assoc, List.cons_append, List.nil_append] at h5
  exact h5

set_option maxHeartbeats 400000 in
theorem put1_bad (v : Value) (n : Int) (w : World) (h0 : 256 ≤ n) (h1 : n < 4294967296) :
    Calls Try.prog 44 #[v, .int .u32 n, .int .i64 1] w fun e w' => e = .returned (.tuple #[v, .int .i64 1]) ∧ w = w' := by
  have hg : (n / 256 != 0) = true := by rw [bne_iff_ne]; omega
  go_enter Try.func44, Try.ntmps44
  go_wp2_with (first | (go_at_call 64; go_in) | (go_at_call 65; go_in))
  go_ret2
  exact ⟨rfl, rfl⟩
set_option maxHeartbeats 400000 in
theorem put2_bad (v : Value) (n : Int) (w : World) (h0 : 65536 ≤ n) (h1 : n < 4294967296) :
    Calls Try.prog 44 #[v, .int .u32 n, .int .i64 2] w fun e w' => e = .returned (.tuple #[v, .int .i64 1]) ∧ w = w' := by
  have hg : (n / 65536 != 0) = true := by rw [bne_iff_ne]; omega
  go_enter Try.func44, Try.ntmps44
  go_wp2_with (first | (go_at_call 64; go_in) | (go_at_call 65; go_in))
  go_ret2
  exact ⟨rfl, rfl⟩
end Go.Proofs.Ytfbmgjanplnabaa

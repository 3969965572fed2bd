import Derived.Test.YtfbmgjanplnabaaBA
import Derived.Test.YtfbmgjanplnabaaWEqStruct
import Derived.ChangeMaps5
import Derived.Laws.OwnMore
import Derived.Maps.OwnOps
import Derived.Carry
import Derived.WalkSpells
import Derived.Test.YtfbmgjanplnabaaBB
import Derived.Deep.RegionLaw
/- The map of Gather: words by their places. -/
namespace Go.Proofs.Ytfbmgjanplnabaa
open Go.RowKit Go.Proofs.YtfbmgjanplnabaaW.PrintWords Go.Proofs.YtfbmgjanplnabaaW.PrintLast Go.Proofs.YtfbmgjanplnabaaW.PrintMore
set_option linter.unusedVariables false
set_option linter.unusedSimpArgs false

def wordV (s : ByteArray) : Value := .agg #[.int .i64 s.size, .string s]
theorem agg3 (w : World) : (isAgg 3).run Try.prog w = .ok false w := by kernel_rfl
theorem part_of {t : TypeId} (ha : ∀ w, (isAgg t).run Try.prog w = .ok false w) (cs : Array Value) (i : Nat) (v : Value) (w : World) (h : cs[i]? = some v) : (part t cs i).run Try.prog w = .ok v w := by
  simp [part, ha, h]
theorem eq_word_n (n : Nat) (s t : ByteArray) (w : World) : (Op.equalIn (n + 2) 84 (wordV s) (wordV t)).run Try.prog w = .ok (decide (s = t)) w := by
  have h := eqA_of (P := Try.prog) (d := n + 1) (xs := #[.int .i64 s.size, .string s]) (ys := #[.int .i64 t.size, .string t]) (r := ((s.size : Int) == t.size) && (s.toList == t.toList)) (w := w) Try.underlying84 (by kernel_rfl)
    (eqf_cons (by rfl) (part_of agg3 _ 0 _ w rfl) (part_of agg3 _ 0 _ w rfl) (run_equalIn_int w n 3 _ _ _ _ Try.underlying3)
      (eqf_last (by rfl) (part_of agg9 _ 1 _ w rfl) (part_of agg9 _ 1 _ w rfl) (run_equalIn_string w n 9 _ _ Try.underlying9)))
  have e : (((s.size : Int) == t.size) && (s.toList == t.toList)) = decide (s = t) := by
    rw [Bool.eq_iff_iff]
    simp only [Bool.and_eq_true, beq_iff_eq, decide_eq_true_eq]
    constructor
    · rintro ⟨_, h2⟩
      exact toList_inj h2
    · rintro rfl
      exact ⟨rfl, rfl⟩
  rw [e] at h
  exact h
theorem eq_word (s t : ByteArray) (w : World) : (Op.equal 84 (wordV s) (wordV t)).run Try.prog w = .ok (decide (s = t)) w := eq_word_n 9998 s t w
theorem check_word_n (n : Nat) (s : ByteArray) (b : Bool) (w : World) : (Instr.checkKey b (n + 2) 84 (wordV s)).run Try.prog w = .ok () w := by
  unfold wordV
  simp only [Instr.checkKey, Sem.run_bind, run_underlying Try.underlying84, Result.andThen_ok]
  simp only [List.forIn_toArray]
  simp [part_of agg3, part_of agg9, Instr.checkKey, run_underlying Try.underlying3, run_underlying Try.underlying9]
theorem check_word (s : ByteArray) (b : Bool) (w : World) : (Instr.checkKey b 10000 84 (wordV s)).run Try.prog w = .ok () w := check_word_n 9998 s b w

/-- The map's entries: each word of the pool with its place. -/
def MapIs (w : World) (b : Nat) (pool : List ByteArray) : Prop :=
  ∃ es clock, w.heap[b]? = some (.map es clock) ∧ es.size = pool.length ∧ ∀ (i : Nat) (h : i < pool.length), ∃ e, es[i]? = some e ∧ e.key = wordV pool[i] ∧ e.val = .int .i64 i

theorem wordV_inj {s t : ByteArray} (h : wordV s = wordV t) : s = t := by
  unfold wordV at h
  injection h with h
  have := congrArg (fun a : Array Value => a[1]?) h
  simpa using this

/-- Where a word stands among entries. -/
theorem find_asking (s : ByteArray) (w : World) : ∀ (es : List MapEntry) (pool : List ByteArray) (k : Nat), es.length = pool.length → (∀ (i : Nat) (h : i < pool.length), ∃ e, es[i]? = some e ∧ e.key = wordV pool[i] ∧ e.val = .int .i64 ((k + i : Nat) : Int)) →
    (Instr.findAsking 84 (wordV s) es k).run Try.prog w = .ok (if s ∈ pool then some (k + pool.idxOf s, .int .i64 ((k + pool.idxOf s : Nat) : Int)) else none) w
  | [], [], k, _, _ => by simp [Instr.findAsking]
  | [], _ :: _, _, h, _ => by simp at h
  | _ :: _, [], _, h, _ => by simp at h
  | e :: es, p :: pool, k, hl, he => by
    obtain ⟨e0, h0, h1, h2⟩ := he 0 (by simp)
    simp only [List.getElem?_cons_zero, Option.some.injEq] at h0
    subst h0
    simp only [List.getElem_cons_zero] at h1
    have ih := find_asking s w es pool (k + 1) (by simpa using hl) (fun i hi => by
      obtain ⟨e', a, b, c⟩ := he (i + 1) (by simpa using hi)
      refine ⟨e', by simpa using a, by simpa using b, ?_⟩
      rw [c, show k + 1 + i = k + (i + 1) by omega])
    simp only [Instr.findAsking, Sem.run_bind]
    rw [h1, eq_word, Result.andThen_ok]
    by_cases hs : s = p
    · subst hs
      simp [h2]
    · have hb : (decide (s = p)) = false := by simpa using hs
      rw [hb]
      simp only [Bool.false_eq_true, if_false]
      rw [ih]
      have hne : (p == s) = false := by simpa using fun e => hs e.symm
      by_cases hm : s ∈ pool
      · rw [if_pos hm, if_pos (List.mem_cons_of_mem _ hm), List.idxOf_cons, hne]
        simp only [cond_false]
        rw [show k + 1 + pool.idxOf s = k + (pool.idxOf s + 1) by omega]
      · rw [if_neg hm, if_neg (by simp [hs, hm])]

theorem find_key {w0 : World} {b : Nat} {pool : List ByteArray} {es : Array MapEntry} (hl : es.size = pool.length) (he : ∀ (i : Nat) (h : i < pool.length), ∃ e, es[i]? = some e ∧ e.key = wordV pool[i] ∧ e.val = .int .i64 i) (s : ByteArray) (w : World) :
    (Instr.findKey 84 (wordV s) es.toList).run Try.prog w = .ok (if s ∈ pool then some (pool.idxOf s, .int .i64 ((pool.idxOf s : Nat) : Int)) else none) w := by
  have hf := find_asking s w es.toList pool 0 (by simpa using hl) (fun i hi => by
    obtain ⟨e, a, b, c⟩ := he i hi
    exact ⟨e, by simpa using a, b, by simpa using c⟩)
  simp only [Nat.zero_add] at hf
  unfold Instr.findKey
  simp only [Sem.run_bind, run_underlying Try.underlying84, Result.andThen_ok]
  cases hes : es.toList with
  | nil =>
    rw [hes] at hf
    have hp : pool = [] := List.eq_nil_of_length_eq_zero (by rw [← hl]; simpa using congrArg List.length hes)
    subst hp
    simp [Instr.findNow]
  | cons e es' =>
    rw [hes] at hf
    have hnone : Instr.findNow (TypeDesc.struct #[{ name := "long", type := 3, offset := 0, embedded := false, tag := "", pkgPath := "exergue/pack", byteOffset := 0 }, { name := "text", type := 9, offset := 1, embedded := false, tag := "", pkgPath := "exergue/pack", byteOffset := 8 }]) (wordV s) (e :: es') 0 = none := by
      simp [Instr.findNow, Instr.sameNow]
    rw [hnone]
    exact hf

theorem zero3 (w : World) : (zeroValue 3).run Try.prog w = .ok (.int .i64 0) w := by kernel_rfl
theorem MapIs.look {w : World} {b : Nat} {pool : List ByteArray} (h : MapIs w b pool) (s : ByteArray) (c : Bool) :
    (Instr.lookup 82 (.map (some b)) (wordV s) c).run Try.prog w = .ok (let v : Value := .int .i64 (if s ∈ pool then (pool.idxOf s : Nat) else 0 : Nat); if c then .tuple #[v, .bool (decide (s ∈ pool))] else v) w := by
  obtain ⟨es, clock, hb, hl, he⟩ := h
  have hg : ∀ W : World, W.heap[b]? = some (.map es clock) → (getObj b).run Try.prog W = .ok (.map es clock) W := by
    intro W hW
    simp [getObj, Sem.run, hW]
  unfold Instr.lookup
  simp only [Sem.run_bind, run_underlying Try.underlying82, Result.andThen_ok]
  rw [hg w hb]
  simp only [Result.andThen_ok, Sem.run_bind, Sem.run_pure]
  rw [check_word, Result.andThen_ok, find_key (w0 := w) (b := b) hl he, Result.andThen_ok]
  by_cases hm : s ∈ pool
  · cases c <;> simp [hm]
  · cases c <;> simp [hm, zero3]
end Go.Proofs.Ytfbmgjanplnabaa
/- pack.Gather: texts, each once, and their places. -/
namespace Go.Proofs.Ytfbmgjanplnabaa
open Go.RowKit Go.Proofs.YtfbmgjanplnabaaW.PrintWords Go.Proofs.YtfbmgjanplnabaaW.PrintLast Go.Proofs.YtfbmgjanplnabaaW.PrintMore
set_option linter.unusedVariables false
set_option linter.unusedSimpArgs false

theorem MapIs.update {w : World} {b : Nat} {pool : List ByteArray} (h : MapIs w b pool) (s : ByteArray) (hs : s ∉ pool) :
    ∃ w', (Instr.mapUpdate 82 (.map (some b)) (wordV s) (.int .i64 pool.length)).run Try.prog w = .ok () w' ∧ MapIs w' b (pool ++ [s]) ∧ w.grownBy w' (some b) := by
  obtain ⟨es, clock, hb, hl, he⟩ := h
  have hg : (getObj b).run Try.prog w = .ok (.map es clock) w := by simp [getObj, Sem.run, hb]
  refine ⟨ChangeMaps.setBlock w b (.map (es.push { key := wordV s, val := .int .i64 pool.length, born := clock }) (clock + 1)), ?_, ⟨_, _, ChangeMaps.heap_setBlock_same hb _, by simp [hl], ?_⟩, ⟨rfl, rfl, rfl, by simp [ChangeMaps.setBlock], fun i hi hne => ChangeMaps.heap_setBlock_other hb _ (fun e => hne (by rw [e]))⟩⟩
  · unfold Instr.mapUpdate
    simp only [Sem.run_bind, run_underlying Try.underlying82, Result.andThen_ok]
    rw [hg, Result.andThen_ok]
    simp only [Sem.run_bind]
    rw [check_word, Result.andThen_ok, find_key (w0 := w) (b := b) hl he, Result.andThen_ok, if_neg hs]
    simp [setObj, Sem.run, hb, ChangeMaps.setBlock]
  · intro i hi
    rcases Nat.lt_or_ge i pool.length with h | h
    · obtain ⟨e, h1, h2, h3⟩ := he i h
      refine ⟨e, ?_, ?_, h3⟩
      · have : i < es.size := by omega
        rw [Array.getElem?_push_lt this]
        rw [Array.getElem?_eq_getElem this] at h1
        exact h1
      · rw [h2, List.getElem_append_left h]
    · have : i = pool.length := by simp at hi; omega
      subst this
      refine ⟨{ key := wordV s, val := .int .i64 pool.length, born := clock }, ?_, ?_, rfl⟩
      · rw [← hl, Array.getElem?_push_size]
      · simp

theorem MapIs.kept {w w' : World} {b : Nat} {pool : List ByteArray} (h : MapIs w b pool) (hb : w'.heap[b]? = w.heap[b]?) : MapIs w' b pool := by
  obtain ⟨es, clock, h1, h2⟩ := h
  exact ⟨es, clock, hb.trans h1, h2⟩
theorem MapIs.lt {w : World} {b : Nat} {pool : List ByteArray} (h : MapIs w b pool) : b < w.heap.size := by
  obtain ⟨es, clock, h1, h2⟩ := h
  exact blk_lt h1
theorem MapIs.alloc {w : World} {b : Nat} {pool : List ByteArray} (h : MapIs w b pool) (o : Obj) : MapIs (w.alloc o) b pool := h.kept (Below.heap_alloc w o b h.lt)
theorem MapIs.grown {w w' : World} {b : Nat} {pool : List ByteArray} {row : Option Nat} (h : MapIs w b pool) (hg : w.grownBy w' row) (hne : some b ≠ row) : MapIs w' b pool := h.kept (hg.block b h.lt hne)

section
variable {ops : Array Oper} {rest : List Oper} {o : Oper} {a : Act} {Q : Exit → Act → World → Prop}
theorem wpList_mapUpdate_run (hg : o.guard = none) (m x v : Operand) (hop : o.op = Op.mapUpdate 82 m x v) {vm vx vv : Value} (hm : a.eval m = vm) (hx : a.eval x = vx) (hv : a.eval v = vv) {w w' : World}
    (hrun : (Instr.mapUpdate 82 vm vx vv).run Try.prog w = .ok () w') (h : wpList Try.prog ops Q rest (a.put o.dst undef) w') : wpList Try.prog ops Q (o :: rest) a w := by
  refine wpList_plain hg fun K hK => ?_
  unfold Oper.wp
  simp [execOp, hop, hm, hx, hv, hrun, Result.andThen]
  exact hK _ _ h
end

/-! the pool -/
def gp (ts : List ByteArray) : List ByteArray := ts.foldl (fun p s => if s ∈ p then p else p ++ [s]) []
def gr (ts : List ByteArray) : List Int := ts.map fun s => (((gp ts).idxOf s : Nat) : Int)
theorem gp_snoc (ts : List ByteArray) (s : ByteArray) : gp (ts ++ [s]) = if s ∈ gp ts then gp ts else gp ts ++ [s] := by unfold gp; rw [List.foldl_append]; rfl
theorem mem_gp (ts : List ByteArray) (s : ByteArray) : s ∈ gp ts ↔ s ∈ ts := by
  suffices h : ∀ n, ∀ ts : List ByteArray, ts.length = n → (s ∈ gp ts ↔ s ∈ ts) from h _ ts rfl
  intro n
  induction n with
  | zero => intro ts h; rw [List.eq_nil_of_length_eq_zero h]; simp [gp]
  | succ n ih =>
    intro ts h
    obtain ⟨us, u, rfl⟩ : ∃ us u, ts = us ++ [u] := ⟨ts.dropLast, ts.getLast (by intro e; simp [e] at h), (List.dropLast_concat_getLast _).symm⟩
    have := ih us (by simpa using h)
    rw [gp_snoc]
    by_cases hu : u ∈ gp us
    · rw [if_pos hu, List.mem_append, this]
      constructor
      · exact .inl
      · rintro (h1 | h1)
        · exact h1
        · rw [List.mem_singleton] at h1
          subst h1
          exact this.1 hu
    · rw [if_neg hu, List.mem_append, List.mem_append, this]
theorem gp_length (ts : List ByteArray) : (gp ts).length ≤ ts.length := by
  suffices h : ∀ n, ∀ ts : List ByteArray, ts.length = n → (gp ts).length ≤ n from h _ ts rfl
  intro n
  induction n with
  | zero => intro ts h; rw [List.eq_nil_of_length_eq_zero h]; simp [gp]
  | succ n ih =>
    intro ts h
    obtain ⟨us, u, rfl⟩ : ∃ us u, ts = us ++ [u] := ⟨ts.dropLast, ts.getLast (by intro e; simp [e] at h), (List.dropLast_concat_getLast _).symm⟩
    have := ih us (by simpa using h)
    rw [gp_snoc]
    split
    · omega
    · simp; omega
theorem gr_snoc (ts : List ByteArray) (s : ByteArray) : gr (ts ++ [s]) = gr ts ++ [(((gp (ts ++ [s])).idxOf s : Nat) : Int)] := by
  unfold gr
  rw [List.map_append]
  congr 1
  apply List.map_congr_left
  intro t ht
  rw [gp_snoc]
  split
  · rfl
  · rw [List.idxOf_append, if_pos ((mem_gp ts t).2 ht)]
theorem gr_length (ts : List ByteArray) : (gr ts).length = ts.length := by simp [gr]
/-- The places told so far, noughts behind. -/
def rl (ts : List ByteArray) (n : Nat) : List Int := gr ts ++ List.replicate (n - ts.length) 0
theorem rl_length (ts : List ByteArray) (n : Nat) (h : ts.length ≤ n) : (rl ts n).length = n := by simp [rl, gr_length]; omega
theorem rl_set (ts : List ByteArray) (s : ByteArray) (n : Nat) (h : ts.length < n) : (rl ts n).set ts.length (((gp (ts ++ [s])).idxOf s : Nat) : Int) = rl (ts ++ [s]) n := by
  unfold rl
  rw [gr_snoc, List.set_append_right _ _ (by rw [gr_length]; exact Nat.le_refl _), gr_length, Nat.sub_self, List.append_assoc]
  congr 1
  obtain ⟨m, hm⟩ : ∃ m, n - ts.length = m + 1 := ⟨n - ts.length - 1, by omega⟩
  rw [hm, List.replicate_succ, List.set_cons_zero, show n - (ts ++ [s]).length = m by simp; omega]
  rfl
theorem rl_zero (n : Nat) : rl [] n = List.replicate n 0 := by simp [rl, gr]
theorem rl_all (ts : List ByteArray) : rl ts ts.length = gr ts := by simp [rl]

theorem info9 : (Try.prog.info? 9).map (fun i => (i.zero, i.size, i.bytes)) = some (some (.string ⟨#[]⟩), 1, 16) := by kernel_rfl
/-- A row of texts of the call's own; one that is read. -/
abbrev OwnS (w : World) (base : Nat) (v : Value) (xs : List ByteArray) : Prop := Kd.string.R 9 w base (fun _ => True) v xs
abbrev RdS (w : World) (A : Option Addr) (xs : List ByteArray) : Prop := Kd.string.C w A xs.length xs
section
variable {ops : Array Oper} {rest : List Oper} {o : Oper} {a : Act} {Q : Exit → Act → World → Prop}
/-- append(v, s) at texts; behind 'at_builtin'. -/
theorem appS {w0 W : World} (base : Nat) (hgd : o.guard = none) (s x : Operand)
    (ho : o.op = .call { callee := .builtin .append, args := #[s, x], argTypes := #[47, 47] })
    (v : Value) (xs : List ByteArray) (y : ByteArray) (hs : a.eval s = v) (hx : a.eval x = .slice (some ⟨W.heap.size, 0, none⟩) 1 1)
    (HO : OwnS W base v xs) (HB : Below base w0 W) (hbase : base ≤ W.heap.size) (hl : (xs.length + 1) * 16 ≤ 140737488355328)
    (h : ∀ v1 w1, OwnS w1 base v1 (xs ++ [y]) → Below base w0 w1 → W.grownBy w1 v.ownBlock → wpList Try.prog ops Q rest (a.put o.dst v1) w1) :
    wpList Try.prog ops Q (o :: rest) a (W.alloc (.cells #[.string y] 9)) :=
  Kd.R_append Kd.string base hgd s x 47 9 (.string ⟨#[]⟩) 16 ho Try.underlying47 info9 rfl (by decide) (by omega) v xs y [.string y] (fun _ => True) (fun _ => False) hs hx rfl (fun _ h => h.elim) (fun _ _ => trivial) HO HB hbase hl (fun v1 w1 h1 h2 h3 _ => h v1 w1 h1 h2 h3)
end
end Go.Proofs.Ytfbmgjanplnabaa
/- pack.Gather: the walk. -/
namespace Go.Proofs.Ytfbmgjanplnabaa
open Go.RowKit Go.Proofs.YtfbmgjanplnabaaW.PrintWords Go.Proofs.YtfbmgjanplnabaaW.PrintLast Go.Proofs.YtfbmgjanplnabaaW.PrintMore
set_option linter.unusedVariables false
set_option linter.unusedSimpArgs false

/-- What Gather's loop knows: the map at B, the places in the block behind it, the pool in a row behind both. -/
structure GInv (w : World) (ts : List ByteArray) (n : Nat) (vp : Value) (W : World) : Prop where
  map : MapIs W w.heap.size (gp ts)
  refs : W.heap[w.heap.size + 1]? = some (.cells ((rl ts n).map (Value.int .i64)).toArray 3 (0, 0))
  pool : OwnS W (w.heap.size + 2) vp (gp ts)
  below : Below w.heap.size w W

theorem GInv.size {w : World} {ts : List ByteArray} {n : Nat} {vp : Value} {W : World} (h : GInv w ts n vp W) : w.heap.size + 2 ≤ W.heap.size := blk_lt h.refs

theorem at_S {w : World} {A : Option Addr} {xs : List ByteArray} (h : RdS w A xs) (k : Nat) (hk : k < xs.length) : ∃ ad, A = some ad ∧ w.cell? (ad.add k) = some (.string xs[k]) := by
  obtain ⟨ad, c, e, _, hK, hc⟩ := Kd.C_get h xs[k] (k : Int) (by omega) (by omega)
  rw [Int.toNat_natCast] at hK hc
  simp only [List.getD_eq_getElem?_getD, List.getElem?_eq_getElem hk, Option.getD_some] at hK
  have hK' : c = [.string xs[k]] := hK
  subst hK'
  have := hc 0 _ rfl
  have e1 : k * Kd.string.sz + 0 = k := by show k * 1 + 0 = k; omega
  rw [e1] at this
  exact ⟨ad, e, this⟩

theorem GInv.stored {w : World} {us : List ByteArray} {s : ByteArray} {n : Nat} {vp : Value} {W : World} (hn : us.length < n) (hmap : MapIs W w.heap.size (gp (us ++ [s])))
    (hrefs : W.heap[w.heap.size + 1]? = some (.cells ((rl us n).map (Value.int .i64)).toArray 3 (0, 0))) (hpool : OwnS W (w.heap.size + 2) vp (gp (us ++ [s]))) (hb : Below w.heap.size w W) :
    GInv w (us ++ [s]) n vp (W.setCell ⟨w.heap.size + 1, us.length, none⟩ (.int .i64 (((gp (us ++ [s])).idxOf s : Nat) : Int))) := by
  refine ⟨hmap.kept (Below.heap_setCell W _ _ _ (by simp)), ?_, ?_, hb.setCell (by simp) _⟩
  · rw [blk_set hrefs]
    simp only [List.setIfInBounds_toArray]
    rw [← List.map_set, rl_set us s n hn]
  · refine Kd.R_mono (Kd.R_far (p := ⟨w.heap.size + 1, us.length, none⟩) (Kd.R_bound hpool) (fun k hk e => ?_) _) (fun _ _ => trivial)
    have h1 := hk.2.1
    have e' : k = w.heap.size + 1 := e
    omega
theorem refs_cell {W : World} {b n : Nat} {us : List ByteArray} (h : W.heap[b]? = some (.cells ((rl us n).map (Value.int .i64)).toArray 3 (0, 0))) (hn : us.length < n) : ∃ x, W.cell? ⟨b, us.length, none⟩ = some (.int .i64 x) ∧ W.frozen? ⟨b, us.length, none⟩ = false := by
  have hl : us.length < (rl us n).length := by rw [rl_length _ _ (by omega)]; exact hn
  refine ⟨(rl us n)[us.length], ?_, blk_free h _⟩
  rw [blk_cell h]
  simp [List.getElem?_eq_getElem hl]

set_option maxHeartbeats 1600000 in
set_option maxRecDepth 100000 in
theorem gather_calls (ts : List ByteArray) (A : Option Addr) (c : Nat) (w : World) (hC : RdS w A ts) (hm : ts.length * 16 ≤ 140737488351232) :
    Calls Try.prog 22 #[.slice A ts.length c] w fun e w' => ∃ Ap np cp Ar cr, e = .returned (.tuple #[.slice Ap np cp, .slice Ar ts.length cr]) ∧ np = (gp ts).length ∧ np ≤ cp ∧ ts.length ≤ cr ∧ RdS w' Ap (gp ts) ∧ (Kd.int .i64).C w' Ar ts.length (gr ts) ∧ Below w.heap.size w w' := by
  have hmm := @run_makeMap Try.prog
  have HC := Aside0.mk hC
  have hlen : ts.length ≤ 9223372036854775807 := hC.2.1
  have hmk := print_make (P := Try.prog) 62 3 .i64 8 Try.underlying62 (by kernel_rfl) (by omega) ts.length (by omega)
  clear hC
  go_enter Try.func22, Try.ntmps22
  go_wp2
  have h0 : GInv w [] ts.length (.slice none 0 0) ((w.alloc (.map #[] 0)).alloc (.cells (madeCells #[.int .i64 0] ts.length) 3)) := by
    refine ⟨?_, ?_, Kd.R_nil _ _ _ _ _, ((Below.refl _ _).alloc (Nat.le_refl _) _).alloc (by simp) _⟩
    · exact ⟨#[], 0, blk_alloc (blk_new w _) _, rfl, fun i h => by simp [gp] at h⟩
    · rw [blk_new1]
      congr 1
      congr 1
      rw [rl_zero, List.map_replicate]
      apply Array.toList_inj.1
      rw [toList_madeCells_one]
  have H0 := Aside0.mk h0
  clear h0 hmk
  go_loopw [5, 18] (fun vp i W => ∃ k : Nat, k ≤ ts.length ∧ i = .int .i64 k ∧ Aside0 (GInv w (ts.take k) ts.length vp W)) (fun _ i _ => ts.length - (intOf i).toNat)
  case atStart => exact ⟨0, by omega, rfl, H0⟩
  case round =>
    clear H0
    obtain ⟨k, hk, rfl, HI⟩ := hrel
    by_cases hlt : k < ts.length
    · obtain ⟨ad, e, hcell⟩ := at_S (Kd.C_below HC.out HI.out.below) k hlt
      subst e
      obtain ⟨s, hs⟩ : ∃ s, ts[k] = s := ⟨_, rfl⟩
      rw [hs] at hcell
      have HS : Aside0 (ts.take (k + 1) = ts.take k ++ [s]) := ⟨by rw [List.take_succ_eq_append_getElem hlt, hs]⟩
      obtain ⟨us, hus⟩ : ∃ us, ts.take k = us := ⟨_, rfl⟩
      rw [hus] at HI HS
      have HU : Aside0 (us.length = k) := ⟨by rw [← hus, List.length_take]; omega⟩
      clear hs hus
      have HMP := Aside0.mk (HI.out.map.alloc (.cells #[.int .i64 s.size, .string s] 84))
      have hlook := HMP.out.look s true
      unfold wordV at hlook
      obtain ⟨B, hB⟩ : ∃ B, w.heap.size = B := ⟨_, rfl⟩
      rw [hB] at hlook ⊢
      by_cases hin : s ∈ gp us
      · simp only [hin, if_true, decide_true] at hlook
        have hlook2 := HMP.out.look s false
        unfold wordV at hlook2
        simp only [hin, if_true, Bool.false_eq_true, if_false] at hlook2
        rw [hB] at hlook2
        obtain ⟨x0, hrc, hrf⟩ := refs_cell (blk_alloc HI.out.refs (.cells #[.int .i64 s.size, .string s] 84)) (show us.length < ts.length by rw [HU.out]; exact hlt)
        have hgp : gp (us ++ [s]) = gp us := by rw [gp_snoc, if_pos hin]
        have HF := GInv.stored (w := w) (us := us) (s := s) (n := ts.length) (W := wr.alloc (.cells #[.int .i64 s.size, .string s] 84)) (by rw [HU.out]; exact hlt) (by rw [hgp]; exact HMP.out) (blk_alloc HI.out.refs _) (by rw [hgp]; exact Kd.R_alloc HI.out.pool _) (HI.out.below.alloc HI.out.below.size _)
        rw [hgp, HU.out] at HF
        rw [HU.out] at hrc hrf
        rw [hB] at HF hrc hrf
        have HFI := Aside0.mk HF
        clear HF hgp hin hB
        go_wp2
        go_roundw
        case rel => exact ⟨k + 1, by omega, by go_num, ⟨by rw [HS.out]; exact HFI.out⟩⟩
        case measure => simp [intOf]; omega
      · simp only [hin, if_false, decide_false, if_true] at hlook
        obtain ⟨w2, hupd, hmp2, hg2⟩ := HMP.out.update s hin
        obtain ⟨Ap, cp, hvp⟩ := Kd.R_slice HI.out.pool
        subst hvp
        have hpl : (gp us).length ≤ us.length := gp_length us
        have HO2 : Aside0 (OwnS w2 (w.heap.size + 2) (.slice Ap (gp us).length cp) (gp us)) := ⟨Kd.R_mono (Kd.R_grown (Kd.R_bound (Kd.R_alloc HI.out.pool (.cells #[.int .i64 s.size, .string s] 84))) hg2 (fun k hk e => by have h1 := hk.2.1; injection e with e; omega)) (fun _ _ => trivial)⟩
        have HB2 : Aside0 (Below w.heap.size w w2) := ⟨below_grown (HI.out.below.alloc HI.out.below.size _) hg2 (Nat.le_trans HI.out.below.size (by simp)) (Nat.le_refl _)⟩
        have HR2 := Aside0.mk (blk_grown (blk_alloc HI.out.refs (.cells #[.int .i64 s.size, .string s] 84)) hg2 (fun e => by injection e with e; omega))
        have HW2 := Aside0.mk (blk_grown (blk_new wr (.cells #[.int .i64 s.size, .string s] 84)) hg2 (fun e => by injection e with e; have := HI.out.size; omega))
        have HM2 := Aside0.mk hmp2
        unfold wordV at hupd
        have HGP : Aside0 (gp (us ++ [s]) = gp us ++ [s]) := ⟨by rw [gp_snoc, if_neg hin]⟩
        have HPL : Aside0 ((gp us).length ≤ us.length) := ⟨hpl⟩
        have HSZ := Aside0.mk HI.out.size
        rw [hB] at hupd
        have HBE := Aside0.mk hB
        clear hin hB hmp2 hg2 hpl
        go_wp2_with (first
          | ((with_reducible refine gate_builtin (b := .append) (xs := #[.tmp 39, .tmp 41]) rfl ?_); at_builtin; refine appS (w0 := w2) (w.heap.size + 2) rfl (.tmp 39) (.tmp 41) rfl (.slice Ap (gp us).length cp) (gp us) s rfl rfl HO2.out (Below.refl _ _) (by have := blk_lt HR2.out; omega) (by have := HPL.out; have := HU.out; omega) ?_; intro v1 w3 ho hb3 hg3;
              have HW3 := Aside0.mk (blk_grown HW2.out hg3 (Kd.R_ne HO2.out HW2.out (by decide)));
              have HM3 := Aside0.mk (HM2.out.kept (hb3.block _ (by omega)));
              have HR3 := Aside0.mk (blk_below HR2.out hb3 (by omega));
              have HO3 := Aside0.mk ho;
              have HB3 := Aside0.mk (HB2.out.trans (hb3.mono (by omega)));
              have hx0 := blk_cell HW3.out 0; have hx1 := blk_cell HW3.out 1;
              simp only [List.getElem?_toArray, List.getElem?_cons_zero, List.getElem?_cons_succ] at hx0 hx1;
              have hlook3 := HM3.out.look s false; unfold wordV at hlook3;
              simp only [List.mem_append, List.mem_singleton, or_true, if_true, Bool.false_eq_true, if_false] at hlook3;
              rw [HBE.out] at hlook3;
              obtain ⟨x0, hrc, hrf⟩ := refs_cell HR3.out (show us.length < ts.length by rw [HU.out]; exact hlt);
              rw [HU.out, HBE.out] at hrc hrf;
              clear hg3 hb3 ho HW2 HM2 HR2 HO2 HB2 hlook hupd))
        have HF := GInv.stored (w := w) (us := us) (s := s) (n := ts.length) (W := w3) (by rw [HU.out]; exact hlt) (by rw [HGP.out]; exact HM3.out) HR3.out (by rw [HGP.out]; exact HO3.out) HB3.out
        rw [HGP.out, HU.out, HBE.out] at HF
        have HFI := Aside0.mk HF
        clear HF
        go_roundw
        case rel => exact ⟨k + 1, by omega, by go_num, ⟨by rw [HS.out]; exact HFI.out⟩⟩
        case measure => simp [intOf]; omega
    · obtain rfl : k = ts.length := by omega
      go_wp2
      go_ret2
      have h := HI.out
      rw [List.take_length] at h
      obtain ⟨Ap, cp, hv, hl, hr⟩ := Kd.R_reads h.pool
      have h2 := C_blk .i64 (rl ts ts.length) h.refs (by rw [rl_length _ _ (Nat.le_refl _)]; exact hlen)
      rw [rl_length _ _ (Nat.le_refl _), rl_all] at h2
      exact ⟨Ap, _, cp, _, _, by rw [hv]; rfl, rfl, hl, Nat.le_refl _, hr, h2, h.below⟩
end Go.Proofs.Ytfbmgjanplnabaa
/- pack.isPool: is it a pool? -/
namespace Go.Proofs.Ytfbmgjanplnabaa
open Go.RowKit Go.Proofs.YtfbmgjanplnabaaW.PrintWords Go.Proofs.YtfbmgjanplnabaaW.PrintLast Go.Proofs.YtfbmgjanplnabaaW.PrintMore
set_option linter.unusedVariables false
set_option linter.unusedSimpArgs false

set_option maxHeartbeats 400000 in
theorem long_calls (s : ByteArray) (w : World) : Calls Try.prog 62 #[.string s] w fun e w' => e = .returned (.bool (decide (400 < s.size))) ∧ w = w' := by
  go_enter Try.func62, Try.ntmps62
  go_wp2
  go_ret
  refine ⟨?_, rfl⟩
  simp
  omega

def anyLong (ts : List ByteArray) : Bool := ts.any fun s => decide (400 < s.size)

set_option maxHeartbeats 400000 in
theorem index_calls (ts : List ByteArray) (A : Option Addr) (c : Nat) (w : World) (hC : RdS w A ts) :
    Calls Try.prog 73 #[.slice A ts.length c, .func (.func 62) #[] #[]] w fun e w' => (∃ r : Int, e = .returned (.int .i64 r) ∧ decide (0 ≤ r) = anyLong ts) ∧ w = w' := by
  have HC := Aside0.mk hC
  have hlen : ts.length ≤ 9223372036854775807 := hC.2.1
  clear hC
  go_enter Try.func73, Try.ntmps73
  go_wp2
  go_loop [8] (fun i => ∃ k : Nat, k ≤ ts.length ∧ i = .int .i64 k ∧ Aside0 (anyLong (ts.take k) = false)) (fun i => ts.length - (intOf i).toNat)
  case atStart => exact ⟨0, by omega, rfl, ⟨rfl⟩⟩
  case round =>
    obtain ⟨k, hk, rfl, HA⟩ := hrel
    by_cases hlt : k < ts.length
    · obtain ⟨ad, e, hcell⟩ := at_S HC.out k hlt
      subst e
      obtain ⟨s, hs⟩ : ∃ s, ts[k] = s := ⟨_, rfl⟩
      rw [hs] at hcell
      have HS : Aside0 (ts.take (k + 1) = ts.take k ++ [s]) := ⟨by rw [List.take_succ_eq_append_getElem hlt, hs]⟩
      have HM : Aside0 (s ∈ ts) := ⟨by rw [← hs]; exact List.getElem_mem hlt⟩
      clear hs
      by_cases hl : 400 < s.size
      · have hb : decide (400 < s.size) = true := by simpa using hl
        go_wp2_with (go_at_call 62; refine (long_calls s _).mono ?_; rintro e w' ⟨rfl, rfl⟩; rw [hb])
        go_ret
        refine ⟨⟨_, rfl, ?_⟩, rfl⟩
        have h1 : anyLong ts = true := by
          unfold anyLong
          rw [List.any_eq_true]
          exact ⟨s, HM.out, hb⟩
        rw [h1]
        simp
      · have hb : decide (400 < s.size) = false := by simpa using hl
        go_wp2_with (go_at_call 62; refine (long_calls s _).mono ?_; rintro e w' ⟨rfl, rfl⟩; rw [hb])
        go_round
        case rel => exact ⟨k + 1, by omega, by go_num, ⟨by rw [HS.out]; unfold anyLong; rw [List.any_append, show (ts.take k).any (fun s => decide (400 < s.size)) = false from HA.out]; simp [hb]⟩⟩
        case measure => simp [intOf]; omega
    · obtain rfl : k = ts.length := by omega
      go_wp2
      go_ret
      have h := HA.out
      rw [List.take_length] at h
      exact ⟨⟨_, rfl, by rw [h]; rfl⟩, rfl⟩

set_option maxHeartbeats 400000 in
theorem contains_calls (ts : List ByteArray) (A : Option Addr) (c : Nat) (w : World) (hC : RdS w A ts) :
    Calls Try.prog 63 #[.slice A ts.length c, .func (.func 62) #[] #[]] w fun e w' => e = .returned (.bool (anyLong ts)) ∧ w = w' := by
  have HC := Aside0.mk hC
  clear hC
  go_enter Try.func63, Try.ntmps63
  go_wp2_with fail
  refine (index_calls ts A c _ HC.out).mono ?_
  rintro e w' ⟨⟨r, rfl, hr⟩, rfl⟩
  have HR := Aside0.mk hr
  clear hr
  go_wp2
  go_ret
  refine ⟨?_, rfl⟩
  rw [← HR.out]
  first | rfl | simp

/-- May a row of texts be a pool? -/
def isPool (ts : List ByteArray) : Bool := decide ((gp ts).length = ts.length) && decide (ts.length ≤ 500) && !anyLong ts

set_option maxHeartbeats 800000 in
theorem isPool_calls (ts : List ByteArray) (A : Option Addr) (c : Nat) (w : World) (hC : RdS w A ts) (hm : ts.length * 16 ≤ 140737488351232) :
    Calls Try.prog 43 #[.slice A ts.length c] w fun e w' => e = .returned (.bool (isPool ts)) ∧ Below w.heap.size w w' := by
  have HC := Aside0.mk hC
  have HM := Aside0.mk hm
  clear hC hm
  by_cases h1 : (gp ts).length = ts.length
  · have hb1 : decide ((gp ts).length = ts.length) = true := by simpa using h1
    by_cases h2 : ts.length ≤ 500
    · have hb2 : decide (ts.length ≤ 500) = true := by simpa using h2
      have HF : Aside0 (isPool ts = !anyLong ts) := ⟨by unfold isPool; rw [hb1, hb2]; simp⟩
      clear hb1 hb2
      go_enter Try.func43, Try.ntmps43
      go_wp2_with (first
        | (go_at_call 22; refine (gather_calls ts A c _ HC.out HM.out).mono ?_; rintro e w1 ⟨Ap, np, cp, Ar, cr, rfl, hnp, h3, h4, h5, h6, hb⟩; have HB := Aside0.mk hb; rw [h1] at hnp; subst hnp; clear h3 h4 h5 h6 hb)
        | (go_at_call 63; refine (contains_calls ts A c _ (Kd.C_below HC.out HB.out)).mono ?_; rintro e w2 ⟨rfl, rfl⟩))
      go_ret
      exact ⟨by rw [HF.out]; rfl, HB.out⟩
    · have hb2 : decide (ts.length ≤ 500) = false := by simpa using h2
      have HF : Aside0 (isPool ts = false) := ⟨by unfold isPool; rw [hb1, hb2]; simp⟩
      clear hb1 hb2
      go_enter Try.func43, Try.ntmps43
      go_wp2_with (first
        | (go_at_call 22; refine (gather_calls ts A c _ HC.out HM.out).mono ?_; rintro e w1 ⟨Ap, np, cp, Ar, cr, rfl, hnp, h3, h4, h5, h6, hb⟩; have HB := Aside0.mk hb; rw [h1] at hnp; subst hnp; clear h3 h4 h5 h6 hb))
      go_ret
      exact ⟨by rw [HF.out]; rfl, HB.out⟩
  · have hb1 : decide ((gp ts).length = ts.length) = false := by simpa using h1
    have HF : Aside0 (isPool ts = false) := ⟨by unfold isPool; rw [hb1]; simp⟩
    clear hb1
    go_enter Try.func43, Try.ntmps43
    go_wp2_with (first
        | (go_at_call 22; refine (gather_calls ts A c _ HC.out HM.out).mono ?_; rintro e w1 ⟨Ap, np, cp, Ar, cr, rfl, hnp, h3, h4, h5, h6, hb⟩; have HB := Aside0.mk hb; have hq : ((np : Int) == (ts.length : Int)) = false := (by rw [beq_eq_false_iff_ne]; omega); clear h3 h4 h5 h6 hb hnp h1))
    go_ret
    exact ⟨by rw [HF.out]; rfl, HB.out⟩
end Go.Proofs.Ytfbmgjanplnabaa
/- pack.PutPool: a pool as bytes. -/
namespace Go.Proofs.Ytfbmgjanplnabaa
open Go.RowKit Go.Proofs.YtfbmgjanplnabaaW.PrintWords Go.Proofs.YtfbmgjanplnabaaW.PrintLast Go.Proofs.YtfbmgjanplnabaaW.PrintMore
set_option linter.unusedVariables false
set_option linter.unusedSimpArgs false

def textBytes (s : ByteArray) : List Int := be s.size 2 ++ bytesOf s
def poolBytes (ts : List ByteArray) : List Int := be ts.length 2 ++ ts.flatMap textBytes
theorem isPool_size {ts : List ByteArray} (h : isPool ts = true) (s : ByteArray) (hs : s ∈ ts) : s.size ≤ 400 := by
  simp only [isPool, Bool.and_eq_true, Bool.not_eq_true', anyLong] at h
  have := List.any_eq_false.1 h.2 s hs
  simpa using this
theorem isPool_length {ts : List ByteArray} (h : isPool ts = true) : ts.length ≤ 500 := by
  simp only [isPool, Bool.and_eq_true, decide_eq_true_eq] at h
  exact h.1.2
theorem be2_length (n : Int) : (be n 2).length = 2 := rfl
theorem textBytes_length (s : ByteArray) : (textBytes s).length = s.size + 2 := by
  unfold textBytes
  rw [List.length_append, be2_length, bytesOf_length]; omega
theorem flat_length {ts : List ByteArray} (h : ∀ s ∈ ts, s.size ≤ 400) : (ts.flatMap textBytes).length ≤ 402 * ts.length := by
  induction ts with
  | nil => simp
  | cons s ts ih =>
    have h1 := h s (List.mem_cons_self)
    have h2 := ih (fun t ht => h t (List.mem_cons_of_mem _ ht))
    have h3 := textBytes_length s
    rw [List.flatMap_cons, List.length_append, List.length_cons]
    omega

section
variable {ops : Array Oper} {rest : List Oper} {o : Oper} {a : Act} {Q : Exit → Act → World → Prop}
/-- append(v, s...), s a text. -/
theorem appBS {w0 W : World} (base : Nat) (hgd : o.guard = none) (s x : Operand)
    (ho : o.op = .call { callee := .builtin .append, args := #[s, x], argTypes := #[32, 9] })
    (v : Value) (xs : List Int) (y : ByteArray) (hs : a.eval s = v) (hx : a.eval x = .string y)
    (HO : OwnB W base v xs) (HB : Below base w0 W) (hbase : base ≤ W.heap.size) (hl : xs.length + y.size ≤ 140737488355328)
    (h : ∀ v1 w1, OwnB w1 base v1 (xs ++ bytesOf y) → Below base w0 w1 → W.grownBy w1 v.ownBlock → wpList Try.prog ops Q rest (a.put o.dst v1) w1) :
    wpList Try.prog ops Q (o :: rest) a W :=
  print_append_str base hgd s x 32 9 5 ho Try.underlying32 Try.underlying9 info5 v xs y hs hx (Kd.own_of_R HO) HB hbase hl
    (fun v1 w1 h1 h2 h3 => h v1 w1 (Kd.R_of_own h1 (fun _ _ => trivial)) h2 h3)
end

set_option maxHeartbeats 400000 in
theorem putPool_bad (ts : List ByteArray) (A : Option Addr) (c : Nat) (v : Value) (w : World) (hC : RdS w A ts) (hm : ts.length * 16 ≤ 140737488351232) (hp : isPool ts = false) :
    Calls Try.prog 23 #[v, .slice A ts.length c] w fun e w' => e = .returned (.tuple #[v, .int .i64 1]) ∧ Below w.heap.size w w' := by
  have HC := Aside0.mk hC
  have HM := Aside0.mk hm
  have HP := Aside0.mk hp
  clear hC hm hp
  go_enter Try.func23, Try.ntmps23
  go_wp2_with (go_at_call 43; refine (isPool_calls ts A c _ HC.out HM.out).mono ?_; rintro e w1 ⟨rfl, hb⟩; rw [HP.out]; have HB := Aside0.mk hb; clear hb)
  go_ret2
  exact ⟨rfl, HB.out⟩

set_option maxHeartbeats 1600000 in
set_option maxRecDepth 100000 in
theorem putPool_ok (ts : List ByteArray) (A : Option Addr) (c : Nat) (w : World) (hC : RdS w A ts) (hm : ts.length * 16 ≤ 140737488351232) (hp : isPool ts = true) :
    Calls Try.prog 23 #[.slice none 0 0, .slice A ts.length c] w (putPost (poolBytes ts) w) := by
  have HC := Aside0.mk hC
  have HM := Aside0.mk hm
  have HP := Aside0.mk hp
  have hln := isPool_length hp
  clear hC hm hp
  have hfit : fits ts.length 2 = true := by
    simp only [fits, Bool.and_eq_true, decide_eq_true_eq]
    have : lim 2 = 65536 := rfl
    omega
  have HFT := Aside0.mk hfit
  clear hfit
  go_enter Try.func23, Try.ntmps23
  go_wp2_with (first
    | (go_at_call 43; refine (isPool_calls ts A c _ HC.out HM.out).mono ?_; rintro e w1 ⟨rfl, hb⟩; rw [HP.out]; have HB := Aside0.mk hb; clear hb)
    | (go_at_call 44; refine (put_ok 2 (.inr (.inl rfl)) [] none 0 ts.length _ (Kd.C_nil _ _) (Nat.le_refl _) (by simp) HFT.out).mono ?_; rintro e w2 ⟨v, rfl, ho, hb⟩; have HO := Aside0.mk (Kd.R_lower ho HB.out.size); have HB2 := Aside0.mk (below_then HB.out HB.out.size hb); clear ho hb))
  have HO1 : Aside0 (OwnB w2 w.heap.size v (be ts.length 2 ++ (ts.take 0).flatMap textBytes)) := ⟨by rw [List.take_zero, List.flatMap_nil, List.append_nil]; exact HO.out⟩
  clear HO
  go_loopw [6, 9, 24] (fun v _ i W => ∃ k : Nat, k ≤ ts.length ∧ i = .int .i64 k ∧ Aside0 (OwnB W w.heap.size v (be ts.length 2 ++ (ts.take k).flatMap textBytes)) ∧ Aside0 (Below w.heap.size w W)) (fun _ _ i _ => ts.length - (intOf i).toNat)
  case atStart => exact ⟨0, by omega, rfl, HO1, HB2⟩
  case round =>
    clear HO1 HB2 HB
    obtain ⟨k, hk, rfl, HO, HB⟩ := hrel
    by_cases hlt : k < ts.length
    · obtain ⟨ad, e, hcell⟩ := at_S (Kd.C_below HC.out HB.out) k hlt
      subst e
      obtain ⟨s, hs⟩ : ∃ s, ts[k] = s := ⟨_, rfl⟩
      rw [hs] at hcell
      have hmem : s ∈ ts := by rw [← hs]; exact List.getElem_mem hlt
      have hsz := isPool_size HP.out s hmem
      have HS : Aside0 ((ts.take (k + 1)).flatMap textBytes = (ts.take k).flatMap textBytes ++ textBytes s) := ⟨by rw [List.take_succ_eq_append_getElem hlt, hs, List.flatMap_append]; simp⟩
      have hfit : fits s.size 2 = true := by
        simp only [fits, Bool.and_eq_true, decide_eq_true_eq]
        have : lim 2 = 65536 := rfl
        omega
      have HFT := Aside0.mk hfit
      have HL : Aside0 ((be ts.length 2 ++ (ts.take k).flatMap textBytes).length ≤ 300000) := ⟨by
        have h1 := flat_length (ts := ts.take k) (fun t ht => isPool_size HP.out t (List.mem_of_mem_take ht))
        rw [List.length_append, be2_length]
        rw [List.length_take, Nat.min_eq_left hk] at h1
        omega⟩
      obtain ⟨xs, hxs⟩ : ∃ xs, be ts.length 2 ++ (ts.take k).flatMap textBytes = xs := ⟨_, rfl⟩
      rw [hxs] at HO HL
      have HXS := Aside0.mk hxs
      obtain ⟨Av, cv, hv, hcc, hrd⟩ := Kd.R_reads HO.out
      subst hv
      have HRD := Aside0.mk hrd
      have HCC := Aside0.mk hcc
      clear hs hmem hfit hxs hrd hcc
      go_wp2_with (first
        | (go_at_call 44; refine (put_ok 2 (.inr (.inl rfl)) xs Av cv s.size _ HRD.out HCC.out (by have := HL.out; omega) HFT.out).mono ?_; rintro e w3 ⟨v3, rfl, ho, hb⟩; have HO3 := Aside0.mk (Kd.R_lower ho HB.out.size); have HB3 := Aside0.mk (below_then HB.out HB.out.size hb); clear ho hb)
        | ((with_reducible refine gate_builtin (b := .append) (xs := #[.tmp 36, .tmp 37]) rfl ?_); at_builtin; refine appBS (w0 := w) w.heap.size rfl (.tmp 36) (.tmp 37) rfl v3 (xs ++ be s.size 2) s rfl rfl HO3.out HB3.out HB3.out.size (by have := HL.out; rw [List.length_append, be2_length]; omega) ?_; intro v4 w4 ho hb hg; have HO4 := Aside0.mk ho; have HB4 := Aside0.mk hb; clear ho hb hg))
      go_roundw
      case rel => exact ⟨k + 1, by omega, by go_num, ⟨by rw [HS.out, ← List.append_assoc, HXS.out]; unfold textBytes; rw [← List.append_assoc]; exact HO4.out⟩, HB4⟩
      case measure => simp [intOf]; omega
    · obtain rfl : k = ts.length := by omega
      go_wp2
      go_ret2
      have h := HO.out
      rw [List.take_length] at h
      exact ⟨_, rfl, h, HB.out⟩
end Go.Proofs.Ytfbmgjanplnabaa
/- bund.Texts: a locale's texts. -/
namespace Go.Proofs.Ytfbmgjanplnabaa
open Go.RowKit Go.Proofs.YtfbmgjanplnabaaW.PrintWords Go.Proofs.YtfbmgjanplnabaaW.PrintLast Go.Proofs.YtfbmgjanplnabaaW.PrintMore
set_option linter.unusedVariables false
set_option linter.unusedSimpArgs false

def ruT (rs : List Rl) : List ByteArray := rs.map fun r => r.2
def cuT (cs : List Cu) : List ByteArray := cs.flatMap fun c => [c.1, c.2.1]
def cmT (cs : List Cm) : List ByteArray := cs.map fun c => c.2.2
def texts (l : Loc) : List ByteArray := [l.tag, l.p0, l.p1, l.p2, l.p3] ++ ruT l.rules ++ cuT l.curs ++ cmT l.comps
/-- No more of each than a bundle can tell. -/
def Few (l : Loc) : Prop := l.rules.length ≤ 65535 ∧ l.curs.length ≤ 65535 ∧ l.comps.length ≤ 65535
theorem cuT_length (cs : List Cu) : (cuT cs).length = 2 * cs.length := by
  induction cs with
  | nil => rfl
  | cons c cs ih => have : cuT (c :: cs) = [c.1, c.2.1] ++ cuT cs := rfl; rw [this, List.length_append, ih]; simp; omega
theorem texts_length (l : Loc) : (texts l).length = 5 + l.rules.length + 2 * l.curs.length + l.comps.length := by
  unfold texts
  rw [List.length_append, List.length_append, List.length_append, cuT_length]
  simp [ruT, cmT]

theorem ruT_succ (cs : List Rl) (k : Nat) (h : k < cs.length) : ruT (cs.take (k + 1)) = ruT (cs.take k) ++ [cs[k].2] := by
  rw [List.take_succ_eq_append_getElem h]; unfold ruT; rw [List.map_append]; rfl
theorem cuT_succ (cs : List Cu) (k : Nat) (h : k < cs.length) : cuT (cs.take (k + 1)) = cuT (cs.take k) ++ [cs[k].1, cs[k].2.1] := by
  rw [List.take_succ_eq_append_getElem h]; unfold cuT; rw [List.flatMap_append]; simp
theorem cmT_succ (cs : List Cm) (k : Nat) (h : k < cs.length) : cmT (cs.take (k + 1)) = cmT (cs.take k) ++ [cs[k].2.2] := by
  rw [List.take_succ_eq_append_getElem h]; unfold cmT; rw [List.map_append]; rfl

theorem C_blkS {w : World} {g : Nat} {t : TypeId} {fr : Nat × Nat} (xs : List ByteArray) (h : w.heap[g]? = some (.cells (xs.map Value.string).toArray t fr)) (hm : xs.length ≤ 9223372036854775807) : RdS w (some ⟨g, 0, none⟩) xs := by
  refine Kd.C_of_reads (d := ByteArray.empty) (h1 := fun _ => rfl) ⟨rfl, hm, fun _ => ⟨_, rfl, fun j hj => ?_⟩⟩
  rw [add_plain]
  simp [World.cell?, h, List.getElem?_eq_getElem hj, List.getD_eq_getElem?_getD]
/-- Four texts of an array inside a block. -/
theorem C_four {w : World} {g i : Nat} {x0 x1 x2 x3 : ByteArray} (h0 : w.cell? ⟨g, i, none⟩ = some (.string x0)) (h1 : w.cell? ⟨g, i + 1, none⟩ = some (.string x1)) (h2 : w.cell? ⟨g, i + 2, none⟩ = some (.string x2)) (h3 : w.cell? ⟨g, i + 3, none⟩ = some (.string x3)) :
    RdS w (some ⟨g, i, none⟩) [x0, x1, x2, x3] := by
  refine Kd.C_of_reads (d := ByteArray.empty) (h1 := fun _ => rfl) ⟨rfl, by simp, fun _ => ⟨_, rfl, fun j hj => ?_⟩⟩
  rw [plain_add]
  rcases (show j = 0 ∨ j = 1 ∨ j = 2 ∨ j = 3 by simp at hj; omega) with rfl | rfl | rfl | rfl
  · exact h0
  · exact h1
  · exact h2
  · exact h3
section
variable {ops : Array Oper} {rest : List Oper} {o : Oper} {a : Act} {Q : Exit → Act → World → Prop} {K : Act → World → Prop}
/-- append(v, ys...) at texts. -/
theorem appSS {w0 W : World} (base : Nat) (hgd : o.guard = none) (s x : Operand)
    (ho : o.op = .call { callee := .builtin .append, args := #[s, x], argTypes := #[47, 47] })
    (v : Value) (xs ys : List ByteArray) (A : Option Addr) (c : Nat) (hs : a.eval s = v) (hx : a.eval x = .slice A ys.length c)
    (HO : OwnS W base v xs) (HR : RdS W A ys) (HB : Below base w0 W) (hbase : base ≤ W.heap.size) (hl : (xs.length + ys.length) * 16 ≤ 140737488355328)
    (h : ∀ v1 w1, OwnS w1 base v1 (xs ++ ys) → Below base w0 w1 → W.grownBy w1 v.ownBlock → wpList Try.prog ops Q rest (a.put o.dst v1) w1) :
    wpList Try.prog ops Q (o :: rest) a W :=
  Kd.R_append_rows Kd.string (Rr := Kd.string.K W) base hgd s x 47 9 (.string ⟨#[]⟩) 16 ho Try.underlying47 info9 rfl (by decide) (by omega) v xs ys A ys.length c (fun _ => True) (fun _ => False) hs hx HO HR (fun _ _ h => h) (fun _ h => h.elim) (fun _ _ => trivial) HB hbase hl (fun v1 w1 h1 h2 h3 _ => h v1 w1 h1 h2 h3)
theorem appSS_step {w0 W : World} (base : Nat) (hw : Region.wanted o (yielded ops a.tmps) = true) (s x : Operand)
    (ho : o.op = .call { callee := .builtin .append, args := #[s, x], argTypes := #[47, 47] })
    (v : Value) (xs ys : List ByteArray) (A : Option Addr) (c : Nat) (hs : a.eval s = v) (hx : a.eval x = .slice A ys.length c)
    (HO : OwnS W base v xs) (HR : RdS W A ys) (HB : Below base w0 W) (hbase : base ≤ W.heap.size) (hl : (xs.length + ys.length) * 16 ≤ 140737488355328)
    (h : ∀ v1 w1, OwnS w1 base v1 (xs ++ ys) → Below base w0 w1 → W.grownBy w1 v.ownBlock → K (a.put o.dst v1) w1) :
    if Region.wanted o (yielded ops a.tmps) = true then Oper.wp Try.prog o a W K Q else K (a.put o.dst undef) W :=
  Kd.R_append_rows_step Kd.string (Rr := Kd.string.K W) base hw s x 47 9 (.string ⟨#[]⟩) 16 ho Try.underlying47 info9 rfl (by decide) (by omega) v xs ys A ys.length c (fun _ => True) (fun _ => False) hs hx HO HR (fun _ _ h => h) (fun _ h => h.elim) (fun _ _ => trivial) HB hbase hl (fun v1 w1 h1 h2 h3 _ => h v1 w1 h1 h2 h3)
end
theorem own_litS (W : World) (base : Nat) (xs : List ByteArray) (hb : base ≤ W.heap.size) (hm : xs.length ≤ 9223372036854775807) : OwnS (W.alloc (.cells (xs.map Value.string).toArray 9)) base (.slice (some ⟨W.heap.size, 0, none⟩) xs.length xs.length) xs := by
  refine Kd.R_of_own ?_ (fun _ _ => trivial)
  have h := World.ownsRow_lit (base := base) (e := 9) (size := 1) W (xs.map Value.string).toArray xs.length hb (by simpa [maxLen] using hm) (by simp)
  simpa [encs] using h

set_option maxHeartbeats 1600000 in
set_option maxRecDepth 100000 in
theorem texts_calls (l : Loc) (L : List Value) (w : World) (hL : RdL w l L) (hF : Few l) :
    Calls Try.prog 19 #[.agg L.toArray] w fun e w' => ∃ v, e = .returned v ∧ OwnS w' w.heap.size v (texts l) ∧ Below w.heap.size w w' := by
  obtain ⟨Ar, cr, Ac, cc, Ak, ck, rfl, h1, h2, h3, h4, h5, h6⟩ := hL
  have HF := Aside0.mk hF
  have hf1 : l.rules.length ≤ 65535 := hF.1
  have hf2 : l.curs.length ≤ 65535 := hF.2.1
  have hf3 : l.comps.length ≤ 65535 := hF.2.2
  have HBL := Aside0.mk (blk_new w (.cells (lcells l (.slice Ar l.rules.length cr) (.slice Ac l.curs.length cc) (.slice Ak l.comps.length ck)).toArray 29))
  have HB1 := Aside0.mk ((Below.refl w.heap.size w).alloc (Nat.le_refl _) (.cells (lcells l (.slice Ar l.rules.length cr) (.slice Ac l.curs.length cc) (.slice Ak l.comps.length ck)).toArray 29))
  have HR := Aside0.mk (Kd.C_alloc h4 (.cells (lcells l (.slice Ar l.rules.length cr) (.slice Ac l.curs.length cc) (.slice Ak l.comps.length ck)).toArray 29))
  have HC := Aside0.mk (Kd.C_alloc h5 (.cells (lcells l (.slice Ar l.rules.length cr) (.slice Ac l.curs.length cc) (.slice Ak l.comps.length ck)).toArray 29))
  have HK := Aside0.mk (Kd.C_alloc h6 (.cells (lcells l (.slice Ar l.rules.length cr) (.slice Ac l.curs.length cc) (.slice Ak l.comps.length ck)).toArray 29))
  have HSZ := Aside0.mk (size_alloc w (.cells (lcells l (.slice Ar l.rules.length cr) (.slice Ac l.curs.length cc) (.slice Ak l.comps.length ck)).toArray 29))
  clear hF h4 h5 h6
  unfold lcells at HBL HB1 HR HC HK HSZ
  unfold lcells
  go_enter Try.func19, Try.ntmps19
  go_wp2
  obtain ⟨g, hg⟩ : ∃ g, w.heap.size = g := ⟨_, rfl⟩
  rw [hg] at HBL HSZ ⊢
  have HG := Aside0.mk hg
  generalize hw1 : w.alloc _ = w1 at HBL HB1 HR HC HK HSZ ⊢
  have hc0 := blk_cell HBL.out 0
  have hc8 := blk_cell HBL.out 8
  have hc9 := blk_cell HBL.out 9
  have hc10 := blk_cell HBL.out 10
  have hc11 := blk_cell HBL.out 11
  simp only [List.getElem?_toArray, List.getElem?_cons_zero, List.getElem?_cons_succ] at hc0 hc8 hc9 hc10 hc11
  have HP := Aside0.mk (C_four hc8 hc9 hc10 hc11)
  clear hc8 hc9 hc10 hc11 hw1 hg
  go_region_law (first
    | (refine appSS_step (w0 := w1) (g + 1) (by rfl) (.tmp 12) (.tmp 14) rfl _ [l.tag] [l.p0, l.p1, l.p2, l.p3] (some ⟨g, 8, none⟩) 4 rfl rfl (own_litS w1.drew _ [l.tag] (Nat.le_of_eq HSZ.out.symm) (by simp)) (Kd.C_alloc (Kd.C_drew HP.out) _) ((Below.refl _ _).drew.alloc (Nat.le_of_eq HSZ.out.symm) _) (by have := HSZ.out; simp; omega) (by simp) ?_; intro v w2 ho hb hgr; have HO := Aside0.mk ho; have HB := Aside0.mk hb; clear ho hb hgr))
  obtain ⟨xs0, hxs0⟩ : ∃ xs, [l.tag] ++ [l.p0, l.p1, l.p2, l.p3] = xs := ⟨_, rfl⟩
  rw [hxs0] at HO
  have HX0 := Aside0.mk hxs0
  have HL0 : Aside0 (xs0.length = 5) := ⟨by rw [← hxs0]; rfl⟩
  clear hxs0 hc0 HP
  replace HL0 : Aside0 (xs0.length ≤ 5) := ⟨Nat.le_of_eq HL0.out⟩
  have hd0 := blk_cell (blk_below HBL.out HB.out (Nat.lt_succ_self g)) 12
  simp only [List.getElem?_toArray, List.getElem?_cons_zero, List.getElem?_cons_succ] at hd0
  go_wp2
  clear hd0
  have HO1 : Aside0 (OwnS w2 (g + 1) v (xs0 ++ ruT (l.rules.take 0))) := ⟨by rw [List.take_zero]; exact (List.append_nil xs0).symm ▸ HO.out⟩
  clear HO
  go_loopw [3, 5, 19] (fun v _ i W => ∃ k : Nat, k ≤ l.rules.length ∧ i = .int .i64 k ∧ Aside0 (OwnS W (g + 1) v (xs0 ++ ruT (l.rules.take k))) ∧ Aside0 (Below (g + 1) w1 W)) (fun _ _ i _ => l.rules.length - (intOf i).toNat)
  case atStart => exact ⟨0, by omega, rfl, HO1, HB⟩
  case round =>
    clear HO1 HB
    obtain ⟨k, hk, rfl, HO, HB⟩ := hrel
    by_cases hlt : k < l.rules.length
    · obtain ⟨b, off, rfl, hb⟩ := C_plainA pos_Rl HR.out (Nat.lt_of_le_of_lt (Nat.zero_le k) hlt)
      obtain ⟨ad, e, hc0, hc1⟩ := at_Rl HR.out k hlt
      injection e with e
      subst e
      rw [plain_add] at hc0 hc1
      rw [← Nat.add_assoc] at hc1
      rw [HSZ.out] at hb
      have hd0 := (HB.out.cell (p := ⟨b, off + k * 2, none⟩) hb).trans hc0
      have hd1 := (HB.out.cell (p := ⟨b, off + k * 2 + 1, none⟩) hb).trans hc1
      obtain ⟨cat, hcat⟩ : ∃ c, l.rules[k].1 = c := ⟨_, rfl⟩
      rw [hcat] at hd0
      obtain ⟨txt, htxt⟩ : ∃ c, l.rules[k].2 = c := ⟨_, rfl⟩
      rw [htxt] at hd1
      have HT : Aside0 (ruT (l.rules.take (k + 1)) = ruT (l.rules.take k) ++ [txt]) := ⟨by have h := ruT_succ l.rules k hlt; rw [htxt] at h; exact h⟩
      have HLN : Aside0 ((ruT (l.rules.take k)).length ≤ 1 * l.rules.length) := ⟨by unfold ruT; simp; omega⟩
      have hsW : g + 1 ≤ wr.heap.size := by have := HB.out.size; have := HSZ.out; omega
      have HSW := Aside0.mk hsW
      obtain ⟨Av, nv, cv, hv⟩ := R_slice' HO.out
      subst hv
      clear hc0 hc1 hcat htxt hb hsW
      go_wp2_with ((with_reducible refine gate_builtin (b := .append) (xs := #[.tmp 23, .tmp 26]) rfl ?_); at_builtin; go_must (refine appSS (w0 := w1) (g + 1) rfl (.tmp 23) (.tmp 26) rfl (.slice Av nv cv) (xs0 ++ ruT (l.rules.take k)) [txt] _ 1 rfl rfl (Kd.R_alloc (Kd.R_alloc HO.out _) _) (C_blkS [txt] (blk_new1 _ _ _) (by simp)) ((HB.out.alloc HSW.out _).alloc (by have := HSW.out; simp; omega) _) (by have := HSW.out; simp; omega) (by have := HLN.out; have := HL0.out; have := HF.out; unfold Few at this; rw [List.length_append]; simp; omega) ?_); intro v2 w3 ho hb2 hgr; have HO2 := Aside0.mk ho; have HB2 := Aside0.mk hb2; clear ho hb2 hgr)
      go_roundw
      case rel => exact ⟨k + 1, by omega, by go_num, ⟨by rw [HT.out, ← List.append_assoc]; exact HO2.out⟩, HB2⟩
      case measure => simp [intOf]; omega
    · obtain rfl : k = l.rules.length := by omega
      have ho := HO.out
      rw [List.take_length] at ho
      obtain ⟨xs1, hxs⟩ : ∃ xs, xs0 ++ ruT l.rules = xs := ⟨_, rfl⟩
      rw [hxs] at ho
      have HX1 := Aside0.mk hxs
      have HL1 : Aside0 (xs1.length ≤ 100000) := ⟨by have := HL0.out; have := HF.out; unfold Few at this; rw [← hxs, List.length_append]; unfold ruT; rw [List.length_map]; omega⟩
      clear HO hxs
      have HO := Aside0.mk ho
      clear ho
      have hd1 := blk_cell (blk_below HBL.out HB.out (Nat.lt_succ_self g)) 13
      simp only [List.getElem?_toArray, List.getElem?_cons_zero, List.getElem?_cons_succ] at hd1
      go_wp2
      clear hd1
      have HO1 : Aside0 (OwnS wr (g + 1) _ (xs1 ++ cuT (l.curs.take 0))) := ⟨by rw [List.take_zero]; exact (List.append_nil xs1).symm ▸ HO.out⟩
      clear HO
      go_loopw [3, 7, 32] (fun v _ i W => ∃ k : Nat, k ≤ l.curs.length ∧ i = .int .i64 k ∧ Aside0 (OwnS W (g + 1) v (xs1 ++ cuT (l.curs.take k))) ∧ Aside0 (Below (g + 1) w1 W)) (fun _ _ i _ => l.curs.length - (intOf i).toNat)
      case atStart => exact ⟨0, by omega, rfl, HO1, HB⟩
      case round =>
        clear HO1 HB
        obtain ⟨k, hk, rfl, HO, HB⟩ := hrel
        by_cases hlt : k < l.curs.length
        · obtain ⟨b, off, rfl, hb⟩ := C_plainA pos_Cu HC.out (Nat.lt_of_le_of_lt (Nat.zero_le k) hlt)
          obtain ⟨ad, e, hc0, hc1, hc2⟩ := at_Cu HC.out k hlt
          injection e with e
          subst e
          rw [plain_add] at hc0 hc1 hc2
          rw [← Nat.add_assoc] at hc1 hc2
          rw [HSZ.out] at hb
          have hd0 := (HB.out.cell (p := ⟨b, off + k * 3, none⟩) hb).trans hc0
          have hd1 := (HB.out.cell (p := ⟨b, off + k * 3 + 1, none⟩) hb).trans hc1
          have hd2 := (HB.out.cell (p := ⟨b, off + k * 3 + 2, none⟩) hb).trans hc2
          obtain ⟨code, hcode⟩ : ∃ c, l.curs[k].1 = c := ⟨_, rfl⟩
          rw [hcode] at hd0
          obtain ⟨sign, hsign⟩ : ∃ c, l.curs[k].2.1 = c := ⟨_, rfl⟩
          rw [hsign] at hd1
          obtain ⟨digs, hdigs⟩ : ∃ c, l.curs[k].2.2 = c := ⟨_, rfl⟩
          rw [hdigs] at hd2
          have HT : Aside0 (cuT (l.curs.take (k + 1)) = cuT (l.curs.take k) ++ [code, sign]) := ⟨by have h := cuT_succ l.curs k hlt; rw [hcode, hsign] at h; exact h⟩
          have HLN : Aside0 ((cuT (l.curs.take k)).length ≤ 2 * l.curs.length) := ⟨by rw [cuT_length]; simp; omega⟩
          have hsW : g + 1 ≤ wr.heap.size := by have := HB.out.size; have := HSZ.out; omega
          have HSW := Aside0.mk hsW
          obtain ⟨Av, nv, cv, hv⟩ := R_slice' HO.out
          subst hv
          clear hc0 hc1 hc2 hcode hsign hdigs hb hsW
          go_wp2_with ((with_reducible refine gate_builtin (b := .append) (xs := #[.tmp 36, .tmp 41]) rfl ?_); at_builtin; go_must (refine appSS (w0 := w1) (g + 1) rfl (.tmp 36) (.tmp 41) rfl (.slice Av nv cv) (xs1 ++ cuT (l.curs.take k)) [code, sign] _ 2 rfl rfl (Kd.R_alloc (Kd.R_alloc HO.out _) _) (C_blkS [code, sign] (blk_new1 _ _ _) (by simp)) ((HB.out.alloc HSW.out _).alloc (by have := HSW.out; simp; omega) _) (by have := HSW.out; simp; omega) (by have := HLN.out; have := HL1.out; have := HF.out; unfold Few at this; rw [List.length_append]; simp; omega) ?_); intro v2 w3 ho hb2 hgr; have HO2 := Aside0.mk ho; have HB2 := Aside0.mk hb2; clear ho hb2 hgr)
          go_roundw
          case rel => exact ⟨k + 1, by omega, by go_num, ⟨by rw [HT.out, ← List.append_assoc]; exact HO2.out⟩, HB2⟩
          case measure => simp [intOf]; omega
        · obtain rfl : k = l.curs.length := by omega
          have ho := HO.out
          rw [List.take_length] at ho
          obtain ⟨xs2, hxs⟩ : ∃ xs, xs1 ++ cuT l.curs = xs := ⟨_, rfl⟩
          rw [hxs] at ho
          have HX2 := Aside0.mk hxs
          have HL2 : Aside0 (xs2.length ≤ 300000) := ⟨by have := HL1.out; have := HF.out; unfold Few at this; rw [← hxs, List.length_append]; rw [cuT_length]; omega⟩
          clear HO hxs
          have HO := Aside0.mk ho
          clear ho
          have hd2 := blk_cell (blk_below HBL.out HB.out (Nat.lt_succ_self g)) 14
          simp only [List.getElem?_toArray, List.getElem?_cons_zero, List.getElem?_cons_succ] at hd2
          go_wp2
          clear hd2
          have HO1 : Aside0 (OwnS wr (g + 1) _ (xs2 ++ cmT (l.comps.take 0))) := ⟨by rw [List.take_zero]; exact (List.append_nil xs2).symm ▸ HO.out⟩
          clear HO
          go_loopw [3, 9, 47] (fun v _ i W => ∃ k : Nat, k ≤ l.comps.length ∧ i = .int .i64 k ∧ Aside0 (OwnS W (g + 1) v (xs2 ++ cmT (l.comps.take k))) ∧ Aside0 (Below (g + 1) w1 W)) (fun _ _ i _ => l.comps.length - (intOf i).toNat)
          case atStart => exact ⟨0, by omega, rfl, HO1, HB⟩
          case round =>
            clear HO1 HB
            obtain ⟨k, hk, rfl, HO, HB⟩ := hrel
            by_cases hlt : k < l.comps.length
            · obtain ⟨b, off, rfl, hb⟩ := C_plainA pos_Cm HK.out (Nat.lt_of_le_of_lt (Nat.zero_le k) hlt)
              obtain ⟨ad, e, hc0, hc1, hc2⟩ := at_Cm HK.out k hlt
              injection e with e
              subst e
              rw [plain_add] at hc0 hc1 hc2
              rw [← Nat.add_assoc] at hc1 hc2
              rw [HSZ.out] at hb
              have hd0 := (HB.out.cell (p := ⟨b, off + k * 3, none⟩) hb).trans hc0
              have hd1 := (HB.out.cell (p := ⟨b, off + k * 3 + 1, none⟩) hb).trans hc1
              have hd2 := (HB.out.cell (p := ⟨b, off + k * 3 + 2, none⟩) hb).trans hc2
              obtain ⟨mag, hmag⟩ : ∃ c, l.comps[k].1 = c := ⟨_, rfl⟩
              rw [hmag] at hd0
              obtain ⟨cat, hcat⟩ : ∃ c, l.comps[k].2.1 = c := ⟨_, rfl⟩
              rw [hcat] at hd1
              obtain ⟨pat, hpat⟩ : ∃ c, l.comps[k].2.2 = c := ⟨_, rfl⟩
              rw [hpat] at hd2
              have HT : Aside0 (cmT (l.comps.take (k + 1)) = cmT (l.comps.take k) ++ [pat]) := ⟨by have h := cmT_succ l.comps k hlt; rw [hpat] at h; exact h⟩
              have HLN : Aside0 ((cmT (l.comps.take k)).length ≤ 1 * l.comps.length) := ⟨by unfold cmT; simp; omega⟩
              have hsW : g + 1 ≤ wr.heap.size := by have := HB.out.size; have := HSZ.out; omega
              have HSW := Aside0.mk hsW
              obtain ⟨Av, nv, cv, hv⟩ := R_slice' HO.out
              subst hv
              clear hc0 hc1 hc2 hmag hcat hpat hb hsW
              go_wp2_with ((with_reducible refine gate_builtin (b := .append) (xs := #[.tmp 51, .tmp 54]) rfl ?_); at_builtin; go_must (refine appSS (w0 := w1) (g + 1) rfl (.tmp 51) (.tmp 54) rfl (.slice Av nv cv) (xs2 ++ cmT (l.comps.take k)) [pat] _ 1 rfl rfl (Kd.R_alloc (Kd.R_alloc HO.out _) _) (C_blkS [pat] (blk_new1 _ _ _) (by simp)) ((HB.out.alloc HSW.out _).alloc (by have := HSW.out; simp; omega) _) (by have := HSW.out; simp; omega) (by have := HLN.out; have := HL2.out; have := HF.out; unfold Few at this; rw [List.length_append]; simp; omega) ?_); intro v2 w3 ho hb2 hgr; have HO2 := Aside0.mk ho; have HB2 := Aside0.mk hb2; clear ho hb2 hgr)
              go_roundw
              case rel => exact ⟨k + 1, by omega, by go_num, ⟨by rw [HT.out, ← List.append_assoc]; exact HO2.out⟩, HB2⟩
              case measure => simp [intOf]; omega
            · obtain rfl : k = l.comps.length := by omega
              have ho := HO.out
              rw [List.take_length] at ho
              obtain ⟨xs3, hxs⟩ : ∃ xs, xs2 ++ cmT l.comps = xs := ⟨_, rfl⟩
              rw [hxs] at ho
              have HX3 := Aside0.mk hxs
              have HL3 : Aside0 (xs3.length ≤ 400000) := ⟨by have := HL2.out; have := HF.out; unfold Few at this; rw [← hxs, List.length_append]; unfold cmT; rw [List.length_map]; omega⟩
              clear HO hxs
              have HO := Aside0.mk ho
              clear ho
              go_wp2
              go_ret
              refine ⟨_, rfl, ?_, (HB1.out.trans (HB.out.mono (by have := HG.out; omega)))⟩
              have h := HO.out
              rw [← HX3.out, ← HX2.out, ← HX1.out, ← HX0.out] at h
              exact Kd.R_lower h (by have := HG.out; omega)
end Go.Proofs.Ytfbmgjanplnabaa

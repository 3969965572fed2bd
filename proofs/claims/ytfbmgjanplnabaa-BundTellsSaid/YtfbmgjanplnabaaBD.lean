import Derived.Test.YtfbmgjanplnabaaBC
import Derived.Test.YtfbmgjanplnabaaBB
import Derived.LoopN
import Derived.Lib.SlBytesConst
/- What Encode writes, as Lean functions; the writer's block and the row of parts between the sections. -/
namespace Go.Proofs.Ytfbmgjanplnabaa
open Go.RowKit Go.Proofs.YtfbmgjanplnabaaW.PrintWords Go.Proofs.YtfbmgjanplnabaaW.PrintLast Go.Proofs.YtfbmgjanplnabaaW.PrintMore
set_option linter.unusedVariables false
set_option linter.unusedSimpArgs false

/-- Numbers as bytes, those that fit; does one not fit? -/
def encI (is : List (Int × Int)) : List Int := is.flatMap fun i => if fits i.1 i.2 then be i.1 i.2 else []
def badI (is : List (Int × Int)) : Bool := is.any fun i => !fits i.1 i.2
theorem wrt_eq (is : List (Int × Int)) : ∀ st : List Int × Bool, wrt st is = (st.1 ++ encI is, st.2 || badI is) := by
  induction is with
  | nil => intro st; simp [wrt, encI, badI]
  | cons i is ih =>
    intro st
    have h : wrt st (i :: is) = wrt (wnum st i) is := rfl
    rw [h, ih]
    unfold wnum
    by_cases hf : fits i.1 i.2 = true
    · rw [if_pos hf]
      simp [encI, badI, hf]
    · rw [if_neg hf]
      have hf' : fits i.1 i.2 = false := by simpa using hf
      simp [encI, badI, hf']

/-! the sections' numbers -/
def rf0 (l : Loc) : List Int := gr (texts l)
def rf1 (l : Loc) : List Int := (rf0 l).drop 1
def rf2 (l : Loc) : List Int := (rf1 l).drop 4
def rf3 (l : Loc) : List Int := (rf2 l).drop l.rules.length
def rf4 (l : Loc) : List Int := (rf3 l).drop (2 * l.curs.length)
def it1 (l : Loc) : List (Int × Int) := txItems ((rf0 l).take 1) ++ syItems l.s
def it2 (l : Loc) : List (Int × Int) := txItems ((rf1 l).take 4)
def it3 (l : Loc) : List (Int × Int) := ((l.rules.length : Int), 2) :: ruIt l.rules ((rf2 l).take l.rules.length)
def it4 (l : Loc) : List (Int × Int) := ((l.curs.length : Int), 2) :: cuIt l.curs ((rf3 l).take (2 * l.curs.length))
def it5 (l : Loc) : List (Int × Int) := ((l.comps.length : Int), 2) :: cmIt l.comps ((rf4 l).take l.comps.length)
def parts (l : Loc) : List (List Int) := [poolBytes (gp (texts l)), encI (it1 l), encI (it2 l), encI (it3 l), encI (it4 l), encI (it5 l)]
def bads (l : Loc) : Bool := badI (it1 l) || badI (it2 l) || badI (it3 l) || badI (it4 l) || badI (it5 l)
/-- The directory: of each part where it begins and how long it is. -/
def hdIt : Nat → List (List Int) → List (Int × Int)
  | _, [] => []
  | at_, p :: ps => ((at_ : Int), 4) :: ((p.length : Int), 4) :: hdIt (at_ + p.length) ps
def magic : List Int := [69, 88, 76, 66]
def head (l : Loc) : List (Int × Int) := [(1, 2), (6, 2)] ++ hdIt 56 (parts l)
def body (l : Loc) : List Int := magic ++ encI (head l) ++ (parts l).flatten
/-- Is there a bundle? Which? -/
def encOk (l : Loc) : Bool := isPool (gp (texts l)) && !(bads l || badI (head l))
def enc (l : Loc) : List Int := body l ++ le4 (crcOn 0 (body l))

theorem hdIt_append (ps : List (List Int)) : ∀ (a : Nat) (qs : List (List Int)), hdIt a (ps ++ qs) = hdIt a ps ++ hdIt (a + ps.flatten.length) qs := by
  induction ps with
  | nil => intro a qs; simp [hdIt]
  | cons p ps ih =>
    intro a qs
    simp only [List.cons_append, hdIt, ih, List.flatten_cons, List.length_append]
    rw [Nat.add_assoc]
theorem hdIt_succ (ps : List (List Int)) (a k : Nat) (h : k < ps.length) : hdIt a (ps.take (k + 1)) = hdIt a (ps.take k) ++ [(((a + sumLen ps k : Nat) : Int), (4 : Int)), ((ps[k].length : Int), 4)] := by
  rw [List.take_succ_eq_append_getElem h, hdIt_append]
  rfl
theorem hdIt_length (ps : List (List Int)) : ∀ a, (hdIt a ps).length = 2 * ps.length := by
  induction ps with
  | nil => intro a; rfl
  | cons p ps ih => intro a; simp only [hdIt, List.length_cons, ih]; omega

/-! sizes -/
theorem encI_length (is : List (Int × Int)) : (encI is).length ≤ 4 * is.length := by
  have h := wrt_length is ([], false)
  rw [wrt_eq] at h
  simpa using h
theorem rf0_length (l : Loc) : (rf0 l).length = 5 + l.rules.length + 2 * l.curs.length + l.comps.length := by unfold rf0; rw [gr_length, texts_length]
theorem poolBytes_length {ts : List ByteArray} (h : isPool ts = true) : (poolBytes ts).length ≤ 210000 := by
  unfold poolBytes
  have h1 := flat_length (fun s hs => isPool_size h s hs)
  have h2 := isPool_length h
  rw [List.length_append, be2_length]
  omega
theorem it_lengths (l : Loc) (hF : Few l) : (it1 l).length ≤ 8 ∧ (it2 l).length ≤ 4 ∧ (it3 l).length ≤ 200000 ∧ (it4 l).length ≤ 200000 ∧ (it5 l).length ≤ 200000 := by
  obtain ⟨h1, h2, h3⟩ := hF
  refine ⟨?_, ?_, ?_, ?_, ?_⟩
  · unfold it1 txItems syItems; simp; omega
  · unfold it2 txItems; simp; omega
  · have := ruIt_length l.rules ((rf2 l).take l.rules.length); unfold it3; rw [List.length_cons]; omega
  · have := cuIt_length l.curs ((rf3 l).take (2 * l.curs.length)); unfold it4; rw [List.length_cons]; omega
  · have := cmIt_length l.comps ((rf4 l).take l.comps.length); unfold it5; rw [List.length_cons]; omega
theorem parts_length (l : Loc) (hF : Few l) (hp : isPool (gp (texts l)) = true) : (parts l).flatten.length ≤ 3000000 := by
  obtain ⟨h1, h2, h3, h4, h5⟩ := it_lengths l hF
  have := poolBytes_length hp
  have := encI_length (it1 l)
  have := encI_length (it2 l)
  have := encI_length (it3 l)
  have := encI_length (it4 l)
  have := encI_length (it5 l)
  unfold parts
  simp only [List.flatten_cons, List.flatten_nil, List.length_append, List.length_nil]
  omega

/-! the row of parts -/
abbrev kBB : Kd (List Int) := Kd.slice 5 (Kd.int .u8)
theorem info32 : (Try.prog.info? 32).map (fun i => (i.zero, i.size, i.bytes)) = some (some (.slice none 0 0), 1, 24) := by kernel_rfl
abbrev OwnP (w : World) (base g : Nat) (v : Value) (xs : List (List Int)) : Prop := kBB.R 32 w base (fun k => k ≠ g) v xs
theorem OwnB.ne {w : World} {base g : Nat} {v : Value} {xs : List Int} (h : OwnB w base v xs) {t : TypeId} {cs : Array Value} (hb : w.heap[g]? = some (.cells cs t (0, 0))) (ht : 5 ≠ t) : (Kd.int .u8).R 5 w base (fun k => k ≠ g) v xs :=
  Kd.R_mono (Kd.R_types h hb (fun q hq => by
    have : q = 5 := by simpa [Kd.int, Kd.scalar] using hq
    rw [this]; exact ht)) (fun _ hk => hk.2)
theorem own_litP (W : World) (base g : Nat) (v : Value) (xs : List Int) (hb : base ≤ W.heap.size) (hg : g < W.heap.size) (h : (Kd.int .u8).R 5 W base (fun k => k ≠ g) v xs) : OwnP (W.alloc (.cells #[v] 32)) base g (.slice (some ⟨W.heap.size, 0, none⟩) 1 1) [xs] := by
  have h1 := World.ownsRow_lit (base := base) (e := 32) (size := 1) W #[v] 1 hb (by simp [maxLen]) (by simp)
  refine ⟨fun k hk => ?_, [v], h1, ⟨rfl, fun j p hj => ?_⟩⟩
  · have : W.heap.size = k := by simpa [Value.ownBlock] using hk
    omega
  · have hj0 : j = 0 := by
      rcases Nat.eq_zero_or_pos j with h | h
      · exact h
      · rw [List.getElem?_eq_none (by simp; omega)] at hj; cases hj
    subst hj0
    have hp : xs = p := by simpa using hj
    subst hp
    refine ⟨v, rfl, Kd.R_mono (Kd.R_alloc (Kd.R_bound h) (.cells #[v] 32)) (fun k hk => ⟨hk.1, fun e => ?_⟩)⟩
    have : k = W.heap.size := by simpa [Value.ownBlock] using e
    have := hk.2.2.1
    omega
section
variable {ops : Array Oper} {rest : List Oper} {o : Oper} {a : Act} {Q : Exit → Act → World → Prop}
/-- parts = append(parts, b); behind 'at_builtin'. -/
theorem appP {w0 W : World} (base g : Nat) (hgd : o.guard = none) (s x : Operand)
    (ho : o.op = .call { callee := .builtin .append, args := #[s, x], argTypes := #[69, 69] })
    (v : Value) (xs : List (List Int)) (vb : Value) (ys : List Int) (hs : a.eval s = v) (hx : a.eval x = .slice (some ⟨W.heap.size, 0, none⟩) 1 1)
    (HO : OwnP W base g v xs) (HP : (Kd.int .u8).R 5 W base (fun k => k ≠ g ∧ some k ≠ v.ownBlock) vb ys) (HB : Below base w0 W) (hbase : base ≤ W.heap.size) (hg : g < W.heap.size) (hl : (xs.length + 1) * 24 ≤ 140737488355328)
    (h : ∀ v1 w1, OwnP w1 base g v1 (xs ++ [ys]) → Below base w0 w1 → W.grownBy w1 v.ownBlock → (v1.ownBlock = v.ownBlock ∨ ∃ b, v1.ownBlock = some b ∧ W.heap.size ≤ b) → wpList Try.prog ops Q rest (a.put o.dst v1) w1) :
    wpList Try.prog ops Q (o :: rest) a (W.alloc (.cells #[vb] 32)) :=
  Kd.R_append kBB base hgd s x 69 32 (.slice none 0 0) 24 ho Try.underlying69 info32 rfl (by decide) (by omega) v xs ys [vb] (fun k => k ≠ g) (fun k => k ≠ g ∧ some k ≠ v.ownBlock) hs hx ⟨vb, rfl, HP⟩ (fun _ h => h) (fun k hk => by omega) HO HB hbase hl h
end

/-! the writer's block between the sections -/
def WB (w0 : World) (L : List Value) (w : World) (refs : List Int) (bad : Bool) : Prop :=
  ∃ Ar cr vb, refs.length ≤ cr ∧ (Kd.int .i64).C w0 Ar refs.length refs ∧ w.heap[w0.heap.size]? = some (.cells (wcells vb (.slice Ar refs.length cr) L bad) 68 (0, 0)) ∧ Below w0.heap.size w0 w
theorem WR.forget {w0 : World} {L : List Value} {w : World} {refs : List Int} {st : List Int × Bool} (h : WR w0 L w refs st) : WB w0 L w refs st.2 := by
  obtain ⟨Ar, cr, h1, h2, vb, hK, _, hB⟩ := h
  exact ⟨Ar, cr, vb, h1, h2, hK, hB⟩
theorem WR.cell0 {w0 : World} {L : List Value} {w : World} {refs : List Int} {st : List Int × Bool} (h : WR w0 L w refs st) : ∃ A m c, w.cell? ⟨w0.heap.size, 0, none⟩ = some (.slice A m c) ∧ OwnB w (w0.heap.size + 1) (.slice A m c) st.1 := by
  obtain ⟨Ar, cr, _, _, vb, hK, ho, _⟩ := h
  obtain ⟨A, m, c, rfl⟩ := R_slice' ho
  exact ⟨A, m, c, (blk_cell hK 0).trans wcells_0, ho⟩
theorem WB.blk {w0 : World} {L : List Value} {w : World} {refs : List Int} {bad : Bool} (hL : L.length = 15) (h : WB w0 L w refs bad) : (∃ vb, w.cell? ⟨w0.heap.size, 0, none⟩ = some vb) ∧ w.frozen? ⟨w0.heap.size, 0, none⟩ = false ∧ w.cell? ⟨w0.heap.size, 17, none⟩ = some (.bool bad) ∧ w0.heap.size < w.heap.size := by
  obtain ⟨Ar, cr, vb, _, _, hK, _⟩ := h
  exact ⟨⟨vb, (blk_cell hK 0).trans wcells_0⟩, blk_free hK 0, (blk_cell hK 17).trans (wcells_17 hL), blk_lt hK⟩
theorem WB.type {w0 : World} {L : List Value} {w : World} {refs : List Int} {bad : Bool} (h : WB w0 L w refs bad) : ∃ cs, w.heap[w0.heap.size]? = some (.cells cs 68 (0, 0)) := by
  obtain ⟨Ar, cr, vb, _, _, hK, _⟩ := h
  exact ⟨_, hK⟩
theorem WB.alloc {w0 : World} {L : List Value} {w : World} {refs : List Int} {bad : Bool} (h : WB w0 L w refs bad) (o : Obj) : WB w0 L (w.alloc o) refs bad := by
  obtain ⟨Ar, cr, vb, h1, h2, hK, hB⟩ := h
  exact ⟨Ar, cr, vb, h1, h2, blk_alloc hK o, hB.alloc hB.size o⟩
theorem WB.grown {w0 : World} {L : List Value} {w w' : World} {refs : List Int} {bad : Bool} {row : Option Nat} (h : WB w0 L w refs bad) (hg : w.grownBy w' row) (hr : ∀ k, row = some k → w0.heap.size < k) : WB w0 L w' refs bad := by
  obtain ⟨Ar, cr, vb, h1, h2, hK, hB⟩ := h
  refine ⟨Ar, cr, vb, h1, h2, blk_grown hK hg (fun e => ?_), hB.grown hg hB.size (fun k hk => Nat.le_of_lt (hr k hk))⟩
  have := hr _ e.symm
  omega
/-- w.b = v: what is written begins anew. -/
theorem WB.set {w0 : World} {L : List Value} {w : World} {refs : List Int} {bad : Bool} (h : WB w0 L w refs bad) (v : Value) (b : List Int) (ho : OwnB w (w0.heap.size + 1) v b) : WR w0 L (w.setCell ⟨w0.heap.size, 0, none⟩ v) refs (b, bad) := by
  obtain ⟨Ar, cr, vb, h1, h2, hK, hB⟩ := h
  have hK2 := blk_set hK 0 v
  rw [wcells_set0] at hK2
  refine ⟨Ar, cr, h1, h2, v, hK2, Kd.R_mono (Kd.R_far (p := ⟨w0.heap.size, 0, none⟩) (Kd.R_bound ho) (fun k hk e => ?_) v) (fun _ _ => trivial), hB.setCell (Nat.le_refl _) _⟩
  have := hk.2.1
  have e' : k = w0.heap.size := e
  omega

/-- The five sections' writers. -/
def funcs (g : Nat) : List Value := [.func (.func 24) #[.pointer (some ⟨g, 0, none⟩)] #[], .func (.func 25) #[.pointer (some ⟨g, 0, none⟩)] #[], .func (.func 26) #[.pointer (some ⟨g, 0, none⟩)] #[], .func (.func 27) #[.pointer (some ⟨g, 0, none⟩)] #[], .func (.func 28) #[.pointer (some ⟨g, 0, none⟩)] #[]]
/-- Encode's state between two sections: w1 its beginning, w4 the world that the writer was laid in. -/
structure EInv (w1 w4 : World) (L : List Value) (W : World) (vp : Value) (refs : List Int) (bad : Bool) (ps : List (List Int)) : Prop where
  wb : WB w4 L W refs bad
  own : OwnP W w1.heap.size w4.heap.size vp ps
  vpg : ∀ k, vp.ownBlock = some k → w4.heap.size < k
  fn : W.heap[w4.heap.size + 2]? = some (.cells (funcs w4.heap.size).toArray 1 (0, 0))
  below : Below w1.heap.size w1 W
  le : w1.heap.size ≤ w4.heap.size
/-- .. and behind a section's writer. -/
structure EMid (w1 w4 : World) (L : List Value) (W : World) (vp : Value) (refs : List Int) (st : List Int × Bool) (ps : List (List Int)) : Prop where
  wr : WR w4 L W refs st
  own : OwnP W w1.heap.size w4.heap.size vp ps
  vpg : ∀ k, vp.ownBlock = some k → w4.heap.size < k
  fn : W.heap[w4.heap.size + 2]? = some (.cells (funcs w4.heap.size).toArray 1 (0, 0))
  below : Below w1.heap.size w1 W
  le : w1.heap.size ≤ w4.heap.size
section
variable {w1 w4 : World} {L : List Value} {W : World} {vp : Value} {refs : List Int} {bad : Bool} {ps : List (List Int)} {st : List Int × Bool}
/-- w.b = v -/
theorem EInv.set (h : EInv w1 w4 L W vp refs bad ps) (v : Value) (b : List Int) (ho : OwnB W (w4.heap.size + 1) v b) : EMid w1 w4 L (W.setCell ⟨w4.heap.size, 0, none⟩ v) vp refs (b, bad) ps where
  wr := h.wb.set v b ho
  own := Kd.R_far (p := ⟨w4.heap.size, 0, none⟩) h.own (fun _ hk => hk) v
  vpg := h.vpg
  fn := blk_other h.fn (by simp) v
  below := h.below.setCell h.le v
  le := h.le
/-- a section's writer, or a number -/
theorem EMid.call {W' : World} {refs' : List Int} {st' : List Int × Bool} (h : EMid w1 w4 L W vp refs st ps) (hr : WR w4 L W' refs' st') (hg : W.grownBy W' (some w4.heap.size)) : EMid w1 w4 L W' vp refs' st' ps where
  wr := hr
  own := Kd.R_grown h.own hg (fun k hk e => by injection e with e; exact hk e)
  vpg := h.vpg
  fn := blk_grown h.fn hg (fun e => by injection e with e; omega)
  below := below_grown h.below hg (Nat.le_trans h.le (Nat.le_of_lt h.wr.bel.2)) h.le
  le := h.le
theorem EMid.part (h : EMid w1 w4 L W vp refs st ps) {vb : Value} (ho : OwnB W (w4.heap.size + 1) vb st.1) : (Kd.int .u8).R 5 W w1.heap.size (fun k => k ≠ w4.heap.size ∧ some k ≠ vp.ownBlock) vb st.1 := by
  have h1 := Kd.R_lower (Kd.R_bound ho) (show w1.heap.size ≤ w4.heap.size + 1 from Nat.le_succ_of_le h.le)
  refine Kd.R_mono h1 (fun k hk => ⟨fun e => by have := hk.2.1; omega, fun e => ?_⟩)
  obtain ⟨inner, hown⟩ := Kd.R_own h.own
  obtain ⟨cells, hc⟩ := own_typed hown k e.symm
  obtain ⟨_, _, _, q, hq, cells', hc'⟩ := hk
  have : q = 5 := by simpa [Kd.int, Kd.scalar] using hq
  subst this
  rw [hc'] at hc
  injection hc with hc
  injection hc with _ hc
  exact absurd hc (by decide)
/-- parts = append(parts, w.b) -/
theorem EMid.appended {W' : World} {v1 : Value} {b : List Int} (h : EMid w1 w4 L W vp refs st ps) (ho : OwnP W' w1.heap.size w4.heap.size v1 (ps ++ [b])) (hb : Below w1.heap.size w1 W') (hg : W.grownBy W' vp.ownBlock) (hat : v1.ownBlock = vp.ownBlock ∨ ∃ b, v1.ownBlock = some b ∧ W.heap.size ≤ b) : EInv w1 w4 L W' v1 refs st.2 (ps ++ [b]) where
  wb := h.wr.forget.grown hg h.vpg
  own := ho
  vpg := fun k hk => by
    rcases hat with hat | ⟨b, hb, hle⟩
    · exact h.vpg k (hat ▸ hk)
    · rw [hb] at hk
      injection hk with hk
      have := h.wr.bel.2
      omega
  fn := blk_grown h.fn hg (Kd.R_ne h.own h.fn (by decide))
  below := hb
  le := h.le
theorem EInv.start {vq : Value} {pb rs : List Int} {Ag : Option Addr} {cg : Nat} {cells : Array Value} (hb : Below w1.heap.size w1 w4) (ho : OwnB w4 w1.heap.size vq pb) (hr : (Kd.int .i64).C w4 Ag rs.length rs) (hc : rs.length ≤ cg)
    (hcells : cells = wcells (.slice none 0 0) (.slice Ag rs.length cg) L false) :
    EInv w1 w4 L (((w4.alloc (.cells cells 68)).alloc (.cells #[vq] 32)).alloc (.cells (funcs w4.heap.size).toArray 1)) (.slice (some ⟨w4.heap.size + 1, 0, none⟩) 1 1) rs false [pb] := by
  have hs1 : (w4.alloc (.cells cells 68)).heap.size = w4.heap.size + 1 := size_alloc _ _
  refine ⟨⟨Ag, cg, .slice none 0 0, hc, hr, ?_, (((Below.refl _ _).alloc (Nat.le_refl _) _).alloc (by simp) _).alloc (by simp; omega) _⟩, ?_, ?_, ?_, ((hb.alloc hb.size _).alloc (Nat.le_trans hb.size (by simp)) _).alloc (Nat.le_trans hb.size (by simp; omega)) _, hb.size⟩
  · exact blk_alloc (blk_alloc (by rw [blk_new, hcells]) _) _
  · have h1 : (Kd.int .u8).R 5 w4 w1.heap.size (fun k => k ≠ w4.heap.size) vq pb := Kd.R_mono (Kd.R_bound ho) (fun k hk e => by have := hk.2.2.1; omega)
    have h2 := own_litP (w4.alloc (.cells cells 68)) w1.heap.size w4.heap.size vq pb (Nat.le_trans hb.size (by simp)) (by simp) (Kd.R_alloc h1 _)
    rw [hs1] at h2
    exact Kd.R_alloc h2 _
  · intro k hk
    have : w4.heap.size + 1 = k := by simpa [Value.ownBlock] using hk
    omega
  · have h := blk_new1 (w4.alloc (.cells cells 68)) (.cells (funcs w4.heap.size).toArray 1) (.cells #[vq] 32)
    rw [hs1] at h
    exact h
end
end Go.Proofs.Ytfbmgjanplnabaa
/- bund.Encode: the walk. -/
namespace Go.Proofs.Ytfbmgjanplnabaa
open Go.RowKit Go.Proofs.YtfbmgjanplnabaaW.PrintWords Go.Proofs.YtfbmgjanplnabaaW.PrintLast Go.Proofs.YtfbmgjanplnabaaW.PrintMore
set_option linter.unusedVariables false
set_option linter.unusedSimpArgs false

def encPost (l : Loc) (w : World) (e : Ending) (w' : World) : Prop :=
  Below w.heap.size w w' ∧ (match encOk l with
    | true => ∃ v, e = .returned (.tuple #[v, .int .i64 0]) ∧ OwnB w' w.heap.size v (enc l)
    | false => e = .returned (.tuple #[.slice none 0 0, .int .i64 1]))

/-- What Texts and Gather leave. -/
theorem RdS_of {w : World} {base : Nat} {v : Value} {xs : List ByteArray} (h : OwnS w base v xs) : ∃ A c, v = .slice A xs.length c ∧ RdS w A xs := by
  obtain ⟨A, c, e, _, hr⟩ := Kd.R_reads h
  exact ⟨A, c, e, hr⟩
theorem texts_bound (l : Loc) (hF : Few l) : (texts l).length * 16 ≤ 140737488351232 := by
  obtain ⟨h1, h2, h3⟩ := hF
  rw [texts_length]
  omega

set_option maxHeartbeats 4000000 in
set_option maxRecDepth 100000 in
theorem encode_bad (l : Loc) (L : List Value) (w : World) (hL : RdL w l L) (hF : Few l) (hp : isPool (gp (texts l)) = false) :
    Calls Try.prog 11 #[.agg L.toArray] w fun e w' => e = .returned (.tuple #[.slice none 0 0, .int .i64 1]) ∧ Below w.heap.size w w' := by
  have HL := Aside0.mk hL
  obtain ⟨Ar, cr, Ac, cc, Ak, ck, rfl, h1, h2, h3, h4, h5, h6⟩ := hL
  have HF := Aside0.mk hF
  have HP := Aside0.mk hp
  clear hF hp h1 h2 h3 h4 h5 h6
  unfold lcells at HL ⊢
  go_enter Try.func11, Try.ntmps11
  go_wp2_with fail
  have HB1 := Aside0.mk ((Below.refl w.heap.size w).alloc (Nat.le_refl _) (.cells (lcells l (.slice Ar l.rules.length cr) (.slice Ac l.curs.length cc) (.slice Ak l.comps.length ck)).toArray 29))
  have HL1 := Aside0.mk (HL.out.below HB1.out)
  unfold lcells at HB1 HL1
  refine (texts_calls l _ _ HL1.out HF.out).mono ?_
  rintro e w2 ⟨v, rfl, ho, hb⟩
  obtain ⟨A, c, rfl, hr⟩ := RdS_of ho
  have HR := Aside0.mk hr
  have HB2 := Aside0.mk (below_then HB1.out HB1.out.size hb)
  obtain ⟨ts, hts⟩ : ∃ ts, texts l = ts := ⟨_, rfl⟩
  have HB16 := Aside0.mk (texts_bound l HF.out)
  rw [hts] at HR HP HB16 ⊢
  clear ho hb hr hts HB1 HL1 HL
  go_wp2_with fail
  refine (gather_calls ts A c _ HR.out HB16.out).mono ?_
  rintro e w3 ⟨Ap, np, cp, Ag, cg, rfl, hnp, h3, h4, h5, h6, hb⟩
  have HB3 := Aside0.mk (below_then HB2.out HB2.out.size hb)
  have HR3 := Aside0.mk h5
  have HPL : Aside0 ((gp ts).length * 16 ≤ 140737488351232) := ⟨by have := gp_length ts; have := HB16.out; omega⟩
  obtain ⟨ps, hps⟩ : ∃ ps, gp ts = ps := ⟨_, rfl⟩
  rw [hps] at HP HR3 hnp HPL
  subst hnp
  clear h3 h4 h5 h6 hb hps HR HB2
  go_wp2_with fail
  refine (putPool_bad ps Ap cp _ _ HR3.out HPL.out HP.out).mono ?_
  rintro e w4 ⟨rfl, hb⟩
  have HB4 := Aside0.mk (below_then HB3.out HB3.out.size hb)
  clear hb HB3 HR3
  go_wp2
  go_ret2
  exact ⟨rfl, HB4.out⟩
end Go.Proofs.Ytfbmgjanplnabaa
/- The five sections' writers, each from an empty row. -/
namespace Go.Proofs.Ytfbmgjanplnabaa
open Go.RowKit Go.Proofs.YtfbmgjanplnabaaW.PrintWords Go.Proofs.YtfbmgjanplnabaaW.PrintLast Go.Proofs.YtfbmgjanplnabaaW.PrintMore
set_option linter.unusedVariables false
set_option linter.unusedSimpArgs false

def secPost (w0 : World) (L : List Value) (refs : List Int) (it : List (Int × Int)) (bad : Bool) (w : World) (e : Ending) (w' : World) : Prop :=
  e = .returned (.tuple #[]) ∧ WR w0 L w' refs (encI it, bad || badI it) ∧ w.grownBy w' (some w0.heap.size)

theorem wrt_nil_eq (bad : Bool) (it : List (Int × Int)) : wrt ([], bad) it = (encI it, bad || badI it) := by rw [wrt_eq]; rfl
theorem wrt_cons (st : List Int × Bool) (i : Int × Int) (is : List (Int × Int)) : wrt st (i :: is) = wrt (wnum st i) is := rfl
theorem rf0_cons (l : Loc) : ∃ r, rf0 l = r :: rf1 l := by
  have h := rf0_length l
  cases hr : rf0 l with
  | nil => rw [hr] at h; simp at h; omega
  | cons r rs => exact ⟨r, by unfold rf1; rw [hr]; rfl⟩

section
variable (w0 : World) (l : Loc) (vr vc vk : Value) (w : World) (bad : Bool)
theorem sec1 (hz : l.s.ok) (hS : WR w0 (lcells l vr vc vk) w (rf0 l) ([], bad)) :
    Calls Try.prog 24 #[.pointer (some ⟨w0.heap.size, 0, none⟩)] w (secPost w0 (lcells l vr vc vk) (rf1 l) (it1 l) bad w) := by
  obtain ⟨r, hr⟩ := rf0_cons l
  have hi : it1 l = (r, 2) :: syItems l.s := by unfold it1; rw [hr]; rfl
  rw [hr] at hS
  refine (head_WR w0 l vr vc vk w r (rf1 l) ([], bad) hz hS (by simp)).mono ?_
  rintro e w' ⟨rfl, h1, h2⟩
  refine ⟨rfl, ?_, h2⟩
  rw [← wrt_nil_eq, hi]
  exact h1
theorem sec2 (hS : WR w0 (lcells l vr vc vk) w (rf1 l) ([], bad)) :
    Calls Try.prog 25 #[.pointer (some ⟨w0.heap.size, 0, none⟩)] w (secPost w0 (lcells l vr vc vk) (rf2 l) (it2 l) bad w) := by
  refine (pats_WR w0 _ rfl w (rf1 l) ([], bad) ?_ hS (by simp)).mono ?_
  · have := rf0_length l; unfold rf1; rw [List.length_drop]; omega
  rintro e w' ⟨rfl, h1, h2⟩
  refine ⟨rfl, ?_, h2⟩
  rw [← wrt_nil_eq]
  exact h1
theorem sec3 (Ar : Option Addr) (cr : Nat) (hC : kRl.C w0 Ar l.rules.length l.rules) (hF : Few l) (hS : WR w0 (lcells l (.slice Ar l.rules.length cr) vc vk) w (rf2 l) ([], bad)) :
    Calls Try.prog 26 #[.pointer (some ⟨w0.heap.size, 0, none⟩)] w (secPost w0 (lcells l (.slice Ar l.rules.length cr) vc vk) (rf3 l) (it3 l) bad w) := by
  refine (rules_WR w0 l Ar cr vc vk w (rf2 l) ([], bad) hC hF.1 ?_ hS (by simp)).mono ?_
  · have := rf0_length l; unfold rf2 rf1; rw [List.length_drop, List.length_drop]; omega
  rintro e w' ⟨rfl, h1, h2⟩
  refine ⟨rfl, ?_, h2⟩
  rw [← wrt_nil_eq]
  unfold it3
  rw [wrt_cons]
  exact h1
theorem sec4 (Ac : Option Addr) (cc : Nat) (hC : kCu.C w0 Ac l.curs.length l.curs) (hF : Few l) (hS : WR w0 (lcells l vr (.slice Ac l.curs.length cc) vk) w (rf3 l) ([], bad)) :
    Calls Try.prog 27 #[.pointer (some ⟨w0.heap.size, 0, none⟩)] w (secPost w0 (lcells l vr (.slice Ac l.curs.length cc) vk) (rf4 l) (it4 l) bad w) := by
  refine (curs_WR w0 l Ac cc vr vk w (rf3 l) ([], bad) hC hF.2.1 ?_ hS (by simp)).mono ?_
  · have := rf0_length l; unfold rf3 rf2 rf1; rw [List.length_drop, List.length_drop, List.length_drop]; omega
  rintro e w' ⟨rfl, h1, h2⟩
  refine ⟨rfl, ?_, h2⟩
  rw [← wrt_nil_eq]
  unfold it4
  rw [wrt_cons]
  exact h1
theorem sec5 (Ak : Option Addr) (ck : Nat) (hC : kCm.C w0 Ak l.comps.length l.comps) (hF : Few l) (hS : WR w0 (lcells l vr vc (.slice Ak l.comps.length ck)) w (rf4 l) ([], bad)) :
    Calls Try.prog 28 #[.pointer (some ⟨w0.heap.size, 0, none⟩)] w (secPost w0 (lcells l vr vc (.slice Ak l.comps.length ck)) ((rf4 l).drop l.comps.length) (it5 l) bad w) := by
  refine (comps_WR w0 l Ak ck vr vc w (rf4 l) ([], bad) hC hF.2.2 ?_ hS (by simp)).mono ?_
  · have := rf0_length l; unfold rf4 rf3 rf2 rf1; rw [List.length_drop, List.length_drop, List.length_drop, List.length_drop]; omega
  rintro e w' ⟨rfl, h1, h2⟩
  refine ⟨rfl, ?_, h2⟩
  rw [← wrt_nil_eq]
  unfold it5
  rw [wrt_cons]
  exact h1
end

/-! the five by their number -/
def rfs (l : Loc) : Nat → List Int
  | 0 => rf0 l | 1 => rf1 l | 2 => rf2 l | 3 => rf3 l | 4 => rf4 l | _ => (rf4 l).drop l.comps.length
def its (l : Loc) : Nat → List (Int × Int)
  | 0 => it1 l | 1 => it2 l | 2 => it3 l | 3 => it4 l | 4 => it5 l | _ => []
def badn (l : Loc) : Nat → Bool
  | 0 => false | j + 1 => badn l j || badI (its l j)
def partsn (l : Loc) : Nat → List (List Int)
  | 0 => [poolBytes (gp (texts l))] | j + 1 => partsn l j ++ [encI (its l j)]
theorem partsn_length (l : Loc) (j : Nat) : (partsn l j).length = j + 1 := by
  induction j with
  | zero => rfl
  | succ j ih => unfold partsn; rw [List.length_append, ih]; rfl
theorem partsn_five (l : Loc) : partsn l 5 = parts l := rfl
theorem badn_five (l : Loc) : badn l 5 = bads l := by
  show (((((false || badI (it1 l)) || badI (it2 l)) || badI (it3 l)) || badI (it4 l)) || badI (it5 l)) = _
  unfold bads
  rw [Bool.false_or]
theorem secs (w0 : World) (l : Loc) (Ar Ac Ak : Option Addr) (cr cc ck : Nat) (h1 : kRl.C w0 Ar l.rules.length l.rules) (h2 : kCu.C w0 Ac l.curs.length l.curs) (h3 : kCm.C w0 Ak l.comps.length l.comps) (hF : Few l) (hz : l.s.ok) (j : Nat) (hj : j < 5) (w : World) (bad : Bool)
    (hS : WR w0 (lcells l (.slice Ar l.rules.length cr) (.slice Ac l.curs.length cc) (.slice Ak l.comps.length ck)) w (rfs l j) ([], bad)) :
    Calls Try.prog (24 + j) #[.pointer (some ⟨w0.heap.size, 0, none⟩)] w (secPost w0 (lcells l (.slice Ar l.rules.length cr) (.slice Ac l.curs.length cc) (.slice Ak l.comps.length ck)) (rfs l (j + 1)) (its l j) bad w) := by
  match j, hj with
  | 0, _ => exact sec1 w0 l _ _ _ w bad hz hS
  | 1, _ => exact sec2 w0 l _ _ _ w bad hS
  | 2, _ => exact sec3 w0 l _ _ w bad Ar cr h1 hF hS
  | 3, _ => exact sec4 w0 l _ _ w bad Ac cc h2 hF hS
  | 4, _ => exact sec5 w0 l _ _ w bad Ak ck h3 hF hS
theorem funcs_get (g j : Nat) (hj : j < 5) : (funcs g)[j]? = some (.func (.func (24 + j)) #[.pointer (some ⟨g, 0, none⟩)] #[]) := by
  match j, hj with
  | 0, _ => rfl
  | 1, _ => rfl
  | 2, _ => rfl
  | 3, _ => rfl
  | 4, _ => rfl
end Go.Proofs.Ytfbmgjanplnabaa
/- Encode: the header's first number, behind the constant's marked row. -/
namespace Go.Proofs.Ytfbmgjanplnabaa
open Go.RowKit Go.Proofs.YtfbmgjanplnabaaW.PrintWords Go.Proofs.YtfbmgjanplnabaaW.PrintLast Go.Proofs.YtfbmgjanplnabaaW.PrintMore
set_option linter.unusedVariables false
set_option linter.unusedSimpArgs false

set_option maxHeartbeats 400000 in
/-- A number behind what is only read. -/
theorem number_first (w0 : World) (L : List Value) (hL : L.length = 15) (w : World) (vr : Value) (A : Option Addr) (c : Nat) (b : List Int) (bad : Bool) (n size : Int) (hs : size = 1 ∨ size = 2 ∨ size = 4) (hf : fits n size = true) (h1 : ¬ n < 0) (h2 : ¬ 4294967295 < n)
    (hblk : w.heap[w0.heap.size]? = some (.cells (wcells (.slice A b.length c) vr L bad) 68 (0, 0))) (hrd : RdB w A b) (hcc : b.length ≤ c) (hbel : Below w0.heap.size w0 w) (hm : b.length ≤ 140737488355000) :
    Calls Try.prog 29 #[.pointer (some ⟨w0.heap.size, 0, none⟩), .int .i64 n, .int .i64 size] w fun e w' => e = .returned (.tuple #[]) ∧ WSt w0 L w' vr (wnum (b, bad) (n, size)).1 (wnum (b, bad) (n, size)).2 ∧ w.grownBy w' (some w0.heap.size) := by
  obtain ⟨g, hg⟩ : ∃ g, w0.heap.size = g := ⟨_, rfl⟩
  have hc0 := (blk_cell hblk 0).trans wcells_0
  have hcb := (blk_cell hblk 17).trans (wcells_17 hL)
  have hf0 := blk_free hblk 0
  have hf17 := blk_free hblk 17
  have HK := Aside0.mk hblk
  have HL := Aside0.mk hL
  have HB := Aside0.mk hbel
  have HM := Aside0.mk hm
  clear hblk hL hbel hm
  have hw : wnum (b, bad) (n, size) = (b ++ be n size, bad) := by unfold wnum; rw [if_pos hf]
  rw [hw]
  have HP := Aside0.mk (put_ok size hs b A c n w hrd hcc HM.out hf)
  have hlt := blk_lt HK.out
  have HFin : Aside0 (∀ w1 v, Below w.heap.size w w1 → OwnB w1 w.heap.size v (b ++ be n size) → WSt w0 L ((w1.setCell ⟨w0.heap.size, 0, none⟩ v).setCell ⟨w0.heap.size, 17, none⟩ (.bool bad)) vr (b ++ be n size) bad ∧ w.grownBy ((w1.setCell ⟨w0.heap.size, 0, none⟩ v).setCell ⟨w0.heap.size, 17, none⟩ (.bool bad)) (some w0.heap.size)) := ⟨fun w1 v h1 h2 => WSt.put HL.out HK.out HB.out h1 h2⟩
  rw [hg] at hc0 hcb hf0 hf17 hlt HFin ⊢
  clear hrd hw hs hf hg HK
  cases bad
  all_goals
    go_enter Try.func29, Try.ntmps29
    go_wp2_with fail
    refine HP.out.mono ?_
    rintro e w1 ⟨v, rfl, ho, hb⟩
    have HF := Aside0.mk (HFin.out w1 v hb ho)
    have hd0 := (hb.cell (p := ⟨g, 0, none⟩) hlt).trans hc0
    have hd17 := (hb.cell (p := ⟨g, 17, none⟩) hlt).trans hcb
    have hg0 := (hb.frozen (p := ⟨g, 0, none⟩) hlt).trans hf0
    have hg17 := (hb.frozen (p := ⟨g, 17, none⟩) hlt).trans hf17
    obtain ⟨A2, m2, c2, rfl⟩ := R_slice' ho
    clear ho hb HFin HP hc0 hcb hf0 hf17
    go_wp2
    go_end0
    exact ⟨rfl, HF.out⟩

def magicCells : Array Value := #[.int .u8 69, .int .u8 88, .int .u8 76, .int .u8 66]
theorem EInv.head {w1 w4 : World} {L : List Value} {W : World} {vp : Value} {refs : List Int} {bad : Bool} {ps : List (List Int)} (hL : L.length = 15) (h : EInv w1 w4 L W vp refs bad ps) :
    Calls Try.prog 29 #[.pointer (some ⟨w4.heap.size, 0, none⟩), .int .i64 1, .int .i64 2] ((W.alloc (.cells magicCells 5 (4, 5))).setCell ⟨w4.heap.size, 0, none⟩ (.slice (some ⟨W.heap.size, 0, none⟩) 4 4)) fun e w' => e = .returned (.tuple #[]) ∧ EMid w1 w4 L w' vp refs (wnum (magic, bad) (1, 2)) ps := by
  have hb := h.wb.alloc (.cells magicCells 5 (4, 5))
  obtain ⟨Ar, cr, vb, h1, h2, hK, hB⟩ := hb
  have hK2 := blk_set hK 0 (.slice (some ⟨W.heap.size, 0, none⟩) 4 4)
  rw [wcells_set0] at hK2
  have hlt : w4.heap.size < W.heap.size := (h.wb.blk hL).2.2.2
  have hrow : ((W.alloc (.cells magicCells 5 (4, 5))).setCell ⟨w4.heap.size, 0, none⟩ (.slice (some ⟨W.heap.size, 0, none⟩) 4 4)).heap[W.heap.size]? = some (.cells magicCells 5 (4, 5)) :=
    blk_other (blk_new W _) (by simp; omega) _
  have hrd : RdB ((W.alloc (.cells magicCells 5 (4, 5))).setCell ⟨w4.heap.size, 0, none⟩ (.slice (some ⟨W.heap.size, 0, none⟩) 4 4)) (some ⟨W.heap.size, 0, none⟩) magic := C_blk .u8 magic hrow (by decide)
  have hown : OwnP ((W.alloc (.cells magicCells 5 (4, 5))).setCell ⟨w4.heap.size, 0, none⟩ (.slice (some ⟨W.heap.size, 0, none⟩) 4 4)) w1.heap.size w4.heap.size vp ps := Kd.R_far (p := ⟨w4.heap.size, 0, none⟩) (Kd.R_alloc h.own _) (fun _ hk => hk) _
  have hfn := blk_other (blk_alloc h.fn (.cells magicCells 5 (4, 5))) (show w4.heap.size + 2 ≠ (⟨w4.heap.size, 0, none⟩ : Addr).block by simp) (.slice (some ⟨W.heap.size, 0, none⟩) 4 4)
  have hbl : Below w1.heap.size w1 ((W.alloc (.cells magicCells 5 (4, 5))).setCell ⟨w4.heap.size, 0, none⟩ (.slice (some ⟨W.heap.size, 0, none⟩) 4 4)) := (h.below.alloc h.below.size _).setCell h.le _
  refine (number_first w4 L hL _ (.slice Ar refs.length cr) _ 4 magic bad 1 2 (.inr (.inl rfl)) (by decide) (by decide) (by decide) hK2 hrd (by decide) (hB.setCell (Nat.le_refl _) _) (by decide)).mono ?_
  rintro e w' ⟨rfl, h3, hg⟩
  refine ⟨rfl, ⟨Ar, cr, h1, h2, h3⟩, Kd.R_grown hown hg (fun k hk e => by injection e with e; exact hk e), h.vpg, blk_grown hfn hg (fun e => by injection e with e; omega), below_grown hbl hg ?_ h.le, h.le⟩
  have := h.below.size
  simp
  omega
end Go.Proofs.Ytfbmgjanplnabaa

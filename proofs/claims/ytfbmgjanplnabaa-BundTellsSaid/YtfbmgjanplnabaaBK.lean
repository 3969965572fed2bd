import Derived.Test.YtfbmgjanplnabaaBJ
/- bund.Decode: the contract. -/
namespace Go.Proofs.Ytfbmgjanplnabaa
open Go.RowKit Go.Proofs.YtfbmgjanplnabaaW.PrintWords Go.Proofs.YtfbmgjanplnabaaW.PrintLast Go.Proofs.YtfbmgjanplnabaaW.PrintMore
set_option linter.unusedVariables false
set_option linter.unusedSimpArgs false

theorem split4 (xs : List Int) (h : ¬ xs.length < 4) : ∃ ys y0 y1 y2 y3, xs = ys ++ [y0, y1, y2, y3] := by
  have h1 : (xs.drop (xs.length - 4)).length = 4 := by rw [List.length_drop]; omega
  match hd : xs.drop (xs.length - 4), h1 with
  | [a, b, c, d], _ => exact ⟨xs.take (xs.length - 4), a, b, c, d, by rw [← hd, List.take_append_drop]⟩
theorem decode_app (ys : List Int) (y0 y1 y2 y3 : Int) : decode (ys ++ [y0, y1, y2, y3]) =
    if [y0, y1, y2, y3] = le4 (crcOn 0 ys) then (match locP ys with
      | none => .inr 2
      | some l => if encOk l && eqB (enc l) (ys ++ [y0, y1, y2, y3]) then .inl l else .inr 2)
    else .inr 6 := by
  have h1 : (ys ++ [y0, y1, y2, y3]).length = ys.length + 4 := by rw [List.length_append]; rfl
  unfold decode
  rw [h1, if_neg (by omega), Nat.add_sub_cancel, List.drop_left, List.take_left]
  rfl
theorem decode_calls (xs : List Int) (A : Option Addr) (c : Nat) (w : World) (hx : RdB w A xs) (hc : xs.length ≤ c) (hb : Bytes xs) (hm : xs.length ≤ 140737488355328) :
    Calls Try.prog 12 #[.slice A xs.length c] w (decPost xs w) := by
  by_cases h4 : xs.length < 4
  · refine (decode_refused xs A c w 2 (.inl rfl) (fun W hW => (cut_short xs A c W h4).mono (by rintro e w' ⟨rfl, rfl⟩; exact ⟨rfl, Below.refl _ _⟩))).mono ?_
    rintro e w' ⟨rfl, hb⟩
    exact ⟨hb, by rw [decode_short h4]⟩
  · obtain ⟨ys, y0, y1, y2, y3, rfl⟩ := split4 xs h4
    have hlen : (ys ++ [y0, y1, y2, y3]).length = ys.length + 4 := by rw [List.length_append]; rfl
    have hcut : ∀ W, Below w.heap.size w W → Calls Try.prog 32 #[.slice A (ys ++ [y0, y1, y2, y3]).length c] W (cutPost ys (decide ([y0, y1, y2, y3] = le4 (crcOn 0 ys))) W) := fun W hW => by
      rw [hlen]
      exact cut_body ys y0 y1 y2 y3 A c W (Kd.C_below hx hW) hc (by omega)
    have hby : Bytes ys := fun x h => hb x (List.mem_append_left _ h)
    by_cases hcrc : [y0, y1, y2, y3] = le4 (crcOn 0 ys)
    · have hcut2 : ∀ W, Below w.heap.size w W → Calls Try.prog 32 #[.slice A (ys ++ [y0, y1, y2, y3]).length c] W fun e w' => ∃ v, e = .returned (.tuple #[v, .int .i64 0]) ∧ OwnB w' W.heap.size v ys ∧ Below W.heap.size W w' := fun W hW => (hcut W hW).mono (by
        rintro e w' ⟨h1, h2⟩
        rw [decide_eq_true hcrc] at h1
        obtain ⟨v, h3, h4⟩ := h1
        exact ⟨v, h3, h4, h2⟩)
      cases hl : locP ys with
      | none =>
        refine (decode_none _ ys A c w hx hc hcut2 hl).mono ?_
        rintro e w' ⟨rfl, hb⟩
        refine ⟨hb, ?_⟩
        rw [decode_app, if_pos hcrc, hl]
        rfl
      | some l =>
        obtain ⟨hF, hz⟩ := locP_few hby hl
        refine (decode_some _ ys A c w hx hc hcut2 l hl hF hz).mono ?_
        rintro e w' ⟨hb, he⟩
        refine ⟨hb, ?_⟩
        have hd : decode (ys ++ [y0, y1, y2, y3]) = if (encOk l && eqB (enc l) (ys ++ [y0, y1, y2, y3])) = true then .inl l else .inr 2 := by rw [decode_app, if_pos hcrc, hl]
        rw [hd]
        cases hq : (encOk l && eqB (enc l) (ys ++ [y0, y1, y2, y3])) with
        | true =>
          rw [hq] at he
          rw [if_pos rfl]
          exact he
        | false =>
          rw [hq] at he
          rw [if_neg (by decide)]
          exact he
    · refine (decode_refused _ A c w 6 (.inr rfl) (fun W hW => (hcut W hW).mono (by
        rintro e w' ⟨h1, h2⟩
        rw [decide_eq_false hcrc] at h1
        exact ⟨h1, h2⟩))).mono ?_
      rintro e w' ⟨rfl, hb⟩
      refine ⟨hb, ?_⟩
      rw [decode_app, if_neg hcrc]
end Go.Proofs.Ytfbmgjanplnabaa
/- The round trip: what the writer writes the reader reads. The parts. -/
namespace Go.Proofs.Ytfbmgjanplnabaa
open Go.RowKit Go.Proofs.YtfbmgjanplnabaaW.PrintWords Go.Proofs.YtfbmgjanplnabaaW.PrintLast Go.Proofs.YtfbmgjanplnabaaW.PrintMore
set_option linter.unusedVariables false
set_option linter.unusedSimpArgs false

theorem seg_drop (xs : List Int) (p n : Nat) : seg xs p n = (xs.drop p).take n := by
  unfold seg
  rw [List.drop_take]
  congr 1
  omega
theorem drop_next {xs b rest : List Int} {p : Nat} (h : xs.drop p = b ++ rest) : xs.drop (p + b.length) = rest := by
  rw [← List.drop_drop, h, List.drop_left]
theorem drop_room {xs b rest : List Int} {p : Nat} (h : xs.drop p = b ++ rest) (hb : 0 < b.length) : p + b.length ≤ xs.length := by
  have := congrArg List.length h
  rw [List.length_drop, List.length_append] at this
  omega
theorem be_size (n : Int) (size : Nat) (hs : size = 1 ∨ size = 2 ∨ size = 4) : (be n size).length = size := by
  rcases hs with rfl | rfl | rfl <;> rfl
theorem val_be (n : Int) (size : Nat) (hs : size = 1 ∨ size = 2 ∨ size = 4) (hf : fits n size = true) : val (be n size) = n := by
  simp only [fits, Bool.and_eq_true, decide_eq_true_eq] at hf
  rcases hs with rfl | rfl | rfl
  · have hl : lim ((1 : Nat) : Int) = 256 := rfl
    rw [hl] at hf
    exact val1 n ⟨hf.1, hf.2⟩
  · have hl : lim ((2 : Nat) : Int) = 65536 := rfl
    rw [hl] at hf
    show val [n / 256, n % 256] = n
    rw [val2 _ _ (by omega) (by omega)]
    omega
  · have hl : lim ((4 : Nat) : Int) = 4294967296 := rfl
    rw [hl] at hf
    show val [n / 16777216, n / 65536 % 256, n / 256 % 256, n % 256] = n
    rw [val4 _ _ _ _ (by omega) (by omega) (by omega) (by omega)]
    omega
theorem num_be {xs rest : List Int} {p : Nat} {n : Int} (size : Nat) (hs : size = 1 ∨ size = 2 ∨ size = 4) (hf : fits n size = true) (h : xs.drop p = be n size ++ rest) : numP xs size p = some (n.toNat, p + size) ∧ xs.drop (p + size) = rest := by
  have hl := be_size n size hs
  have hr := drop_room h (by rw [hl]; omega)
  rw [hl] at hr
  refine ⟨?_, by have := drop_next h; rwa [hl] at this⟩
  rw [numP_val xs p size hr, seg_drop, h, List.take_append_of_le_length (by omega), List.take_of_length_le (by omega), val_be n size hs hf]
theorem fits_nonneg {n size : Int} (h : fits n size = true) : 0 ≤ n := by
  simp only [fits, Bool.and_eq_true, decide_eq_true_eq] at h
  exact h.1
theorem fits2 (n : Nat) (h : n ≤ 65535) : fits n 2 = true := by
  simp only [fits, Bool.and_eq_true, decide_eq_true_eq]
  have : lim 2 = 65536 := rfl
  omega
theorem txt_be {xs rest : List Int} {p : Nat} {pool : List ByteArray} {s : ByteArray} (hs : s ∈ pool) (hp : pool.length ≤ 500) (h : xs.drop p = be ((pool.idxOf s : Nat) : Int) 2 ++ rest) : txtP xs pool p = some (s, p + 2) ∧ xs.drop (p + 2) = rest := by
  have hi := List.idxOf_lt_length_of_mem hs
  obtain ⟨h1, h2⟩ := num_be 2 (.inr (.inl rfl)) (fits2 _ (by omega)) h
  refine ⟨?_, h2⟩
  unfold txtP
  rw [h1]
  simp [List.getElem?_eq_getElem hi]
theorem rep_enc {α : Type} {xs : List Int} {f : PS α} {e : α → List Int} : ∀ (vs : List α) (p : Nat) (rest : List Int), (∀ v ∈ vs, ∀ p rest, xs.drop p = e v ++ rest → f p = some (v, p + (e v).length) ∧ xs.drop (p + (e v).length) = rest) → xs.drop p = vs.flatMap e ++ rest →
    rep f vs.length p = some (vs, p + (vs.flatMap e).length) ∧ xs.drop (p + (vs.flatMap e).length) = rest := by
  intro vs
  induction vs with
  | nil => intro p rest hf h; exact ⟨rfl, h⟩
  | cons v vs ih =>
    intro p rest hf h
    rw [List.flatMap_cons, List.append_assoc] at h
    obtain ⟨h1, h2⟩ := hf v (List.mem_cons_self) p _ h
    obtain ⟨h3, h4⟩ := ih (p + (e v).length) rest (fun v hv => hf v (List.mem_cons_of_mem _ hv)) h2
    rw [List.flatMap_cons, List.length_append, ← Nat.add_assoc]
    refine ⟨?_, h4⟩
    show ((f p).bind fun r => (rep f vs.length r.2).map fun q => (r.1 :: q.1, q.2)) = _
    rw [h1]
    simp only [Option.bind_some]
    rw [h3]
    rfl
theorem str_bytes (s : ByteArray) : strOfNums (bytesOf s) = s := by
  have h1 : (strOfNums (bytesOf s)).data.toList = s.data.toList := by
    rw [strOfNums_data]
    unfold bytesOf
    rw [List.map_map]
    conv => rhs; rw [← List.map_id s.data.toList]
    refine List.map_congr_left (fun b hb => ?_)
    simp [Function.comp]
  cases s
  rename_i d
  have : (strOfNums (bytesOf ⟨d⟩)).data = d := Array.toList_inj.1 h1
  show ByteArray.mk (strOfNums (bytesOf ⟨d⟩)).data = ⟨d⟩
  rw [this]
theorem next_enc {xs rest : List Int} {p : Nat} {s : ByteArray} (hs : s.size ≤ 400) (h : xs.drop p = textBytes s ++ rest) : nextS xs p = some (s, p + (textBytes s).length) ∧ xs.drop (p + (textBytes s).length) = rest := by
  have h' := drop_next h
  refine ⟨?_, h'⟩
  unfold textBytes at h ⊢
  rw [List.append_assoc] at h
  obtain ⟨h1, h2⟩ := num_be (n := (s.size : Int)) 2 (.inr (.inl rfl)) (fits2 _ (by omega)) h
  have hr : p + 2 ≤ xs.length := drop_room h (by rw [be2_length]; omega)
  rw [numP_val xs p 2 hr] at h1
  injection h1 with h1
  injection h1 with h1 _
  have hlen := congrArg List.length h2
  rw [List.length_drop, List.length_append, bytesOf_length] at hlen
  unfold nextS
  rw [if_pos hr, h1, Int.toNat_natCast, if_pos (by omega), seg_drop, h2, List.take_append_of_le_length (by rw [bytesOf_length]; omega), List.take_of_length_le (by rw [bytesOf_length]; omega), str_bytes, List.length_append, be2_length, bytesOf_length, Nat.add_assoc]
theorem pullS_rep (xs : List Int) : ∀ (n p : Nat), pullS xs n p = rep (nextS xs) n p := by
  intro n
  induction n with
  | zero => intro p; rfl
  | succ n ih => intro p; unfold pullS; simp only [ih]; rfl
theorem pool_enc {xs rest : List Int} {p : Nat} {ts : List ByteArray} (hp : isPool ts = true) (h : xs.drop p = poolBytes ts ++ rest) : takePool xs p = some (ts, p + (poolBytes ts).length) ∧ xs.drop (p + (poolBytes ts).length) = rest := by
  have h' := drop_next h
  refine ⟨?_, h'⟩
  unfold poolBytes at h ⊢
  rw [List.append_assoc] at h
  have hl := isPool_length hp
  obtain ⟨h1, h2⟩ := num_be (n := (ts.length : Int)) 2 (.inr (.inl rfl)) (fits2 _ (by omega)) h
  have hr : p + 2 ≤ xs.length := drop_room h (by rw [be2_length]; omega)
  rw [numP_val xs p 2 hr] at h1
  injection h1 with h1
  injection h1 with h1 _
  obtain ⟨h3, h4⟩ := rep_enc (f := nextS xs) ts (p + 2) rest (fun s hs p rest h => next_enc (isPool_size hp s hs) h) h2
  unfold takePool
  rw [if_pos hr, h1, Int.toNat_natCast, pullS_rep, h3]
  simp only [Option.bind_some]
  rw [if_pos hp, List.length_append, be2_length, Nat.add_assoc]
end Go.Proofs.Ytfbmgjanplnabaa
/- The round trip: a locale's body, and whatever behind it, is read as the locale. -/
namespace Go.Proofs.Ytfbmgjanplnabaa
open Go.RowKit Go.Proofs.YtfbmgjanplnabaaW.PrintWords Go.Proofs.YtfbmgjanplnabaaW.PrintLast Go.Proofs.YtfbmgjanplnabaaW.PrintMore
set_option linter.unusedVariables false
set_option linter.unusedSimpArgs false

theorem encI_cons (i : Int × Int) (is : List (Int × Int)) (h : badI (i :: is) = false) : fits i.1 i.2 = true ∧ badI is = false ∧ encI (i :: is) = be i.1 i.2 ++ encI is := by
  unfold badI at h ⊢
  rw [List.any_cons, Bool.or_eq_false_iff] at h
  have hf : fits i.1 i.2 = true := by simpa using h.1
  refine ⟨hf, h.2, ?_⟩
  unfold encI
  rw [List.flatMap_cons, if_pos hf]
theorem badI_append (xs ys : List (Int × Int)) : badI (xs ++ ys) = (badI xs || badI ys) := List.any_append
theorem encI_append (xs ys : List (Int × Int)) : encI (xs ++ ys) = encI xs ++ encI ys := List.flatMap_append
def ixn (P : List ByteArray) (s : ByteArray) : Int := ((P.idxOf s : Nat) : Int)
def eT (P : List ByteArray) (s : ByteArray) : List Int := be (ixn P s) 2
def eZ (z : Int) : List Int := be z 4
def eR (P : List ByteArray) (r : Rl) : List Int := be r.1 1 ++ eT P r.2
def eC (P : List ByteArray) (c : Cu) : List Int := eT P c.1 ++ (eT P c.2.1 ++ be c.2.2 1)
def eM (P : List ByteArray) (c : Cm) : List Int := be c.1 1 ++ (be c.2.1 1 ++ eT P c.2.2)
theorem tx_enc (P : List ByteArray) : ∀ (ts : List ByteArray), badI (txItems (ts.map (ixn P))) = false → encI (txItems (ts.map (ixn P))) = ts.flatMap (eT P) := by
  intro ts
  induction ts with
  | nil => intro h; rfl
  | cons t ts ih =>
    intro h
    obtain ⟨h1, h2, h3⟩ := encI_cons (ixn P t, 2) (txItems (ts.map (ixn P))) h
    rw [List.flatMap_cons, ← ih h2]
    exact h3
theorem sy_enc : ∀ (zs : List Int), badI (zs.map fun z => (z, 4)) = false → (∀ z ∈ zs, fits z 4 = true) ∧ encI (zs.map fun z => (z, 4)) = zs.flatMap eZ := by
  intro zs
  induction zs with
  | nil => intro h; exact ⟨fun z hz => (by cases hz), rfl⟩
  | cons z zs ih =>
    intro h
    obtain ⟨h1, h2, h3⟩ := encI_cons (z, 4) (zs.map fun z => (z, 4)) h
    obtain ⟨h4, h5⟩ := ih h2
    refine ⟨fun y hy => ?_, by rw [List.flatMap_cons, ← h5]; exact h3⟩
    rcases List.mem_cons.1 hy with rfl | hy
    · exact h1
    · exact h4 y hy
theorem ru_enc (P : List ByteArray) : ∀ (rs : List Rl), badI (ruIt rs ((ruT rs).map (ixn P))) = false → (∀ r ∈ rs, fits r.1 1 = true) ∧ encI (ruIt rs ((ruT rs).map (ixn P))) = rs.flatMap (eR P) := by
  intro rs
  induction rs with
  | nil => intro h; exact ⟨fun z hz => (by cases hz), rfl⟩
  | cons r rs ih =>
    intro h
    have h' : badI ((r.1, 1) :: (ixn P r.2, 2) :: ruIt rs ((ruT rs).map (ixn P))) = false := h
    obtain ⟨h1, h2, h3⟩ := encI_cons _ _ h'
    obtain ⟨h4, h5, h6⟩ := encI_cons _ _ h2
    obtain ⟨h7, h8⟩ := ih h5
    refine ⟨fun y hy => ?_, ?_⟩
    · rcases List.mem_cons.1 hy with rfl | hy
      · exact h1
      · exact h7 y hy
    · show encI ((r.1, 1) :: (ixn P r.2, 2) :: ruIt rs ((ruT rs).map (ixn P))) = _
      rw [h3, h6, h8, List.flatMap_cons]
      unfold eR eT
      simp
theorem cu_enc (P : List ByteArray) : ∀ (cs : List Cu), badI (cuIt cs ((cuT cs).map (ixn P))) = false → (∀ r ∈ cs, fits r.2.2 1 = true) ∧ encI (cuIt cs ((cuT cs).map (ixn P))) = cs.flatMap (eC P) := by
  intro cs
  induction cs with
  | nil => intro h; exact ⟨fun z hz => (by cases hz), rfl⟩
  | cons c cs ih =>
    intro h
    have h' : badI ((ixn P c.1, 2) :: (ixn P c.2.1, 2) :: (c.2.2, 1) :: cuIt cs ((cuT cs).map (ixn P))) = false := h
    obtain ⟨h1, h2, h3⟩ := encI_cons _ _ h'
    obtain ⟨h4, h5, h6⟩ := encI_cons _ _ h2
    obtain ⟨k4, k5, k6⟩ := encI_cons _ _ h5
    obtain ⟨h7, h8⟩ := ih k5
    refine ⟨fun y hy => ?_, ?_⟩
    · rcases List.mem_cons.1 hy with rfl | hy
      · exact k4
      · exact h7 y hy
    · show encI ((ixn P c.1, 2) :: (ixn P c.2.1, 2) :: (c.2.2, 1) :: cuIt cs ((cuT cs).map (ixn P))) = _
      rw [h3, h6, k6, h8, List.flatMap_cons]
      unfold eC eT
      simp
theorem cm_enc (P : List ByteArray) : ∀ (cs : List Cm), badI (cmIt cs ((cmT cs).map (ixn P))) = false → (∀ r ∈ cs, fits r.1 1 = true ∧ fits r.2.1 1 = true) ∧ encI (cmIt cs ((cmT cs).map (ixn P))) = cs.flatMap (eM P) := by
  intro cs
  induction cs with
  | nil => intro h; exact ⟨fun z hz => (by cases hz), rfl⟩
  | cons c cs ih =>
    intro h
    have h' : badI ((c.1, 1) :: (c.2.1, 1) :: (ixn P c.2.2, 2) :: cmIt cs ((cmT cs).map (ixn P))) = false := h
    obtain ⟨h1, h2, h3⟩ := encI_cons _ _ h'
    obtain ⟨h4, h5, h6⟩ := encI_cons _ _ h2
    obtain ⟨k4, k5, k6⟩ := encI_cons _ _ h5
    obtain ⟨h7, h8⟩ := ih k5
    refine ⟨fun y hy => ?_, ?_⟩
    · rcases List.mem_cons.1 hy with rfl | hy
      · exact ⟨h1, h4⟩
      · exact h7 y hy
    · show encI ((c.1, 1) :: (c.2.1, 1) :: (ixn P c.2.2, 2) :: cmIt cs ((cmT cs).map (ixn P))) = _
      rw [h3, h6, k6, h8, List.flatMap_cons]
      unfold eM eT
      simp

/-! reading them -/
section
variable {xs : List Int} {P : List ByteArray} (hP : P.length ≤ 500)
theorem num1_be {rest : List Int} {p : Nat} {n : Int} (hf : fits n 1 = true) (h : xs.drop p = be n 1 ++ rest) : numP xs 1 p = some (n.toNat, p + 1) ∧ xs.drop (p + 1) = rest := num_be 1 (.inl rfl) hf h
include hP
theorem rul_dec {v : Rl} (hf : fits v.1 1 = true) (hm : v.2 ∈ P) (p : Nat) (rest : List Int) (h : xs.drop p = eR P v ++ rest) : rulP xs P p = some (v, p + (eR P v).length) ∧ xs.drop (p + (eR P v).length) = rest := by
  refine ⟨?_, drop_next h⟩
  unfold eR at h ⊢
  rw [List.append_assoc] at h
  obtain ⟨h1, h2⟩ := num1_be hf h
  obtain ⟨h3, _⟩ := txt_be hm hP h2
  unfold rulP
  rw [h1]
  simp only [Option.bind_some]
  rw [h3]
  have := fits_nonneg hf
  have e : ((v.1.toNat : Nat) : Int) = v.1 := by omega
  rw [show (be v.1 1 ++ eT P v.2).length = 3 from rfl]
  simp [e]
theorem cur_dec {v : Cu} (hf : fits v.2.2 1 = true) (h1 : v.1 ∈ P) (h2 : v.2.1 ∈ P) (p : Nat) (rest : List Int) (h : xs.drop p = eC P v ++ rest) : curP xs P p = some (v, p + (eC P v).length) ∧ xs.drop (p + (eC P v).length) = rest := by
  refine ⟨?_, drop_next h⟩
  unfold eC at h ⊢
  rw [List.append_assoc, List.append_assoc] at h
  obtain ⟨k1, k2⟩ := txt_be h1 hP h
  obtain ⟨k3, k4⟩ := txt_be h2 hP k2
  obtain ⟨k5, _⟩ := num1_be hf k4
  unfold curP
  rw [k1]
  simp only [Option.bind_some]
  rw [k3]
  simp only [Option.bind_some]
  rw [k5]
  have := fits_nonneg hf
  have e : ((v.2.2.toNat : Nat) : Int) = v.2.2 := by omega
  rw [show (eT P v.1 ++ (eT P v.2.1 ++ be v.2.2 1)).length = 5 from rfl]
  simp [e]
theorem cmp_dec {v : Cm} (hf : fits v.1 1 = true) (hf2 : fits v.2.1 1 = true) (h1 : v.2.2 ∈ P) (p : Nat) (rest : List Int) (h : xs.drop p = eM P v ++ rest) : cmpP xs P p = some (v, p + (eM P v).length) ∧ xs.drop (p + (eM P v).length) = rest := by
  refine ⟨?_, drop_next h⟩
  unfold eM at h ⊢
  rw [List.append_assoc, List.append_assoc] at h
  obtain ⟨k1, k2⟩ := num1_be hf h
  obtain ⟨k3, k4⟩ := num1_be hf2 k2
  obtain ⟨k5, _⟩ := txt_be h1 hP k4
  unfold cmpP
  rw [k1]
  simp only [Option.bind_some]
  rw [k3]
  simp only [Option.bind_some]
  rw [k5]
  have := fits_nonneg hf
  have := fits_nonneg hf2
  have e : ((v.1.toNat : Nat) : Int) = v.1 := by omega
  have e2 : ((v.2.1.toNat : Nat) : Int) = v.2.1 := by omega
  rw [show (be v.1 1 ++ (be v.2.1 1 ++ eT P v.2.2)).length = 4 from rfl]
  simp [e, e2]
end
theorem sgn_dec {xs : List Int} {z : Int} (hf : fits z 4 = true) (hz : z ≤ 2147483647) (p : Nat) (rest : List Int) (h : xs.drop p = eZ z ++ rest) : sgnP xs p = some (z, p + (eZ z).length) ∧ xs.drop (p + (eZ z).length) = rest := by
  refine ⟨?_, drop_next h⟩
  obtain ⟨k1, k2⟩ := num_be 4 (.inr (.inr rfl)) hf h
  unfold sgnP
  rw [k1]
  have := fits_nonneg hf
  have e : wrap32 ((z.toNat : Nat) : Int) = z := by unfold wrap32; omega
  show some (wrap32 ((z.toNat : Nat) : Int), p + 4) = some (z, p + 4)
  rw [e]
theorem many_dec {α : Type} {xs : List Int} {f : PS α} {e : α → List Int} (vs : List α) (p : Nat) (rest : List Int) (hv : vs.length ≤ 65535) (hf : ∀ v ∈ vs, ∀ p rest, xs.drop p = e v ++ rest → f p = some (v, p + (e v).length) ∧ xs.drop (p + (e v).length) = rest) (h : xs.drop p = be vs.length 2 ++ (vs.flatMap e ++ rest)) :
    manyP xs f p = some (vs, p + 2 + (vs.flatMap e).length) ∧ xs.drop (p + 2 + (vs.flatMap e).length) = rest := by
  obtain ⟨h1, h2⟩ := num_be 2 (.inr (.inl rfl)) (fits2 _ hv) h
  obtain ⟨h3, h4⟩ := rep_enc vs (p + 2) rest hf h2
  refine ⟨?_, h4⟩
  unfold manyP
  rw [h1]
  simp only [Option.bind_some, Int.toNat_natCast]
  exact h3

/-! the whole -/
theorem rf0_eq (l : Loc) : rf0 l = (texts l).map (ixn (gp (texts l))) := rfl
theorem ruT_length (rs : List Rl) : (ruT rs).length = rs.length := by simp [ruT]
theorem cmT_length (rs : List Cm) : (cmT rs).length = rs.length := by simp [cmT]
theorem rf_parts (l : Loc) (P : List ByteArray) (hP : gp (texts l) = P) : (rf0 l).take 1 = [l.tag].map (ixn P) ∧ (rf1 l).take 4 = [l.p0, l.p1, l.p2, l.p3].map (ixn P) ∧ (rf2 l).take l.rules.length = (ruT l.rules).map (ixn P) ∧ (rf3 l).take (2 * l.curs.length) = (cuT l.curs).map (ixn P) ∧ (rf4 l).take l.comps.length = (cmT l.comps).map (ixn P) := by
  have h0 : rf0 l = ixn P l.tag :: ([l.p0, l.p1, l.p2, l.p3].map (ixn P) ++ ((ruT l.rules).map (ixn P) ++ ((cuT l.curs).map (ixn P) ++ (cmT l.comps).map (ixn P)))) := by
    rw [rf0_eq, hP]
    unfold texts
    simp
  have h1 : rf1 l = [l.p0, l.p1, l.p2, l.p3].map (ixn P) ++ ((ruT l.rules).map (ixn P) ++ ((cuT l.curs).map (ixn P) ++ (cmT l.comps).map (ixn P))) := by unfold rf1; rw [h0]; rfl
  have h2 : rf2 l = (ruT l.rules).map (ixn P) ++ ((cuT l.curs).map (ixn P) ++ (cmT l.comps).map (ixn P)) := by unfold rf2; rw [h1]; rfl
  have h3 : rf3 l = (cuT l.curs).map (ixn P) ++ (cmT l.comps).map (ixn P) := by unfold rf3; rw [h2]; exact List.drop_left' (by rw [List.length_map, ruT_length])
  have h4 : rf4 l = (cmT l.comps).map (ixn P) := by unfold rf4; rw [h3]; exact List.drop_left' (by rw [List.length_map, cuT_length])
  refine ⟨by rw [h0]; rfl, by rw [h1]; rfl, by rw [h2]; exact List.take_left' (by rw [List.length_map, ruT_length]), by rw [h3]; exact List.take_left' (by rw [List.length_map, cuT_length]), ?_⟩
  rw [h4]
  exact List.take_of_length_le (by rw [List.length_map, cmT_length]; omega)
theorem encI_len (size : Int) (hs : size = 1 ∨ size = 2 ∨ size = 4) : ∀ (is : List (Int × Int)), (∀ i ∈ is, i.2 = size) → badI is = false → ((encI is).length : Int) = size * is.length := by
  intro is
  induction is with
  | nil => intro h hb; simp [encI]
  | cons i is ih =>
    intro h hb
    obtain ⟨h1, h2, h3⟩ := encI_cons i is hb
    have h4 := ih (fun j hj => h j (List.mem_cons_of_mem _ hj)) h2
    have h5 := h i (List.mem_cons_self)
    rw [h3, List.length_append, List.length_cons, h5]
    rcases hs with rfl | rfl | rfl
    · have : (be i.1 1).length = 1 := rfl
      rw [this]; omega
    · have : (be i.1 2).length = 2 := rfl
      rw [this]; omega
    · have : (be i.1 4).length = 4 := rfl
      rw [this]; omega
theorem hdIt_four (ps : List (List Int)) : ∀ a, ∀ i ∈ hdIt a ps, i.2 = 4 := by
  induction ps with
  | nil => intro a i hi; cases hi
  | cons p ps ih =>
    intro a i hi
    have hi' : i ∈ ((a : Int), 4) :: ((p.length : Int), 4) :: hdIt (a + p.length) ps := hi
    rcases List.mem_cons.1 hi' with rfl | hi'
    · rfl
    rcases List.mem_cons.1 hi' with rfl | hi'
    · rfl
    exact ih _ i hi'
theorem head_length (l : Loc) (hb : badI (head l) = false) : (magic ++ encI (head l)).length = 56 := by
  unfold head at hb ⊢
  rw [badI_append, Bool.or_eq_false_iff] at hb
  rw [encI_append, List.length_append, List.length_append]
  have h1 := encI_len 4 (.inr (.inr rfl)) (hdIt 56 (parts l)) (hdIt_four _ _) hb.2
  rw [hdIt_length] at h1
  have h2 : (parts l).length = 6 := rfl
  rw [h2] at h1
  have h3 : (encI [(1, 2), (6, 2)]).length = 4 := by decide
  have h4 : magic.length = 4 := rfl
  omega
end Go.Proofs.Ytfbmgjanplnabaa
/- The round trip, joined; what follows for Encode and Decode. -/
namespace Go.Proofs.Ytfbmgjanplnabaa
open Go.RowKit Go.Proofs.YtfbmgjanplnabaaW.PrintWords Go.Proofs.YtfbmgjanplnabaaW.PrintLast Go.Proofs.YtfbmgjanplnabaaW.PrintMore
set_option linter.unusedVariables false
set_option linter.unusedSimpArgs false

theorem encOk_parts {l : Loc} (h : encOk l = true) : isPool (gp (texts l)) = true ∧ badI (it1 l) = false ∧ badI (it2 l) = false ∧ badI (it3 l) = false ∧ badI (it4 l) = false ∧ badI (it5 l) = false ∧ badI (head l) = false := by
  unfold encOk bads at h
  simp only [Bool.and_eq_true, Bool.not_eq_true', Bool.or_eq_false_iff] at h
  obtain ⟨h1, ⟨⟨⟨⟨h2, h3⟩, h4⟩, h5⟩, h6⟩, h7⟩ := h
  exact ⟨h1, h2, h3, h4, h5, h6, h7⟩
theorem mem_texts (l : Loc) : l.tag ∈ texts l ∧ (∀ s ∈ [l.p0, l.p1, l.p2, l.p3], s ∈ texts l) ∧ (∀ r ∈ l.rules, r.2 ∈ texts l) ∧ (∀ c ∈ l.curs, c.1 ∈ texts l ∧ c.2.1 ∈ texts l) ∧ (∀ c ∈ l.comps, c.2.2 ∈ texts l) := by
  unfold texts ruT cuT cmT
  refine ⟨by simp, ?_, ?_, ?_, ?_⟩
  · intro s hs
    simp at hs
    rcases hs with rfl | rfl | rfl | rfl <;> simp
  · intro r hr
    simp only [List.mem_append, List.mem_map]
    exact .inl (.inl (.inr ⟨r, hr, rfl⟩))
  · intro c hc
    simp only [List.mem_append, List.mem_flatMap]
    exact ⟨.inl (.inr ⟨c, hc, by simp⟩), .inl (.inr ⟨c, hc, by simp⟩)⟩
  · intro c hc
    simp only [List.mem_append, List.mem_map]
    exact .inr ⟨c, hc, rfl⟩
theorem lim2 {n : Nat} (h : fits n 2 = true) : n ≤ 65535 := by
  simp only [fits, Bool.and_eq_true, decide_eq_true_eq] at h
  have : lim 2 = 65536 := rfl
  omega

theorem locP_body (l : Loc) (sfx : List Int) (hok : encOk l = true) (hz : l.s.ok) : locP (body l ++ sfx) = some l := by
  obtain ⟨hp, b1, b2, b3, b4, b5, bh⟩ := encOk_parts hok
  obtain ⟨P, hP⟩ : ∃ P, gp (texts l) = P := ⟨_, rfl⟩
  have hmem : ∀ s, s ∈ texts l → s ∈ P := fun s hs => by rw [← hP]; exact (mem_gp _ _).2 hs
  obtain ⟨m0, m1, m2, m3, m4⟩ := mem_texts l
  obtain ⟨r0, r1, r2, r3, r4⟩ := rf_parts l P hP
  have hP5 : P.length ≤ 500 := by rw [← hP]; exact isPool_length hp
  rw [hP] at hp
  -- the sections' bytes
  have e1 : encI (it1 l) = eT P l.tag ++ (syNums l.s).flatMap eZ ∧ ∀ z ∈ syNums l.s, fits z 4 = true := by
    unfold it1 at b1 ⊢
    rw [r0] at b1 ⊢
    rw [badI_append, Bool.or_eq_false_iff] at b1
    rw [encI_append, tx_enc P [l.tag] b1.1]
    have hs : syItems l.s = (syNums l.s).map fun z => (z, 4) := rfl
    rw [hs] at b1 ⊢
    obtain ⟨k1, k2⟩ := sy_enc _ b1.2
    exact ⟨by rw [k2]; simp, k1⟩
  have e2 : encI (it2 l) = [l.p0, l.p1, l.p2, l.p3].flatMap (eT P) := by
    unfold it2 at b2 ⊢
    rw [r1] at b2 ⊢
    exact tx_enc P _ b2
  have e3 : encI (it3 l) = be l.rules.length 2 ++ l.rules.flatMap (eR P) ∧ l.rules.length ≤ 65535 ∧ ∀ r ∈ l.rules, fits r.1 1 = true := by
    unfold it3 at b3 ⊢
    rw [r2] at b3 ⊢
    obtain ⟨k1, k2, k3⟩ := encI_cons _ _ b3
    obtain ⟨k4, k5⟩ := ru_enc P _ k2
    exact ⟨by rw [k3, k5], lim2 k1, k4⟩
  have e4 : encI (it4 l) = be l.curs.length 2 ++ l.curs.flatMap (eC P) ∧ l.curs.length ≤ 65535 ∧ ∀ r ∈ l.curs, fits r.2.2 1 = true := by
    unfold it4 at b4 ⊢
    rw [r3] at b4 ⊢
    obtain ⟨k1, k2, k3⟩ := encI_cons _ _ b4
    obtain ⟨k4, k5⟩ := cu_enc P _ k2
    exact ⟨by rw [k3, k5], lim2 k1, k4⟩
  have e5 : encI (it5 l) = be l.comps.length 2 ++ l.comps.flatMap (eM P) ∧ l.comps.length ≤ 65535 ∧ ∀ r ∈ l.comps, fits r.1 1 = true ∧ fits r.2.1 1 = true := by
    unfold it5 at b5 ⊢
    rw [r4] at b5 ⊢
    obtain ⟨k1, k2, k3⟩ := encI_cons _ _ b5
    obtain ⟨k4, k5⟩ := cm_enc P _ k2
    exact ⟨by rw [k3, k5], lim2 k1, k4⟩
  obtain ⟨xs, hxs⟩ : ∃ xs, body l ++ sfx = xs := ⟨_, rfl⟩
  rw [hxs]
  have h0 : xs.drop 56 = poolBytes P ++ (eT P l.tag ++ ((syNums l.s).flatMap eZ ++ ([l.p0, l.p1, l.p2, l.p3].flatMap (eT P) ++ (be l.rules.length 2 ++ (l.rules.flatMap (eR P) ++ (be l.curs.length 2 ++ (l.curs.flatMap (eC P) ++ (be l.comps.length 2 ++ (l.comps.flatMap (eM P) ++ sfx))))))))) := by
    rw [← hxs]
    unfold body
    rw [List.append_assoc, List.drop_left' (head_length l bh)]
    unfold parts
    rw [hP, e1.1, e2, e3.1, e4.1, e5.1]
    simp only [List.flatten_cons, List.flatten_nil, List.append_assoc, List.append_nil]
  obtain ⟨k0, h1⟩ := pool_enc hp h0
  obtain ⟨k1, h2⟩ := txt_be (hmem _ m0) hP5 h1
  obtain ⟨k2, h3⟩ := rep_enc (f := sgnP xs) (syNums l.s) _ _ (fun z hz' p rest h => sgn_dec (e1.2 z hz') (hz z hz').2 p rest h) h2
  obtain ⟨k3, h4⟩ := rep_enc (f := txtP xs P) (e := eT P) [l.p0, l.p1, l.p2, l.p3] _ _ (fun s hs p rest h => txt_be (hmem _ (m1 s hs)) hP5 h) h3
  obtain ⟨k4, h5⟩ := many_dec (f := rulP xs P) l.rules _ _ e3.2.1 (fun v hv p rest h => rul_dec hP5 (e3.2.2 v hv) (hmem _ (m2 v hv)) p rest h) h4
  obtain ⟨k5, h6⟩ := many_dec (f := curP xs P) l.curs _ _ e4.2.1 (fun v hv p rest h => cur_dec hP5 (e4.2.2 v hv) (hmem _ (m3 v hv).1) (hmem _ (m3 v hv).2) p rest h) h5
  obtain ⟨k6, h7⟩ := many_dec (f := cmpP xs P) l.comps _ _ e5.2.1 (fun v hv p rest h => cmp_dec hP5 (e5.2.2 v hv).1 (e5.2.2 v hv).2 (hmem _ (m4 v hv)) p rest h) h6
  have k2' : rep (sgnP xs) 7 _ = _ := k2
  have k3' : rep (txtP xs P) 4 _ = _ := k3
  unfold locP
  rw [k0]
  simp only [Option.bind_some]
  rw [k1]
  simp only [Option.bind_some]
  unfold locS
  rw [k2']
  simp only [Option.bind_some]
  unfold locT
  rw [k3']
  simp only [Option.bind_some]
  unfold locA
  rw [k4]
  simp only [Option.bind_some]
  unfold locB
  rw [k5]
  simp only [Option.bind_some]
  unfold locC
  rw [k6]
  simp only [Option.bind_some]
  rfl
end Go.Proofs.Ytfbmgjanplnabaa
/- What follows of the round trip. -/
namespace Go.Proofs.Ytfbmgjanplnabaa
open Go.RowKit Go.Proofs.YtfbmgjanplnabaaW.PrintWords Go.Proofs.YtfbmgjanplnabaaW.PrintLast Go.Proofs.YtfbmgjanplnabaaW.PrintMore
set_option linter.unusedVariables false
set_option linter.unusedSimpArgs false

theorem Bytes.append {xs ys : List Int} (hx : Bytes xs) (hy : Bytes ys) : Bytes (xs ++ ys) := fun x h => (List.mem_append.1 h).elim (hx x) (hy x)
theorem Bytes.nil : Bytes [] := fun x h => by cases h
theorem bytes_be {n size : Int} (hs : size = 1 ∨ size = 2 ∨ size = 4) (hf : fits n size = true) : Bytes (be n size) := by
  simp only [fits, Bool.and_eq_true, decide_eq_true_eq] at hf
  rcases hs with rfl | rfl | rfl
  · have hl : lim 1 = 256 := rfl
    intro x hx
    have : x = n := by simpa [be] using hx
    omega
  · have hl : lim 2 = 65536 := rfl
    intro x hx
    have : x = n / 256 ∨ x = n % 256 := by simpa [be] using hx
    omega
  · have hl : lim 4 = 4294967296 := rfl
    intro x hx
    have : x = n / 16777216 ∨ x = n / 65536 % 256 ∨ x = n / 256 % 256 ∨ x = n % 256 := by simpa [be] using hx
    omega
theorem bytes_bytesOf (s : ByteArray) : Bytes (bytesOf s) := by
  intro x hx
  unfold bytesOf at hx
  obtain ⟨b, _, rfl⟩ := List.mem_map.1 hx
  have := b.toNat_lt
  omega
theorem bytes_le4 (s : Int) : Bytes (le4 s) := by
  intro x hx
  have : x = s % 256 ∨ x = s / 256 % 256 ∨ x = s / 65536 % 256 ∨ x = s / 16777216 % 256 := by simpa [le4] using hx
  omega
/-- Every number is told in one, two or four bytes. -/
def Sized (is : List (Int × Int)) : Prop := ∀ i ∈ is, i.2 = 1 ∨ i.2 = 2 ∨ i.2 = 4
theorem bytes_encI {is : List (Int × Int)} (h : Sized is) : Bytes (encI is) := by
  intro x hx
  unfold encI at hx
  obtain ⟨i, hi, hx⟩ := List.mem_flatMap.1 hx
  split at hx
  case isTrue hf => exact bytes_be (h i hi) hf x hx
  case isFalse => cases hx
theorem Sized.cons {i : Int × Int} {is : List (Int × Int)} (h1 : i.2 = 1 ∨ i.2 = 2 ∨ i.2 = 4) (h2 : Sized is) : Sized (i :: is) := fun j hj => (List.mem_cons.1 hj).elim (fun e => e ▸ h1) (h2 j)
theorem Sized.append {xs ys : List (Int × Int)} (h1 : Sized xs) (h2 : Sized ys) : Sized (xs ++ ys) := fun j hj => (List.mem_append.1 hj).elim (h1 j) (h2 j)
theorem sized_tx (rs : List Int) : Sized (txItems rs) := by
  intro i hi
  obtain ⟨r, _, rfl⟩ := List.mem_map.1 hi
  exact .inr (.inl rfl)
theorem sized_ru : ∀ (cs : List Rl) (rs : List Int), Sized (ruIt cs rs)
  | [], _ => fun i hi => by unfold ruIt at hi; cases hi
  | c :: cs, [] => fun i hi => by unfold ruIt at hi; cases hi
  | c :: cs, r :: rs => .cons (.inl rfl) (.cons (.inr (.inl rfl)) (sized_ru cs rs))
theorem sized_cu : ∀ (cs : List Cu) (rs : List Int), Sized (cuIt cs rs)
  | [], _ => fun i hi => by unfold cuIt at hi; cases hi
  | c :: cs, [] => fun i hi => by unfold cuIt at hi; cases hi
  | c :: cs, [r] => fun i hi => by unfold cuIt at hi; cases hi
  | c :: cs, r :: q :: rs => .cons (.inr (.inl rfl)) (.cons (.inr (.inl rfl)) (.cons (.inl rfl) (sized_cu cs rs)))
theorem sized_cm : ∀ (cs : List Cm) (rs : List Int), Sized (cmIt cs rs)
  | [], _ => fun i hi => by unfold cmIt at hi; cases hi
  | c :: cs, [] => fun i hi => by unfold cmIt at hi; cases hi
  | c :: cs, r :: rs => .cons (.inl rfl) (.cons (.inl rfl) (.cons (.inr (.inl rfl)) (sized_cm cs rs)))
theorem sized_hd (ps : List (List Int)) : ∀ a, Sized (hdIt a ps) := fun a i hi => .inr (.inr (hdIt_four ps a i hi))
theorem bytes_pool {ts : List ByteArray} (hp : isPool ts = true) : Bytes (poolBytes ts) := by
  unfold poolBytes
  refine (bytes_be (.inr (.inl rfl)) (fits2 _ (by have := isPool_length hp; omega))).append ?_
  intro x hx
  obtain ⟨s, hs, hx⟩ := List.mem_flatMap.1 hx
  unfold textBytes at hx
  exact (Bytes.append (bytes_be (.inr (.inl rfl)) (fits2 _ (by have := isPool_size hp s hs; omega))) (bytes_bytesOf s)) x hx
theorem bytes_body {l : Loc} (hok : encOk l = true) : Bytes (body l) := by
  have hp := (encOk_parts hok).1
  unfold body parts
  have hmg : Bytes magic := by
    intro x hx
    have : x = 69 ∨ x = 88 ∨ x = 76 ∨ x = 66 := by simpa [magic] using hx
    omega
  refine (hmg.append (bytes_encI ?_)).append ?_
  · unfold head
    exact .append (.cons (.inr (.inl rfl)) (.cons (.inr (.inl rfl)) (fun i hi => by cases hi))) (sized_hd _ _)
  · simp only [List.flatten_cons, List.flatten_nil]
    refine (bytes_pool hp).append ((bytes_encI ?_).append ((bytes_encI (sized_tx _)).append ((bytes_encI ?_).append ((bytes_encI ?_).append ((bytes_encI ?_).append .nil)))))
    · refine .append (sized_tx _) ?_
      intro i hi
      have hs : syItems l.s = (syNums l.s).map fun z => (z, 4) := rfl
      rw [hs] at hi
      obtain ⟨z, _, rfl⟩ := List.mem_map.1 hi
      exact .inr (.inr rfl)
    · exact .cons (.inr (.inl rfl)) (sized_ru _ _)
    · exact .cons (.inr (.inl rfl)) (sized_cu _ _)
    · exact .cons (.inr (.inl rfl)) (sized_cm _ _)
theorem bytes_enc {l : Loc} (hok : encOk l = true) : Bytes (enc l) := (bytes_body hok).append (bytes_le4 _)
theorem body_long {l : Loc} (hok : encOk l = true) : 56 ≤ (body l).length := by
  have h := head_length l (encOk_parts hok).2.2.2.2.2.2
  unfold body
  rw [List.length_append, h]
  omega
theorem le4_length (s : Int) : (le4 s).length = 4 := rfl
theorem enc_length (l : Loc) : (enc l).length = (body l).length + 4 := by unfold enc; rw [List.length_append, le4_length]
theorem decode_put (ys : List Int) : decode (ys ++ le4 (crcOn 0 ys)) = match locP ys with
    | none => .inr 2
    | some l => if encOk l && eqB (enc l) (ys ++ le4 (crcOn 0 ys)) then .inl l else .inr 2 := by
  have h := decode_app ys (crcOn 0 ys % 256) (crcOn 0 ys / 256 % 256) (crcOn 0 ys / 65536 % 256) (crcOn 0 ys / 16777216 % 256)
  rw [if_pos (show [crcOn 0 ys % 256, crcOn 0 ys / 256 % 256, crcOn 0 ys / 65536 % 256, crcOn 0 ys / 16777216 % 256] = le4 (crcOn 0 ys) from rfl)] at h
  exact h
theorem eqB_refl (xs : List Int) : eqB xs xs = true := by unfold eqB; simp
/-- What is told as a bundle is told back. -/
theorem decode_enc {l : Loc} (hok : encOk l = true) (hz : l.s.ok) : decode (enc l) = .inl l := by
  have h1 := locP_body l [] hok hz
  rw [List.append_nil] at h1
  unfold enc
  rw [decode_put, h1]
  have h2 : (encOk l && eqB (enc l) (body l ++ le4 (crcOn 0 (body l)))) = true := by
    rw [hok, Bool.true_and]
    exact eqB_refl (enc l)
  simp only [h2, if_true]
theorem enc_inj {l m : Loc} (hl : encOk l = true) (hm : encOk m = true) (zl : l.s.ok) (zm : m.s.ok) (h : enc l = enc m) : l = m := by
  have h1 := decode_enc hl zl
  rw [h, decode_enc hm zm] at h1
  injection h1 with h1
  exact h1.symm
/-- What bytes are told to be has these bytes. -/
theorem decode_inl {xs : List Int} {l : Loc} (hb : Bytes xs) (h : decode xs = .inl l) : encOk l = true ∧ enc l = xs ∧ l.s.ok := by
  by_cases h4 : xs.length < 4
  · rw [decode_short h4] at h; cases h
  · obtain ⟨ys, y0, y1, y2, y3, rfl⟩ := split4 xs h4
    rw [decode_app] at h
    split at h
    case isTrue hc =>
      cases hl : locP ys with
      | none => rw [hl] at h; cases h
      | some n =>
        rw [hl] at h
        simp only at h
        split at h
        case isTrue hq =>
          injection h with h
          subst h
          rw [Bool.and_eq_true] at hq
          have hz := (locP_few (fun x hx => hb x (List.mem_append_left _ hx)) hl).2
          refine ⟨hq.1, ?_, hz⟩
          have := hq.2
          rw [eqB_true (bytes_enc hq.1) hb, decide_eq_true_eq] at this
          exact this
        case isFalse => cases h
    case isFalse => cases h
/-- No bundle's body stands at the head of another's. -/
theorem body_prefix {l m : Loc} (hl : encOk l = true) (hm : encOk m = true) (zl : l.s.ok) (zm : m.s.ok) (t : List Int) (h : body l = body m ++ t) : l = m := by
  have h1 := locP_body l [] hl zl
  rw [List.append_nil, h, locP_body m t hm zm] at h1
  injection h1 with h1
  exact h1.symm
end Go.Proofs.Ytfbmgjanplnabaa

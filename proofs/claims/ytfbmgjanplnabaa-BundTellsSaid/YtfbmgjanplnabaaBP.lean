import Derived.Test.YtfbmgjanplnabaaBO
import Derived.Test.YtfbmgjanplnabaaBK
import Derived.Test.YtfbmgjanplnabaaBM
import Derived.Deep.RegionLaw
import Derived.Lib.ConvBytes
/- When there is a bundle, and what it is, section by section; a locale that says a text twice. -/
namespace Go.Proofs.Ytfbmgjanplnabaa
open Go.RowKit Go.Proofs.YtfbmgjanplnabaaW.PrintWords Go.Proofs.YtfbmgjanplnabaaW.PrintLast Go.Proofs.YtfbmgjanplnabaaW.PrintMore
set_option linter.unusedVariables false
set_option linter.unusedSimpArgs false

/-- Are a locale's numbers such that there may be a bundle? -/
def mayB (l : Loc) : Bool := (syNums l.s).all (fun z => decide (0 ≤ z)) && (l.rules.all (fun r => fits r.1 1) && (l.curs.all (fun c => fits c.2.2 1) && l.comps.all (fun c => fits c.1 1 && fits c.2.1 1)))
theorem badI_cons (i : Int × Int) (is : List (Int × Int)) : badI (i :: is) = (!fits i.1 i.2 || badI is) := rfl
theorem tx_good : ∀ (rs : List Int), (∀ x ∈ rs, fits x 2 = true) → badI (txItems rs) = false
  | [], _ => rfl
  | r :: rs, h => by
    have h1 : txItems (r :: rs) = (r, 2) :: txItems rs := rfl
    rw [h1, badI_cons, h r (by simp), tx_good rs (fun x hx => h x (by simp [hx]))]
    rfl
theorem sy_good : ∀ (zs : List Int), (∀ z ∈ zs, z ≤ 2147483647) → badI (zs.map fun z => (z, 4)) = !(zs.all fun z => decide (0 ≤ z))
  | [], _ => rfl
  | z :: zs, h => by
    have h0 := h z (by simp)
    rw [List.map_cons, badI_cons, sy_good zs (fun x hx => h x (by simp [hx])), List.all_cons]
    have : fits z 4 = decide (0 ≤ z) := by
      unfold fits
      have hl : lim 4 = 4294967296 := rfl
      rw [hl]
      have h4 : z < 4294967296 := by omega
      rw [decide_eq_true h4, Bool.and_true]
    rw [this, Bool.not_and]
theorem ru_good : ∀ (cs : List Rl) (rs : List Int), rs.length = cs.length → (∀ x ∈ rs, fits x 2 = true) → badI (ruIt cs rs) = !(cs.all fun r => fits r.1 1)
  | [], _, _, _ => by rw [ruIt_nil]; rfl
  | c :: cs, [], h, _ => by simp at h
  | c :: cs, r :: rs, h, hf => by
    simp only [ruIt]
    rw [badI_cons, badI_cons, ru_good cs rs (by simpa using h) (fun x hx => hf x (by simp [hx])), hf r (by simp), List.all_cons, Bool.not_and]
    rfl
theorem cu_good : ∀ (cs : List Cu) (rs : List Int), rs.length = 2 * cs.length → (∀ x ∈ rs, fits x 2 = true) → badI (cuIt cs rs) = !(cs.all fun c => fits c.2.2 1)
  | [], _, _, _ => by rw [cuIt_nil]; rfl
  | c :: cs, [], h, _ => by simp at h
  | c :: cs, [_], h, _ => by simp only [List.length_cons, List.length_nil] at h; omega
  | c :: cs, r :: q :: rs, h, hf => by
    simp only [cuIt]
    rw [badI_cons, badI_cons, badI_cons, cu_good cs rs (by simp only [List.length_cons] at h; omega) (fun x hx => hf x (by simp [hx])), hf r (by simp), hf q (by simp), List.all_cons, Bool.not_and]
    rfl
theorem cm_good : ∀ (cs : List Cm) (rs : List Int), rs.length = cs.length → (∀ x ∈ rs, fits x 2 = true) → badI (cmIt cs rs) = !(cs.all fun c => fits c.1 1 && fits c.2.1 1)
  | [], _, _, _ => by rw [cmIt_nil]; rfl
  | c :: cs, [], h, _ => by simp at h
  | c :: cs, r :: rs, h, hf => by
    simp only [cmIt]
    rw [badI_cons, badI_cons, badI_cons, cm_good cs rs (by simpa using h) (fun x hx => hf x (by simp [hx])), hf r (by simp), List.all_cons]
    cases fits c.1 1 <;> cases fits c.2.1 1 <;> simp
theorem hd_good : ∀ (ps : List (List Int)) (a : Nat), a + ps.flatten.length < 4294967296 → badI (hdIt a ps) = false
  | [], _, _ => rfl
  | p :: ps, a, h => by
    rw [List.flatten_cons, List.length_append] at h
    simp only [hdIt]
    have f : ∀ n : Nat, n < 4294967296 → fits (n : Int) 4 = true := fun n hn => by
      unfold fits
      have : lim 4 = 4294967296 := rfl
      rw [this]
      simp
      omega
    rw [badI_cons, badI_cons, hd_good ps (a + p.length) (by omega), f a (by omega), f p.length (by omega)]
    rfl
theorem ixn_fits {P : List ByteArray} (hP : P.length ≤ 500) (s : ByteArray) (hs : s ∈ P) : fits (ixn P s) 2 = true := by
  have := List.idxOf_lt_length_of_mem hs
  exact fits2 _ (by omega)
theorem refs_fit (l : Loc) (hp : isPool (gp (texts l)) = true) : ∀ x ∈ rf0 l, fits x 2 = true := by
  intro x hx
  rw [rf0_eq] at hx
  obtain ⟨s, hs, rfl⟩ := List.mem_map.1 hx
  exact ixn_fits (isPool_length hp) s ((mem_gp _ _).2 hs)
theorem encOk_iff (l : Loc) (hF : Few l) (hz : l.s.ok) : encOk l = (isPool (gp (texts l)) && mayB l) := by
  unfold encOk
  cases hp : isPool (gp (texts l)) with
  | false => rw [Bool.false_and, Bool.false_and]
  | true =>
    have hr := refs_fit l hp
    have hlen := rf0_length l
    obtain ⟨f1, f2, f3⟩ := hF
    have m1 : ∀ x ∈ rf1 l, fits x 2 = true := fun x hx => hr x (List.mem_of_mem_drop hx)
    have m2 : ∀ x ∈ rf2 l, fits x 2 = true := fun x hx => m1 x (List.mem_of_mem_drop hx)
    have m3 : ∀ x ∈ rf3 l, fits x 2 = true := fun x hx => m2 x (List.mem_of_mem_drop hx)
    have m4 : ∀ x ∈ rf4 l, fits x 2 = true := fun x hx => m3 x (List.mem_of_mem_drop hx)
    have b1 : badI (it1 l) = !((syNums l.s).all fun z => decide (0 ≤ z)) := by
      unfold it1
      rw [badI_append, tx_good _ (fun x hx => hr x (List.mem_of_mem_take hx)), Bool.false_or]
      exact sy_good _ (fun z hz' => (hz z hz').2)
    have b2 : badI (it2 l) = false := tx_good _ (fun x hx => m1 x (List.mem_of_mem_take hx))
    have b3 : badI (it3 l) = !(l.rules.all fun r => fits r.1 1) := by
      unfold it3
      rw [badI_cons, fits2 _ f1, ru_good _ _ (by rw [List.length_take]; unfold rf2 rf1; rw [List.length_drop, List.length_drop]; omega) (fun x hx => m2 x (List.mem_of_mem_take hx))]
      rfl
    have b4 : badI (it4 l) = !(l.curs.all fun c => fits c.2.2 1) := by
      unfold it4
      rw [badI_cons, fits2 _ f2, cu_good _ _ (by rw [List.length_take]; unfold rf3 rf2 rf1; rw [List.length_drop, List.length_drop, List.length_drop]; omega) (fun x hx => m3 x (List.mem_of_mem_take hx))]
      rfl
    have b5 : badI (it5 l) = !(l.comps.all fun c => fits c.1 1 && fits c.2.1 1) := by
      unfold it5
      rw [badI_cons, fits2 _ f3, cm_good _ _ (by rw [List.length_take]; unfold rf4 rf3 rf2 rf1; rw [List.length_drop, List.length_drop, List.length_drop, List.length_drop]; omega) (fun x hx => m4 x (List.mem_of_mem_take hx))]
      rfl
    have bh : badI (head l) = false := by
      unfold head
      rw [badI_append, hd_good _ 56 (by have := parts_length l ⟨f1, f2, f3⟩ hp; omega)]
      rfl
    unfold bads mayB
    rw [b1, b2, b3, b4, b5, bh]
    simp only [Bool.or_false, Bool.not_or, Bool.not_not, Bool.true_and, Bool.and_assoc]
/-! the sections -/
def pt1 (P : List ByteArray) (l : Loc) : List Int := eT P l.tag ++ (syNums l.s).flatMap eZ
def pt2 (P : List ByteArray) (l : Loc) : List Int := [l.p0, l.p1, l.p2, l.p3].flatMap (eT P)
def pt3 (P : List ByteArray) (l : Loc) : List Int := be l.rules.length 2 ++ l.rules.flatMap (eR P)
def pt4 (P : List ByteArray) (l : Loc) : List Int := be l.curs.length 2 ++ l.curs.flatMap (eC P)
def pt5 (P : List ByteArray) (l : Loc) : List Int := be l.comps.length 2 ++ l.comps.flatMap (eM P)
theorem parts_eq (l : Loc) (hok : encOk l = true) : parts l = [poolBytes (gp (texts l)), pt1 (gp (texts l)) l, pt2 (gp (texts l)) l, pt3 (gp (texts l)) l, pt4 (gp (texts l)) l, pt5 (gp (texts l)) l] := by
  obtain ⟨hp, b1, b2, b3, b4, b5, bh⟩ := encOk_parts hok
  obtain ⟨P, hP⟩ : ∃ P, gp (texts l) = P := ⟨_, rfl⟩
  obtain ⟨r0, r1, r2, r3, r4⟩ := rf_parts l P hP
  have e1 : encI (it1 l) = pt1 P l := by
    unfold it1 at b1 ⊢
    rw [r0] at b1 ⊢
    rw [badI_append, Bool.or_eq_false_iff] at b1
    rw [encI_append, tx_enc P [l.tag] b1.1]
    have hs : syItems l.s = (syNums l.s).map fun z => (z, 4) := rfl
    rw [hs] at b1 ⊢
    obtain ⟨k1, k2⟩ := sy_enc _ b1.2
    rw [k2]
    simp [pt1]
  have e2 : encI (it2 l) = pt2 P l := by
    unfold it2 at b2 ⊢
    rw [r1] at b2 ⊢
    exact tx_enc P _ b2
  have e3 : encI (it3 l) = pt3 P l := by
    unfold it3 at b3 ⊢
    rw [r2] at b3 ⊢
    obtain ⟨k1, k2, k3⟩ := encI_cons _ _ b3
    obtain ⟨k4, k5⟩ := ru_enc P _ k2
    rw [k3, k5]
    rfl
  have e4 : encI (it4 l) = pt4 P l := by
    unfold it4 at b4 ⊢
    rw [r3] at b4 ⊢
    obtain ⟨k1, k2, k3⟩ := encI_cons _ _ b4
    obtain ⟨k4, k5⟩ := cu_enc P _ k2
    rw [k3, k5]
    rfl
  have e5 : encI (it5 l) = pt5 P l := by
    unfold it5 at b5 ⊢
    rw [r4] at b5 ⊢
    obtain ⟨k1, k2, k3⟩ := encI_cons _ _ b5
    obtain ⟨k4, k5⟩ := cm_enc P _ k2
    rw [k3, k5]
    rfl
  unfold parts
  rw [hP, e1, e2, e3, e4, e5]
end Go.Proofs.Ytfbmgjanplnabaa
/- A locale that says a text twice has no longer bundle; all its texts stand in it. -/
namespace Go.Proofs.Ytfbmgjanplnabaa
open Go.RowKit Go.Proofs.YtfbmgjanplnabaaW.PrintWords Go.Proofs.YtfbmgjanplnabaaW.PrintLast Go.Proofs.YtfbmgjanplnabaaW.PrintMore
set_option linter.unusedVariables false
set_option linter.unusedSimpArgs false

theorem gpf_nodup : ∀ (ts acc : List ByteArray), acc.Nodup → (ts.foldl (fun p s => if s ∈ p then p else p ++ [s]) acc).Nodup
  | [], acc, h => h
  | t :: ts, acc, h => by
    rw [List.foldl_cons]
    refine gpf_nodup ts _ ?_
    by_cases ht : t ∈ acc
    · rw [if_pos ht]; exact h
    · rw [if_neg ht]
      rw [List.nodup_append]
      refine ⟨h, by simp, fun a ha b hb => ?_⟩
      have : b = t := by simpa using hb
      rw [this]
      exact fun e => ht (e ▸ ha)
theorem gp_nodup (ts : List ByteArray) : (gp ts).Nodup := gpf_nodup ts [] List.nodup_nil
theorem gpf_id : ∀ (ts acc : List ByteArray), (acc ++ ts).Nodup → ts.foldl (fun p s => if s ∈ p then p else p ++ [s]) acc = acc ++ ts
  | [], acc, _ => by simp
  | t :: ts, acc, h => by
    rw [List.foldl_cons]
    have ht : t ∉ acc := fun e => (List.nodup_append.1 h).2.2 t e t (by simp) rfl
    rw [if_neg ht, gpf_id ts (acc ++ [t]) (by simpa using h)]
    simp
theorem gp_id {ts : List ByteArray} (h : ts.Nodup) : gp ts = ts := by
  have := gpf_id ts [] (by simpa using h)
  unfold gp
  rw [List.nil_append] at this
  exact this
/-- A row without doubles, all of it in another: its parts together are no longer. -/
theorem sub_sum {α β : Type} (f : α → List β) : ∀ (xs ys : List α), xs.Nodup → (∀ x ∈ xs, x ∈ ys) → (xs.flatMap f).length ≤ (ys.flatMap f).length
  | [], ys, _, _ => by simp
  | x :: xs, ys, hn, hs => by
    obtain ⟨a, b, rfl⟩ := List.append_of_mem (hs x (by simp))
    rw [List.nodup_cons] at hn
    have ih := sub_sum f xs (a ++ b) hn.2 (fun y hy => by
      have h1 := hs y (by simp [hy])
      rw [List.mem_append, List.mem_cons] at h1
      rcases h1 with h1 | rfl | h1
      · exact List.mem_append_left _ h1
      · exact absurd hy hn.1
      · exact List.mem_append_right _ h1)
    simp only [List.flatMap_cons, List.flatMap_append, List.length_append] at ih ⊢
    omega
theorem sub_len {xs ys : List ByteArray} (h : xs.Nodup) (hs : ∀ x ∈ xs, x ∈ ys) : xs.length ≤ ys.length := by
  have := sub_sum (fun s => [s]) xs ys h hs
  simpa using this
theorem isPool_sub {xs ys : List ByteArray} (h : xs.Nodup) (hs : ∀ x ∈ xs, x ∈ ys) (hp : isPool ys = true) : isPool xs = true := by
  have h1 := isPool_length hp
  have h2 := sub_len h hs
  unfold isPool
  rw [gp_id h, decide_eq_true rfl, decide_eq_true (show xs.length ≤ 500 by omega)]
  have : anyLong xs = false := by
    unfold anyLong
    rw [List.any_eq_false]
    intro s hx
    have := isPool_size hp s (hs s hx)
    simp
    omega
  rw [this]
  rfl
theorem eR_len (P : List ByteArray) : ∀ (rs : List Rl), (rs.flatMap (eR P)).length = 3 * rs.length
  | [] => rfl
  | r :: rs => by
    rw [List.flatMap_cons, List.length_append, eR_len P rs, List.length_cons]
    have : (eR P r).length = 3 := rfl
    omega
theorem eC_len (P : List ByteArray) : ∀ (rs : List Cu), (rs.flatMap (eC P)).length = 5 * rs.length
  | [] => rfl
  | r :: rs => by
    rw [List.flatMap_cons, List.length_append, eC_len P rs, List.length_cons]
    have : (eC P r).length = 5 := rfl
    omega
theorem eM_len (P : List ByteArray) : ∀ (rs : List Cm), (rs.flatMap (eM P)).length = 4 * rs.length
  | [] => rfl
  | r :: rs => by
    rw [List.flatMap_cons, List.length_append, eM_len P rs, List.length_cons]
    have : (eM P r).length = 4 := rfl
    omega
theorem body_len {l : Loc} (hok : encOk l = true) : (body l).length = 56 + ((gp (texts l)).flatMap textBytes).length + (2 + 2 + 28 + 8 + (2 + 3 * l.rules.length) + (2 + 5 * l.curs.length) + (2 + 4 * l.comps.length)) := by
  have h1 := head_length l (encOk_parts hok).2.2.2.2.2.2
  unfold body
  rw [List.length_append, h1, parts_eq l hok]
  simp only [List.flatten_cons, List.flatten_nil, List.append_nil, List.length_append]
  have a1 : (pt1 (gp (texts l)) l).length = 30 := rfl
  have a2 : (pt2 (gp (texts l)) l).length = 8 := rfl
  have a3 : (pt3 (gp (texts l)) l).length = 2 + 3 * l.rules.length := by unfold pt3; rw [List.length_append, eR_len, be2_length]
  have a4 : (pt4 (gp (texts l)) l).length = 2 + 5 * l.curs.length := by unfold pt4; rw [List.length_append, eC_len, be2_length]
  have a5 : (pt5 (gp (texts l)) l).length = 2 + 4 * l.comps.length := by unfold pt5; rw [List.length_append, eM_len, be2_length]
  have a0 : (poolBytes (gp (texts l))).length = 2 + ((gp (texts l)).flatMap textBytes).length := by unfold poolBytes; rw [List.length_append, be2_length]
  omega
/-- The locale that says its first pattern for its tag, too. -/
def twice (l : Loc) : Loc := { l with tag := l.p0 }
theorem twice_sub (l : Loc) : ∀ s ∈ texts (twice l), s ∈ texts l := by
  intro s hs
  unfold texts twice at hs
  unfold texts
  simp only [List.mem_append, List.mem_cons] at hs ⊢
  rcases hs with ((h | h) | h) | h
  · rcases h with h | h
    · exact .inl (.inl (.inl (.inr (.inl h))))
    · exact .inl (.inl (.inl (.inr h)))
  · exact .inl (.inl (.inr h))
  · exact .inl (.inr h)
  · exact .inr h
theorem twice_pool {l : Loc} (hF : Few l) (hz : l.s.ok) (hok : encOk l = true) : encOk (twice l) = true ∧ (enc (twice l)).length ≤ (enc l).length := by
  have hsub : ∀ s ∈ gp (texts (twice l)), s ∈ gp (texts l) := fun s hs => (mem_gp _ _).2 (twice_sub l s ((mem_gp _ _).1 hs))
  have hok2 : encOk (twice l) = true := by
    rw [encOk_iff l hF hz, Bool.and_eq_true] at hok
    rw [encOk_iff (twice l) hF hz, Bool.and_eq_true]
    exact ⟨isPool_sub (gp_nodup _) hsub hok.1, hok.2⟩
  refine ⟨hok2, ?_⟩
  rw [enc_length, enc_length, body_len hok, body_len hok2]
  have := sub_sum textBytes _ _ (gp_nodup _) hsub
  have e1 : (twice l).rules = l.rules := rfl
  have e2 : (twice l).curs = l.curs := rfl
  have e3 : (twice l).comps = l.comps := rfl
  rw [e1, e2, e3]
  omega
/-- Each of a locale's texts stands in its bundle. -/
theorem text_in {l : Loc} (hok : encOk l = true) (s : ByteArray) (hs : s ∈ texts l) : ∃ p t, enc l = p ++ (bytesOf s ++ t) := by
  have hg := (mem_gp (texts l) s).2 hs
  obtain ⟨a, b, hab⟩ := List.append_of_mem hg
  have h1 : ∃ p t, poolBytes (gp (texts l)) = p ++ (bytesOf s ++ t) := by
    refine ⟨be (gp (texts l)).length 2 ++ (a.flatMap textBytes ++ be s.size 2), b.flatMap textBytes, ?_⟩
    unfold poolBytes
    rw [hab]
    simp only [List.flatMap_append, List.flatMap_cons, textBytes, List.append_assoc]
  obtain ⟨p, t, hpt⟩ := h1
  unfold enc
  generalize le4 (crcOn 0 (body l)) = z
  unfold body
  rw [parts_eq l hok, hpt]
  refine ⟨magic ++ encI (head l) ++ p, t ++ (pt1 (gp (texts l)) l ++ (pt2 (gp (texts l)) l ++ (pt3 (gp (texts l)) l ++ (pt4 (gp (texts l)) l ++ (pt5 (gp (texts l)) l ++ z))))), ?_⟩
  simp only [List.flatten_cons, List.flatten_nil, List.append_nil, List.append_assoc]
end Go.Proofs.Ytfbmgjanplnabaa
/- The document's words on rows of texts (exergueref09): Texts, At, Pool; byteful. -/
namespace Go.Proofs.Ytfbmgjanplnabaa
open Go.RowKit Go.Proofs.YtfbmgjanplnabaaW.PrintWords Go.Proofs.YtfbmgjanplnabaaW.PrintLast Go.Proofs.YtfbmgjanplnabaaW.PrintMore
set_option linter.unusedVariables false
set_option linter.unusedSimpArgs false

theorem at_SQ {w : World} {A : Option Addr} {xs : List ByteArray} (h : RdS w A xs) (k : Nat) (hk : k < xs.length) : ∃ b off, A = some ⟨b, off, none⟩ ∧ w.cell? ⟨b, off + k, none⟩ = some (.string xs[k]) := by
  obtain ⟨b, off, rfl, _⟩ := C_plainA (d := Kd.string) Nat.one_pos h (by omega)
  obtain ⟨ad, e, h1⟩ := at_S h k hk
  injection e with e
  subst e
  exact ⟨b, off, rfl, by rwa [plain_add] at h1⟩
set_option maxHeartbeats 800000 in
set_option maxRecDepth 100000 in
theorem rowS_calls (xs ys : List ByteArray) (A B : Option Addr) (c d : Nat) (w : World) (hx : RdS w A xs) (hy : RdS w B ys) :
    Calls Try.prog 18 #[.slice A xs.length c, .slice B ys.length d] w fun e w' => e = .returned (.bool (decide (xs = ys))) ∧ Below w.heap.size w w' := by
  have hlx : xs.length ≤ 9223372036854775807 := hx.2.1
  have hly : ys.length ≤ 9223372036854775807 := hy.2.1
  have HX := Aside0.mk hx
  have HY := Aside0.mk hy
  clear hx hy
  by_cases hlen : xs.length = ys.length
  · have hq : ((xs.length : Int) != (ys.length : Int)) = false := by rw [bne_eq_false_iff_eq]; omega
    have HLEN := Aside0.mk hlen
    clear hlen
    go_enter Try.func18, Try.ntmps18
    go_wp2_with fail
    go_loopw [5] (fun i W => ∃ k : Nat, k ≤ xs.length ∧ i = .int .i64 k ∧ Aside0 (xs.take k = ys.take k) ∧ Aside0 (Below w.heap.size w W)) (fun i _ => xs.length - (intOf i).toNat)
    case atStart => exact ⟨0, by omega, rfl, ⟨rfl⟩, ⟨Below.refl _ _⟩⟩
    case round =>
      obtain ⟨k, hk, rfl, HE, HB⟩ := hrel
      by_cases hlt : k < xs.length
      · have hlt2 : k < ys.length := by have := HLEN.out; omega
        obtain ⟨b, off, rfl, h1⟩ := at_SQ (Kd.C_below HX.out HB.out) k hlt
        obtain ⟨b', off', rfl, h2⟩ := at_SQ (Kd.C_below HY.out HB.out) k hlt2
        obtain ⟨x, hxk⟩ : ∃ x, xs[k] = x := ⟨_, rfl⟩
        obtain ⟨y, hyk⟩ : ∃ y, ys[k] = y := ⟨_, rfl⟩
        rw [hxk] at h1
        rw [hyk] at h2
        by_cases hxy : x = y
        · have HE2 := Aside0.mk (take_eq_succ hlt hlt2 HE.out (by rw [hxk, hyk]; exact hxy))
          have hne : (x.toList == y.toList) = true := by rw [hxy]; simp
          clear hxk hyk hxy HE
          go_wp2_with fail
          go_region
          all_goals go_wp2
          all_goals go_roundw
          all_goals first
            | exact ⟨k + 1, by omega, by go_num, HE2, ⟨HB.out.drew⟩⟩
            | (simp [intOf]; omega)
        · have hne : (x.toList == y.toList) = false := by rw [bytes_eq]; simpa using hxy
          have HE2 := Aside0.mk (take_ne hlt hlt2 (by rw [hxk, hyk]; exact hxy))
          clear hxk hyk hxy HE
          go_wp2_with fail
          go_region
          all_goals go_wp2
          all_goals go_ret
          all_goals exact ⟨by rw [decide_eq_false HE2.out]; rfl, HB.out.drew⟩
      · obtain rfl : k = xs.length := by omega
        have HE2 : Aside0 (xs = ys) := ⟨by have h1 := HE.out; rw [List.take_length, HLEN.out, List.take_length] at h1; exact h1⟩
        clear HE
        go_wp2
        go_ret
        exact ⟨by rw [decide_eq_true HE2.out]; rfl, HB.out⟩
  · have hq : ((xs.length : Int) != (ys.length : Int)) = true := by simp; omega
    have HN : Aside0 (xs ≠ ys) := ⟨fun e => hlen (by rw [e])⟩
    clear hlen
    go_enter Try.func18, Try.ntmps18
    go_wp2
    go_ret
    exact ⟨by rw [decide_eq_false HN.out]; rfl, Below.refl _ _⟩
/-- Where a text stands; -1: nowhere. -/
def atIx (xs : List ByteArray) (s : ByteArray) : Int := if s ∈ xs then ((xs.idxOf s : Nat) : Int) else -1
theorem idxOf_first {xs : List ByteArray} {s : ByteArray} {k : Nat} (hk : k < xs.length) (hn : s ∉ xs.take k) (he : xs[k] = s) : xs.idxOf s = k := by
  have h1 : xs = xs.take k ++ s :: xs.drop (k + 1) := by rw [← he, ← List.drop_eq_getElem_cons hk, List.take_append_drop]
  rw [h1, List.idxOf_append, if_neg hn]
  simp
  omega
set_option maxHeartbeats 800000 in
theorem at_calls (xs : List ByteArray) (s : ByteArray) (A : Option Addr) (c : Nat) (w : World) (hx : RdS w A xs) :
    Calls Try.prog 53 #[.slice A xs.length c, .string s] w fun e w' => e = .returned (.int .i64 (atIx xs s)) ∧ w = w' := by
  have hlx : xs.length ≤ 9223372036854775807 := hx.2.1
  have HX := Aside0.mk hx
  clear hx
  go_enter Try.func53, Try.ntmps53
  go_wp2
  go_loop [5] (fun i => ∃ k : Nat, k ≤ xs.length ∧ i = .int .i64 k ∧ Aside0 (s ∉ xs.take k)) (fun i => xs.length - (intOf i).toNat)
  case atStart => exact ⟨0, by omega, rfl, ⟨by simp⟩⟩
  case round =>
    obtain ⟨k, hk, rfl, HN⟩ := hrel
    by_cases hlt : k < xs.length
    · obtain ⟨b, off, rfl, h1⟩ := at_SQ HX.out k hlt
      by_cases hxy : xs[k] = s
      · have HE : Aside0 (atIx xs s = (k : Int)) := ⟨by unfold atIx; rw [if_pos (hxy ▸ List.getElem_mem hlt), idxOf_first hlt HN.out hxy]⟩
        rw [hxy] at h1
        clear hxy HN
        go_wp2
        go_ret
        exact ⟨by rw [HE.out]; rfl, rfl⟩
      · have hne : (xs[k].toList == s.toList) = false := by rw [bytes_eq]; simpa using hxy
        have HN2 : Aside0 (s ∉ xs.take (k + 1)) := ⟨by
          rw [List.take_succ_eq_append_getElem hlt, List.mem_append]
          rintro (h | h)
          · exact HN.out h
          · exact hxy (List.mem_singleton.1 h).symm⟩
        clear hxy HN
        go_wp2
        go_round
        case rel => exact ⟨k + 1, by omega, by go_num, HN2⟩
        case measure => simp [intOf]; omega
    · obtain rfl : k = xs.length := by omega
      have HE : Aside0 (atIx xs s = -1) := ⟨by unfold atIx; rw [if_neg (by have := HN.out; rwa [List.take_length] at this)]⟩
      clear HN
      go_wp2
      go_ret
      exact ⟨by rw [HE.out]; rfl, rfl⟩
set_option maxHeartbeats 400000 in
theorem byteful_calls (n : Int) (w : World) :
    Calls Try.prog 54 #[.int .i64 n] w fun e w' => e = .returned (.bool (fits n 1)) ∧ w = w' := by
  have hl : lim 1 = 256 := rfl
  by_cases h0 : 0 ≤ n
  · by_cases h3 : n ≤ 255
    · have HE : Aside0 (fits n 1 = true) := ⟨by unfold fits; rw [hl]; simp; omega⟩
      clear hl
      go_enter Try.func54, Try.ntmps54
      go_wp2
      go_ret
      exact ⟨by rw [HE.out]; rfl, rfl⟩
    · have HE : Aside0 (fits n 1 = false) := ⟨by unfold fits; rw [hl]; simp; omega⟩
      clear hl
      go_enter Try.func54, Try.ntmps54
      go_wp2
      go_ret
      exact ⟨by rw [HE.out]; rfl, rfl⟩
  · have HE : Aside0 (fits n 1 = false) := ⟨by unfold fits; rw [hl]; simp; omega⟩
    clear hl
    go_enter Try.func54, Try.ntmps54
    go_wp2
    go_ret
    exact ⟨by rw [HE.out]; rfl, rfl⟩
end Go.Proofs.Ytfbmgjanplnabaa
/- exergueref09.Pool: is a row of texts a pool? -/
namespace Go.Proofs.Ytfbmgjanplnabaa
open Go.RowKit Go.Proofs.YtfbmgjanplnabaaW.PrintWords Go.Proofs.YtfbmgjanplnabaaW.PrintLast Go.Proofs.YtfbmgjanplnabaaW.PrintMore
set_option linter.unusedVariables false
set_option linter.unusedSimpArgs false

theorem gpf_le : ∀ (ts acc : List ByteArray), (ts.foldl (fun p s => if s ∈ p then p else p ++ [s]) acc).length ≤ acc.length + ts.length
  | [], acc => by simp
  | t :: ts, acc => by
    rw [List.foldl_cons, List.length_cons]
    by_cases ht : t ∈ acc
    · rw [if_pos ht]; have := gpf_le ts acc; omega
    · rw [if_neg ht]; have := gpf_le ts (acc ++ [t]); rw [List.length_append, List.length_singleton] at this; omega
theorem gpf_all : ∀ (ts acc : List ByteArray), acc.Nodup → (ts.foldl (fun p s => if s ∈ p then p else p ++ [s]) acc).length = acc.length + ts.length → (acc ++ ts).Nodup
  | [], acc, h, _ => by simpa using h
  | t :: ts, acc, h, hl => by
    rw [List.foldl_cons, List.length_cons] at hl
    by_cases ht : t ∈ acc
    · rw [if_pos ht] at hl
      have := gpf_le ts acc
      omega
    · rw [if_neg ht] at hl
      have h1 : (acc ++ [t]).Nodup := by
        rw [List.nodup_append]
        refine ⟨h, by simp, fun a ha b hb => ?_⟩
        rw [List.mem_singleton.1 hb]
        exact fun e => ht (e ▸ ha)
      have h2 := gpf_all ts (acc ++ [t]) h1 (by rw [List.length_append, List.length_singleton]; omega)
      rw [List.append_assoc] at h2
      exact h2
theorem gp_all {ts : List ByteArray} (h : (gp ts).length = ts.length) : ts.Nodup := by
  have := gpf_all ts [] List.nodup_nil (by rw [List.length_nil, Nat.zero_add]; exact h)
  rwa [List.nil_append] at this
theorem isPool_mk {ts : List ByteArray} (h1 : ts.Nodup) (h2 : ts.length ≤ 500) (h3 : ∀ s ∈ ts, s.size ≤ 400) : isPool ts = true := by
  unfold isPool
  rw [gp_id h1, decide_eq_true rfl, decide_eq_true h2]
  have : anyLong ts = false := by
    unfold anyLong
    rw [List.any_eq_false]
    intro s hx
    have := h3 s hx
    simp
    omega
  rw [this]
  rfl
theorem isPool_dup {ts : List ByteArray} (h : ¬ ts.Nodup) : isPool ts = false := by
  unfold isPool
  rw [decide_eq_false (fun e => h (gp_all e))]
  rfl
theorem isPool_many {ts : List ByteArray} (h : ¬ ts.length ≤ 500) : isPool ts = false := by
  unfold isPool
  rw [decide_eq_false h, Bool.and_false, Bool.false_and]
theorem isPool_long {ts : List ByteArray} (s : ByteArray) (hs : s ∈ ts) (h : ¬ s.size ≤ 400) : isPool ts = false := by
  unfold isPool
  have : anyLong ts = true := by
    unfold anyLong
    rw [List.any_eq_true]
    exact ⟨s, hs, by simp; omega⟩
  rw [this, Bool.not_true, Bool.and_false]
theorem atIx_at {xs : List ByteArray} {k : Nat} (hk : k < xs.length) : (xs[k] ∉ xs.take k → atIx xs xs[k] = k) ∧ (xs[k] ∈ xs.take k → atIx xs xs[k] < k) := by
  have hm := List.getElem_mem hk
  refine ⟨fun h => ?_, fun h => ?_⟩
  · unfold atIx
    rw [if_pos hm, idxOf_first hk h rfl]
  · unfold atIx
    rw [if_pos hm]
    have h1 := List.idxOf_lt_length_of_mem h
    have h2 : xs.idxOf xs[k] = (xs.take k).idxOf xs[k] := by
      have := List.idxOf_append (a := xs[k]) (l₁ := xs.take k) (l₂ := xs.drop k)
      rw [List.take_append_drop, if_pos h] at this
      exact this
    rw [h2]
    rw [List.length_take] at h1
    omega
set_option maxHeartbeats 800000 in
set_option maxRecDepth 100000 in
theorem refPool_calls (xs : List ByteArray) (A : Option Addr) (c : Nat) (w : World) (hx : RdS w A xs) :
    Calls Try.prog 37 #[.slice A xs.length c] w fun e w' => e = .returned (.bool (isPool xs)) ∧ w = w' := by
  have HX := Aside0.mk hx
  have hlx : xs.length ≤ 9223372036854775807 := hx.2.1
  clear hx
  by_cases hbig : xs.length ≤ 500
  case neg =>
    have HE := Aside0.mk (isPool_many hbig)
    go_enter Try.func37, Try.ntmps37
    go_wp2
    go_ret
    exact ⟨by rw [HE.out]; rfl, rfl⟩
  go_enter Try.func37, Try.ntmps37
  go_wp2
  go_loop [3] (fun i => ∃ k : Nat, k ≤ xs.length ∧ i = .int .i64 k ∧ Aside0 ((xs.take k).Nodup ∧ ∀ s ∈ xs.take k, s.size ≤ 400)) (fun i => xs.length - (intOf i).toNat)
  case atStart => exact ⟨0, by omega, rfl, ⟨by simp⟩⟩
  case round =>
    obtain ⟨k, hk, rfl, HN⟩ := hrel
    by_cases hlt : k < xs.length
    · obtain ⟨b, off, rfl, h1⟩ := at_SQ HX.out k hlt
      by_cases hlong : xs[k].size ≤ 400
      case neg =>
        have HE := Aside0.mk (isPool_long xs[k] (List.getElem_mem hlt) hlong)
        clear HN
        go_wp2_with fail
        go_ret
        exact ⟨by rw [HE.out]; rfl, rfl⟩
      have HAT := Aside0.mk (at_calls xs xs[k] _ c w HX.out)
      obtain ⟨m, hm⟩ : ∃ m, atIx xs xs[k] = m := ⟨_, rfl⟩
      rw [hm] at HAT
      by_cases hin : xs[k] ∈ xs.take k
      · have hmk : m < (k : Int) := hm ▸ (atIx_at hlt).2 hin
        have HE : Aside0 (isPool xs = false) := ⟨isPool_dup (fun hn => by
          have h2 : xs = xs.take k ++ xs[k] :: xs.drop (k + 1) := by rw [← List.drop_eq_getElem_cons hlt, List.take_append_drop]
          rw [h2, List.nodup_append] at hn
          exact hn.2.2 xs[k] hin xs[k] List.mem_cons_self rfl)⟩
        clear hm hin HN
        go_wp2_with fail
        refine HAT.out.mono ?_
        rintro e w' ⟨rfl, rfl⟩
        go_wp2_with fail
        go_ret
        exact ⟨by rw [HE.out]; rfl, rfl⟩
      · have hmk : ¬ m < (k : Int) := by rw [← hm, (atIx_at hlt).1 hin]; omega
        have HN2 : Aside0 ((xs.take (k + 1)).Nodup ∧ ∀ s ∈ xs.take (k + 1), s.size ≤ 400) := ⟨by
          rw [List.take_succ_eq_append_getElem hlt, List.nodup_append]
          refine ⟨⟨HN.out.1, by simp, fun a ha b hb => ?_⟩, fun s hs => ?_⟩
          · rw [List.mem_singleton.1 hb]
            exact fun e => hin (e ▸ ha)
          · rw [List.mem_append, List.mem_singleton] at hs
            rcases hs with hs | rfl
            · exact HN.out.2 s hs
            · exact hlong⟩
        clear hm hin HN
        go_wp2_with fail
        refine HAT.out.mono ?_
        rintro e w' ⟨rfl, rfl⟩
        go_wp2_with fail
        go_round
        case rel => exact ⟨k + 1, by omega, by go_num, HN2⟩
        case measure => simp [intOf]; omega
    · obtain rfl : k = xs.length := by omega
      have HE : Aside0 (isPool xs = true) := ⟨by have := HN.out; rw [List.take_length] at this; exact isPool_mk this.1 hbig this.2⟩
      clear HN
      go_wp2
      go_ret
      exact ⟨by rw [HE.out]; rfl, rfl⟩
end Go.Proofs.Ytfbmgjanplnabaa
/- The document's writers of numbers (exergueref16): two, four, ref. -/
namespace Go.Proofs.Ytfbmgjanplnabaa
open Go.RowKit Go.Proofs.YtfbmgjanplnabaaW.PrintWords Go.Proofs.YtfbmgjanplnabaaW.PrintLast Go.Proofs.YtfbmgjanplnabaaW.PrintMore
set_option linter.unusedVariables false
set_option linter.unusedSimpArgs false

/-- The row v is written on: where its block stands. -/
def Onto (w w1 : World) (v v1 : Value) : Prop := w.grownBy w1 v.ownBlock ∧ (v1.ownBlock = v.ownBlock ∨ ∃ b, v1.ownBlock = some b ∧ w.heap.size ≤ b)
theorem Onto.refl (w : World) (v : Value) : Onto w w v v := ⟨World.grownBy.refl _ _, .inl rfl⟩
theorem Onto.trans {w w1 w2 : World} {v v1 v2 : Value} (h1 : Onto w w1 v v1) (h2 : Onto w1 w2 v1 v2) : Onto w w2 v v2 := by
  obtain ⟨g1, a1⟩ := h1
  obtain ⟨g2, a2⟩ := h2
  have hsz := g1.size
  have hsz2 := g2.size
  refine ⟨⟨g2.os.trans g1.os, g2.tape.trans g1.tape, g2.output.trans g1.output, Nat.le_trans hsz hsz2, fun k hk hne => ?_⟩, ?_⟩
  · rw [← g1.block k hk hne]
    refine g2.block k (Nat.lt_of_lt_of_le hk hsz) (fun e => ?_)
    rcases a1 with a1 | ⟨b, hb, hle⟩
    · exact hne (e.trans a1)
    · rw [hb] at e
      injection e with e
      omega
  · rcases a2 with a2 | ⟨b, hb, hle⟩
    · rcases a1 with a1 | ⟨b, hb, hle⟩
      · exact .inl (a2.trans a1)
      · exact .inr ⟨b, a2.trans hb, hle⟩
    · exact .inr ⟨b, hb, Nat.le_trans hsz hle⟩
theorem Onto.below {w w1 w2 : World} {v v1 : Value} (h : Onto w1 w2 v v1) (hb : Below w.heap.size w w1) : Onto w w2 v v1 :=
  ⟨(grown_of_below' hb _).trans h.1, h.2.imp id (fun ⟨b, e, hle⟩ => ⟨b, e, Nat.le_trans hb.size hle⟩)⟩
theorem Onto.then {w w1 w2 : World} {v v1 : Value} (h : Onto w w1 v v1) (hb : Below w1.heap.size w1 w2) : Onto w w2 v v1 :=
  ⟨h.1.trans (grown_of_below' hb _), h.2⟩
/-- What a writer leaves. -/
def WP (base : Nat) (w0 : World) (v : Value) (zs : List Int) (w : World) (e : Ending) (w' : World) : Prop :=
  ∃ v1, e = .returned v1 ∧ OwnB w' base v1 zs ∧ Below base w0 w' ∧ Onto w w' v v1
theorem fits_two {n : Int} (h : fits n 2 = true) : 0 ≤ n ∧ n ≤ 65535 := by
  simp only [fits, Bool.and_eq_true, decide_eq_true_eq] at h
  have : lim 2 = 65536 := rfl
  omega
theorem fits_four {n : Int} (h : fits n 4 = true) : 0 ≤ n ∧ n ≤ 4294967295 := by
  simp only [fits, Bool.and_eq_true, decide_eq_true_eq] at h
  have : lim 4 = 4294967296 := rfl
  omega
theorem fits_one {n : Int} (h : fits n 1 = true) : 0 ≤ n ∧ n ≤ 255 := by
  simp only [fits, Bool.and_eq_true, decide_eq_true_eq] at h
  have : lim 1 = 256 := rfl
  omega
set_option maxHeartbeats 800000 in
set_option maxRecDepth 100000 in
theorem two_calls (base : Nat) (w0 : World) (v : Value) (xs : List Int) (n : Int) (w : World) (h1 : 0 ≤ n) (h2 : n ≤ 4294967295) (HO : OwnB w base v xs) (HB : Below base w0 w) (hbase : base ≤ w.heap.size) (hl : xs.length ≤ 8000000) :
    Calls Try.prog 57 #[v, .int .i64 n] w (WP base w0 v (xs ++ [n / 256 % 256, n % 256]) w) := by
  obtain ⟨A, m, c, rfl⟩ := R_slice' HO
  have HO := Aside0.mk HO
  have HB := Aside0.mk HB
  have HS := Aside0.mk hbase
  have HL := Aside0.mk hl
  clear hbase hl
  go_enter Try.func57, Try.ntmps57
  go_wp2_with ((with_reducible refine gate_builtin (b := .append) (xs := #[.tmp 5, .tmp 13]) rfl ?_); at_builtin; refine appB (w0 := w0) base rfl (.tmp 5) (.tmp 13) rfl (.slice A m c) xs [n / 256 % 256, n % 256] (some ⟨w.heap.size, 0, none⟩) 2 rfl rfl (Kd.R_alloc HO.out _) (C_blk .u8 [n / 256 % 256, n % 256] (blk_new _ _) (by simp)) (HB.out.alloc HS.out _) (Nat.le_trans HS.out (by simp)) (by have := HL.out; simp; omega) ?_; intro v2 w2 ho hb hg hat; have HO2 := Aside0.mk ho; have HB2 := Aside0.mk hb; have HN2 := Aside0.mk (Onto.below (w := w) ⟨hg, hat⟩ ((Below.refl _ _).alloc (Nat.le_refl _) _)); clear ho hb hg hat)
  go_ret
  exact ⟨_, rfl, HO2.out, HB2.out, HN2.out⟩
theorem two_be (base : Nat) (w0 : World) (v : Value) (xs : List Int) (n : Int) (w : World) (hf : fits n 2 = true) (HO : OwnB w base v xs) (HB : Below base w0 w) (hbase : base ≤ w.heap.size) (hl : xs.length ≤ 8000000) :
    Calls Try.prog 57 #[v, .int .i64 n] w (WP base w0 v (xs ++ be n 2) w) := by
  obtain ⟨h1, h2⟩ := fits_two hf
  have := two_calls base w0 v xs n w h1 (by omega) HO HB hbase hl
  have e : be n 2 = [n / 256 % 256, n % 256] := by
    show [n / 256, n % 256] = _
    rw [show n / 256 % 256 = n / 256 by omega]
  rw [e]
  exact this
set_option maxHeartbeats 800000 in
set_option maxRecDepth 100000 in
theorem four_be (base : Nat) (w0 : World) (v : Value) (xs : List Int) (n : Int) (w : World) (hf : fits n 4 = true) (HO : OwnB w base v xs) (HB : Below base w0 w) (hbase : base ≤ w.heap.size) (hl : xs.length ≤ 7000000) :
    Calls Try.prog 40 #[v, .int .i64 n] w (WP base w0 v (xs ++ be n 4) w) := by
  obtain ⟨h1, h2⟩ := fits_four hf
  have h3 : n / 65536 ≤ 65535 := by omega
  have HC := Aside0.mk (two_calls base w0 v xs (n / 65536) w (by omega) (by omega) HO HB hbase (by omega))
  have HE : Aside0 (xs ++ be n 4 = (xs ++ [n / 65536 / 256 % 256, n / 65536 % 256]) ++ [n / 256 % 256, n % 256]) := ⟨by
    have e : be n 4 = [n / 65536 / 256 % 256, n / 65536 % 256, n / 256 % 256, n % 256] := by
      show [n / 16777216, n / 65536 % 256, n / 256 % 256, n % 256] = _
      rw [show n / 65536 / 256 % 256 = n / 16777216 by omega]
    rw [e, List.append_assoc]
    rfl⟩
  obtain ⟨A, m, c, hv⟩ := R_slice' HO
  subst hv
  have HL := Aside0.mk hl
  have HS := Aside0.mk hbase
  clear HO HB hbase hl hf
  go_enter Try.func40, Try.ntmps40
  go_wp2_with fail
  refine HC.out.mono ?_
  rintro e w1 ⟨v1, rfl, ho, hb, hn⟩
  obtain ⟨A1, m1, c1, hv⟩ := R_slice' ho
  subst hv
  have HN := Aside0.mk hn
  have HC2 := Aside0.mk (two_calls base w0 _ _ n w1 h1 h2 ho hb (Nat.le_trans HS.out hn.1.size) (by have := HL.out; rw [List.length_append]; simp; omega))
  clear ho hb hn HC
  go_wp2_with fail
  refine HC2.out.mono ?_
  rintro e w2 ⟨v2, rfl, ho, hb, hn⟩
  obtain ⟨A2, m2, c2, hv⟩ := R_slice' ho
  subst hv
  have HO2 := Aside0.mk ho
  have HB2 := Aside0.mk hb
  have HN2 := Aside0.mk (HN.out.trans hn)
  clear ho hb hn HC2 HN
  go_wp2
  go_ret
  exact ⟨_, rfl, by rw [HE.out]; exact HO2.out, HB2.out, HN2.out⟩
set_option maxHeartbeats 800000 in
theorem ref_be (base : Nat) (w0 : World) (v : Value) (xs : List Int) (P : List ByteArray) (A : Option Addr) (c : Nat) (s : ByteArray) (w : World) (hP : P.length ≤ 500) (hs : s ∈ P) (hx : RdS w A P) (HO : OwnB w base v xs) (HB : Below base w0 w) (hbase : base ≤ w.heap.size) (hl : xs.length ≤ 8000000) :
    Calls Try.prog 56 #[v, .slice A P.length c, .string s] w (WP base w0 v (xs ++ eT P s) w) := by
  have HA := Aside0.mk (at_calls P s A c w hx)
  have hn : atIx P s = ixn P s := by unfold atIx ixn; rw [if_pos hs]
  rw [hn] at HA
  have hf := ixn_fits hP s hs
  have HC := Aside0.mk (two_be base w0 v xs (ixn P s) w hf HO HB hbase hl)
  have HE : Aside0 (eT P s = be (ixn P s) 2) := ⟨rfl⟩
  obtain ⟨n, hn'⟩ : ∃ n, ixn P s = n := ⟨_, rfl⟩
  rw [hn'] at HA HC HE
  rw [HE.out]
  obtain ⟨A', m, c', hv⟩ := R_slice' HO
  subst hv
  clear HO HB hbase hl hf hn hn' hP hs hx HE
  go_enter Try.func56, Try.ntmps56
  go_wp2_with fail
  refine HA.out.mono ?_
  rintro e w' ⟨rfl, rfl⟩
  go_wp2_with fail
  refine HC.out.mono ?_
  rintro e w1 ⟨v1, rfl, ho, hb, hn⟩
  have HR := Aside0.mk (show WP base w0 (.slice A' m c') (xs ++ be n 2) w (.returned v1) w1 from ⟨v1, rfl, ho, hb, hn⟩)
  obtain ⟨A1, m1, c1, hv⟩ := R_slice' ho
  subst hv
  clear ho hb hn HC HA
  go_wp2
  go_ret
  exact HR.out
end Go.Proofs.Ytfbmgjanplnabaa
/- exergueref09.Gather: the pool is the program's. -/
namespace Go.Proofs.Ytfbmgjanplnabaa
open Go.RowKit Go.Proofs.YtfbmgjanplnabaaW.PrintWords Go.Proofs.YtfbmgjanplnabaaW.PrintLast Go.Proofs.YtfbmgjanplnabaaW.PrintMore
set_option linter.unusedVariables false
set_option linter.unusedSimpArgs false

/-- A row of whole numbers of the call's own. -/
abbrev OwnI (w : World) (base : Nat) (v : Value) (xs : List Int) : Prop := (Kd.int .i64).R 3 w base (fun _ => True) v xs
section
variable {ops : Array Oper} {rest : List Oper} {o : Oper} {a : Act} {Q : Exit → Act → World → Prop}
/-- append(v, ys...) at whole numbers. -/
theorem appI {w0 W : World} (base : Nat) (hgd : o.guard = none) (s x : Operand)
    (ho : o.op = .call { callee := .builtin .append, args := #[s, x], argTypes := #[62, 62] })
    (v : Value) (xs ys : List Int) (A : Option Addr) (c : Nat) (hs : a.eval s = v) (hx : a.eval x = .slice A ys.length c)
    (HO : OwnI W base v xs) (HR : (Kd.int .i64).C W A ys.length ys) (HB : Below base w0 W) (hbase : base ≤ W.heap.size) (hl : (xs.length + ys.length) * 8 ≤ 140737488355328)
    (h : ∀ v1 w1, OwnI w1 base v1 (xs ++ ys) → Below base w0 w1 → W.grownBy w1 v.ownBlock → wpList Try.prog ops Q rest (a.put o.dst v1) w1) :
    wpList Try.prog ops Q (o :: rest) a W :=
  Kd.R_append_rows (Kd.int .i64) (Rr := (Kd.int .i64).K W) base hgd s x 62 3 (.int .i64 0) 8 ho Try.underlying62 info3 rfl (by decide) (by omega) v xs ys A ys.length c (fun _ => True) (fun _ => False) hs hx HO HR (fun _ _ h => h) (fun _ h => h.elim) (fun _ _ => trivial) HB hbase hl (fun v1 w1 h1 h2 h3 _ => h v1 w1 h1 h2 h3)
end
/-- Rows of other elements are apart. -/
theorem apart_types {w : World} {b b' : Nat} {e e' s s' n n' : Nat} {v u : Value} {xs ys : List Value} (h : w.ownsRow b e s v n xs) (h' : w.ownsRow b' e' s' u n' ys) (hne : e ≠ e') (k : Nat) (hk : v.ownBlock = some k) : some k ≠ u.ownBlock := by
  intro e0
  obtain ⟨c, hc⟩ := own_typed h k hk
  obtain ⟨c', hc'⟩ := own_typed h' k e0.symm
  rw [hc] at hc'
  injection hc' with hc'
  injection hc' with _ hc'
  exact hne hc'
theorem tightS {w : World} {base : Nat} {v : Value} {xs : List ByteArray} (h : OwnS w base v xs) : Kd.string.R 9 w base (fun k => v.ownBlock = some k) v xs := ⟨fun k hk => hk, h.2⟩
theorem tightI {w : World} {base : Nat} {v : Value} {xs : List Int} (h : OwnI w base v xs) : (Kd.int .i64).R 3 w base (fun k => v.ownBlock = some k) v xs := ⟨fun k hk => hk, h.2⟩
theorem tightB {w : World} {base : Nat} {v : Value} {xs : List Int} (h : OwnB w base v xs) : (Kd.int .u8).R 5 w base (fun k => v.ownBlock = some k) v xs := ⟨fun k hk => hk, h.2⟩
theorem keepS {w w1 : World} {base base' : Nat} {v u : Value} {xs : List ByteArray} {ys : List Int} (h : OwnS w base v xs) (h' : OwnI w base' u ys) (hg : w.grownBy w1 u.ownBlock) : OwnS w1 base v xs := by
  obtain ⟨i, h1⟩ := Kd.R_own h
  obtain ⟨i', h2⟩ := Kd.R_own h'
  exact Kd.R_mono (Kd.R_grown (tightS h) hg (fun k hk => apart_types h1 h2 (by decide) k hk)) (fun _ _ => trivial)
theorem keepI {w w1 : World} {base base' : Nat} {v u : Value} {xs : List ByteArray} {ys : List Int} (h : OwnS w base v xs) (h' : OwnI w base' u ys) (hg : w.grownBy w1 v.ownBlock) : OwnI w1 base' u ys := by
  obtain ⟨i, h1⟩ := Kd.R_own h
  obtain ⟨i', h2⟩ := Kd.R_own h'
  exact Kd.R_mono (Kd.R_grown (tightI h') hg (fun k hk => apart_types h2 h1 (by decide) k hk)) (fun _ _ => trivial)
set_option maxHeartbeats 1600000 in
set_option maxRecDepth 100000 in
theorem refGather_calls (ts : List ByteArray) (A : Option Addr) (c : Nat) (w : World) (hx : RdS w A ts) (hm : ts.length ≤ 300000) :
    Calls Try.prog 36 #[.slice A ts.length c] w fun e w' => ∃ Ap cp u, e = .returned (.tuple #[.slice Ap (gp ts).length cp, u]) ∧ RdS w' Ap (gp ts) ∧ Below w.heap.size w w' := by
  have HX := Aside0.mk hx
  clear hx
  go_enter Try.func36, Try.ntmps36
  go_wp2
  go_loopw [4, 5, 6, 7] (fun v u i _ W => ∃ k : Nat, k ≤ ts.length ∧ i = .int .i64 k ∧ Aside0 (OwnS W w.heap.size v (gp (ts.take k)) ∧ (∃ ys, ys.length = k ∧ OwnI W w.heap.size u ys)) ∧ Aside0 (Below w.heap.size w W)) (fun _ _ i _ _ => ts.length - (intOf i).toNat)
  case atStart => exact ⟨0, by omega, rfl, ⟨Kd.R_nil _ _ _ _ _, [], rfl, Kd.R_nil _ _ _ _ _⟩, ⟨Below.refl _ _⟩⟩
  case round =>
    obtain ⟨k, hk, rfl, HP, HB⟩ := hrel
    by_cases hlt : k < ts.length
    · obtain ⟨b, off, rfl, h1⟩ := at_SQ (Kd.C_below HX.out HB.out) k hlt
      obtain ⟨s, hs⟩ : ∃ s, ts[k] = s := ⟨_, rfl⟩
      rw [hs] at h1
      have HG : Aside0 (gp (ts.take (k + 1)) = if s ∈ gp (ts.take k) then gp (ts.take k) else gp (ts.take k) ++ [s]) := ⟨by rw [List.take_succ_eq_append_getElem hlt, gp_snoc, hs]⟩
      obtain ⟨P, hP⟩ : ∃ P, gp (ts.take k) = P := ⟨_, rfl⟩
      have HPL : Aside0 (P.length ≤ 300000) := ⟨by have := gp_length (ts.take k); rw [List.length_take] at this; rw [← hP]; omega⟩
      rw [hP] at HP HG
      obtain ⟨hos, ys, hyl, hoi⟩ := HP.out
      obtain ⟨Av, cv, rfl, hcv, hrv⟩ := Kd.R_reads hos
      obtain ⟨Au, mu, cu, rfl⟩ := R_slice' hoi
      have HOS := Aside0.mk hos
      have HOI := Aside0.mk hoi
      have HYL := Aside0.mk hyl
      have HAT := Aside0.mk (at_calls P s Av cv wr hrv)
      have HSZ := Aside0.mk HB.out.size
      clear hs hP HP hos hoi hyl hcv hrv
      by_cases hin : s ∈ P
      · have hm0 : atIx P s = ((P.idxOf s : Nat) : Int) := by unfold atIx; rw [if_pos hin]
        rw [hm0] at HAT
        obtain ⟨m, hm'⟩ : ∃ m, P.idxOf s = m := ⟨_, rfl⟩
        rw [hm'] at HAT
        rw [if_pos hin] at HG
        clear hm0 hm' hin
        go_wp2_with fail
        refine HAT.out.mono ?_
        rintro e w' ⟨rfl, rfl⟩
        go_wp2_with ((with_reducible refine gate_builtin (b := .append) (xs := #[.tmp 31, .tmp 33]) rfl ?_); at_builtin; refine appI (w0 := w) w.heap.size rfl (.tmp 31) (.tmp 33) rfl (.slice Au mu cu) ys [(m : Int)] (some ⟨wr.heap.size, 0, none⟩) 1 rfl rfl (Kd.R_alloc HOI.out _) (C_blk .i64 [(m : Int)] (blk_new _ _) (by simp)) (HB.out.alloc HSZ.out _) (Nat.le_trans HSZ.out (by simp)) (by have := HYL.out; simp; omega) ?_; intro v2 w2 ho hb hg; have HO2 := Aside0.mk ho; have HB2 := Aside0.mk hb; have HS2 := Aside0.mk (keepS (Kd.R_alloc HOS.out _) (Kd.R_alloc HOI.out _) hg); clear ho hb hg)
        go_roundw
        case rel => exact ⟨k + 1, by omega, by go_num, ⟨by rw [HG.out]; exact HS2.out, _, by have := HYL.out; rw [List.length_append, this]; rfl, HO2.out⟩, HB2⟩
        case measure => simp [intOf]; omega
      · have hm0 : atIx P s = -1 := by unfold atIx; rw [if_neg hin]
        rw [hm0] at HAT
        rw [if_neg hin] at HG
        clear hm0 hin
        go_wp2_with fail
        refine HAT.out.mono ?_
        rintro e w' ⟨rfl, rfl⟩
        go_wp2_with (first
          | ((with_reducible refine gate_builtin (b := .append) (xs := #[.tmp 24, .tmp 29]) rfl ?_); at_builtin; refine appSS (w0 := w) w.heap.size rfl (.tmp 24) (.tmp 29) rfl (.slice Av P.length cv) P [s] (some ⟨wr.heap.size, 0, none⟩) 1 rfl rfl (Kd.R_alloc HOS.out _) (C_blkS [s] (blk_new _ _) (by simp)) (HB.out.alloc HSZ.out _) (Nat.le_trans HSZ.out (by simp)) (by have := HPL.out; simp; omega) ?_; intro v2 w2 ho hb hg; have HO2 := Aside0.mk ho; have HB2 := Aside0.mk hb; have HI2 := Aside0.mk (keepI (Kd.R_alloc HOS.out _) (Kd.R_alloc HOI.out _) hg); have HSZ2 := Aside0.mk (Nat.le_trans (Nat.le_trans HSZ.out (by simp)) hg.size); obtain ⟨A2, m2, c2, hv2⟩ := R_slice' ho; subst hv2; clear ho hb hg)
          | ((with_reducible refine gate_builtin (b := .append) (xs := #[.tmp 31, .tmp 33]) rfl ?_); at_builtin; refine appI (w0 := w) w.heap.size rfl (.tmp 31) (.tmp 33) rfl (.slice Au mu cu) ys [(P.length : Int)] (some ⟨w2.heap.size, 0, none⟩) 1 rfl rfl (Kd.R_alloc HI2.out _) (C_blk .i64 [(P.length : Int)] (blk_new _ _) (by simp)) (HB2.out.alloc HSZ2.out _) (Nat.le_trans HSZ2.out (by simp)) (by have := HYL.out; simp; omega) ?_; intro v3 w3 ho hb hg; have HO3 := Aside0.mk ho; have HB3 := Aside0.mk hb; have HS3 := Aside0.mk (keepS (Kd.R_alloc HO2.out _) (Kd.R_alloc HI2.out _) hg); clear ho hb hg))
        go_roundw
        case rel => exact ⟨k + 1, by omega, by go_num, ⟨by rw [HG.out]; exact HS3.out, _, by have := HYL.out; rw [List.length_append, this]; rfl, HO3.out⟩, HB3⟩
        case measure => simp [intOf]; omega
    · obtain rfl : k = ts.length := by omega
      rw [List.take_length] at HP
      obtain ⟨Av, cv, rfl, hcv, hrv⟩ := Kd.R_reads HP.out.1
      have HR := Aside0.mk hrv
      clear HP hcv hrv
      go_wp2
      go_ret2
      exact ⟨_, _, _, rfl, HR.out, HB.out⟩
end Go.Proofs.Ytfbmgjanplnabaa
/- exergueref09.PutPool of a pool. -/
namespace Go.Proofs.Ytfbmgjanplnabaa
open Go.RowKit Go.Proofs.YtfbmgjanplnabaaW.PrintWords Go.Proofs.YtfbmgjanplnabaaW.PrintLast Go.Proofs.YtfbmgjanplnabaaW.PrintMore
set_option linter.unusedVariables false
set_option linter.unusedSimpArgs false

theorem RdB_cells {W : World} {g : Nat} {zs : List Int} (hm : zs.length ≤ 9223372036854775807) (h : ∀ j (hj : j < zs.length), W.cell? ⟨g, j, none⟩ = some (.int .u8 zs[j])) : RdB W (some ⟨g, 0, none⟩) zs := by
  refine ⟨rfl, hm, fun _ => ⟨_, rfl, fun j p hj => ?_⟩⟩
  obtain ⟨hlt, he⟩ := List.getElem?_eq_some_iff.1 hj
  refine ⟨[.int .u8 p], rfl, rfl, fun i u hi => ?_⟩
  have hi0 : i = 0 := by
    have := (List.getElem?_eq_some_iff.1 hi).1
    simp at this
    omega
  subst hi0
  have hu : u = .int .u8 p := by simpa using hi.symm
  rw [hu, plain_add, ← he]
  have := h j hlt
  simpa [Kd.int, Kd.scalar] using this
theorem conv_bytes (w : World) (s : ByteArray) (hm : s.size ≤ 400) : ∃ c w1, (convert 9 32 (.string s)).run Try.prog w = .ok (.slice (some ⟨w.heap.size, 0, none⟩) s.size c) w1 ∧ Below w.heap.size w w1 ∧ RdB w1 (some ⟨w.heap.size, 0, none⟩) (bytesOf s) ∧ (bytesOf s).length = s.size := by
  have hl : (bytesOf s).length = s.size := by simp [bytesOf]
  refine ⟨_, _, Lib.run_convert_string_bytes w 9 32 5 s Try.underlying9 Try.underlying32 Try.underlying5, ⟨rfl, rfl, rfl, ?_, fun j hj => Lib.bytesWorld_at_old w 5 s j hj⟩, RdB_cells (by omega) (fun j hj => ?_), hl⟩
  · rw [Lib.bytesWorld_size]; omega
  · rw [Lib.bytesWorld_cell w 5 s j (by omega)]
    have hj' : j < s.data.toList.length := by simp [bytesOf] at hj; simpa using hj
    simp [bytesOf, List.getD_eq_getElem?_getD, List.getElem?_eq_getElem hj']
set_option maxHeartbeats 1600000 in
set_option maxRecDepth 100000 in
theorem refPutPool_calls (ts : List ByteArray) (A : Option Addr) (c : Nat) (w : World) (hx : RdS w A ts) (hp : isPool ts = true) :
    Calls Try.prog 55 #[.slice none 0 0, .slice A ts.length c] w fun e w' => ∃ v, e = .returned (.tuple #[v, .int .i64 0]) ∧ OwnB w' w.heap.size v (poolBytes ts) ∧ Below w.heap.size w w' := by
  have HX := Aside0.mk hx
  have HP := Aside0.mk hp
  have h500 := isPool_length hp
  have HC := Aside0.mk (refPool_calls ts A c w hx)
  rw [hp] at HC
  have HBE : Aside0 (be (ts.length : Int) 2 = [(ts.length : Int) / 256, (ts.length : Int) % 256]) := ⟨rfl⟩
  clear hx hp
  go_enter Try.func55, Try.ntmps55
  go_wp2_with fail
  refine HC.out.mono ?_
  rintro e w' ⟨rfl, rfl⟩
  go_wp2_with (first
    | ((with_reducible refine gate_builtin (b := .append) (xs := #[.tmp 15, .tmp 16]) rfl ?_); at_builtin; refine appB (w0 := w) w.heap.size rfl (.tmp 15) (.tmp 16) rfl _ [] [] none 0 rfl rfl (own_row _ _ _ _ (Nat.le_refl _)) (Kd.C_nil _ _) ((Below.refl _ _).alloc (Nat.le_refl _) _) (by simp) (by simp) ?_; intro v1 w1 ho hb hg hat; obtain ⟨A1, m1, c1, hv⟩ := R_slice' ho; subst hv; have HO := Aside0.mk ho; have HB := Aside0.mk hb; have HS := Aside0.mk hb.size; clear ho hb hg hat)
    | ((with_reducible refine gate_builtin (b := .append) (xs := #[.tmp 18, .tmp 27]) rfl ?_); at_builtin; refine appB (w0 := w) w.heap.size rfl (.tmp 18) (.tmp 27) rfl (.slice A1 m1 c1) [] [(ts.length : Int) / 256, (ts.length : Int) % 256] (some ⟨w1.heap.size, 0, none⟩) 2 rfl rfl (Kd.R_alloc HO.out _) (C_blk .u8 [(ts.length : Int) / 256, (ts.length : Int) % 256] (blk_new _ _) (by simp)) (HB.out.alloc HS.out _) (Nat.le_trans HS.out (by simp)) (by simp) ?_; intro v2 w2 ho hb hg hat; obtain ⟨A2, m2, c2, hv⟩ := R_slice' ho; subst hv; have HO2 := Aside0.mk ho; have HB2 := Aside0.mk hb; clear ho hb hg hat))
  have HO3 : Aside0 (OwnB w2 w.heap.size (.slice A2 m2 c2) (be (ts.length : Int) 2 ++ (ts.take 0).flatMap textBytes)) := ⟨by rw [HBE.out]; exact HO2.out⟩
  clear HO HO2 HB HS HC HBE
  go_loopw [7, 8, 9] (fun v i _ W => ∃ k : Nat, k ≤ ts.length ∧ i = .int .i64 k ∧ Aside0 (OwnB W w.heap.size v (be (ts.length : Int) 2 ++ (ts.take k).flatMap textBytes)) ∧ Aside0 (Below w.heap.size w W)) (fun _ i _ _ => ts.length - (intOf i).toNat)
  case atStart => exact ⟨0, by omega, rfl, HO3, HB2⟩
  case round =>
    clear HO3 HB2
    obtain ⟨k, hk, rfl, HO, HB⟩ := hrel
    by_cases hlt : k < ts.length
    · obtain ⟨b, off, rfl, h1⟩ := at_SQ (Kd.C_below HX.out HB.out) k hlt
      obtain ⟨s, hs⟩ : ∃ s, ts[k] = s := ⟨_, rfl⟩
      rw [hs] at h1
      have hmem : s ∈ ts := by rw [← hs]; exact List.getElem_mem hlt
      have hsz := isPool_size HP.out s hmem
      have HCL : Aside0 (∀ W, Below w.heap.size w W → W.cell? ⟨b, off + k, none⟩ = some (.string s)) := ⟨fun W h => by
        obtain ⟨b', off', e, h2⟩ := at_SQ (Kd.C_below HX.out h) k hlt
        injection e with e
        injection e with e1 e2
        subst e1 e2
        rw [hs] at h2
        exact h2⟩
      have HS : Aside0 ((ts.take (k + 1)).flatMap textBytes = (ts.take k).flatMap textBytes ++ ([(s.size : Int) / 256, (s.size : Int) % 256] ++ bytesOf s)) := ⟨by rw [List.take_succ_eq_append_getElem hlt, hs, List.flatMap_append]; simp only [List.flatMap_cons, List.flatMap_nil, List.append_nil, textBytes]; rfl⟩
      have HL : Aside0 ((be ts.length 2 ++ (ts.take k).flatMap textBytes).length ≤ 300000) := ⟨by
        have h1 := flat_length (ts := ts.take k) (fun t ht => isPool_size HP.out t (List.mem_of_mem_take ht))
        rw [List.length_append, be2_length]
        rw [List.length_take, Nat.min_eq_left hk] at h1
        omega⟩
      obtain ⟨xs, hxs⟩ : ∃ xs, be (ts.length : Int) 2 ++ (ts.take k).flatMap textBytes = xs := ⟨_, rfl⟩
      rw [hxs] at HO HL
      have HXS := Aside0.mk hxs
      obtain ⟨Av, mv, cv, rfl⟩ := R_slice' HO.out
      have HSZ := Aside0.mk HB.out.size
      clear hs hmem hxs
      go_wp2_with (first
        | ((with_reducible refine gate_builtin (b := .append) (xs := #[.tmp 40, .tmp 47]) rfl ?_); at_builtin; refine appB (w0 := w) w.heap.size rfl (.tmp 40) (.tmp 47) rfl (.slice Av mv cv) xs [(s.size : Int) / 256, (s.size : Int) % 256] (some ⟨wr.heap.size, 0, none⟩) 2 rfl rfl (Kd.R_alloc HO.out _) (C_blk .u8 [(s.size : Int) / 256, (s.size : Int) % 256] (blk_new _ _) (by simp)) (HB.out.alloc HSZ.out _) (Nat.le_trans HSZ.out (by simp)) (by have := HL.out; simp; omega) ?_; intro v3 w3 ho hb hg hat; obtain ⟨A3, m3, c3, hv⟩ := R_slice' ho; subst hv; have HO3 := Aside0.mk ho; have HB3 := Aside0.mk hb; have hc3 := HCL.out _ hb; obtain ⟨c5, w5, hcv, hb5, hr5, hl5⟩ := conv_bytes w3 s hsz; have HO5 := Aside0.mk (Kd.R_below ho hb5); have HB5 := Aside0.mk (below_then hb (Nat.le_trans HB.out.size (Nat.le_trans (by simp) hg.size)) hb5); have HS5 := Aside0.mk (Nat.le_trans (Nat.le_trans HB.out.size (Nat.le_trans (by simp) hg.size)) hb5.size); rw [← hl5] at hcv; have HR5 := Aside0.mk hr5; have HL5 := Aside0.mk hl5; clear ho hb hg hat hb5 hr5 hl5 h1)
        | ((with_reducible refine gate_builtin (b := .append) (xs := #[.tmp 49, .tmp 54]) rfl ?_); at_builtin; refine appB (w0 := w) w.heap.size rfl (.tmp 49) (.tmp 54) rfl (.slice A3 m3 c3) (xs ++ [(s.size : Int) / 256, (s.size : Int) % 256]) (bytesOf s) (some ⟨w3.heap.size, 0, none⟩) c5 rfl rfl HO5.out HR5.out HB5.out HS5.out (by have := HL.out; have := HL5.out; rw [List.length_append]; simp; omega) ?_; intro v6 w6 ho hb hg hat; have HO6 := Aside0.mk ho; have HB6 := Aside0.mk hb; clear ho hb hg hat hcv hc3))
      go_roundw
      case rel => exact ⟨k + 1, by omega, by go_num, ⟨by rw [HS.out, ← List.append_assoc, HXS.out, ← List.append_assoc]; exact HO6.out⟩, HB6⟩
      case measure => simp [intOf]; omega
    · obtain rfl : k = ts.length := by omega
      have h := HO.out
      rw [List.take_length] at h
      have HO4 := Aside0.mk h
      clear h HO
      go_wp2
      go_ret2
      exact ⟨_, rfl, HO4.out, HB.out⟩
end Go.Proofs.Ytfbmgjanplnabaa

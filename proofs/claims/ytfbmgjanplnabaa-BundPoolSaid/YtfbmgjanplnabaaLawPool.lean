/- BundPool: for every input it returns true, and the input reads as it did. No condition. -/
import Derived.Test.YtfbmgjanplnabaaBK
import Derived.Test.YtfbmgjanplnabaaBM
import Derived.Test.YtfbmgjanplnabaaRows
import Derived.WalkKit
import Derived.ProofKit
import Derived.OpenShut
import Derived.ShutString
import Derived.ChangeOld
import Derived.Below
import Derived.SizedLaws
/- When there is a bundle, and what it is, section by section; a locale that says a text twice. -/
namespace Go.Proofs.Ytfbmgjanplnabaa
open Go.RowKit Go.Proofs.YtfbmgjanplnabaaW.PrintWords Go.Proofs.YtfbmgjanplnabaaW.PrintLast Go.Proofs.YtfbmgjanplnabaaW.PrintMore
set_option linter.unusedVariables false
set_option linter.unusedSimpArgs false

/-- Are a locale's numbers such that there may be a bundle? -/
def mayB (l : Loc) : Bool := (syNums l.s).all (fun z => decide (0 ≤ z)) && (l.rules.all (fun r => fits r.1 1) && (l.curs.all (fun c => fits c.2.2 1) && l.comps.all (fun c => fits c.1 1 && fits c.2.1 1)))
theorem badI_cons (i : Int × Int) (is : List (Int × Int)) : badI (i :: is) = (!fits i.1 i.2 || badI is) := rfl
theorem tx_good : ∀ (rs : List Int), (∀ x ∈ rs, fits x 2 = true) → badI (txItems rs) = false
  | [], _ => rfl
  | r :: rs, h => by
    have h1 : txItems (r :: rs) = (r, 2) :: txItems rs := rfl
    rw [h1, badI_cons, h r (by simp), tx_good rs (fun x hx => h x (by simp [hx]))]
    rfl
theorem sy_good : ∀ (zs : List Int), (∀ z ∈ zs, z ≤ 2147483647) → badI (zs.map fun z => (z, 4)) = !(zs.all fun z => decide (0 ≤ z))
  | [], _ => rfl
  | z :: zs, h => by
    have h0 := h z (by simp)
    rw [List.map_cons, badI_cons, sy_good zs (fun x hx => h x (by simp [hx])), List.all_cons]
    have : fits z 4 = decide (0 ≤ z) := by
      unfold fits
      have hl : lim 4 = 4294967296 := rfl
      rw [hl]
      have h4 : z < 4294967296 := by omega
      rw [decide_eq_true h4, Bool.and_true]
    rw [this, Bool.not_and]
theorem ru_good : ∀ (cs : List Rl) (rs : List Int), rs.length = cs.length → (∀ x ∈ rs, fits x 2 = true) → badI (ruIt cs rs) = !(cs.all fun r => fits r.1 1)
  | [], _, _, _ => by rw [ruIt_nil]; rfl
  | c :: cs, [], h, _ => by simp at h
  | c :: cs, r :: rs, h, hf => by
    simp only [ruIt]
    rw [badI_cons, badI_cons, ru_good cs rs (by simpa using h) (fun x hx => hf x (by simp [hx])), hf r (by simp), List.all_cons, Bool.not_and]
    rfl
theorem cu_good : ∀ (cs : List Cu) (rs : List Int), rs.length = 2 * cs.length → (∀ x ∈ rs, fits x 2 = true) → badI (cuIt cs rs) = !(cs.all fun c => fits c.2.2 1)
  | [], _, _, _ => by rw [cuIt_nil]; rfl
  | c :: cs, [], h, _ => by simp at h
  | c :: cs, [_], h, _ => by simp only [List.length_cons, List.length_nil] at h; omega
  | c :: cs, r :: q :: rs, h, hf => by
    simp only [cuIt]
    rw [badI_cons, badI_cons, badI_cons, cu_good cs rs (by simp only [List.length_cons] at h; omega) (fun x hx => hf x (by simp [hx])), hf r (by simp), hf q (by simp), List.all_cons, Bool.not_and]
    rfl
theorem cm_good : ∀ (cs : List Cm) (rs : List Int), rs.length = cs.length → (∀ x ∈ rs, fits x 2 = true) → badI (cmIt cs rs) = !(cs.all fun c => fits c.1 1 && fits c.2.1 1)
  | [], _, _, _ => by rw [cmIt_nil]; rfl
  | c :: cs, [], h, _ => by simp at h
  | c :: cs, r :: rs, h, hf => by
    simp only [cmIt]
    rw [badI_cons, badI_cons, badI_cons, cm_good cs rs (by simpa using h) (fun x hx => hf x (by simp [hx])), hf r (by simp), List.all_cons]
    cases fits c.1 1 <;> cases fits c.2.1 1 <;> simp
theorem hd_good : ∀ (ps : List (List Int)) (a : Nat), a + ps.flatten.length < 4294967296 → badI (hdIt a ps) = false
  | [], _, _ => rfl
  | p :: ps, a, h => by
    rw [List.flatten_cons, List.length_append] at h
    simp only [hdIt]
    have f : ∀ n : Nat, n < 4294967296 → fits (n : Int) 4 = true := fun n hn => by
      unfold fits
      have : lim 4 = 4294967296 := rfl
      rw [this]
      simp
      omega
    rw [badI_cons, badI_cons, hd_good ps (a + p.length) (by omega), f a (by omega), f p.length (by omega)]
    rfl
theorem ixn_fits {P : List ByteArray} (hP : P.length ≤ 500) (s : ByteArray) (hs : s ∈ P) : fits (ixn P s) 2 = true := by
  have := List.idxOf_lt_length_of_mem hs
  exact fits2 _ (by omega)
theorem refs_fit (l : Loc) (hp : isPool (gp (texts l)) = true) : ∀ x ∈ rf0 l, fits x 2 = true := by
  intro x hx
  rw [rf0_eq] at hx
  obtain ⟨s, hs, rfl⟩ := List.mem_map.1 hx
  exact ixn_fits (isPool_length hp) s ((mem_gp _ _).2 hs)
theorem encOk_iff (l : Loc) (hF : Few l) (hz : l.s.ok) : encOk l = (isPool (gp (texts l)) && mayB l) := by
  unfold encOk
  cases hp : isPool (gp (texts l)) with
  | false => rw [Bool.false_and, Bool.false_and]
  | true =>
    have hr := refs_fit l hp
    have hlen := rf0_length l
    obtain ⟨f1, f2, f3⟩ := hF
    have m1 : ∀ x ∈ rf1 l, fits x 2 = true := fun x hx => hr x (List.mem_of_mem_drop hx)
    have m2 : ∀ x ∈ rf2 l, fits x 2 = true := fun x hx => m1 x (List.mem_of_mem_drop hx)
    have m3 : ∀ x ∈ rf3 l, fits x 2 = true := fun x hx => m2 x (List.mem_of_mem_drop hx)
    have m4 : ∀ x ∈ rf4 l, fits x 2 = true := fun x hx => m3 x (List.mem_of_mem_drop hx)
    have b1 : badI (it1 l) = !((syNums l.s).all fun z => decide (0 ≤ z)) := by
      unfold it1
      rw [badI_append, tx_good _ (fun x hx => hr x (List.mem_of_mem_take hx)), Bool.false_or]
      exact sy_good _ (fun z hz' => (hz z hz').2)
    have b2 : badI (it2 l) = false := tx_good _ (fun x hx => m1 x (List.mem_of_mem_take hx))
    have b3 : badI (it3 l) = !(l.rules.all fun r => fits r.1 1) := by
      unfold it3
      rw [badI_cons, fits2 _ f1, ru_good _ _ (by rw [List.length_take]; unfold rf2 rf1; rw [List.length_drop, List.length_drop]; omega) (fun x hx => m2 x (List.mem_of_mem_take hx))]
      rfl
    have b4 : badI (it4 l) = !(l.curs.all fun c => fits c.2.2 1) := by
      unfold it4
      rw [badI_cons, fits2 _ f2, cu_good _ _ (by rw [List.length_take]; unfold rf3 rf2 rf1; rw [List.length_drop, List.length_drop, List.length_drop]; omega) (fun x hx => m3 x (List.mem_of_mem_take hx))]
      rfl
    have b5 : badI (it5 l) = !(l.comps.all fun c => fits c.1 1 && fits c.2.1 1) := by
      unfold it5
      rw [badI_cons, fits2 _ f3, cm_good _ _ (by rw [List.length_take]; unfold rf4 rf3 rf2 rf1; rw [List.length_drop, List.length_drop, List.length_drop, List.length_drop]; omega) (fun x hx => m4 x (List.mem_of_mem_take hx))]
      rfl
    have bh : badI (head l) = false := by
      unfold head
      rw [badI_append, hd_good _ 56 (by have := parts_length l ⟨f1, f2, f3⟩ hp; omega)]
      rfl
    unfold bads mayB
    rw [b1, b2, b3, b4, b5, bh]
    simp only [Bool.or_false, Bool.not_or, Bool.not_not, Bool.true_and, Bool.and_assoc]
/-! the sections -/
def pt1 (P : List ByteArray) (l : Loc) : List Int := eT P l.tag ++ (syNums l.s).flatMap eZ
def pt2 (P : List ByteArray) (l : Loc) : List Int := [l.p0, l.p1, l.p2, l.p3].flatMap (eT P)
def pt3 (P : List ByteArray) (l : Loc) : List Int := be l.rules.length 2 ++ l.rules.flatMap (eR P)
def pt4 (P : List ByteArray) (l : Loc) : List Int := be l.curs.length 2 ++ l.curs.flatMap (eC P)
def pt5 (P : List ByteArray) (l : Loc) : List Int := be l.comps.length 2 ++ l.comps.flatMap (eM P)
theorem parts_eq (l : Loc) (hok : encOk l = true) : parts l = [poolBytes (gp (texts l)), pt1 (gp (texts l)) l, pt2 (gp (texts l)) l, pt3 (gp (texts l)) l, pt4 (gp (texts l)) l, pt5 (gp (texts l)) l] := by
  obtain ⟨hp, b1, b2, b3, b4, b5, bh⟩ := encOk_parts hok
  obtain ⟨P, hP⟩ : ∃ P, gp (texts l) = P := ⟨_, rfl⟩
  obtain ⟨r0, r1, r2, r3, r4⟩ := rf_parts l P hP
  have e1 : encI (it1 l) = pt1 P l := by
    unfold it1 at b1 ⊢
    rw [r0] at b1 ⊢
    rw [badI_append, Bool.or_eq_false_iff] at b1
    rw [encI_append, tx_enc P [l.tag] b1.1]
    have hs : syItems l.s = (syNums l.s).map fun z => (z, 4) := rfl
    rw [hs] at b1 ⊢
    obtain ⟨k1, k2⟩ := sy_enc _ b1.2
    rw [k2]
    simp [pt1]
  have e2 : encI (it2 l) = pt2 P l := by
    unfold it2 at b2 ⊢
    rw [r1] at b2 ⊢
    exact tx_enc P _ b2
  have e3 : encI (it3 l) = pt3 P l := by
    unfold it3 at b3 ⊢
    rw [r2] at b3 ⊢
    obtain ⟨k1, k2, k3⟩ := encI_cons _ _ b3
    obtain ⟨k4, k5⟩ := ru_enc P _ k2
    rw [k3, k5]
    rfl
  have e4 : encI (it4 l) = pt4 P l := by
    unfold it4 at b4 ⊢
    rw [r3] at b4 ⊢
    obtain ⟨k1, k2, k3⟩ := encI_cons _ _ b4
    obtain ⟨k4, k5⟩ := cu_enc P _ k2
    rw [k3, k5]
    rfl
  have e5 : encI (it5 l) = pt5 P l := by
    unfold it5 at b5 ⊢
    rw [r4] at b5 ⊢
    obtain ⟨k1, k2, k3⟩ := encI_cons _ _ b5
    obtain ⟨k4, k5⟩ := cm_enc P _ k2
    rw [k3, k5]
    rfl
  unfold parts
  rw [hP, e1, e2, e3, e4, e5]
end Go.Proofs.Ytfbmgjanplnabaa
/- A locale that says a text twice has no longer bundle; all its texts stand in it. -/
namespace Go.Proofs.Ytfbmgjanplnabaa
open Go.RowKit Go.Proofs.YtfbmgjanplnabaaW.PrintWords Go.Proofs.YtfbmgjanplnabaaW.PrintLast Go.Proofs.YtfbmgjanplnabaaW.PrintMore
set_option linter.unusedVariables false
set_option linter.unusedSimpArgs false

theorem gpf_nodup : ∀ (ts acc : List ByteArray), acc.Nodup → (ts.foldl (fun p s => if s ∈ p then p else p ++ [s]) acc).Nodup
  | [], acc, h => h
  | t :: ts, acc, h => by
    rw [List.foldl_cons]
    refine gpf_nodup ts _ ?_
    by_cases ht : t ∈ acc
    · rw [if_pos ht]; exact h
    · rw [if_neg ht]
      rw [List.nodup_append]
      refine ⟨h, by simp, fun a ha b hb => ?_⟩
      have : b = t := by simpa using hb
      rw [this]
      exact fun e => ht (e ▸ ha)
theorem gp_nodup (ts : List ByteArray) : (gp ts).Nodup := gpf_nodup ts [] List.nodup_nil
theorem gpf_id : ∀ (ts acc : List ByteArray), (acc ++ ts).Nodup → ts.foldl (fun p s => if s ∈ p then p else p ++ [s]) acc = acc ++ ts
  | [], acc, _ => by simp
  | t :: ts, acc, h => by
    rw [List.foldl_cons]
    have ht : t ∉ acc := fun e => (List.nodup_append.1 h).2.2 t e t (by simp) rfl
    rw [if_neg ht, gpf_id ts (acc ++ [t]) (by simpa using h)]
    simp
theorem gp_id {ts : List ByteArray} (h : ts.Nodup) : gp ts = ts := by
  have := gpf_id ts [] (by simpa using h)
  unfold gp
  rw [List.nil_append] at this
  exact this
/-- A row without doubles, all of it in another: its parts together are no longer. -/
theorem sub_sum {α β : Type} (f : α → List β) : ∀ (xs ys : List α), xs.Nodup → (∀ x ∈ xs, x ∈ ys) → (xs.flatMap f).length ≤ (ys.flatMap f).length
  | [], ys, _, _ => by simp
  | x :: xs, ys, hn, hs => by
    obtain ⟨a, b, rfl⟩ := List.append_of_mem (hs x (by simp))
    rw [List.nodup_cons] at hn
    have ih := sub_sum f xs (a ++ b) hn.2 (fun y hy => by
      have h1 := hs y (by simp [hy])
      rw [List.mem_append, List.mem_cons] at h1
      rcases h1 with h1 | rfl | h1
      · exact List.mem_append_left _ h1
      · exact absurd hy hn.1
      · exact List.mem_append_right _ h1)
    simp only [List.flatMap_cons, List.flatMap_append, List.length_append] at ih ⊢
    omega
theorem sub_len {xs ys : List ByteArray} (h : xs.Nodup) (hs : ∀ x ∈ xs, x ∈ ys) : xs.length ≤ ys.length := by
  have := sub_sum (fun s => [s]) xs ys h hs
  simpa using this
theorem isPool_sub {xs ys : List ByteArray} (h : xs.Nodup) (hs : ∀ x ∈ xs, x ∈ ys) (hp : isPool ys = true) : isPool xs = true := by
  have h1 := isPool_length hp
  have h2 := sub_len h hs
  unfold isPool
  rw [gp_id h, decide_eq_true rfl, decide_eq_true (show xs.length ≤ 500 by omega)]
  have : anyLong xs = false := by
    unfold anyLong
    rw [List.any_eq_false]
    intro s hx
    have := isPool_size hp s (hs s hx)
    simp
    omega
  rw [this]
  rfl
theorem eR_len (P : List ByteArray) : ∀ (rs : List Rl), (rs.flatMap (eR P)).length = 3 * rs.length
  | [] => rfl
  | r :: rs => by
    rw [List.flatMap_cons, List.length_append, eR_len P rs, List.length_cons]
    have : (eR P r).length = 3 := rfl
    omega
theorem eC_len (P : List ByteArray) : ∀ (rs : List Cu), (rs.flatMap (eC P)).length = 5 * rs.length
  | [] => rfl
  | r :: rs => by
    rw [List.flatMap_cons, List.length_append, eC_len P rs, List.length_cons]
    have : (eC P r).length = 5 := rfl
    omega
theorem eM_len (P : List ByteArray) : ∀ (rs : List Cm), (rs.flatMap (eM P)).length = 4 * rs.length
  | [] => rfl
  | r :: rs => by
    rw [List.flatMap_cons, List.length_append, eM_len P rs, List.length_cons]
    have : (eM P r).length = 4 := rfl
    omega
theorem body_len {l : Loc} (hok : encOk l = true) : (body l).length = 56 + ((gp (texts l)).flatMap textBytes).length + (2 + 2 + 28 + 8 + (2 + 3 * l.rules.length) + (2 + 5 * l.curs.length) + (2 + 4 * l.comps.length)) := by
  have h1 := head_length l (encOk_parts hok).2.2.2.2.2.2
  unfold body
  rw [List.length_append, h1, parts_eq l hok]
  simp only [List.flatten_cons, List.flatten_nil, List.append_nil, List.length_append]
  have a1 : (pt1 (gp (texts l)) l).length = 30 := rfl
  have a2 : (pt2 (gp (texts l)) l).length = 8 := rfl
  have a3 : (pt3 (gp (texts l)) l).length = 2 + 3 * l.rules.length := by unfold pt3; rw [List.length_append, eR_len, be2_length]
  have a4 : (pt4 (gp (texts l)) l).length = 2 + 5 * l.curs.length := by unfold pt4; rw [List.length_append, eC_len, be2_length]
  have a5 : (pt5 (gp (texts l)) l).length = 2 + 4 * l.comps.length := by unfold pt5; rw [List.length_append, eM_len, be2_length]
  have a0 : (poolBytes (gp (texts l))).length = 2 + ((gp (texts l)).flatMap textBytes).length := by unfold poolBytes; rw [List.length_append, be2_length]
  omega
/-- The locale that says its first pattern for its tag, too. -/
def twice (l : Loc) : Loc := { l with tag := l.p0 }
theorem twice_sub (l : Loc) : ∀ s ∈ texts (twice l), s ∈ texts l := by
  intro s hs
  unfold texts twice at hs
  unfold texts
  simp only [List.mem_append, List.mem_cons] at hs ⊢
  rcases hs with ((h | h) | h) | h
  · rcases h with h | h
    · exact .inl (.inl (.inl (.inr (.inl h))))
    · exact .inl (.inl (.inl (.inr h)))
  · exact .inl (.inl (.inr h))
  · exact .inl (.inr h)
  · exact .inr h
theorem twice_pool {l : Loc} (hF : Few l) (hz : l.s.ok) (hok : encOk l = true) : encOk (twice l) = true ∧ (enc (twice l)).length ≤ (enc l).length := by
  have hsub : ∀ s ∈ gp (texts (twice l)), s ∈ gp (texts l) := fun s hs => (mem_gp _ _).2 (twice_sub l s ((mem_gp _ _).1 hs))
  have hok2 : encOk (twice l) = true := by
    rw [encOk_iff l hF hz, Bool.and_eq_true] at hok
    rw [encOk_iff (twice l) hF hz, Bool.and_eq_true]
    exact ⟨isPool_sub (gp_nodup _) hsub hok.1, hok.2⟩
  refine ⟨hok2, ?_⟩
  rw [enc_length, enc_length, body_len hok, body_len hok2]
  have := sub_sum textBytes _ _ (gp_nodup _) hsub
  have e1 : (twice l).rules = l.rules := rfl
  have e2 : (twice l).curs = l.curs := rfl
  have e3 : (twice l).comps = l.comps := rfl
  rw [e1, e2, e3]
  omega
/-- Each of a locale's texts stands in its bundle. -/
theorem text_in {l : Loc} (hok : encOk l = true) (s : ByteArray) (hs : s ∈ texts l) : ∃ p t, enc l = p ++ (bytesOf s ++ t) := by
  have hg := (mem_gp (texts l) s).2 hs
  obtain ⟨a, b, hab⟩ := List.append_of_mem hg
  have h1 : ∃ p t, poolBytes (gp (texts l)) = p ++ (bytesOf s ++ t) := by
    refine ⟨be (gp (texts l)).length 2 ++ (a.flatMap textBytes ++ be s.size 2), b.flatMap textBytes, ?_⟩
    unfold poolBytes
    rw [hab]
    simp only [List.flatMap_append, List.flatMap_cons, textBytes, List.append_assoc]
  obtain ⟨p, t, hpt⟩ := h1
  unfold enc
  generalize le4 (crcOn 0 (body l)) = z
  unfold body
  rw [parts_eq l hok, hpt]
  refine ⟨magic ++ encI (head l) ++ p, t ++ (pt1 (gp (texts l)) l ++ (pt2 (gp (texts l)) l ++ (pt3 (gp (texts l)) l ++ (pt4 (gp (texts l)) l ++ (pt5 (gp (texts l)) l ++ z))))), ?_⟩
  simp only [List.flatten_cons, List.flatten_nil, List.append_nil, List.append_assoc]
end Go.Proofs.Ytfbmgjanplnabaa
/- BundPool: the walk. -/
namespace Go.Proofs.Ytfbmgjanplnabaa
open Go.RowKit Go.Proofs.YtfbmgjanplnabaaW.PrintWords Go.Proofs.YtfbmgjanplnabaaW.PrintLast Go.Proofs.YtfbmgjanplnabaaW.PrintMore
set_option linter.unusedVariables false
set_option linter.unusedSimpArgs false
attribute [local go_sem ↓] Ld_eq St_eq

theorem bytesOf_length (s : ByteArray) : (bytesOf s).length = s.size := by simp [bytesOf]
set_option maxHeartbeats 1600000 in
set_option maxRecDepth 100000 in
/-- holds: a text that stands in bytes is found. -/
theorem holds_calls (p t : List Int) (s : ByteArray) (A : Option Addr) (c : Nat) (w : World) (hx : RdB w A (p ++ (bytesOf s ++ t))) (hc : (p ++ (bytesOf s ++ t)).length ≤ c) (hm : (p ++ (bytesOf s ++ t)).length ≤ 3000060) :
    Calls Try.prog 21 #[.slice A (p ++ (bytesOf s ++ t)).length c, .string s] w fun e w' => e = .returned (.bool true) ∧ w = w' := by
  obtain ⟨i0, hi, _, hsz, _⟩ := info_parts info5
  have hlen : (p ++ (bytesOf s ++ t)).length = p.length + (s.size + t.length) := by rw [List.length_append, List.length_append, bytesOf_length]
  have HMID : Aside0 (∀ k : Nat, k ≤ p.length → ∃ A', (∀ W : World, (Instr.slice 32 (.slice A (p ++ (bytesOf s ++ t)).length c) (some (.int .i64 (k : Int))) (some (.int .i64 ((k : Int) + (s.size : Int)))) none).run Try.prog W = .ok (.slice A' s.size (c - k)) W) ∧ (convert 32 9 (.slice A' s.size (c - k))).run Try.prog w = .ok (.string (strOfNums (((p ++ (bytesOf s ++ t)).take (k + s.size)).drop k))) w) := ⟨by
    intro k hk
    obtain ⟨A', hcut, hA, hC⟩ := print_mid_of (P := Try.prog) (Value.int .u8) 0 32 5 .i64 .i64 Try.underlying32 hi hsz A c (p ++ (bytesOf s ++ t)) (k : Int) ((k + s.size : Nat) : Int) (by omega) (by omega) (by omega) hc
    have hX2 := Kd.C_of_reads (h1 := fun _ => rfl) (hA _ (Kd.reads_of_C hx))
    simp only [Int.toNat_natCast] at hcut hX2
    have hl : (((p ++ (bytesOf s ++ t)).take (k + s.size)).drop k).length = s.size := by rw [List.length_drop, List.length_take]; omega
    rw [hl] at hcut hX2
    refine ⟨A', hcut, Kd.C_string (P := Try.prog) (c := c - k) Try.underlying32 Try.underlying5 Try.underlying9 hX2⟩⟩
  have HLAST : Aside0 (strOfNums (((p ++ (bytesOf s ++ t)).take (p.length + s.size)).drop p.length) = s) := ⟨by
    rw [← bytesOf_length s, ← List.append_assoc, List.take_left' (by rw [List.length_append]), List.drop_left, str_bytes]⟩
  obtain ⟨N, hN⟩ : ∃ N, (p ++ (bytesOf s ++ t)).length = N := ⟨_, rfl⟩
  rw [hN] at HMID hm hlen ⊢
  have h1 : p.length + s.size ≤ N := by omega
  obtain ⟨z, hz⟩ : ∃ z, s.size = z := ⟨_, rfl⟩
  have HZ := Aside0.mk hz
  obtain ⟨P, hP⟩ : ∃ P, p.length = P := ⟨_, rfl⟩
  rw [hz, hP] at h1
  rw [hP] at HMID HLAST
  clear hx hc hlen hN hi hsz hP hz
  go_enter Try.func21, Try.ntmps21
  go_wp2
  go_loop [5] (fun i => ∃ k : Nat, k ≤ P ∧ i = .int .i64 k) (fun i => P - (intOf i).toNat)
  case atStart => exact ⟨0, by omega, rfl⟩
  case round =>
    obtain ⟨k, hk, rfl⟩ := hrel
    obtain ⟨A', hsl, hcv⟩ := HMID.out k hk
    have hsl := hsl w
    obtain ⟨q, hq⟩ : ∃ q, strOfNums (((p ++ (bytesOf s ++ t)).take (k + s.size)).drop k) = q := ⟨_, rfl⟩
    have HQ := Aside0.mk hq
    rw [hq] at hcv
    rw [HZ.out] at hcv hsl
    have hz1 : (s.size : Int) = (z : Int) := by rw [HZ.out]
    have hle : ((k : Int) + (z : Int) ≤ (N : Int)) := by omega
    clear hq
    by_cases hqs : q = s
    · subst hqs
      clear HQ HLAST
      go_wp2
      go_ret
      exact ⟨rfl, rfl⟩
    · have hne : (q.toList == s.toList) = false := by rw [bytes_eq]; simpa using hqs
      have hlt : k < P := by
        rcases Nat.lt_or_ge k P with h | h
        · exact h
        · exfalso
          obtain rfl : k = P := by omega
          exact hqs (HQ.out.symm.trans HLAST.out)
      clear HQ hqs
      go_wp2_with fail
      go_round
      case rel => exact ⟨k + 1, by omega, by go_num⟩
      case measure => simp [intOf]; omega
theorem at_SP {w : World} {b off : Nat} {xs : List ByteArray} (h : RdS w (some ⟨b, off, none⟩) xs) (k : Nat) (hk : k < xs.length) : w.cell? ⟨b, off + k, none⟩ = some (.string xs[k]) := by
  obtain ⟨ad, e, h1⟩ := at_S h k hk
  injection e with e
  subst e
  rwa [plain_add] at h1
theorem RdL.cells {w : World} {l : Loc} {L : List Value} (h : RdL w l L) : ∃ Ar cr Ac cc Ak ck, L[0]? = some (.string l.tag) ∧ L[8]? = some (.string l.p0) ∧ L[11]? = some (.string l.p3) ∧ L[12]? = some (.slice Ar l.rules.length cr) ∧ L[13]? = some (.slice Ac l.curs.length cc) ∧ L[14]? = some (.slice Ak l.comps.length ck) := by
  obtain ⟨Ar, cr, Ac, cc, Ak, ck, rfl, _⟩ := h
  exact ⟨Ar, cr, Ac, cc, Ak, ck, rfl, rfl, rfl, rfl, rfl, rfl⟩
theorem RdL.twice {w : World} {l : Loc} {L : List Value} (h : RdL w l L) : RdL w (twice l) (L.set 0 (.string l.p0)) := by
  obtain ⟨Ar, cr, Ac, cc, Ak, ck, rfl, h1, h2, h3, h4, h5, h6⟩ := h
  exact ⟨Ar, cr, Ac, cc, Ak, ck, rfl, h1, h2, h3, h4, h5, h6⟩
theorem blk_at {w : World} {g : Nat} {L : List Value} {t : TypeId} (h : w.heap[g]? = some (.cells L.toArray t (0, 0))) {j : Nat} {v : Value} (hv : L[j]? = some v) : w.cell? ⟨g, j, none⟩ = some v := by
  rw [blk_cell h, List.getElem?_toArray, hv]
theorem blk_put {w : World} {g : Nat} {L : List Value} {t : TypeId} (h : w.heap[g]? = some (.cells L.toArray t (0, 0))) (j : Nat) (v : Value) : (w.setCell ⟨g, j, none⟩ v).heap[g]? = some (.cells (L.set j v).toArray t (0, 0)) := by
  have := blk_set h j v
  rwa [List.setIfInBounds_toArray] at this
set_option maxHeartbeats 3200000 in
set_option maxRecDepth 100000 in
theorem pool_calls (l : Loc) (L : List Value) (n : Int) (w : World) (hL : RdL w l L) (zl : l.s.ok) (hn : -9223372036854775808 ≤ n ∧ n ≤ 9223372036854775807) :
    Calls Try.prog 8 #[.agg L.toArray, .int .i64 n] w (yes w) := by
  obtain ⟨hn1, hn2⟩ := hn
  obtain ⟨Ar, cr, Ac, cc, Ak, ck, l0, l8, l11, l12, l13, l14⟩ := hL.cells
  have HL := Aside0.mk hL
  have HNL := Aside0.mk hL.length
  have HZL := Aside0.mk zl
  clear hL zl
  have HB0 := Aside0.mk ((Below.refl w.heap.size w).alloc (Nat.le_refl _) (.cells L.toArray 29))
  have HK1 := Aside0.mk (blk_new w (.cells L.toArray 29))
  have HLC := Aside0.mk (And.intro l0 (And.intro l8 (And.intro l11 (And.intro l12 (And.intro l13 l14)))))
  clear l0 l8 l11 l12 l13 l14
  go_enter Try.func8, Try.ntmps8
  go_wp2_with fail
  generalize w.alloc (.cells L.toArray 29) = w0 at HB0 HK1 ⊢
  obtain ⟨g, hg⟩ : ∃ g, w.heap.size = g := ⟨_, rfl⟩
  rw [hg] at HK1 ⊢
  have HKB : Aside0 (∀ W, Below w0.heap.size w0 W → W.heap[g]? = some (.cells L.toArray 29 (0, 0))) := ⟨fun W h => blk_below HK1.out h (blk_lt HK1.out)⟩
  have HLD : Aside0 (∀ W, Below w0.heap.size w0 W → (Ld (.pointer (some ⟨g, 0, none⟩))).run Try.prog W = .ok (.agg L.toArray) W) := ⟨fun W h => load29 HNL.out (HKB.out W h)⟩
  have HLR : Aside0 (∀ W, Below w0.heap.size w0 W → RdL W l L) := ⟨fun W h => (HL.out.below HB0.out).below h⟩
  have HYES : Aside0 (∀ W, Below w0.heap.size w0 W → Below w.heap.size w W) := ⟨fun W h => below_then HB0.out HB0.out.size h⟩
  clear HL HK1 HB0 hg
  refine (shown_calls _).mono ?_
  rintro e w1 ⟨rfl, hb⟩
  have HB1 := Aside0.mk hb
  have hl1 := HLD.out _ hb
  clear hb
  go_wp2_with fail
  refine (small_calls l L _ (HLR.out _ HB1.out)).mono ?_
  rintro e w2 ⟨b1, rfl, ht1, hb⟩
  have HT1 := Aside0.mk ht1
  have HB2 := Aside0.mk (below_then HB1.out HB1.out.size hb)
  have HW2 := Aside0.mk (HYES.out _ HB2.out)
  clear hb ht1 hl1 HB1
  cases b1 with
  | false =>
    go_wp2
    go_ret
    exact ⟨rfl, HW2.out⟩
  | true =>
  have hl2 := HLD.out _ HB2.out
  have HTT := Aside0.mk (HT1.out (by first | rfl | trivial))
  have FL := Aside0.mk HTT.out.few
  clear HT1 HW2
  go_wp2_with fail
  cases hol : encOk l with
  | false =>
    refine (encode_no (HLR.out _ HB2.out) FL.out HZL.out hol).mono ?_
    rintro e w3 ⟨rfl, hb⟩
    have HB3 := Aside0.mk (below_then HB2.out HB2.out.size hb)
    have hl3 := HLD.out _ HB3.out
    clear hb hl2 hol HB2
    go_wp2_with fail
    refine (texts_calls l L _ (HLR.out _ HB3.out) FL.out).mono ?_
    rintro e w4 ⟨v4, rfl, ho, hb⟩
    have HW4 := Aside0.mk (HYES.out _ (below_then HB3.out HB3.out.size hb))
    clear ho hb hl3 HB3
    go_wp2
    go_ret
    exact ⟨rfl, HW4.out⟩
  | true =>
  refine (encode_yes (HLR.out _ HB2.out) FL.out HZL.out hol).mono ?_
  rintro e w3 ⟨Ay, cy, rfl, hrd, hcc, hb⟩
  have HB3 := Aside0.mk (below_then HB2.out HB2.out.size hb)
  have hhi := body_short FL.out hol
  have hlen := enc_length l
  have hl3 := HLD.out _ HB3.out
  have HIN := Aside0.mk (text_in hol)
  have HTW := Aside0.mk (twice_pool FL.out HZL.out hol)
  obtain ⟨bs, hbs⟩ : ∃ bs, enc l = bs := ⟨_, rfl⟩
  rw [hbs] at hrd hcc hlen HIN HTW ⊢
  have hn3 : bs.length ≤ 3000060 := by omega
  have HRD := Aside0.mk hrd
  have HCC := Aside0.mk hcc
  clear hb hl2 hol HB2 hrd hcc hhi hlen hbs
  go_wp2_with fail
  refine (texts_calls l L _ (HLR.out _ HB3.out) FL.out).mono ?_
  rintro e w4 ⟨v4, rfl, ho, hb⟩
  obtain ⟨At, ct, rfl, hrt⟩ := RdS_of ho
  have HB4 := Aside0.mk (below_then HB3.out HB3.out.size hb)
  have HRD4 := Aside0.mk (Kd.C_below HRD.out hb)
  have htl := texts_length l
  obtain ⟨bt, ot, rfl, _⟩ := C_plainA (d := Kd.string) Nat.one_pos hrt (by omega)
  have t0 := at_SP hrt 0 (by omega)
  have t1 := at_SP hrt 1 (by omega)
  have t4 := at_SP hrt 4 (by omega)
  have e0 : (texts l)[0]'(by omega) = l.tag := rfl
  have e1 : (texts l)[1]'(by omega) = l.p0 := rfl
  have e4 : (texts l)[4]'(by omega) = l.p3 := rfl
  rw [e0, Nat.add_zero] at t0
  rw [e1] at t1
  rw [e4] at t4
  have HTX := Aside0.mk hrt
  obtain ⟨ts, hts⟩ : ∃ ts, texts l = ts := ⟨_, rfl⟩
  rw [hts] at htl HTX HIN ⊢
  have hk4 := HKB.out _ HB4.out
  have c0 := blk_at hk4 HLC.out.1
  have c8 := blk_at hk4 HLC.out.2.1
  have c11 := blk_at hk4 HLC.out.2.2.1
  have c12 := blk_at hk4 HLC.out.2.2.2.1
  have c13 := blk_at hk4 HLC.out.2.2.2.2.1
  have c14 := blk_at hk4 HLC.out.2.2.2.2.2
  have r1 := HTT.out.1
  have r2 := HTT.out.2.1
  have r3 := HTT.out.2.2
  obtain ⟨T, hT⟩ : ∃ T, ts.length = T := ⟨_, rfl⟩
  have HT := Aside0.mk hT
  rw [hT] at htl ⊢
  have hq : ((T : Int) != 5 + (l.rules.length : Int) + 2 * (l.curs.length : Int) + (l.comps.length : Int)) = false := by rw [bne_eq_false_iff_eq]; omega
  have ht5 : 5 ≤ T := by omega
  have ht6 : T ≤ 400 := by omega
  clear ho hb hl3 HB3 HRD hrt e0 e1 e4 hts hk4 hT htl HTT
  go_wp2_with fail
  go_region
  obtain ⟨w5, hw5⟩ : ∃ w5, w4.drew = w5 := ⟨_, rfl⟩
  have HB5 : Aside0 (Below w0.heap.size w0 w5) := ⟨hw5 ▸ HB4.out.drew⟩
  have HRD5 : Aside0 (RdB w5 Ay bs) := ⟨hw5 ▸ Kd.C_drew HRD4.out⟩
  have HTX5 : Aside0 (RdS w5 (some ⟨bt, ot, none⟩) ts) := ⟨hw5 ▸ Kd.C_drew HTX.out⟩
  rw [hw5]
  clear hw5 HB4 HRD4 HTX t0 t1 t4 c0 c8 c11 c12 c13 c14 hq r1 r2 r3 htl
  have hl5 := HLD.out _ HB5.out
  have hst : (St (.pointer (some ⟨w5.heap.size, 0, none⟩)) (.agg L.toArray)).run Try.prog (w5.alloc (.cells ZC.toArray 29)) = .ok () (w5.alloc (.cells L.toArray 29)) := store29 rfl HNL.out (HLR.out w5 HB5.out).one
  obtain ⟨w6, hw6⟩ : ∃ w6, w5.alloc (.cells L.toArray 29) = w6 := ⟨_, rfl⟩
  have hb6 := (Below.refl w5.heap.size w5).alloc (Nat.le_refl _) (.cells L.toArray 29)
  have hk6 := blk_new w5 (.cells L.toArray 29)
  rw [hw6] at hst hb6 hk6
  have HB6 := Aside0.mk (below_then HB5.out HB5.out.size hb6)
  have c8 := blk_at (HKB.out _ HB6.out) HLC.out.2.1
  have d0 := blk_at hk6 HLC.out.1
  have f0 := blk_free hk6 0
  obtain ⟨w7, hw7⟩ : ∃ w7, w6.setCell ⟨w5.heap.size, 0, none⟩ (.string l.p0) = w7 := ⟨_, rfl⟩
  have hb7 := hb6.setCell (Nat.le_refl _) (p := ⟨w5.heap.size, 0, none⟩) (.string l.p0)
  have hk7 := blk_put hk6 0 (.string l.p0)
  rw [hw7] at hb7 hk7
  have HB7 := Aside0.mk (below_then HB5.out HB5.out.size hb7)
  have hl7 := load29 (by rw [List.length_set]; exact HNL.out) hk7
  have HR7 := Aside0.mk (HLR.out _ HB7.out).twice
  have HRD7 := Aside0.mk (Kd.C_below HRD5.out hb7)
  have HTX7 := Aside0.mk (Kd.C_below HTX5.out hb7)
  have HE := Aside0.mk (encode_yes HR7.out (show Few (twice l) from FL.out) (show (twice l).s.ok from HZL.out) HTW.out.1)
  clear hw6 hb6 hb7 hk7 hk6 HB5 HB6 HRD5 HTX5
  obtain ⟨M, hM⟩ : ∃ M, L.set 0 (.string l.p0) = M := ⟨_, rfl⟩
  rw [hM] at hl7 HE
  clear hM HR7
  go_wp2_with fail
  refine HE.out.mono ?_
  rintro e w8 ⟨Am, cm, rfl, _, _, hb⟩
  have HB8 := Aside0.mk (below_then HB7.out HB7.out.size hb)
  have HRD8 := Aside0.mk (Kd.C_below HRD7.out hb)
  have htx8 := Kd.C_below HTX7.out hb
  obtain ⟨E, hE⟩ : ∃ E, (enc (twice l)).length = E := ⟨_, rfl⟩
  have hEl : E ≤ bs.length := hE ▸ HTW.out.2
  have hEi : (E : Int) ≤ (bs.length : Int) := by omega
  have HW8 := Aside0.mk (HYES.out _ HB8.out)
  rw [hE]
  clear hb hl5 hst hl7 c8 d0 f0 hw7 hE HE HTW HRD7 HTX7
  by_cases hneg : n < 0
  · clear htx8
    go_wp2
    go_ret
    exact ⟨rfl, HW8.out⟩
  by_cases hfar : (T : Int) ≤ n
  · clear htx8
    go_wp2
    go_ret
    exact ⟨rfl, HW8.out⟩
  obtain ⟨C, hC⟩ := Int.eq_ofNat_of_zero_le (Int.not_lt.1 hneg)
  subst hC
  have hCT : C < ts.length := by rw [HT.out]; omega
  have tc := at_SP htx8 C hCT
  obtain ⟨p, t, hpt⟩ := HIN.out ts[C] (List.getElem_mem hCT)
  obtain ⟨s, hs⟩ : ∃ s, ts[C] = s := ⟨_, rfl⟩
  rw [hs] at tc hpt
  have HH := holds_calls p t s Ay cy w8 (by rw [← hpt]; exact HRD8.out) (by rw [← hpt]; exact HCC.out) (by rw [← hpt]; exact hn3)
  rw [← hpt] at HH
  have HHO := Aside0.mk HH
  clear HH hpt hs hCT htx8 HRD8
  go_wp2_with fail
  refine HHO.out.mono ?_
  rintro e w9 ⟨rfl, rfl⟩
  clear tc
  go_wp2
  go_ret
  exact ⟨rfl, HW8.out⟩
end Go.Proofs.Ytfbmgjanplnabaa
namespace Go.Proofs.Ytfbmgjanplnabaa.bundPool
open Go.ChangeShapes Go.WideShapes Go.ChangeAt Go.RowKit
open Go.ChangeMaps (open_string shut_string)
set_option linter.unusedVariables false
theorem own : ownKnob Try.prog.godebug = none := by kernel_rfl
theorem laidOut : laidOutB Try.prog = true := by kernel_rfl
set_option maxRecDepth 100000 in
theorem lifted (os : Os) (started : os.Started) (H : Type) (enc : TypeId × Value → H) :
    ReturnsInHanded {} Try.checked os 8 .any (Rows.bundPoolSpec.pre6 enc Try.prog Try.f8 Rows.bundPoolRow.domain false) (Rows.bundPoolSpec.post enc Try.prog Try.f8 false true false false) := by
  refine returnsInHanded_of_change_sized (C := Try.checked) own started (by kernel_rfl) Try.func8
    (ChangeSpec.witness6 (enc := enc) (C := Try.checked) false ⟨#[], #[.agg zcells.toArray, .int .i64 0], []⟩ 8 (by kernel_rfl) (by kernel_rfl) (by kernel_rfl) (by kernel_rfl)) ?_
  intro W base args ds gs before hval0 hW hcnd hsz0 _
  have hval : ∀ (j : Nat) t v, Try.f8.params[j]? = some t → args[j]? = some v → Value.okWide Try.prog W .any base t v := hval0
  have hW' := hW
  obtain ⟨p, q, hA0, hV, rfl, hfz, hnd⟩ := hW
  have hA : DataW.TrodAll enc Try.prog W 0 (fun _ => true) true Try.f8.params.toList args.toList ds p := hA0
  rw [Try.params8] at hA hval
  obtain ⟨v0, vs0, d0, ds0, p0, q0, hargs, rfl, rfl, h0, r0⟩ := trodAll_cons hA
  obtain ⟨v1, vs1, d1, ds1, p1, q1, rfl, rfl, rfl, h1, r1⟩ := trodAll_cons r0
  obtain ⟨rfl, rfl, rfl⟩ := trodAll_nil r1
  obtain rfl : args = #[v0, v1] := by cases args; simp_all
  obtain ⟨rfl, rfl⟩ := trodVars_none hV
  obtain ⟨l0, L0, rfl, hl0, zl0⟩ := open_loc (hval 0 29 v0 rfl rfl) h0
  obtain ⟨n1, rfl, e1, g1, w1⟩ := open_int Try.underlying3 (hval 1 3 v1 rfl rfl) h1
  have lt0 : ∀ x ∈ p0, x.block < W.heap.size := by obtain ⟨m, hm⟩ := h0; exact DataW.trod_lt m _ _ _ hm
  have lt1 : ∀ x ∈ p1, x.block < W.heap.size := by obtain ⟨m, hm⟩ := h1; exact DataW.trod_lt m _ _ _ hm
  clear hA0 hval0 hsz0
  refine (pool_calls l0 L0 n1 W hl0 zl0 (bounds_i64 w1)).mono fun e W' ⟨he, bel⟩ => ?_
  subst he
  exact ⟨_, rfl, _, _, _, [], _, [], hW', trodAll_mk1 (shut_bool Try.underlying4 _),
    (trodAll_cons_mk (Below.trod laidOut (by kernel_rfl) (of_decide_eq_true (by kernel_rfl)) h0 bel lt0) (trodAll_cons_mk (Below.trod laidOut (by kernel_rfl) (of_decide_eq_true (by kernel_rfl)) h1 bel lt1) trodAll_mk0)), rfl, bel.frame _, fun h => by cases h⟩
theorem over : Rows.bundPoolRow.holds Try.pinned (OpenSpec.ofChange Rows.bundPoolSpec) :=
  OpenClaim.holds_of_wide 8 Try.f8 rfl rfl rfl rfl rfl rfl rfl ⟨rfl, rfl, rfl, rfl, rfl⟩ rfl rfl rfl rfl rfl (by kernel_rfl) Try.func8 (by kernel_rfl)
    (of_decide_eq_true (by kernel_rfl)) (by unfold Func.isWrapper; first | (rw [if_pos (by decide +kernel)]; kernel_rfl) | (rw [if_neg (by decide +kernel)]; exact ⟨rfl, rfl⟩))
    (fun os started H enc _ => lifted os started H enc)
theorem proved : Rows.BundPoolSaid := over
#print axioms proved
end Go.Proofs.Ytfbmgjanplnabaa.bundPool
namespace Go.Proofs.Ytfbmgjanplnabaa
/-- The row, under a short name, for the claim. -/
theorem bundPool_holds : Rows.BundPoolSaid := bundPool.proved
end Go.Proofs.Ytfbmgjanplnabaa

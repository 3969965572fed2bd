import Derived.Test.YtfbmgjanplnabaaBM
import Derived.Test.YtfbmgjanplnabaaBK
import Derived.Laws.BitsAllLaws
import Derived.Test.YtfbmgjanplnabaaBA
import Derived.IntWalk
/- The checksum's plain law, on natural numbers: a change of four bytes that stand together is always seen. -/
namespace Go.Proofs.Ytfbmgjanplnabaa.Crc
set_option linter.unusedVariables false
set_option linter.unusedSimpArgs false
def poly : Nat := 3988292384
def t1 (n : Nat) : Nat := n / 2 ^^^ (if n % 2 = 1 then poly else 0)
def tk : Nat → Nat → Nat
  | 0, n => n
  | k + 1, n => t1 (tk k n)
theorem t1_lt {n : Nat} (h : n < 2 ^ 32) : t1 n < 2 ^ 32 := by
  unfold t1
  refine Nat.xor_lt_two_pow (by omega) ?_
  split
  · decide
  · decide
theorem tk_lt {n : Nat} (h : n < 2 ^ 32) : ∀ k, tk k n < 2 ^ 32
  | 0 => h
  | k + 1 => t1_lt (tk_lt h k)
theorem div2_xor (a b : Nat) : (a ^^^ b) / 2 = a / 2 ^^^ b / 2 := by
  have := Nat.shiftRight_xor_distrib (a := a) (b := b) (i := 1)
  simpa [Nat.shiftRight_succ] using this
theorem t1_xor (a b : Nat) : t1 (a ^^^ b) = t1 a ^^^ t1 b := by
  unfold t1
  rw [div2_xor]
  have h : (a ^^^ b) % 2 = (a + b) % 2 := by
    have h0 := Nat.testBit_xor a b 0
    simp only [Nat.testBit_zero] at h0
    have h1 : ((a ^^^ b) % 2 = 1) ↔ ¬ ((a % 2 = 1) ↔ (b % 2 = 1)) := by
      have := congrArg (· = true) h0
      simp at this
      rw [← decide_eq_true_iff (p := (a ^^^ b) % 2 = 1), h0]
      simp
    omega
  rcases Nat.mod_two_eq_zero_or_one a with ha | ha <;> rcases Nat.mod_two_eq_zero_or_one b with hb | hb
  · rw [if_neg (by omega), if_neg (by omega), if_neg (by omega)]; simp
  · rw [if_pos (by omega), if_neg (by omega), if_pos (by omega)]; simp [Nat.xor_assoc]
  · rw [if_pos (by omega), if_pos (by omega), if_neg (by omega), Nat.xor_zero]; ac_rfl
  · rw [if_neg (by omega), if_pos (by omega), if_pos (by omega)]
    rw [show (a / 2 ^^^ poly ^^^ (b / 2 ^^^ poly)) = (a / 2 ^^^ b / 2) ^^^ (poly ^^^ poly) by ac_rfl, Nat.xor_self]
theorem tk_xor (a b : Nat) : ∀ k, tk k (a ^^^ b) = tk k a ^^^ tk k b
  | 0 => rfl
  | k + 1 => by show t1 (tk k (a ^^^ b)) = _; rw [tk_xor a b k, t1_xor]; rfl
theorem t1_zero {n : Nat} (h : n < 2 ^ 32) (h0 : t1 n = 0) : n = 0 := by
  unfold t1 at h0
  split at h0
  case isTrue h1 =>
    exfalso
    have h2 : n / 2 = poly := by
      have := congrArg (· ^^^ poly) h0
      simpa [Nat.xor_assoc] using this
    unfold poly at h2
    omega
  case isFalse h1 =>
    rw [Nat.xor_zero] at h0
    omega
theorem tk_zero {n : Nat} (h : n < 2 ^ 32) : ∀ k, tk k n = 0 → n = 0
  | 0, h0 => h0
  | k + 1, h0 => tk_zero h k (t1_zero (tk_lt h k) h0)
theorem tk_zero' : ∀ k, tk k 0 = 0
  | 0 => rfl
  | k + 1 => by show t1 (tk k 0) = 0; rw [tk_zero' k]; rfl
theorem xor_zero_iff {a b : Nat} (h : a ^^^ b = 0) : a = b := by
  have := congrArg (· ^^^ b) h
  simpa [Nat.xor_assoc] using this
theorem tk_inj {a b : Nat} (ha : a < 2 ^ 32) (hb : b < 2 ^ 32) (k : Nat) (h : tk k a = tk k b) : a = b := by
  refine xor_zero_iff (tk_zero (Nat.xor_lt_two_pow ha hb) k ?_)
  rw [tk_xor, h, Nat.xor_self]
theorem tk_add (n : Nat) : ∀ j k, tk (j + k) n = tk j (tk k n)
  | 0, k => by rw [Nat.zero_add]; rfl
  | j + 1, k => by rw [Nat.add_right_comm]; show t1 (tk (j + k) n) = t1 (tk j (tk k n)); rw [tk_add n j k]
theorem tk_pow (c : Nat) : ∀ k, tk k (c * 2 ^ k) = c
  | 0 => by show c * 1 = c; omega
  | k + 1 => by
    have h : c * 2 ^ (k + 1) = (c * 2) * 2 ^ k := by rw [Nat.pow_succ, Nat.mul_assoc, Nat.mul_comm 2]
    show t1 (tk k (c * 2 ^ (k + 1))) = c
    rw [h, tk_pow (c * 2) k]
    unfold t1
    rw [if_neg (by omega), Nat.xor_zero]
    omega
/-- One byte; many. -/
def st (s c : Nat) : Nat := tk 8 (s ^^^ c)
def run (s : Nat) (cs : List Nat) : Nat := cs.foldl st s
theorem st_lt {s c : Nat} (h : s < 2 ^ 32) (hc : c < 2 ^ 32) : st s c < 2 ^ 32 := tk_lt (Nat.xor_lt_two_pow h hc) 8
theorem run_lt : ∀ (cs : List Nat) {s : Nat}, s < 2 ^ 32 → (∀ c ∈ cs, c < 256) → run s cs < 2 ^ 32
  | [], s, h, _ => h
  | c :: cs, s, h, hc => run_lt cs (st_lt h (by have := hc c (by simp); omega)) (fun d hd => hc d (by simp [hd]))
theorem run_append (s : Nat) (xs ys : List Nat) : run s (xs ++ ys) = run (run s xs) ys := List.foldl_append
theorem st_inj {s t c : Nat} (hs : s < 2 ^ 32) (ht : t < 2 ^ 32) (hc : c < 256) (h : st s c = st t c) : s = t := by
  have := tk_inj (Nat.xor_lt_two_pow hs (by omega)) (Nat.xor_lt_two_pow ht (by omega)) 8 h
  have := congrArg (· ^^^ c) this
  simpa [Nat.xor_assoc] using this
theorem run_inj : ∀ (cs : List Nat) {s t : Nat}, s < 2 ^ 32 → t < 2 ^ 32 → (∀ c ∈ cs, c < 256) → run s cs = run t cs → s = t
  | [], s, t, _, _, _, h => h
  | c :: cs, s, t, hs, ht, hc, h => by
    have h256 : c < 256 := hc c (by simp)
    exact st_inj hs ht h256 (run_inj cs (st_lt hs (by omega)) (st_lt ht (by omega)) (fun d hd => hc d (by simp [hd])) h)
/-- Four bytes as one word. -/
def word (a b c d : Nat) : Nat := a ^^^ (b * 2 ^ 8 ^^^ (c * 2 ^ 16 ^^^ d * 2 ^ 24))
theorem run4 (s a b c d : Nat) : run s [a, b, c, d] = tk 32 (s ^^^ word a b c d) := by
  show st (st (st (st s a) b) c) d = _
  unfold st word
  have e1 : ∀ x, tk 8 x ^^^ b = tk 8 (x ^^^ b * 2 ^ 8) := fun x => by rw [tk_xor, tk_pow]
  have e2 : ∀ x, tk 8 (tk 8 x) ^^^ c = tk 8 (tk 8 (x ^^^ c * 2 ^ 16)) := fun x => by
    rw [← tk_add, ← tk_add, tk_xor, tk_pow]
  have e3 : ∀ x, tk 8 (tk 8 (tk 8 x)) ^^^ d = tk 8 (tk 8 (tk 8 (x ^^^ d * 2 ^ 24))) := fun x => by
    rw [← tk_add, ← tk_add, ← tk_add, ← tk_add, tk_xor, tk_pow]
  rw [e1, e2, e3, ← tk_add, ← tk_add, ← tk_add]
  simp only [Nat.xor_assoc]
theorem xor_add {x i : Nat} (h : x < 2 ^ i) (y : Nat) : x ^^^ y * 2 ^ i = x + y * 2 ^ i := by
  apply Nat.eq_of_testBit_eq
  intro j
  rw [Nat.testBit_xor, Nat.mul_comm, Nat.add_comm, Nat.testBit_two_pow_mul_add y h, Nat.testBit_two_pow_mul]
  by_cases hj : j < i
  · rw [if_pos hj]
    have : ¬ j ≥ i := by omega
    simp [this]
  · rw [if_neg hj]
    have hx : x.testBit j = false := Nat.testBit_lt_two_pow (Nat.lt_of_lt_of_le h (Nat.pow_le_pow_right (by omega) (by omega)))
    have : j ≥ i := by omega
    simp [this, hx]
theorem word_sum {a b c d : Nat} (ha : a < 256) (hb : b < 256) (hc : c < 256) : word a b c d = a + (b + (c + d * 256) * 256) * 256 := by
  unfold word
  have h1 : c * 2 ^ 16 ^^^ d * 2 ^ 24 = (c + d * 256) * 2 ^ 16 := by
    rw [show d * 2 ^ 24 = d * 2 ^ 24 from rfl, xor_add (by omega : c * 2 ^ 16 < 2 ^ 24) d]; omega
  rw [h1]
  have h2 : b * 2 ^ 8 ^^^ (c + d * 256) * 2 ^ 16 = (b + (c + d * 256) * 256) * 2 ^ 8 := by
    rw [xor_add (by omega : b * 2 ^ 8 < 2 ^ 16)]; omega
  rw [h2, xor_add (by omega : a < 2 ^ 8)]
theorem run4_inj {s a b c d a' b' c' d' : Nat} (hs : s < 2 ^ 32) (ha : a < 256) (hb : b < 256) (hc : c < 256) (hd : d < 256) (ha' : a' < 256) (hb' : b' < 256) (hc' : c' < 256) (hd' : d' < 256)
    (h : run s [a, b, c, d] = run s [a', b', c', d']) : a = a' ∧ b = b' ∧ c = c' ∧ d = d' := by
  rw [run4, run4] at h
  have hw := word_sum ha hb hc (d := d)
  have hw' := word_sum ha' hb' hc' (d := d')
  have h1 := tk_inj (Nat.xor_lt_two_pow hs (by omega)) (Nat.xor_lt_two_pow hs (by omega)) 32 h
  have h2 := congrArg (s ^^^ ·) h1
  simp only [← Nat.xor_assoc, Nat.xor_self, Nat.zero_xor] at h2
  omega
def inv32 (s : Nat) : Nat := 4294967295 ^^^ s
theorem inv_lt {s : Nat} (h : s < 2 ^ 32) : inv32 s < 2 ^ 32 := Nat.xor_lt_two_pow (by omega) h
/-- Behind a row and its checksum the register stands still. -/
theorem residue {s n : Nat} (hs : s < 2 ^ 32) (hn : n = inv32 s) : run s [n % 256, n / 256 % 256, n / 65536 % 256, n / 16777216 % 256] = tk 32 4294967295 := by
  have hl := inv_lt hs
  rw [← hn] at hl
  rw [run4, word_sum (by omega) (by omega) (by omega)]
  have : n % 256 + (n / 256 % 256 + (n / 65536 % 256 + n / 16777216 % 256 * 256) * 256) * 256 = n := by omega
  rw [this, hn]
  unfold inv32
  rw [Nat.xor_comm 4294967295, ← Nat.xor_assoc, Nat.xor_self, Nat.zero_xor]
/-- Four bytes that stand together are changed: the register is another. -/
theorem changed {s : Nat} {p t : List Nat} (hs : s < 2 ^ 32) {a b c d a' b' c' d' : Nat} (hp : ∀ c ∈ p, c < 256) (ht : ∀ c ∈ t, c < 256) (ha : a < 256) (hb : b < 256) (hc : c < 256) (hd : d < 256) (ha' : a' < 256) (hb' : b' < 256) (hc' : c' < 256) (hd' : d' < 256)
    (h : run s (p ++ ([a, b, c, d] ++ t)) = run s (p ++ ([a', b', c', d'] ++ t))) : a = a' ∧ b = b' ∧ c = c' ∧ d = d' := by
  simp only [run_append] at h
  have hs1 : run s p < 2 ^ 32 := run_lt p hs hp
  have hr : ∀ x y z v : Nat, x < 256 → y < 256 → z < 256 → v < 256 → run (run s p) [x, y, z, v] < 2 ^ 32 := fun x y z v h1 h2 h3 h4 => run_lt _ hs1 (by
    intro e he
    simp at he
    omega)
  exact run4_inj hs1 ha hb hc hd ha' hb' hc' hd' (run_inj t (hr _ _ _ _ ha hb hc hd) (hr _ _ _ _ ha' hb' hc' hd') ht h)
end Go.Proofs.Ytfbmgjanplnabaa.Crc
/- The checksum's plain law, at the program's own numbers: Decode's answer to a bundle of which four bytes are changed. -/
namespace Go.Proofs.Ytfbmgjanplnabaa
open Go.RowKit Go.Proofs.YtfbmgjanplnabaaW.PrintWords Go.Proofs.YtfbmgjanplnabaaW.PrintLast Go.Proofs.YtfbmgjanplnabaaW.PrintMore
set_option linter.unusedVariables false
set_option linter.unusedSimpArgs false

theorem and_one (n : Nat) (h : n < 4294967296) : bits .and .u32 (n : Int) 1 = ((n % 2 : Nat) : Int) := by
  have := u32_and_nat n 1 h (by decide)
  rw [Nat.and_one_is_mod] at this
  exact this
theorem and_ones (n : Nat) (h : n < 4294967296) : bits .and .u32 (n : Int) 4294967295 = (n : Int) := by
  have := u32_and_nat n 4294967295 h (by decide)
  have h2 : n &&& 4294967295 = n := by
    have := Nat.and_two_pow_sub_one_eq_mod n 32
    rw [show (4294967295 : Nat) = 2 ^ 32 - 1 from rfl, this]
    omega
  rw [h2] at this
  exact this
theorem and_zero0 (n : Nat) (h : n < 4294967296) : bits .and .u32 (n : Int) 0 = 0 := by
  have := u32_and_nat n 0 h (by decide)
  simpa using this
theorem crcBit_nat (n : Nat) (h : n < 4294967296) : crcBit (n : Int) = ((Crc.t1 n : Nat) : Int) := by
  unfold crcBit Crc.t1
  have h2 : (n : Int) / 2 = ((n / 2 : Nat) : Int) := by omega
  rw [and_one n h, h2]
  rcases Nat.mod_two_eq_zero_or_one n with h0 | h0
  · rw [h0, if_neg (by decide)]
    have e : (-((0 : Nat) : Int)) % 4294967296 = 0 := by decide
    rw [e]
    have e2 := and_zero0 3988292384 (by decide)
    have e3 : ((3988292384 : Nat) : Int) = 3988292384 := rfl
    rw [e3] at e2
    rw [e2]
    have := u32_xor_nat (n / 2) 0 (by omega) (by decide)
    exact this
  · rw [h0, if_pos rfl]
    have e : (-((1 : Nat) : Int)) % 4294967296 = 4294967295 := by decide
    rw [e]
    have e2 := and_ones 3988292384 (by decide)
    have e3 : ((3988292384 : Nat) : Int) = 3988292384 := rfl
    rw [e3] at e2
    rw [e2]
    have := u32_xor_nat (n / 2) 3988292384 (by omega) (by decide)
    exact this
theorem crcBits_nat (n : Nat) (h : n < 4294967296) : ∀ k, crcBits k (n : Int) = ((Crc.tk k n : Nat) : Int)
  | 0 => rfl
  | k + 1 => by
    show crcBit (crcBits k (n : Int)) = _
    rw [crcBits_nat n h k]
    exact crcBit_nat _ (Crc.tk_lt h k)
theorem crcStep_nat (s c : Nat) (hs : s < 4294967296) (hc : c < 256) : crcStep (s : Int) (c : Int) = ((Crc.st s c : Nat) : Int) := by
  unfold crcStep Crc.st
  have h1 : (c : Int) % 4294967296 = (c : Int) := by omega
  rw [h1, u32_xor_nat s c hs (by omega)]
  exact crcBits_nat _ (Nat.xor_lt_two_pow (n := 32) hs (by omega)) 8
def nats (xs : List Int) : List Nat := xs.map Int.toNat
theorem nats_lt {xs : List Int} (h : Bytes xs) : ∀ c ∈ nats xs, c < 256 := by
  intro c hc
  obtain ⟨x, hx, rfl⟩ := List.mem_map.1 hc
  have := h x hx
  omega
theorem nats_append (xs ys : List Int) : nats (xs ++ ys) = nats xs ++ nats ys := List.map_append
theorem crcFold_nat : ∀ (xs : List Int) (s : Nat), s < 4294967296 → Bytes xs → crcFold (s : Int) xs = ((Crc.run s (nats xs) : Nat) : Int)
  | [], s, _, _ => rfl
  | x :: xs, s, hs, h => by
    have hx := h x (by simp)
    obtain ⟨n, rfl⟩ := Int.eq_ofNat_of_zero_le hx.1
    have hn : n < 256 := by omega
    show crcFold (crcStep (s : Int) (n : Int)) xs = ((Crc.run (Crc.st s n) (nats xs) : Nat) : Int)
    rw [crcStep_nat s n hs hn]
    exact crcFold_nat xs _ (Crc.st_lt hs (by omega)) (fun y hy => h y (by simp [hy]))
theorem crcNot_nat (s : Nat) (h : s < 4294967296) : crcNot (s : Int) = ((Crc.inv32 s : Nat) : Int) := u32_xor_nat 4294967295 s (by decide) h
theorem crcOn_nat (xs : List Int) (h : Bytes xs) : crcOn 0 xs = ((Crc.inv32 (Crc.run 4294967295 (nats xs)) : Nat) : Int) := by
  unfold crcOn
  have h0 : crcNot 0 = ((4294967295 : Nat) : Int) := crcNot_nat 0 (by decide)
  rw [h0, crcFold_nat xs 4294967295 (by decide) h]
  exact crcNot_nat _ (Crc.run_lt _ (by decide) (nats_lt h))
/-- Behind a row and its checksum the register stands still. -/
theorem residue_of (ys : List Int) (h : Bytes ys) : Crc.run 4294967295 (nats (ys ++ le4 (crcOn 0 ys))) = Crc.tk 32 4294967295 := by
  rw [nats_append, Crc.run_append, crcOn_nat ys h]
  obtain ⟨n, hn⟩ : ∃ n, Crc.inv32 (Crc.run 4294967295 (nats ys)) = n := ⟨_, rfl⟩
  rw [hn]
  have e : nats (le4 (n : Int)) = [n % 256, n / 256 % 256, n / 65536 % 256, n / 16777216 % 256] := by
    unfold nats le4
    simp only [List.map_cons, List.map_nil, List.cons.injEq, and_true]
    refine ⟨by omega, by omega, by omega, by omega⟩
  rw [e]
  exact Crc.residue (Crc.run_lt _ (by decide) (nats_lt h)) hn.symm
/-- Four bytes that stand together are changed: the checksum is wrong. -/
theorem decode_changed {p t : List Int} {a b c d a' b' c' d' : Int} (ys : List Int) (he : p ++ ([a, b, c, d] ++ t) = ys ++ le4 (crcOn 0 ys)) (hb : Bytes (p ++ ([a, b, c, d] ++ t))) (hb' : Bytes [a', b', c', d']) (hne : ¬ (a = a' ∧ b = b' ∧ c = c' ∧ d = d')) : decode (p ++ ([a', b', c', d'] ++ t)) = .inr 6 := by
  have hp : Bytes p := fun x hx => hb x (by simp [hx])
  have ht : Bytes t := fun x hx => hb x (by simp [hx])
  have h4 : Bytes [a, b, c, d] := fun x hx => hb x (List.mem_append_right _ (List.mem_append_left _ hx))
  have hall : Bytes (p ++ ([a', b', c', d'] ++ t)) := hp.append (hb'.append ht)
  have hlen : ¬ (p ++ ([a', b', c', d'] ++ t)).length < 4 := by simp; omega
  obtain ⟨zs, z0, z1, z2, z3, hz⟩ := split4 _ hlen
  rw [hz, decode_app]
  split
  case isFalse => rfl
  case isTrue hc =>
    exfalso
    rw [hc] at hz
    have hys : Bytes ys := fun x hx => hb x (by rw [he]; exact List.mem_append_left _ hx)
    have hzs : Bytes zs := fun x hx => hall x (by rw [hz]; exact List.mem_append_left _ hx)
    have h1 := residue_of ys hys
    have h2 := residue_of zs hzs
    rw [← he] at h1
    rw [← hz] at h2
    have h3 := h1.trans h2.symm
    simp only [nats_append] at h3
    have ha := h4 a (by simp)
    have hb := h4 b (by simp)
    have hc := h4 c (by simp)
    have hd := h4 d (by simp)
    have ha' := hb' a' (by simp)
    have hb2 := hb' b' (by simp)
    have hc' := hb' c' (by simp)
    have hd' := hb' d' (by simp)
    have := Crc.changed (s := 4294967295) (p := nats p) (t := nats t) (by decide) (a := a.toNat) (b := b.toNat) (c := c.toNat) (d := d.toNat) (a' := a'.toNat) (b' := b'.toNat) (c' := c'.toNat) (d' := d'.toNat) (nats_lt hp) (nats_lt ht) (by omega) (by omega) (by omega) (by omega) (by omega) (by omega) (by omega) (by omega) h3
    exact hne ⟨by omega, by omega, by omega, by omega⟩
end Go.Proofs.Ytfbmgjanplnabaa
/- The document's checksum (exergueref08): Step, On, Of, Put: it is the program's. -/
namespace Go.Proofs.Ytfbmgjanplnabaa
open Go.RowKit Go.Proofs.YtfbmgjanplnabaaW.PrintWords Go.Proofs.YtfbmgjanplnabaaW.PrintLast Go.Proofs.YtfbmgjanplnabaaW.PrintMore
set_option linter.unusedVariables false
set_option linter.unusedSimpArgs false

theorem t1_odd (n : Nat) (h : n < 4294967296) (h1 : n % 2 = 1) : bits .xor .u32 ((n : Int) / 2) 3988292384 = ((Crc.t1 n : Nat) : Int) := by
  unfold Crc.t1
  rw [if_pos h1]
  have := u32_xor_nat (n / 2) 3988292384 (by omega) (by decide)
  exact this
theorem t1_even (n : Nat) (h1 : n % 2 = 0) : (n : Int) / 2 = ((Crc.t1 n : Nat) : Int) := by
  unfold Crc.t1
  rw [if_neg (by omega), Nat.xor_zero]
  omega
set_option maxHeartbeats 400000 in
theorem refStep_calls (s c : Nat) (hs : s < 4294967296) (hc : c < 256) (w : World) :
    Calls Try.prog 71 #[.int .u32 (s : Int), .int .u8 (c : Int)] w fun e w' => e = .returned (.int .u32 ((Crc.st s c : Nat) : Int)) ∧ w = w' := by
  have hx := u32_xor_nat s c hs (by omega)
  have HLT : Aside0 (s ^^^ c < 4294967296) := ⟨Nat.xor_lt_two_pow (n := 32) hs (by omega)⟩
  obtain ⟨m, hm⟩ : ∃ m, s ^^^ c = m := ⟨_, rfl⟩
  rw [hm] at hx HLT
  have HST : Aside0 (Crc.st s c = Crc.tk 8 m) := ⟨by unfold Crc.st; rw [hm]⟩
  have hs' : (s : Int) ≤ 4294967295 := by omega
  have hc' : (c : Int) ≤ 255 := by omega
  clear hs hc hm
  go_enter Try.func71, Try.ntmps71
  go_wp2
  go_loop [5, 6, 7] (fun v i _ => ∃ k : Nat, k ≤ 8 ∧ i = .int .i64 k ∧ v = .int .u32 ((Crc.tk k m : Nat) : Int)) (fun _ i _ => 8 - (intOf i).toNat)
  case atStart => exact ⟨0, by omega, rfl, by first | rfl | (simp [Crc.tk]; done)⟩
  case round =>
    obtain ⟨k, hk, rfl, rfl⟩ := hrel
    by_cases hlt : k < 8
    · have hl := Crc.tk_lt HLT.out k
      obtain ⟨n, hn⟩ : ∃ n, Crc.tk k m = n := ⟨_, rfl⟩
      have HN : Aside0 (Crc.tk (k + 1) m = Crc.t1 n) := ⟨by rw [← hn]; rfl⟩
      rw [hn] at hl ⊢
      have hl' : (n : Int) ≤ 4294967295 := by omega
      have h0 : (0 : Int) ≤ (n : Int) := by omega
      rcases Nat.mod_two_eq_zero_or_one n with hp | hp
      · have HE := Aside0.mk (t1_even n hp)
        have hb : ((n : Int) % 2 == 1) = false := by rw [beq_eq_false_iff_ne]; omega
        have hb2 : (n : Int) % 2 ≠ 1 := by omega
        clear hn hp hl
        go_wp2
        go_round
        case rel => exact ⟨k + 1, by omega, by go_num, by rw [HN.out, ← HE.out]⟩
        case measure => simp [intOf]; omega
      · have HE := Aside0.mk (t1_odd n hl hp)
        have hb : ((n : Int) % 2 == 1) = true := by rw [beq_iff_eq]; omega
        have hb2 : (n : Int) % 2 = 1 := by omega
        have HB2 := Aside0.mk hb2
        clear hn hp hl hb2
        go_wp2
        go_round
        case rel => exact ⟨k + 1, by omega, by go_num, by rw [HN.out, ← HE.out]⟩
        case measure => simp [intOf]; omega
    · obtain rfl : k = 8 := by omega
      go_wp2
      go_ret
      exact ⟨by rw [HST.out]; rfl, rfl⟩
theorem inv_sub (s : Nat) (h : s < 4294967296) : Crc.inv32 s = 4294967295 - s := by
  unfold Crc.inv32
  apply Nat.eq_of_testBit_eq
  intro i
  rw [Nat.testBit_xor]
  rw [show (4294967295 : Nat) = 2 ^ 32 - 1 from rfl, Nat.testBit_two_pow_sub_one, show 2 ^ 32 - 1 - s = 2 ^ 32 - (s + 1) by omega, Nat.testBit_two_pow_sub_succ h]
  by_cases hi : i < 32
  · simp [hi]
  · have : s.testBit i = false := Nat.testBit_lt_two_pow (Nat.lt_of_lt_of_le h (Nat.pow_le_pow_right (n := 2) (by omega) (by omega : 32 ≤ i)))
    simp [hi, this]
theorem run_take (s : Nat) (xs : List Int) (k : Nat) (h : k < xs.length) : Crc.run s (nats (xs.take (k + 1))) = Crc.st (Crc.run s (nats (xs.take k))) (xs[k].toNat) := by
  rw [List.take_succ_eq_append_getElem h, nats_append, Crc.run_append]
  rfl
set_option maxHeartbeats 400000 in
theorem refOn_calls (xs : List Int) (A : Option Addr) (c : Nat) (w : World) (hx : RdB w A xs) (hby : Bytes xs) :
    Calls Try.prog 52 #[.int .u32 0, .slice A xs.length c] w fun e w' => e = .returned (.int .u32 (crcOn 0 xs)) ∧ w = w' := by
  have hlx : xs.length ≤ 9223372036854775807 := hx.2.1
  have HX := Aside0.mk hx
  have HBY := Aside0.mk hby
  clear hx hby
  go_enter Try.func52, Try.ntmps52
  go_wp2
  go_loop [5, 6] (fun v i => ∃ k : Nat, k ≤ xs.length ∧ i = .int .i64 k ∧ v = .int .u32 ((Crc.run 4294967295 (nats (xs.take k)) : Nat) : Int)) (fun _ i => xs.length - (intOf i).toNat)
  case atStart => exact ⟨0, by omega, rfl, rfl⟩
  case round =>
    obtain ⟨k, hk, rfl, rfl⟩ := hrel
    have hl := Crc.run_lt (s := 4294967295) (nats (xs.take k)) (by decide) (nats_lt (fun x hx => HBY.out x (List.mem_of_mem_take hx)))
    by_cases hlt : k < xs.length
    · obtain ⟨b, off, rfl, hcx⟩ := C_plain HX.out (Nat.lt_of_le_of_lt (Nat.zero_le k) hlt)
      have h1 := hcx k hlt
      have e1 : rd xs (k : Int) = xs[k] := by simp [rd, List.getD_eq_getElem?_getD, List.getElem?_eq_getElem hlt]
      have hbk := HBY.out xs[k] (List.getElem_mem hlt)
      have HR := Aside0.mk (run_take 4294967295 xs k hlt)
      obtain ⟨y, hy⟩ := Int.eq_ofNat_of_zero_le hbk.1
      rw [e1, hy] at h1
      have HY : Aside0 (xs[k].toNat = y) := ⟨by rw [hy]; rfl⟩
      rw [hy] at hbk
      have HC := Aside0.mk (refStep_calls _ y hl (by omega) w)
      clear hcx e1 hbk hy hl
      go_wp2_with fail
      refine HC.out.mono ?_
      rintro e w' ⟨rfl, rfl⟩
      go_wp2_with fail
      go_round
      case rel => exact ⟨k + 1, by omega, by go_num, by rw [HR.out, HY.out]⟩
      case measure => simp [intOf]; omega
    · obtain rfl : k = xs.length := by omega
      have HE : Aside0 (crcOn 0 xs = 4294967295 - ((Crc.run 4294967295 (nats (xs.take xs.length)) : Nat) : Int)) := ⟨by
        rw [crcOn_nat xs HBY.out, inv_sub _ (by rw [List.take_length] at hl; exact hl), List.take_length]
        rw [List.take_length] at hl
        omega⟩
      obtain ⟨n, hn⟩ : ∃ n, Crc.run 4294967295 (nats (xs.take xs.length)) = n := ⟨_, rfl⟩
      rw [hn] at HE hl ⊢
      have hl' : (n : Int) ≤ 4294967295 := by omega
      have h0 : (0 : Int) ≤ (n : Int) := by omega
      clear hl hn hk
      go_wp2
      go_ret
      exact ⟨by rw [HE.out]; rfl, rfl⟩
set_option maxHeartbeats 400000 in
theorem refOf_calls (xs : List Int) (A : Option Addr) (c : Nat) (w : World) (hx : RdB w A xs) (hby : Bytes xs) :
    Calls Try.prog 35 #[.slice A xs.length c] w fun e w' => e = .returned (.int .u32 (crcOn 0 xs)) ∧ w = w' := by
  have HC := Aside0.mk (refOn_calls xs A c w hx hby)
  clear hx hby
  go_enter Try.func35, Try.ntmps35
  go_wp2_with fail
  refine HC.out.mono ?_
  rintro e w' ⟨rfl, rfl⟩
  go_wp2
  go_ret
  exact ⟨rfl, rfl⟩
theorem crcOn_range (xs : List Int) (h : Bytes xs) : 0 ≤ crcOn 0 xs ∧ crcOn 0 xs < 4294967296 := by
  rw [crcOn_nat xs h]
  have := Crc.inv_lt (Crc.run_lt (s := 4294967295) (nats xs) (by decide) (nats_lt h))
  omega
set_option maxHeartbeats 400000 in
set_option maxRecDepth 100000 in
theorem refPut_calls (xs : List Int) (A : Option Addr) (c : Nat) (w : World) (hx : RdB w A xs) (hby : Bytes xs) (hm : xs.length + 4 ≤ 140737488355328) :
    Calls Try.prog 13 #[.slice A xs.length c] w fun e w' => ∃ v, e = .returned v ∧ OwnB w' w.heap.size v (xs ++ le4 (crcOn 0 xs)) ∧ Below w.heap.size w w' := by
  have HX := Aside0.mk hx
  have HM := Aside0.mk hm
  have HC := Aside0.mk (refOf_calls xs A c w hx hby)
  obtain ⟨h0, h1⟩ := crcOn_range xs hby
  obtain ⟨s, hs⟩ : ∃ s, crcOn 0 xs = s := ⟨_, rfl⟩
  have h2 : s / 65536 ≤ 65535 := by omega
  have h3 : s ≤ 4294967295 := by omega
  rw [hs] at HC h0 h1 ⊢
  clear hx hm hby hs h1
  have hrow : Aside0 (s / 16777216 % 256 = s / 16777216) := ⟨by omega⟩
  go_enter Try.func13, Try.ntmps13
  go_wp2_with fail
  refine HC.out.mono ?_
  rintro e w' ⟨rfl, rfl⟩
  go_wp2_with (first
    | ((with_reducible refine gate_builtin (b := .append) (xs := #[.tmp 7, .tmp 8]) rfl ?_); at_builtin; refine appB (w0 := w) w.heap.size rfl _ _ rfl _ [] xs A c rfl rfl (own_row _ _ _ _ (Nat.le_refl _)) (Kd.C_alloc HX.out _) ((Below.refl _ _).alloc (Nat.le_refl _) _) (by simp) (by have := HM.out; simp; omega) ?_; intro v1 w1 ho hb hg hat; obtain ⟨A1, m1, c1, hv⟩ := R_slice' ho; subst hv; have HO := Aside0.mk ho; have HB := Aside0.mk hb; clear ho hb hg hat)
    | ((with_reducible refine gate_builtin (b := .append) (xs := #[.tmp 10, .tmp 25]) rfl ?_); at_builtin; refine appB (w0 := w) w.heap.size rfl _ _ rfl (.slice A1 m1 c1) xs [s % 256, s / 256 % 256, s / 65536 % 256, s / 16777216] (some ⟨w1.heap.size, 0, none⟩) 4 rfl rfl (Kd.R_alloc HO.out _) (C_blk .u8 [s % 256, s / 256 % 256, s / 65536 % 256, s / 16777216] (blk_new _ _) (by simp)) (HB.out.alloc HB.out.size _) (Nat.le_trans HB.out.size (by simp)) (by have := HM.out; simp; omega) ?_; intro v2 w2 ho hb hg hat; have HO2 := Aside0.mk ho; have HB2 := Aside0.mk hb; clear ho hb hg hat))
  go_ret
  refine ⟨_, rfl, ?_, HB2.out⟩
  have h := HO2.out
  rw [← hrow.out] at h
  exact h
end Go.Proofs.Ytfbmgjanplnabaa

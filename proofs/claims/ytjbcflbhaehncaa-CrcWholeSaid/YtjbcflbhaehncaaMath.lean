/-
  The plain mathematics of the CRC statements: a half step, a step, many steps; that they are linear and one to one; what a table of a linear function's values at single bits gives; sums of bytes in parts; a burst of up to 32 turned bits.
-/
namespace Go.Proofs.Ytjbcflbhaehncaa.Crc

def poly : BitVec 32 := 0xEDB88320#32
def ones : BitVec 32 := 0xFFFFFFFF#32
def half (x : BitVec 32) : BitVec 32 := (x >>> 1) ^^^ (if x.getLsbD 0 then poly else 0#32)
def halves : Nat → BitVec 32 → BitVec 32
  | 0, x => x
  | n + 1, x => halves n (half x)
def step (x : BitVec 32) : BitVec 32 := halves 8 x
def steps : Nat → BitVec 32 → BitVec 32
  | 0, x => x
  | n + 1, x => steps n (step x)

/-- A function that goes over xor. -/
def Lin (f : BitVec 32 → BitVec 32) : Prop := ∀ x y, f (x ^^^ y) = f x ^^^ f y

theorem Lin.zero {f : BitVec 32 → BitVec 32} (h : Lin f) : f 0#32 = 0#32 := by
  have := h 0#32 0#32
  simp at this
  simpa using this

theorem half_lin : Lin half := by
  intro x y
  unfold half
  apply BitVec.eq_of_getLsbD_eq
  intro i hi
  simp only [BitVec.getLsbD_xor, BitVec.getLsbD_ushiftRight]
  cases x.getLsbD 0 <;> cases y.getLsbD 0 <;> simp
  all_goals cases x.getLsbD (1 + i) <;> cases y.getLsbD (1 + i) <;> cases poly.getLsbD i <;> rfl

theorem halves_lin : ∀ n, Lin (halves n)
  | 0 => fun _ _ => rfl
  | n + 1 => fun x y => by simp only [halves]; rw [half_lin, halves_lin n]

theorem step_lin : Lin step := halves_lin 8

theorem steps_lin : ∀ n, Lin (steps n)
  | 0 => fun _ _ => rfl
  | n + 1 => fun x y => by simp only [steps]; rw [step_lin, steps_lin n]

theorem steps_add : ∀ (n m : Nat) (x : BitVec 32), steps (n + m) x = steps m (steps n x)
  | 0, m, x => by simp [steps]
  | n + 1, m, x => by rw [Nat.succ_add]; simp only [steps]; exact steps_add n m (step x)

theorem steps_snoc (n : Nat) (x : BitVec 32) : steps (n + 1) x = step (steps n x) := by
  rw [steps_add]; rfl

theorem half_zero (x : BitVec 32) (h : half x = 0#32) : x = 0#32 := by
  have hb : ∀ i, (half x).getLsbD i = false := fun i => by rw [h]; simp
  have h31 := hb 31
  unfold half at h31 hb
  simp only [BitVec.getLsbD_xor, BitVec.getLsbD_ushiftRight] at h31 hb
  have h0 : x.getLsbD 0 = false := by
    cases hx : x.getLsbD 0
    · rfl
    · rw [hx] at h31
      have e : x.getLsbD (1 + 31) = false := BitVec.getLsbD_of_ge _ _ (by omega)
      rw [e] at h31
      revert h31; decide
  apply BitVec.eq_of_getLsbD_eq
  intro i hi
  cases i with
  | zero => simpa using h0
  | succ i =>
    have := hb i
    rw [h0] at this
    simp at this
    rw [Nat.add_comm] at this
    simpa using this

theorem halves_zero : ∀ (n : Nat) (x : BitVec 32), halves n x = 0#32 → x = 0#32
  | 0, _, h => h
  | n + 1, x, h => half_zero x (halves_zero n _ h)

/-! ### A table of a linear function's values at single bits -/

/-- The bits below k. -/
def low (k : Nat) (x : BitVec 32) : BitVec 32 := x &&& (BitVec.allOnes 32 >>> (32 - k))

theorem low_bit (k : Nat) (hk : k ≤ 32) (x : BitVec 32) (i : Nat) : (low k x).getLsbD i = (x.getLsbD i && decide (i < k)) := by
  unfold low
  rw [BitVec.getLsbD_and, BitVec.getLsbD_ushiftRight, BitVec.getLsbD_allOnes]
  congr 1
  by_cases h : i < k
  · simp [h]; omega
  · simp [h]; omega

theorem low_zero (x : BitVec 32) : low 0 x = 0#32 := by
  apply BitVec.eq_of_getLsbD_eq
  intro i hi
  rw [low_bit 0 (by omega)]; simp

theorem low_all (x : BitVec 32) : low 32 x = x := by
  apply BitVec.eq_of_getLsbD_eq
  intro i hi
  rw [low_bit 32 (by omega)]; simp [hi]

theorem low_succ (k : Nat) (hk : k < 32) (x : BitVec 32) : low (k + 1) x = low k x ^^^ (if x.getLsbD k then 1#32 <<< k else 0#32) := by
  apply BitVec.eq_of_getLsbD_eq
  intro i hi
  rw [low_bit (k + 1) (by omega), BitVec.getLsbD_xor, low_bit k (by omega)]
  by_cases e : i = k
  · subst e
    cases h : x.getLsbD i <;> simp [hk]
  · have hb : (1#32 <<< k).getLsbD i = false := by
      rw [BitVec.getLsbD_shiftLeft]
      by_cases hlt : i < k
      · simp [hlt]
      · simp [hlt]; intro _; omega
    have hd : decide (i < k + 1) = decide (i < k) := by
      by_cases hlt : i < k
      · simp [hlt]; omega
      · simp [hlt]; omega
    rw [hd]
    cases h : x.getLsbD k <;> simp [hb]

theorem low_ne (k : Nat) (hk : k < 32) (x : BitVec 32) : (low (k + 1) x ≠ 0#32) ↔ (low k x ≠ 0#32 ∨ x.getLsbD k = true) := by
  constructor
  · intro h
    by_cases hb : x.getLsbD k = true
    · exact .inr hb
    · left
      intro e
      apply h
      rw [low_succ k hk, e]
      simp [hb]
  · rintro h e
    have hz : ∀ i, (low (k + 1) x).getLsbD i = false := fun i => by rw [e]; simp
    rcases h with h | h
    · apply h
      apply BitVec.eq_of_getLsbD_eq
      intro i hi
      have := hz i
      rw [low_bit (k + 1) (by omega)] at this
      rw [low_bit k (by omega)]
      simp only [BitVec.getLsbD_zero]
      cases hx : x.getLsbD i
      · rfl
      · rw [hx] at this
        have h2 : ¬ i < k + 1 := by simpa using this
        simp; omega
    · have := hz k
      rw [low_bit (k + 1) (by omega), h] at this
      simp at this

/-- What the table gives of the first k bits. -/
def tab (f : BitVec 32 → BitVec 32) : Nat → BitVec 32 → BitVec 32
  | 0, _ => 0#32
  | k + 1, x => tab f k x ^^^ (if x.getLsbD k then f (1#32 <<< k) else 0#32)

theorem tab_low (f : BitVec 32 → BitVec 32) (h : Lin f) (x : BitVec 32) : ∀ k, k ≤ 32 → tab f k x = f (low k x)
  | 0, _ => by rw [low_zero, h.zero]; rfl
  | k + 1, hk => by
    rw [tab, tab_low f h x k (by omega), low_succ k (by omega), h]
    congr 1
    cases x.getLsbD k <;> simp [h.zero]

theorem tab_all (f : BitVec 32 → BitVec 32) (h : Lin f) (x : BitVec 32) : tab f 32 x = f x := by
  rw [tab_low f h x 32 (by omega), low_all]

/-! ### Sums of bytes -/

def bv (c : Int) : BitVec 32 := BitVec.ofInt 32 c
def raw : BitVec 32 → List Int → BitVec 32
  | x, [] => x
  | x, c :: l => raw (step (x ^^^ bv c)) l
def update (s : BitVec 32) (l : List Int) : BitVec 32 := raw (s ^^^ ones) l ^^^ ones
def sum (l : List Int) : BitVec 32 := update 0#32 l
def behind (s : BitVec 32) (c : Int) : BitVec 32 := step (s ^^^ ones ^^^ bv c) ^^^ ones

theorem raw_append : ∀ (a b : List Int) (x : BitVec 32), raw x (a ++ b) = raw (raw x a) b
  | [], _, _ => rfl
  | c :: a, b, x => by simp only [List.cons_append, raw]; exact raw_append a b _

theorem raw_snoc (a : List Int) (c : Int) (x : BitVec 32) : raw x (a ++ [c]) = step (raw x a ^^^ bv c) := by
  rw [raw_append]; rfl

theorem xor_ones (x : BitVec 32) : x ^^^ ones ^^^ ones = x := by rw [BitVec.xor_assoc, BitVec.xor_self, BitVec.xor_zero]

theorem update_nil (s : BitVec 32) : update s [] = s := by unfold update; simp only [raw]; exact xor_ones s

theorem update_snoc (s : BitVec 32) (a : List Int) (c : Int) : update s (a ++ [c]) = behind (update s a) c := by
  unfold update behind
  rw [raw_snoc, xor_ones]

theorem update_append (s : BitVec 32) (a b : List Int) : update s (a ++ b) = update (update s a) b := by
  unfold update
  rw [raw_append, xor_ones]

theorem raw_steps : ∀ (l : List Int) (x : BitVec 32), raw x l = steps l.length x ^^^ raw 0#32 l
  | [], x => by simp [raw, steps]
  | c :: l, x => by
    simp only [raw, List.length_cons, steps]
    rw [raw_steps l (step (x ^^^ bv c)), raw_steps l (step (0#32 ^^^ bv c))]
    rw [step_lin x, steps_lin, step_lin 0#32, steps_lin, step_lin.zero, (steps_lin _).zero]
    simp only [BitVec.zero_xor, BitVec.xor_assoc]

theorem sum_append (a b : List Int) : sum (a ++ b) = steps b.length (sum a) ^^^ sum b := by
  unfold sum
  rw [update_append]
  show raw (update 0#32 a ^^^ ones) b ^^^ ones = _ ^^^ (raw (0#32 ^^^ ones) b ^^^ ones)
  rw [raw_steps b (update 0#32 a ^^^ ones), raw_steps b (0#32 ^^^ ones), steps_lin, BitVec.zero_xor]
  simp only [BitVec.xor_assoc]

/-! ### Bits that are turned -/

theorem halves_add : ∀ (n m : Nat) (x : BitVec 32), halves (n + m) x = halves m (halves n x)
  | 0, m, x => by simp [halves]
  | n + 1, m, x => by rw [Nat.succ_add]; simp only [halves]; exact halves_add n m (half x)

theorem steps_halves : ∀ (n : Nat) (x : BitVec 32), steps n x = halves (8 * n) x
  | 0, _ => rfl
  | n + 1, x => by rw [show 8 * (n + 1) = 8 + 8 * n from by omega, halves_add]; simp only [steps]; exact steps_halves n _

theorem bit_get (i j : Nat) (hj : j < 32) : (1#32 <<< i).getLsbD j = decide (j = i) := by
  rw [BitVec.getLsbD_shiftLeft]
  by_cases hlt : j < i
  · simp [hlt]; omega
  · by_cases e : j = i
    · subst e; simp [hj]
    · have hp : 0 < j - i := by omega
      have h1 : (1#32).getLsbD (j - i) = false := by
        rw [BitVec.getLsbD_one]; simp; omega
      rw [h1]; simp [e]

theorem half_bit (i : Nat) (hi : i + 1 < 32) : half (1#32 <<< (i + 1)) = 1#32 <<< i := by
  have h0 : (1#32 <<< (i + 1)).getLsbD 0 = false := by rw [bit_get _ _ (by omega)]; simp
  unfold half
  rw [h0]
  apply BitVec.eq_of_getLsbD_eq
  intro j hj
  simp only [Bool.false_eq_true, if_false, BitVec.xor_zero, BitVec.getLsbD_ushiftRight]
  rw [bit_get i j hj]
  by_cases h31 : 1 + j < 32
  · rw [bit_get _ _ h31, decide_eq_decide]; omega
  · rw [BitVec.getLsbD_of_ge _ _ (by omega)]; simp; omega

theorem halves_bit : ∀ (i m : Nat), i < 32 → i ≤ m → halves m (1#32 <<< i) = halves (m - i) 1#32
  | 0, m, _, _ => by simp
  | i + 1, 0, _, h => by omega
  | i + 1, m + 1, h, h' => by
    simp only [halves]
    rw [half_bit i h, halves_bit i m (by omega) (by omega), Nat.add_sub_add_right]

/-- One byte's bits turned: what the sum's raw form turns by. -/
theorem raw_set : ∀ (l : List Int) (j : Nat) (c d : Int) (x : BitVec 32), j < l.length → bv d = bv (l.getD j 0) ^^^ bv c →
    raw x (l.set j d) = raw x l ^^^ steps (l.length - j) (bv c)
  | [], _, _, _, _, h, _ => by simp at h
  | a :: l, 0, c, d, x, _, hd => by
    simp only [List.set_cons_zero, raw, List.length_cons, Nat.sub_zero, steps]
    have hd' : bv d = bv a ^^^ bv c := by simpa using hd
    rw [hd', raw_steps l, raw_steps l (step (x ^^^ bv a)), ← BitVec.xor_assoc x, step_lin (x ^^^ bv a), steps_lin]
    simp only [BitVec.xor_assoc]
    rw [BitVec.xor_comm (raw 0#32 l)]
  | a :: l, j + 1, c, d, x, h, hd => by
    simp only [List.set_cons_succ, raw, List.length_cons]
    rw [raw_set l j c d (step (x ^^^ bv a)) (by simpa using h) (by simpa using hd)]
    congr 2
    omega

/-- A bit turned: in byte k / 8 the bit k % 8. -/
theorem raw_turn (l : List Int) (k : Nat) (d : Int) (x : BitVec 32) (hk : k < 8 * l.length) (hd : bv d = bv (l.getD (k / 8) 0) ^^^ (1#32 <<< (k % 8))) :
    raw x (l.set (k / 8) d) = raw x l ^^^ halves (8 * l.length - k) 1#32 := by
  have hc : bv ((2 : Int) ^ (k % 8)) = 1#32 <<< (k % 8) := by
    have : k % 8 < 8 := Nat.mod_lt _ (by omega)
    have h8 : ∀ m : Nat, m < 8 → bv ((2 : Int) ^ m) = 1#32 <<< m := by decide
    exact h8 _ this
  rw [raw_set l (k / 8) ((2 : Int) ^ (k % 8)) d x (by omega) (by rw [hc]; exact hd), hc, steps_halves, halves_bit _ _ (by omega) (by omega)]
  congr 2
  omega

/-- Behind i turned bits (those of 'bits' below i, from 'from' on). -/
theorem burst_step (l l' : List Int) (from_ i : Nat) (bits : BitVec 32) (d : Int) (x : BitVec 32) (hlen : l'.length = l.length) (hi : i < 32) (hk : from_ + i < 8 * l.length)
    (h : raw x l' = raw x l ^^^ halves (8 * l.length - from_) (low i bits)) (hb : bits.getLsbD i = true)
    (hd : bv d = bv (l'.getD ((from_ + i) / 8) 0) ^^^ (1#32 <<< ((from_ + i) % 8))) :
    raw x (l'.set ((from_ + i) / 8) d) = raw x l ^^^ halves (8 * l.length - from_) (low (i + 1) bits) := by
  rw [raw_turn l' (from_ + i) d x (by omega) hd, h, low_succ i hi, hb, if_pos rfl, halves_lin, halves_bit i _ hi (by omega), hlen, BitVec.xor_assoc]
  congr 3
  omega

theorem low_skip (i : Nat) (hi : i < 32) (bits : BitVec 32) (hb : bits.getLsbD i = false) : low (i + 1) bits = low i bits := by
  rw [low_succ i hi, hb]; simp

/-- Turned bits are seen. -/
theorem burst_seen (l l' : List Int) (m i : Nat) (bits : BitVec 32) (h : ∀ x, raw x l' = raw x l ^^^ halves m (low i bits)) : (sum l' = sum l) ↔ low i bits = 0#32 := by
  have e : sum l' = sum l ^^^ halves m (low i bits) := by
    unfold sum update
    rw [h]
    simp only [BitVec.xor_assoc]
    rw [BitVec.xor_comm (halves m _) ones]
  rw [e]
  constructor
  · intro h
    apply halves_zero m
    have := congrArg (fun y => sum l ^^^ y) h
    simp only [← BitVec.xor_assoc, BitVec.xor_self, BitVec.zero_xor] at this
    exact this
  · intro h
    rw [h, (halves_lin m).zero, BitVec.xor_zero]

end Go.Proofs.Ytjbcflbhaehncaa.Crc

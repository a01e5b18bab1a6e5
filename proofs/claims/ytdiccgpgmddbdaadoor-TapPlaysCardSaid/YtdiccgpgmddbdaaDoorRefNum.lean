/- Numbers by bytes, the lowest first; roots by trial: plain laws. No Go, no memory. -/
import Derived.Test.YtdiccgpgmddbdaaDoorShaSpec
namespace Go.Proofs.YtdiccgpgmddbdaaDoor.Num

def val : List Nat → Nat
  | [] => 0
  | d :: l => d + 256 * val l
def digs : Nat → Nat → List Nat
  | 0, _ => []
  | n + 1, x => x % 256 :: digs n (x / 256)
def Small (l : List Nat) : Prop := ∀ d ∈ l, d < 256

theorem digs_len (n x : Nat) : (digs n x).length = n := by
  induction n generalizing x with
  | zero => rfl
  | succ n ih => simp [digs, ih]
theorem digs_snoc (n x : Nat) : digs (n + 1) x = digs n x ++ [x / 256 ^ n % 256] := by
  induction n generalizing x with
  | zero => simp [digs]
  | succ n ih =>
    have h := ih (x / 256)
    rw [digs, h, digs, Nat.div_div_eq_div_mul, ← Nat.pow_succ']
    rfl
theorem digs_small (n x : Nat) : Small (digs n x) := by
  induction n generalizing x with
  | zero => intro d h; cases h
  | succ n ih =>
    intro d h
    rcases List.mem_cons.1 h with rfl | h
    · omega
    · exact ih _ d h
theorem val_digs (n x : Nat) (h : x < 256 ^ n) : val (digs n x) = x := by
  induction n generalizing x with
  | zero => simp at h; subst h; rfl
  | succ n ih =>
    rw [Nat.pow_succ] at h
    simp only [digs, val]
    rw [ih (x / 256) (by omega)]
    omega
theorem val_lt {l : List Nat} (h : Small l) : val l < 256 ^ l.length := by
  induction l with
  | nil => simp [val]
  | cons d l ih =>
    have h1 := h d (by simp)
    have h2 := ih (fun x hx => h x (by simp [hx]))
    simp only [val, List.length_cons, Nat.pow_succ]
    omega
theorem digs_val {l : List Nat} (h : Small l) : digs l.length (val l) = l := by
  induction l with
  | nil => rfl
  | cons d l ih =>
    have h1 := h d (by simp)
    have h2 := ih (fun x hx => h x (by simp [hx]))
    simp only [List.length_cons, digs, val]
    rw [show (d + 256 * val l) % 256 = d by omega, show (d + 256 * val l) / 256 = val l by omega, h2]
theorem val_set {l : List Nat} {j x : Nat} (h : j < l.length) : val (l.set j x) + l.getD j 0 * 256 ^ j = val l + x * 256 ^ j := by
  induction l generalizing j with
  | nil => simp at h
  | cons d l ih =>
    cases j with
    | zero => simp [val]; omega
    | succ j =>
      have h1 := ih (j := j) (by simpa using h)
      simp only [List.set_cons_succ, val, List.getD_cons_succ, Nat.pow_succ]
      have e : ∀ a : Nat, a * (256 ^ j * 256) = 256 * (a * 256 ^ j) := fun a => by rw [← Nat.mul_assoc, Nat.mul_comm]
      rw [e, e]
      omega
theorem val_ge (l : List Nat) (j : Nat) : l.getD j 0 * 256 ^ j ≤ val l := by
  induction l generalizing j with
  | nil => simp
  | cons d l ih =>
    cases j with
    | zero => simp [val]
    | succ j =>
      have h1 := ih j
      simp only [val, List.getD_cons_succ, Nat.pow_succ]
      have e : l.getD j 0 * (256 ^ j * 256) = 256 * (l.getD j 0 * 256 ^ j) := by rw [← Nat.mul_assoc, Nat.mul_comm]
      rw [e]
      omega
theorem val_drop (l : List Nat) (i : Nat) : val (l.drop i) = l.getD i 0 + 256 * val (l.drop (i + 1)) := by
  induction l generalizing i with
  | nil => simp [val]
  | cons d l ih =>
    cases i with
    | zero => simp [val]
    | succ i => simpa using ih i
theorem val_split (l : List Nat) (i : Nat) : val l = val (l.take i) + 256 ^ i * val (l.drop i) := by
  induction i generalizing l with
  | zero => simp [val]
  | succ i ih =>
    cases l with
    | nil => simp [val]
    | cons d l =>
      have h := ih l
      simp only [List.take_succ_cons, List.drop_succ_cons, val, Nat.pow_succ]
      have e : 256 ^ i * 256 * val (l.drop i) = 256 * (256 ^ i * val (l.drop i)) := by rw [Nat.mul_comm (256 ^ i) 256, Nat.mul_assoc]
      rw [e]
      omega
theorem val_take_lt {l : List Nat} (h : Small l) (i : Nat) : val (l.take i) < 256 ^ i := by
  have h1 : Small (l.take i) := fun d hd => h d (List.mem_of_mem_take hd)
  exact Nat.lt_of_lt_of_le (val_lt h1) (Nat.pow_le_pow_right (by omega) (List.length_take_le _ _))
theorem val_take_succ (l : List Nat) (k : Nat) : val (l.take (k + 1)) = val (l.take k) + l.getD k 0 * 256 ^ k := by
  have h1 := val_split l k
  have h2 := val_split l (k + 1)
  have h3 := val_drop l k
  rw [h3, Nat.mul_add] at h1
  rw [Nat.pow_succ] at h2
  have e : 256 ^ k * 256 * val (l.drop (k + 1)) = 256 ^ k * (256 * val (l.drop (k + 1))) := by rw [Nat.mul_assoc]
  rw [e] at h2
  rw [Nat.mul_comm (l.getD k 0)]
  omega
theorem val_take_le (l : List Nat) (k : Nat) : val (l.take k) ≤ val l := by have := val_split l k; omega
theorem val_take_all {l : List Nat} {k : Nat} (h : l.length ≤ k) : val (l.take k) = val l := by rw [List.take_of_length_le h]
theorem small_getD {l : List Nat} (h : Small l) (j : Nat) : l.getD j 0 < 256 := by
  rcases Nat.lt_or_ge j l.length with h1 | h1
  · rw [List.getD_eq_getElem?_getD, List.getElem?_eq_getElem h1]; exact h _ (List.getElem_mem h1)
  · rw [List.getD_eq_getElem?_getD, List.getElem?_eq_none h1]; simp
theorem small_of_getD {l : List Nat} (h : ∀ j, j < l.length → l.getD j 0 < 256) : Small l := by
  intro d hd
  obtain ⟨j, hj, rfl⟩ := List.getElem_of_mem hd
  have h1 := h j hj
  rwa [List.getD_eq_getElem?_getD, List.getElem?_eq_getElem hj] at h1
theorem getD_set_self {l : List Nat} {j x : Nat} (h : j < l.length) : (l.set j x).getD j 0 = x := by simp [List.getD_eq_getElem?_getD, h]
theorem getD_set_other {l : List Nat} {i j x : Nat} (h : i ≠ j) : (l.set i x).getD j 0 = l.getD j 0 := by simp [List.getD_eq_getElem?_getD, List.getElem?_set_ne h]

/-- Where two numbers part at a byte, and are alike above it. -/
theorem part_lt {a b : List Nat} (ha : Small a) {i : Nat} (h : val (a.drop (i + 1)) = val (b.drop (i + 1))) (hlt : a.getD i 0 < b.getD i 0) : val a < val b := by
  have h1 := val_split a i
  have h2 := val_split b i
  have h3 := val_take_lt ha i
  rw [val_drop a i] at h1
  rw [val_drop b i, ← h] at h2
  have e : 256 ^ i * (a.getD i 0 + 256 * val (a.drop (i + 1)) + 1) ≤ 256 ^ i * (b.getD i 0 + 256 * val (a.drop (i + 1))) := Nat.mul_le_mul_left _ (by omega)
  rw [Nat.mul_add, Nat.mul_one] at e
  omega

/-- A product's next part. -/
theorem times_step {a b c : List Nat} {i k x q : Nat} (hk : i + k < c.length) (hx : x = c.getD (i + k) 0) (hq : q = a.getD i 0 * b.getD k 0) (hv : val c = val (a.take i) * val b + a.getD i 0 * 256 ^ i * val (b.take k)) :
    val (c.set (i + k) (x + q)) = val (a.take i) * val b + a.getD i 0 * 256 ^ i * val (b.take (k + 1)) := by
  have h := val_set (x := x + q) hk
  rw [← hx, Nat.add_mul] at h
  have h2 : a.getD i 0 * 256 ^ i * (b.getD k 0 * 256 ^ k) = q * 256 ^ (i + k) := by
    rw [hq, Nat.pow_add, Nat.mul_assoc, Nat.mul_assoc, Nat.mul_left_comm (256 ^ i)]
  rw [val_take_succ, Nat.mul_add, h2]
  omega
theorem times_all {a b : List Nat} {i k : Nat} (hk : b.length ≤ k) : val (a.take i) * val b + a.getD i 0 * 256 ^ i * val (b.take k) = val (a.take (i + 1)) * val b := by
  rw [val_take_all hk, val_take_succ, Nat.add_mul]
theorem times_le (a b : List Nat) (i k : Nat) : val (a.take i) * val b + a.getD i 0 * 256 ^ i * val (b.take k) ≤ val a * val b := by
  have h1 : a.getD i 0 * 256 ^ i * val (b.take k) ≤ a.getD i 0 * 256 ^ i * val b := Nat.mul_le_mul_left _ (val_take_le b k)
  have h2 : val (a.take (i + 1)) * val b ≤ val a * val b := Nat.mul_le_mul_right _ (val_take_le a (i + 1))
  rw [val_take_succ, Nat.add_mul] at h2
  omega
/-- A carry has room. -/
theorem times_room {c : List Nat} {j n : Nat} (h : val c < 256 ^ n) (hj : 255 < c.getD j 0) : j + 1 < n := by
  have h1 := val_ge c j
  have h2 : 256 * 256 ^ j ≤ c.getD j 0 * 256 ^ j := Nat.mul_le_mul_right _ hj
  have h3 : 256 ^ (j + 1) < 256 ^ n := by rw [Nat.pow_succ]; omega
  exact (Nat.pow_lt_pow_iff_right (by omega)).1 h3
/-- A carry leaves the number as it is. -/
theorem times_carry {c : List Nat} {j x t : Nat} (hj : j + 1 < c.length) (hx : x = c.getD j 0) (ht : t = c.getD (j + 1) 0) : val ((c.set (j + 1) (t + x / 256)).set j (x % 256)) = val c := by
  have h1 := val_set (x := t + x / 256) hj
  have h2 := val_set (l := c.set (j + 1) (t + x / 256)) (j := j) (x := x % 256) (by simp; omega)
  rw [getD_set_other (by omega), ← hx] at h2
  rw [← ht, Nat.add_mul, Nat.pow_succ] at h1
  have h3 : x / 256 * (256 ^ j * 256) = 256 * (x / 256 * 256 ^ j) := by rw [← Nat.mul_assoc, Nat.mul_comm]
  have h4 : x * 256 ^ j = 256 * (x / 256 * 256 ^ j) + x % 256 * 256 ^ j := by
    have e : x = 256 * (x / 256) + x % 256 := by omega
    calc x * 256 ^ j = (256 * (x / 256) + x % 256) * 256 ^ j := by rw [← e]
      _ = _ := by rw [Nat.add_mul, Nat.mul_assoc]
  rw [h3] at h1
  omega

/-- So many bytes of a number, the highest first. -/
def put : Nat → Nat → List UInt8
  | 0, _ => []
  | k + 1, x => UInt8.ofNat (x / 256 ^ k % 256) :: put k x
theorem put_len (k x : Nat) : (put k x).length = k := by
  induction k with
  | zero => rfl
  | succ k ih => simp [put, ih]
theorem of_mod (x : Nat) : UInt8.ofNat (x % 256) = UInt8.ofNat x := by apply UInt8.toNat.inj; simp
theorem put4 (x : Nat) : put 4 x = Sha.put32 x := by
  simp only [put, Sha.put32, of_mod]
  simp
theorem put8 (x : Nat) (hx : x < 18446744073709551616) : put 8 x = Sha.put64 x := by
  have e : ∀ a b : Nat, a % 256 = b % 256 → UInt8.ofNat a = UInt8.ofNat b := fun a b h => by rw [← of_mod a, ← of_mod b, h]
  simp only [put, Sha.put64, Sha.put32, of_mod, Sha.M32, List.cons_append, List.nil_append]
  simp only [List.cons.injEq, and_true]
  refine ⟨e _ _ ?_, e _ _ ?_, e _ _ ?_, e _ _ ?_, e _ _ ?_, e _ _ ?_, e _ _ ?_, e _ _ ?_⟩ <;> omega

theorem rotr_next (x n : Nat) (hn : n < 32) : Sha.rotr x n / 2 + Sha.rotr x n % 2 * 2147483648 = Sha.rotr x (n + 1) := by
  obtain ⟨P, hP⟩ : ∃ P, P = 2 ^ n := ⟨_, rfl⟩
  obtain ⟨Q, hQ⟩ : ∃ Q, Q = 2 ^ (31 - n) := ⟨_, rfl⟩
  have hPQ : P * Q = 2147483648 := by rw [hP, hQ, ← Nat.pow_add, show n + (31 - n) = 31 by omega]
  have h1 : 2 ^ (32 - n) = 2 * Q := by rw [hQ, show 32 - n = (31 - n) + 1 by omega, Nat.pow_succ]; omega
  have h2 : 2 ^ (n + 1) = P * 2 := by rw [hP, Nat.pow_succ]
  unfold Sha.rotr
  rw [h1, h2, show 32 - (n + 1) = 31 - n by omega, ← hQ, ← hP]
  have h3 : x / (P * 2) = x / P / 2 := by rw [Nat.div_div_eq_div_mul]
  have h4 : x % (P * 2) = x % P + P * (x / P % 2) := Nat.mod_mul
  rw [h3, h4, Nat.add_mul]
  have h5 : P * (x / P % 2) * Q = x / P % 2 * 2147483648 := by rw [Nat.mul_right_comm, hPQ, Nat.mul_comm]
  have h6 : x % P * (2 * Q) = 2 * (x % P * Q) := by rw [Nat.mul_left_comm]
  rw [h5, h6]
  omega
theorem rotr_lt (x n : Nat) (hx : x < 4294967296) (hn : n < 33) : Sha.rotr x n < 4294967296 := by
  unfold Sha.rotr
  obtain ⟨P, hP⟩ : ∃ P, P = 2 ^ n := ⟨_, rfl⟩
  obtain ⟨Q, hQ⟩ : ∃ Q, Q = 2 ^ (32 - n) := ⟨_, rfl⟩
  have hPQ : P * Q = 4294967296 := by rw [hP, hQ, ← Nat.pow_add, show n + (32 - n) = 32 by omega]
  have hP0 : 0 < P := by rw [hP]; exact Nat.pow_pos (by omega)
  rw [← hP, ← hQ]
  have h1 : x / P < Q := by rw [Nat.div_lt_iff_lt_mul hP0, Nat.mul_comm]; omega
  have h2 : x % P + 1 ≤ P := Nat.mod_lt _ hP0
  have h3 := Nat.mul_le_mul_right Q h2
  rw [hPQ, Nat.add_mul] at h3
  omega
theorem rotr_zero (x : Nat) : Sha.rotr x 0 = x := by simp [Sha.rotr, Nat.mod_one]

def half (x n : Nat) : Nat := x / 2 ^ n
theorem half_next (x n : Nat) : half x (n + 1) = half x n / 2 := by unfold half; rw [Nat.pow_succ, Nat.div_div_eq_div_mul]
theorem half_le (x n : Nat) : half x n ≤ x := Nat.div_le_self _ _

/-- The greatest number whose k-th power is at most a prime times 2^(32k), bit by bit: so many bits are left. -/
def rootFrom (p k : Nat) : Nat → Nat → Nat
  | 0, r => r
  | n + 1, r => rootFrom p k n (if (r + 2 ^ n) ^ k ≤ p * 2 ^ (32 * k) then r + 2 ^ n else r)
def two (j : Nat) : Nat := 2 ^ j
theorem two_next (j : Nat) : two (j + 1) = two j * 2 := Nat.pow_succ 2 j
theorem two_le {j n : Nat} (h : j ≤ n) : two j ≤ two n := Nat.pow_le_pow_right (by omega) h
theorem rootFrom_next (p k n r : Nat) : rootFrom p k (n + 1) r = rootFrom p k n (if (r + two n) ^ k ≤ p * 2 ^ (32 * k) then r + two n else r) := rfl
theorem val_zeros (j : Nat) (l : List Nat) : val (List.replicate j 0 ++ l) = 256 ^ j * val l := by
  induction j with
  | zero => simp
  | succ j ih => simp only [List.replicate_succ, List.cons_append, val, ih, Nat.pow_succ]; rw [Nat.mul_comm (256 ^ j) 256, Nat.mul_assoc]; omega
theorem small_zeros {j : Nat} {l : List Nat} (h : Small l) : Small (List.replicate j 0 ++ l) := by
  intro d hd
  rcases List.mem_append.1 hd with h1 | h1
  · rw [List.eq_of_mem_replicate h1]; omega
  · exact h d h1
theorem want_val {p k : Nat} (hp : p < 4294967296) : val (List.replicate (4 * k) 0 ++ digs 8 p) = p * 2 ^ (32 * k) := by
  rw [val_zeros, val_digs 8 p (by omega), Nat.mul_comm]
  congr 1
  rw [show (256 : Nat) = 2 ^ 8 from rfl, ← Nat.pow_mul]
  congr 1
  omega
theorem power_lt {x j : Nat} (hx : x ≤ 2199023255552) : x ^ j < 256 ^ (1 + 9 * j) := by
  have h1 : x ^ j ≤ (256 ^ 9) ^ j := Nat.pow_le_pow_left (Nat.le_trans hx (by decide)) j
  rw [← Nat.pow_mul] at h1
  rw [Nat.add_comm, Nat.pow_succ]
  have : 0 < 256 ^ (9 * j) := Nat.pow_pos (by omega)
  omega
def behind (p k : Nat) : Nat := rootFrom p k 41 0 % 4294967296
/-- Is a number a prime, tried with so many divisors from one on? -/
def tried (n : Nat) : Nat → Nat → Bool
  | 0, _ => true
  | f + 1, d => if n < d * d then true else if n % d = 0 then false else tried n f (d + 1)
def prime (n : Nat) : Bool := decide (2 ≤ n) && tried n 20 2
/-- The primes from 2 on, so many numbers tried. -/
def upto : Nat → List Nat
  | 0 => []
  | m + 1 => upto m ++ if prime (m + 2) then [m + 2] else []
theorem upto_yes {m : Nat} (h : prime (m + 2) = true) : upto (m + 1) = upto m ++ [m + 2] := by simp [upto, h]
theorem upto_no {m : Nat} (h : prime (m + 2) = false) : upto (m + 1) = upto m := by simp [upto, h]
theorem upto_mono {i k : Nat} (h : i ≤ k) : (upto i).length ≤ (upto k).length := by
  induction k with
  | zero => obtain rfl : i = 0 := by omega
            exact Nat.le_refl _
  | succ k ih =>
    rcases Nat.lt_or_ge i (k + 1) with h1 | h1
    · have := ih (by omega)
      simp only [upto, List.length_append]; omega
    · obtain rfl : i = k + 1 := by omega
      exact Nat.le_refl _
set_option maxRecDepth 100000 in
theorem upto_309 : (upto 309).length = 63 := by decide +kernel
set_option maxRecDepth 100000 in
theorem upto_310 : (upto 310).length = 64 := by decide +kernel
def firsts (m : Nat) : List Nat := ((upto m).take 8).map fun p => behind p 2
def thirds (m : Nat) : List Nat := (upto m).map fun p => behind p 3
set_option maxRecDepth 100000 in
theorem thirds_all : thirds 310 = Sha.rounds := by decide +kernel
set_option maxRecDepth 100000 in
theorem firsts_all : firsts 310 = Sha.first.l := by decide +kernel
theorem thirds_len (m : Nat) : (thirds m).length = (upto m).length := by simp [thirds]
theorem firsts_len (m : Nat) : (firsts m).length = min 8 (upto m).length := by simp [firsts]
theorem thirds_yes {m : Nat} (h : prime (m + 2) = true) : thirds (m + 1) = thirds m ++ [behind (m + 2) 3] := by simp [thirds, upto_yes h]
theorem thirds_no {m : Nat} (h : prime (m + 2) = false) : thirds (m + 1) = thirds m := by simp [thirds, upto_no h]
theorem firsts_no {m : Nat} (h : prime (m + 2) = false) : firsts (m + 1) = firsts m := by simp [firsts, upto_no h]
theorem firsts_yes {m : Nat} (h : prime (m + 2) = true) (hl : (upto m).length < 8) : firsts (m + 1) = firsts m ++ [behind (m + 2) 2] := by
  unfold firsts
  rw [upto_yes h, List.take_of_length_le (by simp; omega), List.take_of_length_le (by omega)]
  simp
theorem firsts_full {m : Nat} (h : prime (m + 2) = true) (hl : 8 ≤ (upto m).length) : firsts (m + 1) = firsts m := by
  unfold firsts
  rw [upto_yes h, List.take_append_of_le_length hl]
theorem behind_lt (p k : Nat) : behind p k < 4294967296 := Nat.mod_lt _ (by decide)
end Go.Proofs.YtdiccgpgmddbdaaDoor.Num

/-
  A number m is prime, and each number below it other than 0 is a power of one, if that one's power of m - 1 is 1 and no smaller power of it, told by the primes of m - 1. No program is in sight here.
-/
namespace Go.Sym

def Pr (q : Nat) : Prop := 2 ≤ q ∧ ∀ d, d ∣ q → d = 1 ∨ d = q

theorem least {P : Nat → Prop} (h : ∃ n, P n) : ∃ n, P n ∧ ∀ k, k < n → ¬ P k := by
  obtain ⟨n, hn⟩ := h
  induction n using Nat.strongRecOn with
  | ind n ih =>
    by_cases h : ∃ k, k < n ∧ P k
    · obtain ⟨k, hk, hp⟩ := h; exact ih k hk hp
    · exact ⟨n, hn, fun k hk hp => h ⟨k, hk, hp⟩⟩
theorem prime_factor {n : Nat} (h : 2 ≤ n) : ∃ q, Pr q ∧ q ∣ n := by
  obtain ⟨q, ⟨h2, hd⟩, hl⟩ := least (P := fun q => 2 ≤ q ∧ q ∣ n) ⟨n, h, Nat.dvd_refl n⟩
  refine ⟨q, ⟨h2, fun d hdq => ?_⟩, hd⟩
  have hpos : 0 < d := Nat.pos_of_dvd_of_pos hdq (by omega)
  have hle : d ≤ q := Nat.le_of_dvd (by omega) hdq
  by_cases h1 : d = 1
  · exact Or.inl h1
  · refine Or.inr (Nat.le_antisymm hle (Nat.not_lt.1 fun hlt => ?_))
    exact hl d hlt ⟨by omega, Nat.dvd_trans hdq hd⟩
theorem Pr.euclid {q a b : Nat} (hq : Pr q) (h : q ∣ a * b) : q ∣ a ∨ q ∣ b := by
  rcases hq.2 (Nat.gcd q a) (Nat.gcd_dvd_left q a) with h1 | h1
  · exact Or.inr (Nat.Coprime.dvd_of_dvd_mul_left (show Nat.Coprime q a from h1) h)
  · exact Or.inl (h1 ▸ Nat.gcd_dvd_right q a)
def prodL : List Nat → Nat
  | [] => 1
  | q :: l => q * prodL l
theorem prime_in {q : Nat} (hq : Pr q) : ∀ {l : List Nat}, (∀ r, r ∈ l → Pr r) → q ∣ prodL l → q ∈ l
  | [], _, h => by
    have h1 := Nat.le_of_dvd (by decide) h
    have h2 := hq.1
    simp only [prodL] at h1
    omega
  | r :: l, hl, h => by
    rcases hq.euclid h with h1 | h1
    · rcases (hl r (by simp)).2 q h1 with h2 | h2
      · have := hq.1; omega
      · rw [h2]; simp
    · exact List.mem_cons_of_mem _ (prime_in hq (fun r hr => hl r (List.mem_cons_of_mem _ hr)) h1)

/-- Powers of g: the first that is 1 is that of m - 1. -/
def Gen (m g : Nat) : Prop := 2 ≤ m ∧ g ^ (m - 1) % m = 1 ∧ ∀ k, 0 < k → k < m - 1 → g ^ k % m ≠ 1

theorem pow_mod_mul {g m a b : Nat} (h : g ^ a % m = 1) : (g ^ a) ^ b % m = 1 % m := by
  rw [Nat.pow_mod, h, Nat.one_pow]
theorem pratt {m g : Nat} (l : List Nat) (hm : 3 ≤ m) (hl : ∀ q, q ∈ l → Pr q) (hp : prodL l = m - 1) (h1 : g ^ (m - 1) % m = 1) (hq : ∀ q, q ∈ l → g ^ ((m - 1) / q) % m ≠ 1) : Gen m g := by
  refine ⟨by omega, h1, ?_⟩
  obtain ⟨d, ⟨hd0, hd1⟩, hmin⟩ := least (P := fun d => 0 < d ∧ g ^ d % m = 1) ⟨m - 1, by omega, h1⟩
  have one : (1 : Nat) % m = 1 := Nat.mod_eq_of_lt (by omega)
  have hdvd : d ∣ m - 1 := by
    rcases Nat.eq_zero_or_pos ((m - 1) % d) with h | h
    · exact Nat.dvd_of_mod_eq_zero h
    · exfalso
      refine hmin ((m - 1) % d) (Nat.mod_lt _ hd0) ⟨h, ?_⟩
      have e : g ^ (m - 1) = (g ^ d) ^ ((m - 1) / d) * g ^ ((m - 1) % d) := by
        rw [← Nat.pow_mul, ← Nat.pow_add, Nat.div_add_mod]
      rw [e, Nat.mul_mod, pow_mod_mul hd1, one, Nat.one_mul, Nat.mod_mod] at h1
      exact h1
  obtain ⟨c, hc⟩ := hdvd
  have hc1 : c = 1 := by
    rcases Nat.lt_or_ge c 2 with h | h
    · rcases (show c = 0 ∨ c = 1 by omega) with h0 | h0
      · rw [h0] at hc; omega
      · exact h0
    · exfalso
      obtain ⟨q, hqp, c', hc'⟩ := prime_factor h
      have hin : q ∈ l := prime_in hqp hl (by rw [hp, hc, hc']; exact ⟨d * c', by rw [Nat.mul_left_comm]⟩)
      refine hq q hin ?_
      have hq0 : 0 < q := by have := hqp.1; omega
      have e : (m - 1) / q = d * c' := by
        rw [hc, hc', Nat.mul_left_comm, Nat.mul_div_cancel_left _ hq0]
      rw [e, Nat.pow_mul, pow_mod_mul hd1, one]
  rw [hc1, Nat.mul_one] at hc
  intro k hk0 hk hk1
  exact hmin k (by omega) ⟨hk0, hk1⟩

theorem surj : ∀ (n : Nat) (f : Nat → Nat), (∀ i, i < n → f i < n) → (∀ i j, i < n → j < n → f i = f j → i = j) → ∀ y, y < n → ∃ x, x < n ∧ f x = y
  | 0, _, _, _, y, hy => absurd hy (Nat.not_lt_zero y)
  | n + 1, f, hf, inj, y, hy => by
    have ih := surj n (fun i => if f i = n then f n else f i) (fun i hi => by
      show (if f i = n then f n else f i) < n
      have h1 := hf i (by omega)
      have h2 := hf n (by omega)
      split
      · have : f n ≠ n := fun e => by have := inj i n (by omega) (by omega) (by omega); omega
        omega
      · omega) (fun i j hi hj h => by
      have h' : (if f i = n then f n else f i) = (if f j = n then f n else f j) := h
      split at h' <;> split at h'
      · exact inj i j (by omega) (by omega) (by omega)
      · have := inj n j (by omega) (by omega) h'; omega
      · have := inj i n (by omega) (by omega) h'; omega
      · exact inj i j (by omega) (by omega) h')
    by_cases hyn : y = n
    · by_cases hfn : f n = n
      · exact ⟨n, by omega, by omega⟩
      · have h2 := hf n (by omega)
        obtain ⟨x, hx, he⟩ := ih (f n) (by omega)
        have he' : (if f x = n then f n else f x) = f n := he
        split at he'
        · exact ⟨x, by omega, by omega⟩
        · have := inj x n (by omega) (by omega) he'; omega
    · obtain ⟨x, hx, he⟩ := ih y (by omega)
      have he' : (if f x = n then f n else f x) = y := he
      split at he'
      · exact ⟨n, by omega, he'⟩
      · exact ⟨x, by omega, he'⟩

theorem Gen.unit {m g k : Nat} (h : Gen m g) (hk : k ≤ m - 1) : g ^ k * g ^ (m - 1 - k) % m = 1 := by
  rw [← Nat.pow_add, show k + (m - 1 - k) = m - 1 by omega]; exact h.2.1
theorem Gen.inj {m g i j : Nat} (h : Gen m g) (hij : i < j) (hj : j < m - 1) : g ^ i % m ≠ g ^ j % m := fun e => by
  refine h.2.2 (j - i) (by omega) (by omega) ?_
  have e1 := h.unit (k := i) (by omega)
  rw [Nat.mul_mod, e, ← Nat.mul_mod, show g ^ j = g ^ i * g ^ (j - i) by rw [← Nat.pow_add, Nat.add_sub_cancel' (by omega)], Nat.mul_right_comm, Nat.mul_mod, h.unit (by omega), Nat.one_mul, Nat.mod_mod] at e1
  exact e1
theorem Gen.cover {m g n : Nat} (h : Gen m g) (h0 : 0 < n) (hn : n < m) : ∃ k, k < m - 1 ∧ g ^ k % m = n := by
  have nz : ∀ k, k < m - 1 → 0 < g ^ k % m := fun k hk => by
    rcases Nat.eq_zero_or_pos (g ^ k % m) with e | e
    · have e1 := h.unit (k := k) (by omega)
      rw [Nat.mul_mod, e, Nat.zero_mul, Nat.zero_mod] at e1
      omega
    · exact e
  have hm : 0 < m := by omega
  obtain ⟨k, hk, e⟩ := surj (m - 1) (fun k => g ^ k % m - 1) (fun i _ => by
    show g ^ i % m - 1 < m - 1
    have := Nat.mod_lt (g ^ i) hm
    have := h.1
    omega) (fun i j hi hj e => by
    have e' : g ^ i % m - 1 = g ^ j % m - 1 := e
    have a := nz i hi
    have b := nz j hj
    rcases Nat.lt_trichotomy i j with c | c | c
    · exact absurd (by omega) (h.inj c hj)
    · exact c
    · exact absurd (by omega) (h.inj c hi)) (n - 1) (by omega)
  have e' : g ^ k % m - 1 = n - 1 := e
  exact ⟨k, hk, by have := nz k hk; omega⟩
theorem Gen.prime {m g : Nat} (h : Gen m g) : Pr m := by
  refine ⟨h.1, fun d hd => ?_⟩
  have hm := h.1
  have h0 : 0 < d := Nat.pos_of_dvd_of_pos hd (by omega)
  have hle : d ≤ m := Nat.le_of_dvd (by omega) hd
  by_cases he : d = m
  · exact Or.inr he
  · left
    obtain ⟨k, hk, e⟩ := h.cover h0 (by omega)
    have e1 := h.unit (k := k) (by omega)
    rw [Nat.mul_mod, e, Nat.mul_mod_mod] at e1
    have e2 := Nat.div_add_mod (d * g ^ (m - 1 - k)) m
    rw [e1] at e2
    have : d ∣ 1 := (Nat.dvd_add_right (Nat.dvd_trans hd (Nat.dvd_mul_right _ _))).1 (by rw [e2]; exact Nat.dvd_mul_right _ _)
    exact Nat.dvd_one.1 this

/-! ### powers, reckoned -/
def pm (m : Nat) : Nat → Nat → Nat → Nat
  | 0, _, _ => 1 % m
  | f + 1, b, e => if e % 2 = 1 then pm m f (b * b % m) (e / 2) * b % m else pm m f (b * b % m) (e / 2)
theorem pm_eq (m : Nat) : ∀ (f b e : Nat), e < 2 ^ f → pm m f b e = b ^ e % m
  | 0, b, e, h => by
    have : e = 0 := by simpa using h
    rw [this]; rfl
  | f + 1, b, e, h => by
    have ih := pm_eq m f (b * b % m) (e / 2) (by rw [Nat.pow_succ] at h; omega)
    have e1 : (b * b % m) ^ (e / 2) % m = b ^ (2 * (e / 2)) % m := by
      rw [← Nat.pow_mod, show b * b = b ^ 2 by rw [Nat.pow_two], Nat.pow_mul]
    unfold pm
    rw [ih, e1]
    split
    · rename_i h1
      rw [Nat.mod_mul_mod, ← Nat.pow_succ, show (2 * (e / 2)).succ = e by omega]
    · rw [show 2 * (e / 2) = e by omega]
/-- The whole of the check, reckoned. -/
def prattB (m g : Nat) (l : List Nat) : Bool := prodL l == m - 1 && pm m 256 g (m - 1) == 1 && l.all fun q => !(pm m 256 g ((m - 1) / q) == 1)
theorem prattB_gen {m g : Nat} {l : List Nat} (hm : 3 ≤ m) (hs : m - 1 < 2 ^ 256) (hl : ∀ q, q ∈ l → Pr q) (h : prattB m g l = true) : Gen m g := by
  unfold prattB at h
  simp only [Bool.and_eq_true, beq_iff_eq, List.all_eq_true, Bool.not_eq_true'] at h
  obtain ⟨⟨h1, h2⟩, h3⟩ := h
  rw [pm_eq _ _ _ _ hs] at h2
  refine pratt l hm hl h1 h2 fun q hq e => ?_
  have := h3 q hq
  rw [pm_eq _ _ _ _ (Nat.lt_of_le_of_lt (Nat.div_le_self _ _) hs), e] at this
  simp at this
/-- Small primes, by trying. -/
def tryB (m : Nat) : Nat → Nat → Bool
  | 0, _ => false
  | f + 1, d => if m < d * d then true else !(m % d == 0) && tryB m f (d + 1)
theorem tryB_no {m : Nat} : ∀ (f d : Nat), tryB m f d = true → ∀ k, d ≤ k → k * k ≤ m → ¬ k ∣ m
  | 0, _, h, _, _, _ => by simp [tryB] at h
  | f + 1, d, h, k, h1, h2 => by
    unfold tryB at h
    split at h
    · rename_i h3
      have := Nat.mul_le_mul h1 h1
      omega
    · simp only [Bool.and_eq_true, Bool.not_eq_true', beq_eq_false_iff_ne] at h
      rcases Nat.lt_or_ge d k with h4 | h4
      · exact tryB_no f (d + 1) h.2 k h4 h2
      · obtain rfl : k = d := by omega
        exact fun hd => h.1 (Nat.mod_eq_zero_of_dvd hd)
theorem pr_small {m : Nat} (f : Nat) (h2 : 2 ≤ m) (h : tryB m f 2 = true) : Pr m := by
  refine ⟨h2, fun d hd => ?_⟩
  obtain ⟨c, hc⟩ := hd
  have no := tryB_no f 2 h
  have hd0 : 0 < d := by rcases Nat.eq_zero_or_pos d with e | e; · rw [e, Nat.zero_mul] at hc; omega
                         · exact e
  have hc0 : 0 < c := by rcases Nat.eq_zero_or_pos c with e | e; · rw [e, Nat.mul_zero] at hc; omega
                         · exact e
  rcases Nat.lt_or_ge d 2 with h3 | h3
  · left; omega
  · rcases Nat.lt_or_ge c 2 with h4 | h4
    · right
      obtain rfl : c = 1 := by omega
      omega
    · exfalso
      rcases Nat.le_total d c with h5 | h5
      · exact no d h3 (by rw [hc]; exact Nat.mul_le_mul_left _ h5) ⟨c, hc⟩
      · exact no c h4 (by rw [hc]; exact Nat.mul_le_mul_right _ h5) ⟨d, by rw [hc, Nat.mul_comm]⟩
end Go.Sym

/-
  Words as bytes: plain functions on lists of bytes, no program.
-/
namespace Go.Proofs.YtahaaeenbahknaaRRRR
namespace Wd

/-- a number's bytes, the highest first, as few as may be (k at most) -/
def be : Nat → Nat → List UInt8
  | 0, _ => []
  | k + 1, n => if n = 0 then [] else be k (n / 256) ++ [UInt8.ofNat (n % 256)]
/-- what bytes say, the highest first -/
def rd (l : List UInt8) : Nat := l.foldl (fun n c => n * 256 + c.toNat) 0
/-- just k bytes -/
def fix : Nat → Nat → List UInt8
  | 0, _ => []
  | k + 1, n => fix k (n / 256) ++ [UInt8.ofNat (n % 256)]
/-- no nought ahead -/
def tight : List UInt8 → Bool
  | [] => true
  | c :: _ => c != 0

theorem rd_nil : rd [] = 0 := rfl
theorem rd_snoc (l : List UInt8) (c : UInt8) : rd (l ++ [c]) = rd l * 256 + c.toNat := by unfold rd; rw [List.foldl_append]; rfl
theorem foldl_rd (l : List UInt8) : ∀ a : Nat, l.foldl (fun n c => n * 256 + c.toNat) a = a * 256 ^ l.length + rd l := by
  induction l with
  | nil => intro a; simp [rd]
  | cons c l ih =>
    intro a
    unfold rd
    rw [List.foldl_cons, List.foldl_cons, ih, ih (0 * 256 + c.toNat), List.length_cons, Nat.pow_succ, Nat.add_mul, Nat.zero_mul, Nat.zero_add, Nat.mul_assoc, Nat.mul_comm 256, Nat.add_assoc]
theorem rd_cons (c : UInt8) (l : List UInt8) : rd (c :: l) = c.toNat * 256 ^ l.length + rd l := by
  show l.foldl (fun n c => n * 256 + c.toNat) (0 * 256 + c.toNat) = _
  rw [foldl_rd, Nat.zero_mul, Nat.zero_add]
theorem rd_lt : ∀ (l : List UInt8), rd l < 256 ^ l.length
  | [] => by simp [rd]
  | c :: l => by
    have h := rd_lt l
    have hc := c.toNat_lt
    rw [rd_cons, List.length_cons, Nat.pow_succ]
    have : c.toNat * 256 ^ l.length ≤ 255 * 256 ^ l.length := Nat.mul_le_mul_right _ (by omega)
    omega
theorem be_succ (k n : Nat) : be (k + 1) n = if n = 0 then [] else be k (n / 256) ++ [UInt8.ofNat (n % 256)] := rfl
theorem be_zero (k : Nat) : be k 0 = [] := by cases k <;> simp [be]
theorem be_length : ∀ (k n : Nat), (be k n).length ≤ k
  | 0, _ => by simp [be]
  | k + 1, n => by
    have := be_length k (n / 256)
    rw [be_succ]
    split <;> simp; omega
theorem byte_mod (n : Nat) : (UInt8.ofNat (n % 256)).toNat = n % 256 := by simp
theorem rd_be : ∀ (k n : Nat), n < 256 ^ k → rd (be k n) = n
  | 0, n, h => by
    have : n = 0 := by simpa using h
    subst this; rfl
  | k + 1, n, h => by
    have h1 : n / 256 < 256 ^ k := by rw [Nat.pow_succ] at h; exact Nat.div_lt_of_lt_mul (by rwa [Nat.mul_comm])
    rw [be_succ]
    split
    · rename_i h0; rw [h0]; rfl
    · rw [rd_snoc, rd_be k _ h1, byte_mod]; omega
theorem be_tight : ∀ (k n : Nat), n < 256 ^ k → tight (be k n) = true
  | 0, _, _ => rfl
  | k + 1, n, h => by
    have h1 : n / 256 < 256 ^ k := by rw [Nat.pow_succ] at h; exact Nat.div_lt_of_lt_mul (by rwa [Nat.mul_comm])
    rw [be_succ]
    split
    · rfl
    · rename_i h0
      have ih := be_tight k (n / 256) h1
      by_cases hz : n / 256 = 0
      · rw [hz, be_zero]
        have hn : n % 256 = n := Nat.mod_eq_of_lt (by omega)
        have hb := byte_mod n
        simp only [List.nil_append, tight, bne_iff_ne, ne_eq]
        intro e
        rw [e] at hb
        simp at hb
        omega
      · cases hb : be k (n / 256) with
        | nil =>
          have := rd_be k _ h1
          rw [hb] at this
          exact absurd this.symm hz
        | cons c r =>
          rw [hb] at ih
          exact ih
theorem be_rd : ∀ (l : List UInt8) (k : Nat), tight l = true → l.length ≤ k → be k (rd l) = l := by
  have key : ∀ (m : Nat) (l : List UInt8) (k : Nat), l.length = m → tight l = true → l.length ≤ k → be k (rd l) = l := by
    intro m
    induction m with
    | zero =>
      intro l k hm _ _
      have : l = [] := List.eq_nil_of_length_eq_zero hm
      subst this
      rw [rd_nil, be_zero]
    | succ m ih =>
      intro l k hm ht hk
      have hne : l ≠ [] := by intro e; subst e; simp at hm
      have hl := List.dropLast_concat_getLast hne
      have hd : l.dropLast.length = m := by rw [List.length_dropLast]; omega
      have htd : tight l.dropLast = true := by
        cases l with
        | nil => rfl
        | cons c r =>
          cases r with
          | nil => rfl
          | cons d r => exact ht
      obtain ⟨k', rfl⟩ : ∃ k', k = k' + 1 := ⟨k - 1, by omega⟩
      rw [← hl, rd_snoc]
      have hc := (l.getLast hne).toNat_lt
      have hdiv : (rd l.dropLast * 256 + (l.getLast hne).toNat) / 256 = rd l.dropLast := by omega
      have hmod : (rd l.dropLast * 256 + (l.getLast hne).toNat) % 256 = (l.getLast hne).toNat := by omega
      rw [be_succ]
      rw [hdiv, hmod, ih l.dropLast k' hd htd (by omega), UInt8.ofNat_toNat, if_neg]
      intro h0
      have hlast : l.getLast hne = 0 := UInt8.toNat_inj.1 (by simp; omega)
      have hdr : rd l.dropLast = 0 := by omega
      have : l.dropLast = [] := by
        have := ih l.dropLast k' hd htd (by omega)
        rw [hdr, be_zero] at this
        exact this.symm
      rw [this, List.nil_append] at hl
      rw [← hl, hlast] at ht
      simp [tight] at ht
  exact fun l k => key l.length l k rfl
theorem fix_length : ∀ (k n : Nat), (fix k n).length = k
  | 0, _ => rfl
  | k + 1, n => by simp [fix, fix_length k]
theorem fix_zero : ∀ k, fix k 0 = List.replicate k 0
  | 0 => rfl
  | k + 1 => by rw [fix, Nat.zero_div, fix_zero k, List.replicate_succ']; rfl
theorem dropWhile_snoc (p : UInt8 → Bool) : ∀ (l : List UInt8) (c : UInt8), (l ++ [c]).dropWhile p = if l.dropWhile p = [] then [c].dropWhile p else l.dropWhile p ++ [c]
  | [], c => by simp
  | x :: l, c => by
    have ih := dropWhile_snoc p l c
    rw [List.cons_append, List.dropWhile_cons, List.dropWhile_cons]
    split
    · exact ih
    · simp
theorem fix_be : ∀ (k n : Nat), n < 256 ^ k → (fix k n).dropWhile (· == 0) = be k n
  | 0, _, _ => rfl
  | k + 1, n, h => by
    have h1 : n / 256 < 256 ^ k := by rw [Nat.pow_succ] at h; exact Nat.div_lt_of_lt_mul (by rwa [Nat.mul_comm])
    rw [fix, dropWhile_snoc, fix_be k _ h1]
    rw [be_succ]
    by_cases h0 : n = 0
    · subst h0
      rw [Nat.zero_div, be_zero, if_pos rfl, if_pos rfl]
      simp
    · rw [if_neg h0]
      by_cases hz : be k (n / 256) = []
      · rw [if_pos hz, hz]
        have hr := rd_be k _ h1
        rw [hz, rd_nil] at hr
        have hb := byte_mod n
        have hne : UInt8.ofNat (n % 256) ≠ 0 := by
          intro e
          rw [e] at hb
          simp at hb
          omega
        simp only [List.dropWhile_cons, beq_iff_eq, if_neg hne, List.nil_append]
      · rw [if_neg hz]
theorem tight_be (l : List UInt8) (k : Nat) (h : l.length ≤ k) : tight l = true ↔ be k (rd l) = l :=
  ⟨fun ht => be_rd l k ht h, fun he => by
    rw [← he]
    refine be_tight k _ (Nat.lt_of_lt_of_le (rd_lt l) (Nat.pow_le_pow_right (by omega) h))⟩
theorem be_one (k n : Nat) (h0 : 0 < n) (h1 : n < 256) : be (k + 1) n = [UInt8.ofNat n] := by
  rw [be_succ]
  rw [if_neg (by omega), show n / 256 = 0 by omega, be_zero, Nat.mod_eq_of_lt h1]; rfl
theorem be_two (k n : Nat) (h0 : 256 ≤ n) (h1 : n < 65536) : be (k + 2) n = [UInt8.ofNat (n / 256), UInt8.ofNat (n % 256)] := by
  rw [be_succ]
  rw [if_neg (by omega), be_one k (n / 256) (by omega) (by omega)]; rfl
theorem be_three (k n : Nat) (h0 : 65536 ≤ n) (h1 : n < 16777216) : be (k + 3) n = [UInt8.ofNat (n / 65536), UInt8.ofNat (n / 256 % 256), UInt8.ofNat (n % 256)] := by
  rw [be_succ]
  rw [if_neg (by omega), be_two k (n / 256) (by omega) (by omega)]
  rw [Nat.div_div_eq_div_mul]; rfl
theorem be_same (k j n : Nat) (hk : n < 256 ^ k) (hj : n < 256 ^ j) : be k n = be j n := by
  have h1 := rd_be k n hk
  have h2 := rd_be j n hj
  have := be_rd (be k n) (max k j) (be_tight k n hk) (Nat.le_trans (be_length k n) (Nat.le_max_left _ _))
  have h3 := be_rd (be j n) (max k j) (be_tight j n hj) (Nat.le_trans (be_length j n) (Nat.le_max_right _ _))
  rw [h1] at this
  rw [h2] at h3
  exact this.symm.trans h3
theorem fix_at : ∀ (k n i : Nat) (h : i < k), (fix k n)[i]'(by rw [fix_length]; exact h) = UInt8.ofNat (n / 256 ^ (k - 1 - i) % 256)
  | k + 1, n, i, h => by
    simp only [fix]
    by_cases hi : i < k
    · rw [List.getElem_append_left (by rw [fix_length]; exact hi), fix_at k (n / 256) i hi, Nat.div_div_eq_div_mul]
      rw [show k + 1 - 1 - i = (k - 1 - i) + 1 by omega, Nat.pow_succ, Nat.mul_comm 256]
    · have : i = k := by omega
      subst this
      rw [List.getElem_append_right (by rw [fix_length]; exact Nat.le_refl _)]
      simp
end Wd
end Go.Proofs.YtahaaeenbahknaaRRRR

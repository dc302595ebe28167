/-
  Nested lists of byte strings as bytes: plain functions, no program.
-/
import Derived.Test.YtahaaeenbahknaaRRRRWordP
namespace Go.Proofs.YtahaaeenbahknaaRRRR
namespace Ns

/-- items of at most d - 1 lists in one another -/
def It : Nat → Type
  | 0 => Empty
  | d + 1 => List UInt8 ⊕ List (It d)

def tx {d : Nat} (b : List UInt8) : It (d + 1) := Sum.inl b
def ls {d : Nat} (xs : List (It d)) : It (d + 1) := Sum.inr xs
theorem It.two {d : Nat} (x : It (d + 1)) : (∃ b, x = tx b) ∨ (∃ xs, x = ls xs) := by
  match x with
  | Sum.inl b => exact .inl ⟨b, rfl⟩
  | Sum.inr xs => exact .inr ⟨xs, rfl⟩
def maxBytes : Nat := 16777215
/-- the bytes ahead of a body of n bytes -/
def head (base n : Nat) : List UInt8 := if n ≤ 55 then [UInt8.ofNat (base + n)] else UInt8.ofNat (base + 55 + (Wd.be 8 n).length) :: Wd.be 8 n
def encT (b : List UInt8) : List UInt8 := if b.length = 1 ∧ rd1 b < 128 then b else head 128 b.length ++ b
where rd1 (b : List UInt8) : Nat := match b with
  | [] => 0
  | c :: _ => c.toNat
/-- an item's bytes; its body's -/
def enc : (d : Nat) → It d → List UInt8
  | 0, x => nomatch x
  | _ + 1, .inl b => encT b
  | d + 1, .inr xs => head 192 (xs.flatMap (enc d)).length ++ xs.flatMap (enc d)
def body : (d : Nat) → It d → List UInt8
  | 0, x => nomatch x
  | _ + 1, .inl b => b
  | d + 1, .inr xs => xs.flatMap (enc d)

/-- a size behind its first byte (n: what that has above the base): the size, and what is left -/
def size (n : Nat) (r : List UInt8) : Except Int (Nat × List UInt8) :=
  if n ≤ 55 then .ok (n, r)
  else if 58 < n then .error 23
  else if r.length < n - 55 then .error 22
  else if Wd.tight (r.take (n - 55)) = false ∨ Wd.rd (r.take (n - 55)) ≤ 55 then .error 23
  else .ok (Wd.rd (r.take (n - 55)), r.drop (n - 55))
/-- one after the other, up to the end -/
def many {α : Type} (f : List UInt8 → Except Int (α × List UInt8)) : Nat → List UInt8 → Except Int (List α)
  | _, [] => .ok []
  | 0, _ :: _ => .error 0
  | k + 1, c :: l => match f (c :: l) with
    | .error e => .error e
    | .ok (x, r) => match many f k r with
      | .error e => .error e
      | .ok xs => .ok (x :: xs)
/-- a byte that stands for itself; the first byte of a text -/
def low (c : UInt8) : Bool := decide (c.toNat < 128)
def short (c : UInt8) : Bool := decide (c.toNat < 192)
def textOf {d : Nat} (c : UInt8) (l : List UInt8) : Except Int (It (d + 1) × List UInt8) :=
  match size (c.toNat - 128) l with
  | .error e => .error e
  | .ok (n, r) => if r.length < n then .error 22 else if n = 1 ∧ encT.rd1 r < 128 then .error 23 else .ok (tx (r.take n), r.drop n)
def listOf {d : Nat} (f : List UInt8 → Except Int (It (d + 1) × List UInt8)) (c : UInt8) (l : List UInt8) : Except Int (It (d + 1 + 1) × List UInt8) :=
  match size (c.toNat - 192) l with
  | .error e => .error e
  | .ok (n, r) => if r.length < n then .error 22 else match many f n (r.take n) with
    | .error e => .error e
    | .ok xs => .ok (ls xs, r.drop n)
/-- the item that bytes begin with, in 8 - d lists -/
def item : (d : Nat) → List UInt8 → Except Int (It (d + 1) × List UInt8)
  | _, [] => .error 22
  | 0, c :: l => if low c = true then .ok (tx [c], l) else if short c = true then textOf c l else .error 21
  | d + 1, c :: l => if low c = true then .ok (tx [c], l) else if short c = true then textOf c l else listOf (item d) c l
/-- the item whose bytes these are -/
def dec (l : List UInt8) : Except Int (It 9) := match item 8 l with
  | .error e => .error e
  | .ok (x, []) => .ok x
  | .ok (_, _ :: _) => .error 24

/-- an item that is read -/
def fit : (d : Nat) → It (d + 1) → Prop
  | _, .inl b => b.length ≤ maxBytes
  | 0, .inr _ => False
  | d + 1, .inr xs => (xs.flatMap (enc (d + 1))).length ≤ maxBytes ∧ ∀ x ∈ xs, fit d x

theorem enc_tx (d : Nat) (b : List UInt8) : enc (d + 1) (tx b) = encT b := rfl
theorem enc_ls (d : Nat) (xs : List (It d)) : enc (d + 1) (ls xs) = head 192 (xs.flatMap (enc d)).length ++ xs.flatMap (enc d) := rfl
theorem fit_tx (d : Nat) (b : List UInt8) : fit d (tx b) = (b.length ≤ maxBytes) := by cases d <;> rfl
theorem fit_ls0 (xs : List (It 0)) : fit 0 (ls xs) = False := rfl
theorem fit_ls (d : Nat) (xs : List (It (d + 1))) : fit (d + 1) (ls xs) = ((xs.flatMap (enc (d + 1))).length ≤ maxBytes ∧ ∀ x ∈ xs, fit d x) := rfl
theorem item_nil (d : Nat) : item d [] = .error 22 := by cases d <;> rfl
theorem low_iff {c : UInt8} : low c = true ↔ c.toNat < 128 := decide_eq_true_iff
theorem short_iff {c : UInt8} : short c = true ↔ c.toNat < 192 := decide_eq_true_iff
theorem item_one (d : Nat) (c : UInt8) (l : List UInt8) (h : c.toNat < 128) : item d (c :: l) = .ok (tx [c], l) := by
  cases d <;> exact if_pos (low_iff.2 h)
theorem item_tx (d : Nat) (c : UInt8) (l : List UInt8) (h : ¬ c.toNat < 128) (h2 : c.toNat < 192) : item d (c :: l) = textOf c l := by
  have h' : ¬ low c = true := fun e => h (low_iff.1 e)
  cases d <;> exact (if_neg h').trans (if_pos (short_iff.2 h2))
theorem item_ls0 (c : UInt8) (l : List UInt8) (h : ¬ c.toNat < 192) : item 0 (c :: l) = .error 21 := by
  have h1 : ¬ low c = true := fun e => h (by have := low_iff.1 e; omega)
  have h2 : ¬ short c = true := fun e => h (short_iff.1 e)
  exact (if_neg h1).trans (if_neg h2)
theorem item_ls (d : Nat) (c : UInt8) (l : List UInt8) (h : ¬ c.toNat < 192) : item (d + 1) (c :: l) = listOf (item d) c l := by
  have h1 : ¬ low c = true := fun e => h (by have := low_iff.1 e; omega)
  have h2 : ¬ short c = true := fun e => h (short_iff.1 e)
  exact (if_neg h1).trans (if_neg h2)

theorem head_pos (base n : Nat) : 0 < (head base n).length := by unfold head; split <;> simp
theorem enc_pos : ∀ (d : Nat) (x : It d), 0 < (enc d x).length
  | 0, x => nomatch x
  | d + 1, .inl b => by
    simp only [enc, encT]
    split
    · rename_i h; omega
    · have := head_pos 128 b.length
      rw [List.length_append]; omega
  | d + 1, .inr xs => by
    have := head_pos 192 (xs.flatMap (enc d)).length
    simp only [enc, List.length_append]; omega
theorem toNat_of (n : Nat) (h : n < 256) : (UInt8.ofNat n).toNat = n := by simp; omega
theorem be_short (n : Nat) (h0 : 55 < n) (h : n ≤ maxBytes) : 1 ≤ (Wd.be 8 n).length ∧ (Wd.be 8 n).length ≤ 3 := by
  unfold maxBytes at h
  have h3 : Wd.be 8 n = Wd.be 3 n := Wd.be_same 8 3 n (by omega) (by omega)
  refine ⟨?_, by rw [h3]; exact Wd.be_length 3 n⟩
  rcases Nat.eq_zero_or_pos (Wd.be 8 n).length with h1 | h1
  · have := Wd.rd_be 8 n (by omega)
    rw [List.eq_nil_of_length_eq_zero h1, Wd.rd_nil] at this
    omega
  · exact h1
/-- a size is read back -/
theorem size_head (base n : Nat) (r : List UInt8) (hb : base + 58 < 256) (h : n ≤ maxBytes) : ∃ c t, head base n = c :: t ∧ c.toNat = base + (c.toNat - base) ∧ c.toNat ≤ base + 58 ∧ size (c.toNat - base) (t ++ r) = .ok (n, r) := by
  unfold head
  by_cases h55 : n ≤ 55
  · rw [if_pos h55]
    refine ⟨_, [], rfl, ?_, ?_, ?_⟩
    · rw [toNat_of _ (by omega)]; omega
    · rw [toNat_of _ (by omega)]; omega
    · rw [toNat_of _ (by omega), Nat.add_sub_cancel_left]
      simp [size, h55]
  · rw [if_neg h55]
    obtain ⟨h1, h3⟩ := be_short n (by omega) h
    have hlt : n < 256 ^ 8 := by unfold maxBytes at h; omega
    refine ⟨_, Wd.be 8 n, rfl, ?_, ?_, ?_⟩
    · rw [toNat_of _ (by omega)]; omega
    · rw [toNat_of _ (by omega)]; omega
    · rw [toNat_of _ (by omega)]
      have e : base + 55 + (Wd.be 8 n).length - base = 55 + (Wd.be 8 n).length := by omega
      rw [e]
      have e2 : 55 + (Wd.be 8 n).length - 55 = (Wd.be 8 n).length := by omega
      unfold size
      rw [if_neg (by omega), if_neg (by omega), e2, if_neg (by simp), List.take_left, List.drop_left, Wd.rd_be 8 n hlt, Wd.be_tight 8 n hlt, if_neg (by simp; omega)]
theorem many_nil {α : Type} (f : List UInt8 → Except Int (α × List UInt8)) (k : Nat) : many f k [] = .ok [] := by cases k <;> rfl
theorem many_enc {α : Type} (f : List UInt8 → Except Int (α × List UInt8)) (g : α → List UInt8) (hg : ∀ x, 0 < (g x).length) :
    ∀ (xs : List α) (k : Nat), (∀ x ∈ xs, ∀ r, f (g x ++ r) = .ok (x, r)) → (xs.flatMap g).length ≤ k → many f k (xs.flatMap g) = .ok xs
  | [], k, _, _ => many_nil f k
  | x :: xs, k, h, hk => by
    rw [List.flatMap_cons] at hk ⊢
    have hp := hg x
    rw [List.length_append] at hk
    obtain ⟨k', rfl⟩ : ∃ k', k = k' + 1 := ⟨k - 1, by omega⟩
    have hx := h x (List.mem_cons_self ..) (xs.flatMap g)
    cases hgx : g x with
    | nil => rw [hgx] at hp; simp at hp
    | cons c t =>
      rw [hgx, List.cons_append] at hx
      rw [List.cons_append]
      simp only [many, hx]
      rw [many_enc f g hg xs k' (fun y hy => h y (List.mem_cons_of_mem _ hy)) (by omega)]
theorem item_text (d : Nat) (b r : List UInt8) (hb : b.length ≤ maxBytes) : item d (encT b ++ r) = .ok (tx b, r) := by
  unfold encT
  by_cases h1 : b.length = 1 ∧ encT.rd1 b < 128
  · rw [if_pos h1]
    cases b with
    | nil => simp at h1
    | cons c t =>
      have ht : t = [] := List.eq_nil_of_length_eq_zero (by simpa using h1.1)
      subst ht
      exact item_one d c r h1.2
  · rw [if_neg h1]
    obtain ⟨c, t, he, hc, hc2, hs⟩ := size_head 128 b.length (b ++ r) (by omega) hb
    rw [he, List.append_assoc, List.cons_append, item_tx d c _ (by omega) (by omega)]
    unfold textOf
    rw [hs]
    simp only
    rw [if_neg (by simp), if_neg, List.take_left, List.drop_left]
    rintro ⟨h2, h3⟩
    refine h1 ⟨h2, ?_⟩
    cases b with
    | nil => simp at h2
    | cons c t => exact h3
theorem item_enc : ∀ (d : Nat) (x : It (d + 1)) (r : List UInt8), fit d x → item d (enc (d + 1) x ++ r) = .ok (x, r) := by
  intro d
  induction d with
  | zero =>
    intro x r h
    rcases It.two x with ⟨b, rfl⟩ | ⟨xs, rfl⟩
    · exact item_text 0 b r (by rwa [fit_tx] at h)
    · rw [fit_ls0] at h; exact h.elim
  | succ d ih =>
    intro x r h
    rcases It.two x with ⟨b, rfl⟩ | ⟨xs, rfl⟩
    · exact item_text (d + 1) b r (by rwa [fit_tx] at h)
    · rw [fit_ls] at h
      obtain ⟨hl, hx⟩ := h
      have hm := many_enc (item d) (enc (d + 1)) (enc_pos (d + 1)) xs _ (fun x hxm r => ih x r (hx x hxm)) (Nat.le_refl _)
      rw [enc_ls]
      obtain ⟨c, t, he, hc, hc2, hs⟩ := size_head 192 (xs.flatMap (enc (d + 1))).length (xs.flatMap (enc (d + 1)) ++ r) (by omega) hl
      rw [he, List.append_assoc, List.cons_append, item_ls d c _ (by omega)]
      unfold listOf
      rw [hs]
      simp only
      rw [if_neg (by simp), List.take_left, List.drop_left, hm]
/-- what is read is what was written -/
theorem size_ok {base m n : Nat} {t r : List UInt8} (hb : base + 63 < 256) (h : size m t = .ok (n, r)) (hm : m ≤ 63) : UInt8.ofNat (base + m) :: t = head base n ++ r ∧ n ≤ maxBytes := by
  unfold size at h
  by_cases h1 : m ≤ 55
  · rw [if_pos h1] at h
    cases h
    unfold head maxBytes
    rw [if_pos h1]
    exact ⟨rfl, by omega⟩
  · rw [if_neg h1] at h
    by_cases h2 : 58 < m
    · rw [if_pos h2] at h; cases h
    · rw [if_neg h2] at h
      by_cases h3 : t.length < m - 55
      · rw [if_pos h3] at h; cases h
      · rw [if_neg h3] at h
        by_cases h4 : Wd.tight (t.take (m - 55)) = false ∨ Wd.rd (t.take (m - 55)) ≤ 55
        · rw [if_pos h4] at h; cases h
        · rw [if_neg h4] at h
          have hk : (t.take (m - 55)).length = m - 55 := by rw [List.length_take]; omega
          have h5 : Wd.tight (t.take (m - 55)) = true := by
            cases e : Wd.tight (t.take (m - 55)) with
            | true => rfl
            | false => exact absurd (.inl e) h4
          have h6 : ¬ Wd.rd (t.take (m - 55)) ≤ 55 := fun e => h4 (.inr e)
          have hbe := Wd.be_rd (t.take (m - 55)) 8 h5 (by omega)
          have hlt := Wd.rd_lt (t.take (m - 55))
          have hpow : 256 ^ (t.take (m - 55)).length ≤ 256 ^ 3 := Nat.pow_le_pow_right (by omega) (by omega)
          cases h
          refine ⟨?_, by unfold maxBytes; omega⟩
          unfold head
          rw [if_neg h6, hbe, hk, show base + 55 + (m - 55) = base + m by omega, List.cons_append, List.take_append_drop]
theorem many_ok {α : Type} (f : List UInt8 → Except Int (α × List UInt8)) (g : α → List UInt8) (Q : α → Prop) (hf : ∀ l x r, f l = .ok (x, r) → l = g x ++ r ∧ Q x) :
    ∀ (k : Nat) (l : List UInt8) (xs : List α), many f k l = .ok xs → l = xs.flatMap g ∧ ∀ x ∈ xs, Q x
  | k, [], xs, h => by
    rw [many_nil] at h
    cases h
    exact ⟨rfl, by simp⟩
  | 0, c :: l, xs, h => by cases h
  | k + 1, c :: l, xs, h => by
    simp only [many] at h
    cases hc : f (c :: l) with
    | error e => rw [hc] at h; cases h
    | ok p =>
      obtain ⟨x, r⟩ := p
      rw [hc] at h
      simp only at h
      cases hm : many f k r with
      | error e => rw [hm] at h; cases h
      | ok ys =>
        rw [hm] at h
        cases h
        obtain ⟨h1, h2⟩ := hf _ _ _ hc
        obtain ⟨h3, h4⟩ := many_ok f g Q hf k r ys hm
        rw [List.flatMap_cons, ← h3]
        refine ⟨h1, ?_⟩
        intro y hy
        rcases List.mem_cons.1 hy with rfl | hy
        · exact h2
        · exact h4 y hy
theorem byte_eq (c : UInt8) (base : Nat) (h : base ≤ c.toNat) : UInt8.ofNat (base + (c.toNat - base)) = c := by
  rw [show base + (c.toNat - base) = c.toNat by omega, UInt8.ofNat_toNat]
theorem item_ok : ∀ (d : Nat) (l : List UInt8) (x : It (d + 1)) (r : List UInt8), item d l = .ok (x, r) → l = enc (d + 1) x ++ r ∧ fit d x := by
  have text : ∀ (d : Nat) (c : UInt8) (l : List UInt8) (x : It (d + 1)) (r : List UInt8), c.toNat < 192 → item d (c :: l) = .ok (x, r) → c :: l = enc (d + 1) x ++ r ∧ fit d x := by
    intro d c l x r h192 h
    by_cases h1 : c.toNat < 128
    · rw [item_one d c l h1] at h
      cases h
      rw [enc_tx, fit_tx]
      refine ⟨?_, by simp [maxBytes]⟩
      unfold encT
      rw [if_pos ⟨rfl, h1⟩]; rfl
    · rw [item_tx d c l h1 h192] at h
      unfold textOf at h
      cases hs : size (c.toNat - 128) l with
      | error e => rw [hs] at h; cases h
      | ok p =>
        obtain ⟨n, r1⟩ := p
        rw [hs] at h
        simp only at h
        obtain ⟨h2, h3⟩ := size_ok (base := 128) (by omega) hs (by omega)
        rw [byte_eq c 128 (by omega)] at h2
        by_cases h4 : r1.length < n
        · rw [if_pos h4] at h; cases h
        · rw [if_neg h4] at h
          by_cases h5 : n = 1 ∧ encT.rd1 r1 < 128
          · rw [if_pos h5] at h; cases h
          · rw [if_neg h5] at h
            cases h
            have hl : (r1.take n).length = n := by rw [List.length_take]; omega
            rw [enc_tx, fit_tx, hl]
            refine ⟨?_, h3⟩
            unfold encT
            rw [hl, if_neg, List.append_assoc, List.take_append_drop]
            · exact h2
            · rintro ⟨h6, h7⟩
              refine h5 ⟨h6, ?_⟩
              cases r1 with
              | nil => simp at h4; omega
              | cons y r1 =>
                subst h6
                exact h7
  intro d
  induction d with
  | zero =>
    intro l x r h
    cases l with
    | nil => rw [item_nil] at h; cases h
    | cons c l =>
      by_cases h192 : c.toNat < 192
      · exact text 0 c l x r h192 h
      · rw [item_ls0 c l h192] at h; cases h
  | succ d ih =>
    intro l x r h
    cases l with
    | nil => rw [item_nil] at h; cases h
    | cons c l =>
      by_cases h192 : c.toNat < 192
      · exact text (d + 1) c l x r h192 h
      · rw [item_ls d c l h192] at h
        unfold listOf at h
        have hc := c.toNat_lt
        cases hs : size (c.toNat - 192) l with
        | error e => rw [hs] at h; cases h
        | ok p =>
          obtain ⟨n, r1⟩ := p
          rw [hs] at h
          simp only at h
          obtain ⟨h2, h3⟩ := size_ok (base := 192) (by omega) hs (by omega)
          rw [byte_eq c 192 (by omega)] at h2
          by_cases h4 : r1.length < n
          · rw [if_pos h4] at h; cases h
          · rw [if_neg h4] at h
            cases hm : many (item d) n (r1.take n) with
            | error e => rw [hm] at h; cases h
            | ok xs =>
              rw [hm] at h
              cases h
              obtain ⟨h5, h6⟩ := many_ok (item d) (enc (d + 1)) (fit d) ih n _ xs hm
              have hl : (r1.take n).length = n := by rw [List.length_take]; omega
              rw [enc_ls, fit_ls, ← h5, hl, List.append_assoc, List.take_append_drop]
              exact ⟨h2, h3, h6⟩
theorem dec_enc (x : It 9) (h : fit 8 x) : dec (enc 9 x) = .ok x := by
  have := item_enc 8 x [] h
  rw [List.append_nil] at this
  unfold dec
  rw [this]
theorem dec_ok (l : List UInt8) (x : It 9) (h : dec l = .ok x) : l = enc 9 x ∧ fit 8 x := by
  unfold dec at h
  cases hi : item 8 l with
  | error e => rw [hi] at h; cases h
  | ok p =>
    obtain ⟨y, r⟩ := p
    rw [hi] at h
    cases r with
    | cons c r => cases h
    | nil =>
      cases h
      have := item_ok 8 l x [] hi
      rwa [List.append_nil] at this
end Ns
end Go.Proofs.YtahaaeenbahknaaRRRR

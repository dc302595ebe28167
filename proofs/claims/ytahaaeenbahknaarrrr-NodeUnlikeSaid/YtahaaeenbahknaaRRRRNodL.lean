/-
  Nodes as bytes, plain: what is written is read, what is read is written as the same bytes; no program.
-/
import Derived.Test.YtahaaeenbahknaaRRRRNodP
import Derived.Test.YtahaaeenbahknaaRRRRNibL
namespace Go.Proofs.YtahaaeenbahknaaRRRR
namespace Ns
/-- lists in one another, at most k -/
def dep : (d : Nat) → It d → Nat → Prop
  | 0, x, _ => nomatch x
  | _ + 1, .inl _, _ => True
  | _ + 1, .inr _, 0 => False
  | d + 1, .inr xs, k + 1 => ∀ x ∈ xs, dep d x k
theorem list_down {d : Nat} (xs : List (It (d + 1))) (h : ∀ x ∈ xs, ∃ y : It d, up d y = x) : ∃ ys : List (It d), ys.map (up d) = xs := by
  induction xs with
  | nil => exact ⟨[], rfl⟩
  | cons x xs ih =>
    obtain ⟨y, hy⟩ := h x (by simp)
    obtain ⟨ys, hys⟩ := ih (fun z hz => h z (by simp [hz]))
    exact ⟨y :: ys, by rw [List.map_cons, hy, hys]⟩
theorem dep_down : ∀ (k d : Nat) (x : It (d + 1)), dep (d + 1) x k → k < d → ∃ y : It d, up d y = x
  | _, 0, _, _, h => by omega
  | _, _ + 1, .inl b, _, _ => ⟨.inl b, rfl⟩
  | 0, _ + 1, .inr _, h, _ => h.elim
  | k + 1, d + 1, .inr xs, h, hk => by
    obtain ⟨ys, hys⟩ := list_down xs (fun x hx => dep_down k d x (h x hx) (by omega))
    exact ⟨.inr ys, by show Sum.inr (ys.map (up d)) = _; rw [hys]⟩
theorem dep_up : ∀ (d : Nat) (y : It d) (k : Nat), dep (d + 1) (up d y) k → dep d y k
  | 0, y, _, _ => nomatch y
  | _ + 1, .inl _, _, _ => trivial
  | _ + 1, .inr _, 0, h => h.elim
  | d + 1, .inr ys, k + 1, h => fun y hy => dep_up d y k (h (up d y) (List.mem_map.2 ⟨y, hy, rfl⟩))
theorem fit_down : ∀ (d : Nat) (x : It (d + 1)) (k : Nat), dep (d + 1) x k → k ≤ d → fit (d + 1) (up (d + 1) x) → fit d x
  | d, .inl b, _, _, _, h => by
    have h1 : b.length ≤ maxBytes := by have h2 := fit_tx (d + 1) b; exact h2 ▸ (show fit (d + 1) (tx b) from h)
    have h2 := fit_tx d b
    exact (h2 ▸ h1 : fit d (tx b))
  | _, .inr _, 0, h, _, _ => h.elim
  | 0, .inr _, k + 1, _, h, _ => by omega
  | d + 1, .inr xs, k + 1, hd, hk, h => by
    obtain ⟨h1, h2⟩ := (show ((xs.map (up (d + 1))).flatMap (enc (d + 1 + 1))).length ≤ maxBytes ∧ ∀ x ∈ xs.map (up (d + 1)), fit (d + 1) x from h)
    have e : (xs.map (up (d + 1))).flatMap (enc (d + 1 + 1)) = xs.flatMap (enc (d + 1)) := by
      rw [List.flatMap_map]
      congr 1
      funext x
      exact enc_up (d + 1) x
    exact ⟨by rw [← e]; exact h1, fun x hx => fit_down d x k (hd x hx) (by omega) (h2 _ (List.mem_map.2 ⟨x, hx, rfl⟩))⟩
theorem isList_up : ∀ (d : Nat) (y : It d), isList (up d y) = isList y
  | 0, y => nomatch y
  | _ + 1, .inl _ => rfl
  | _ + 1, .inr _ => rfl
theorem dep_text {d : Nat} (x : It d) (h : isList x = false) (k : Nat) : dep d x k := by
  match d, x with
  | 0, x => exact nomatch x
  | _ + 1, .inl _ => cases k <;> trivial
  | _ + 1, .inr _ => cases h
theorem text_eq {d : Nat} (x : It (d + 1)) (h : isList x = false) : x = tx (bytesOf x) := by
  match x with
  | .inl _ => rfl
  | .inr _ => cases h
theorem flat_ge {d : Nat} (xs : List (It d)) : xs.length ≤ (xs.flatMap (enc d)).length := by
  induction xs with
  | nil => simp
  | cons x xs ih =>
    rw [List.flatMap_cons, List.length_append, List.length_cons]
    have := enc_pos d x
    omega
theorem flat_mem {d : Nat} (xs : List (It d)) (x : It d) (hx : x ∈ xs) : (enc d x).length + xs.length ≤ (xs.flatMap (enc d)).length + 1 := by
  induction xs with
  | nil => cases hx
  | cons y ys ih =>
    rw [List.flatMap_cons, List.length_append, List.length_cons]
    rcases List.mem_cons.1 hx with rfl | hx
    · have := flat_ge ys; omega
    · have := ih hx; have := enc_pos d y; omega
theorem flat_le {d : Nat} (K : Nat) (xs : List (It d)) (h : ∀ x ∈ xs, (enc d x).length ≤ K) : (xs.flatMap (enc d)).length ≤ xs.length * K := by
  induction xs with
  | nil => simp
  | cons y ys ih =>
    rw [List.flatMap_cons, List.length_append, List.length_cons, Nat.add_mul]
    have := ih (fun x hx => h x (by simp [hx]))
    have := h y (by simp)
    omega
theorem head_le (base n : Nat) : (head base n).length ≤ 9 := by
  unfold head
  split
  · simp
  · have := Wd.be_length 8 n
    simp only [List.length_cons]; omega
theorem enc_tx_le (d : Nat) (b : List UInt8) : (enc (d + 1) (tx b)).length ≤ b.length + 9 := by
  rw [enc_tx]
  unfold encT
  split
  · omega
  · have := head_le 128 b.length
    rw [List.length_append]; omega
end Ns
namespace Nd
theorem dec_some {b : List UInt8} {n : No} (h : dec b = some n) : ∃ xs, Ns.dec b = .ok (.inr xs) ∧ shape xs = (n, true) ∧ right dec n = true := by
  rw [dec_eq] at h
  cases hd : Ns.dec b with
  | error e => rw [hd] at h; cases h
  | ok x =>
    rw [hd] at h
    cases x with
    | inl _ => cases h
    | inr xs =>
      simp only at h
      by_cases hc : (shape xs).2 = true ∧ right dec (shape xs).1 = true
      · rw [if_pos hc] at h
        injection h with h
        exact ⟨xs, rfl, by rw [← h, ← hc.1], by rw [← h]; exact hc.2⟩
      · rw [if_neg hc] at h; cases h
theorem dec_of {b : List UInt8} {xs : List (Ns.It 8)} {n : No} (h1 : Ns.dec b = .ok (.inr xs)) (h2 : shape xs = (n, true)) (h3 : right dec n = true) : dec b = some n := by
  rw [dec_eq, h1]
  simp only
  rw [h2, if_pos ⟨rfl, h3⟩]
theorem list_snoc {α : Type} (xs : List α) (h : xs.length = 17) : ∃ l z, xs = l ++ [z] ∧ l.length = 16 := by
  refine ⟨xs.take 16, xs[16]'(by omega), ?_, by simp; omega⟩
  have h17 : xs.take 17 = xs := List.take_of_length_le (by omega)
  rw [← List.take_succ_eq_append_getElem (by omega), h17]
/-- what bytes' items may be -/
theorem shape_cases {xs : List (Ns.It 8)} {n : No} (h : shape xs = (n, true)) :
    (∃ p o : Ns.It 8, ∃ q, xs = [p, o] ∧ isList p = false ∧ Nib.unpack (bytesOf p) = some (q, true) ∧ isList o = false ∧ n = ⟨1, q, bytesOf o, rf0, []⟩) ∨
    (∃ p o : Ns.It 8, ∃ q, xs = [p, o] ∧ isList p = false ∧ Nib.unpack (bytesOf p) = some (q, false) ∧ (refOf o).2 = true ∧ n = ⟨2, q, [], (refOf o).1, []⟩) ∨
    (∃ (l : List (Ns.It 8)) (z : Ns.It 8), xs = l ++ [z] ∧ l.length = 16 ∧ isList z = false ∧ (∀ x ∈ l, (refOf x).2 = true) ∧ n = ⟨3, [], bytesOf z, rf0, l.map fun x => (refOf x).1⟩) := by
  unfold shape at h
  split at h
  · rename_i p o
    unfold two at h
    split at h
    · cases h
    · rename_i hc
      have hp : isList p = false := by
        cases e : isList p with
        | false => rfl
        | true => exact absurd (.inr e) hc
      have hu : (Nib.unpack (bytesOf p)).isSome = true := by
        cases e : (Nib.unpack (bytesOf p)).isSome with
        | true => rfl
        | false => exact absurd (.inl e) hc
      obtain ⟨⟨q, lf⟩, hq⟩ := Option.isSome_iff_exists.1 hu
      have hB : Nib.unpackB (bytesOf p) = lf := by simp [Nib.unpackB, hq]
      have hL : Nib.unpackL (bytesOf p) = q := by simp [Nib.unpackL, hq]
      rw [hB, hL] at h
      cases lf with
      | true =>
        rw [if_pos rfl] at h
        simp only [Prod.mk.injEq, Bool.not_eq_true'] at h
        exact .inl ⟨p, o, q, rfl, hp, hq, h.2, h.1.symm⟩
      | false =>
        rw [if_neg (by simp)] at h
        simp only [Prod.mk.injEq] at h
        exact .inr (.inl ⟨p, o, q, rfl, hp, hq, h.2, h.1.symm⟩)
  · split at h
    · rename_i h17
      obtain ⟨l, z, rfl, hl⟩ := list_snoc xs h17
      have e1 : (l ++ [z]).take 16 = l := by rw [← hl, List.take_left]
      have e2 : (l ++ [z])[16]'(by omega) = z := by rw [List.getElem_append_right (by omega)]; simp [hl]
      rw [e1, e2] at h
      unfold many at h
      simp only [Prod.mk.injEq, Bool.and_eq_true, Bool.not_eq_true', List.all_eq_true] at h
      exact .inr (.inr ⟨l, z, rfl, hl, h.2.1, h.2.2, h.1.symm⟩)
    · cases h
theorem enc_item_eq (xs : List (Ns.It 8)) : Ns.enc 9 (.inr xs) = Ns.head 192 (xs.flatMap (Ns.enc 8)).length ++ xs.flatMap (Ns.enc 8) := rfl
theorem enc_item_len (xs : List (Ns.It 8)) : xs.length < (Ns.enc 9 (.inr xs)).length := by
  rw [enc_item_eq, List.length_append]
  have h1 := Ns.head_pos 192 (xs.flatMap (Ns.enc 8)).length
  have h2 := Ns.flat_ge xs
  omega
/-- a branch has 18 bytes or more -/
theorem branch_long {b : List UInt8} {n : No} (h : dec b = some n) (hk : n.kind = 3) : 18 ≤ b.length := by
  obtain ⟨xs, hd, hs, _⟩ := dec_some h
  obtain ⟨rfl, _⟩ := Ns.dec_ok b _ hd
  have h2 := enc_item_len xs
  rcases shape_cases hs with ⟨p, o, q, _, _, _, _, rfl⟩ | ⟨p, o, q, _, _, _, _, rfl⟩ | ⟨l, z, rfl, hl, _, _, _⟩
  · exact absurd hk (by simp)
  · exact absurd hk (by simp)
  · have h3 : (l ++ [z]).length = 17 := by rw [List.length_append, hl]; rfl
    omega
/-- a list as item: its reference, and what its bytes say -/
theorem refOf_list {x : Ns.It 8} (h : isList x = true) : refOf x = (⟨1, z32, Ns.enc 8 x⟩, decide ((Ns.enc 8 x).length < 32)) := by unfold refOf; rw [if_pos h]
theorem dec_up (x : Ns.It 8) (h : Ns.fit 7 x) : Ns.dec (Ns.enc 8 x) = .ok (Ns.up 8 x) := by
  rw [← Ns.enc_up 8 x]
  exact Ns.dec_enc _ (Ns.fit_up 7 x h)
theorem rightRef_inline {D : List UInt8 → Option No} {r : Rf} (h : rightRef D r = true) (hk : r.kind = 1) : r.dig = z32 ∧ r.inl.length < 32 ∧ ∃ m, D r.inl = some m := by
  unfold rightRef at h
  rw [if_neg (by omega), if_neg (by omega), if_pos hk] at h
  have := of_decide_eq_true h
  exact ⟨this.1, this.2.1, Option.isSome_iff_exists.1 this.2.2⟩
theorem right_ext {D : List UInt8 → Option No} {n : No} (h : right D n = true) (hk : n.kind = 2) : n.path.length ≤ 64 ∧ Nib.right n.path = true ∧ 0 < n.path.length ∧ n.value.length = 0 ∧ n.kids.length = 0 ∧ rightRef D n.child = true ∧ branchOf D n.child = true := by
  unfold right at h
  by_cases hc : 64 < n.path.length ∨ Nib.right n.path = false ∨ 256 < n.value.length
  · rw [if_pos hc] at h; cases h
  · rw [if_neg hc] at h
    rw [if_neg (show ¬ n.kind = 1 by omega), if_pos hk] at h
    have hh := of_decide_eq_true h
    simp only [not_or, Bool.not_eq_false] at hc
    exact ⟨by omega, hc.2.1, hh.1, hh.2.1, hh.2.2.1, hh.2.2.2.1, hh.2.2.2.2⟩
theorem right_leaf {D : List UInt8 → Option No} {n : No} (h : right D n = true) (hk : n.kind = 1) : n.path.length ≤ 64 ∧ Nib.right n.path = true ∧ 0 < n.value.length ∧ n.value.length ≤ 256 ∧ none n.child = true ∧ n.kids.length = 0 := by
  unfold right at h
  by_cases hc : 64 < n.path.length ∨ Nib.right n.path = false ∨ 256 < n.value.length
  · rw [if_pos hc] at h; cases h
  · rw [if_neg hc] at h
    rw [if_pos hk] at h
    have hh := of_decide_eq_true h
    simp only [not_or, Bool.not_eq_false] at hc
    exact ⟨by omega, hc.2.1, hh.1, by omega, hh.2.1, hh.2.2⟩
theorem right_branch {D : List UInt8 → Option No} {n : No} (h : right D n = true) (hk : n.kind = 3) : n.path.length = 0 ∧ n.value.length ≤ 256 ∧ none n.child = true ∧ n.kids.length = 16 ∧ (∀ r ∈ n.kids, rightRef D r = true) := by
  unfold right at h
  by_cases hc : 64 < n.path.length ∨ Nib.right n.path = false ∨ 256 < n.value.length
  · rw [if_pos hc] at h; cases h
  · rw [if_neg hc] at h
    rw [if_neg (show ¬ n.kind = 1 by omega), if_neg (show ¬ n.kind = 2 by omega), if_pos hk] at h
    have hh := of_decide_eq_true h
    simp only [not_or, Bool.not_eq_false] at hc
    exact ⟨hh.1, by omega, hh.2.1, hh.2.2.1, List.all_eq_true.1 hh.2.2.2.1⟩
theorem right_kind {D : List UInt8 → Option No} {n : No} (h : right D n = true) : n.kind = 1 ∨ n.kind = 2 ∨ n.kind = 3 := by
  unfold right at h
  split at h
  · cases h
  · split at h
    · exact .inl ‹_›
    · split at h
      · exact .inr (.inl ‹_›)
      · split at h
        · exact .inr (.inr ‹_›)
        · cases h
theorem branch_inline {r : Rf} (h : branchOf dec r = true) (hk : r.kind = 1) {m : No} (hm : dec r.inl = some m) : m.kind = 3 := by
  unfold branchOf at h
  rw [if_pos hk, hm] at h
  exact of_decide_eq_true h
/-- few bytes: no list in the list -/
theorem flat1 {b : List UInt8} {n : No} (h : dec b = some n) (hb : b.length < 18) : ∃ xs, Ns.dec b = .ok (.inr xs) ∧ ∀ x ∈ xs, isList x = false := by
  obtain ⟨xs, hd, hs, hr⟩ := dec_some h
  refine ⟨xs, hd, ?_⟩
  obtain ⟨hbe, hf⟩ := Ns.dec_ok b _ hd
  rcases shape_cases hs with ⟨p, o, q, rfl, h1, h2, h3, rfl⟩ | ⟨p, o, q, rfl, h1, h2, h3, rfl⟩ | ⟨l, z, rfl, hl, _, _, rfl⟩
  · intro x hx
    simp only [List.mem_cons, List.not_mem_nil, or_false] at hx
    rcases hx with rfl | rfl
    · exact h1
    · exact h3
  · intro x hx
    simp only [List.mem_cons, List.not_mem_nil, or_false] at hx
    rcases hx with rfl | rfl
    · exact h1
    · cases hl : isList x with
      | false => rfl
      | true =>
        obtain ⟨_, _, _, _, _, hrr, hbo⟩ := right_ext hr rfl
        simp only [refOf_list hl] at hrr hbo
        obtain ⟨_, _, m, hm⟩ := rightRef_inline hrr rfl
        have hmk := branch_inline hbo rfl hm
        have : 18 ≤ (Ns.enc 8 x).length := branch_long hm hmk
        have hlen := Ns.flat_mem [p, x] x (by simp)
        rw [hbe, enc_item_eq, List.length_append] at hb
        have h0 := Ns.head_pos 192 ([p, x].flatMap (Ns.enc 8)).length
        simp only [List.length_cons, List.length_nil] at hlen
        omega
  · have := branch_long h rfl
    omega
theorem isList_dep1 {x : Ns.It 8} {ys : List (Ns.It 8)} (h : Ns.up 8 x = .inr ys) (hy : ∀ y ∈ ys, isList y = false) : Ns.dep 8 x 1 := by
  match x, h with
  | .inr xs, h =>
    intro e he
    have h' : xs.map (Ns.up 7) = ys := by injection h
    exact Ns.dep_text e (by rw [← Ns.isList_up 7 e]; exact hy _ (h' ▸ List.mem_map.2 ⟨e, he, rfl⟩)) 0
/-- an inline branch: its items have one list at most -/
theorem flat2 {b : List UInt8} {n : No} (h : dec b = some n) (hb : b.length < 32) (hk : n.kind = 3) : ∃ xs, Ns.dec b = .ok (.inr xs) ∧ ∀ x ∈ xs, Ns.dep 8 x 1 := by
  obtain ⟨xs, hd, hs, hr⟩ := dec_some h
  refine ⟨xs, hd, ?_⟩
  obtain ⟨hbe, hf⟩ := Ns.dec_ok b _ hd
  rcases shape_cases hs with ⟨p, o, q, rfl, h1, h2, h3, rfl⟩ | ⟨p, o, q, rfl, h1, h2, h3, rfl⟩ | ⟨l, z, rfl, hl, hz, hrs, rfl⟩
  · exact absurd hk (by simp)
  · exact absurd hk (by simp)
  · intro x hx
    rcases List.mem_append.1 hx with hx' | hx'
    · cases hlx : isList x with
      | false => exact Ns.dep_text x hlx 1
      | true =>
        obtain ⟨_, _, _, _, hrr⟩ := right_branch hr rfl
        have hrx := hrr (refOf x).1 (List.mem_map.2 ⟨x, hx', rfl⟩)
        rw [refOf_list hlx] at hrx
        obtain ⟨_, _, m, hm⟩ := rightRef_inline hrx rfl
        have hlen := Ns.flat_mem (l ++ [z]) x hx
        rw [hbe, enc_item_eq, List.length_append] at hb
        have h0 := Ns.head_pos 192 ((l ++ [z]).flatMap (Ns.enc 8)).length
        rw [List.length_append, hl] at hlen
        simp only [List.length_cons, List.length_nil] at hlen
        obtain ⟨ys, hys, hyt⟩ := flat1 hm (show (Ns.enc 8 x).length < 18 by omega)
        rw [dec_up x (hf.2 x hx)] at hys
        injection hys with hys
        exact isList_dep1 hys hyt
    · simp only [List.mem_cons, List.not_mem_nil, or_false] at hx'
      subst hx'
      exact Ns.dep_text x hz 1
theorem dep2_of {x : Ns.It 8} {ys : List (Ns.It 8)} (h : Ns.up 8 x = .inr ys) (hy : ∀ y ∈ ys, Ns.dep 8 y 1) : Ns.dep 8 x 2 := by
  match x, h with
  | .inr xs, h =>
    intro e he
    have h' : xs.map (Ns.up 7) = ys := by injection h
    exact Ns.dep_up 7 e 1 (hy _ (h' ▸ List.mem_map.2 ⟨e, he, rfl⟩))
theorem dep_more : ∀ (d : Nat) (x : Ns.It d) (k : Nat), Ns.dep d x k → Ns.dep d x (k + 1)
  | 0, x, _, _ => nomatch x
  | _ + 1, .inl _, _, _ => trivial
  | _ + 1, .inr _, 0, h => h.elim
  | d + 1, .inr xs, k + 1, h => fun x hx => dep_more d x k (h x hx)
/-- an inline node's items have two lists in one another at most -/
theorem flat3 {b : List UInt8} {n : No} (h : dec b = some n) (hb : b.length < 32) : ∃ xs, Ns.dec b = .ok (.inr xs) ∧ ∀ x ∈ xs, Ns.dep 8 x 2 := by
  obtain ⟨xs, hd, hs, hr⟩ := dec_some h
  obtain ⟨hbe, hf⟩ := Ns.dec_ok b _ hd
  rcases shape_cases hs with ⟨p, o, q, rfl, h1, h2, h3, rfl⟩ | ⟨p, o, q, rfl, h1, h2, h3, rfl⟩ | ⟨l, z, rfl, hl, hz, hrs, rfl⟩
  · refine ⟨_, hd, fun x hx => ?_⟩
    simp only [List.mem_cons, List.not_mem_nil, or_false] at hx
    rcases hx with rfl | rfl
    · exact Ns.dep_text x h1 2
    · exact Ns.dep_text x h3 2
  · refine ⟨_, hd, fun x hx => ?_⟩
    simp only [List.mem_cons, List.not_mem_nil, or_false] at hx
    rcases hx with rfl | rfl
    · exact Ns.dep_text x h1 2
    · cases hl : isList x with
      | false => exact Ns.dep_text x hl 2
      | true =>
        obtain ⟨_, _, _, _, _, hrr, hbo⟩ := right_ext hr rfl
        simp only [refOf_list hl] at hrr hbo
        obtain ⟨_, h32, m, hm⟩ := rightRef_inline hrr rfl
        have hmk := branch_inline hbo rfl hm
        obtain ⟨ys, hys, hyt⟩ := flat2 hm h32 hmk
        rw [dec_up x (hf.2 x (by simp))] at hys
        injection hys with hys
        exact dep2_of hys hyt
  · obtain ⟨ys, hys, hyt⟩ := flat2 h hb rfl
    exact ⟨ys, hys, fun x hx => dep_more 8 x 1 (hyt x hx)⟩
/-- an inline node as an item -/
theorem inline_item {b : List UInt8} {n : No} (h : dec b = some n) (hb : b.length < 32) : ∃ y : Ns.It 8, Ns.dec b = .ok (Ns.up 8 y) ∧ isList y = true ∧ Ns.enc 8 y = b ∧ Ns.fit 7 y := by
  obtain ⟨xs, hd, hx⟩ := flat3 h hb
  obtain ⟨hbe, hf⟩ := Ns.dec_ok b _ hd
  have h3 : Ns.dep 9 (.inr xs) 3 := hx
  obtain ⟨y, hy⟩ := Ns.dep_down 3 8 (.inr xs) h3 (by omega)
  refine ⟨y, by rw [hy]; exact hd, by rw [← Ns.isList_up 8 y, hy]; rfl, by rw [← Ns.enc_up 8 y, hy]; exact hbe.symm, ?_⟩
  exact Ns.fit_down 7 y 3 (Ns.dep_up 8 y 3 (by rw [hy]; exact h3)) (by omega) (by rw [hy]; exact hf)
open Classical in
/-- an item as one that may stand in one list more -/
noncomputable def down (x : Ns.It 9) : Ns.It 8 := if h : ∃ y : Ns.It 8, Ns.up 8 y = x then h.choose else Ns.tx []
theorem down_up (y : Ns.It 8) : down (Ns.up 8 y) = y := by
  have h : ∃ z : Ns.It 8, Ns.up 8 z = Ns.up 8 y := ⟨y, rfl⟩
  unfold down
  rw [dif_pos h]
  exact Ns.up_inj 8 _ _ h.choose_spec
/-- a reference's item -/
noncomputable def itOf (r : Rf) : Ns.It 8 :=
  if r.kind = 1 then (match Ns.dec r.inl with
    | .ok x => down x
    | .error _ => Ns.tx [])
  else if r.kind = 2 then Ns.tx r.dig else Ns.tx []
noncomputable def items (n : No) : List (Ns.It 8) :=
  if n.kind = 1 then [Ns.tx ((Nib.pack n.path true).getD []), Ns.tx n.value]
  else if n.kind = 2 then [Ns.tx ((Nib.pack n.path false).getD []), itOf n.child]
  else n.kids.map itOf ++ [Ns.tx n.value]
/-- a node's bytes -/
noncomputable def enc (n : No) : List UInt8 := Ns.enc 9 (.inr (items n))
theorem itOf_refOf (x : Ns.It 8) (hf : Ns.fit 7 x) (h : (refOf x).2 = true) : itOf (refOf x).1 = x := by
  cases hl : isList x with
  | true =>
    rw [refOf_list hl]
    unfold itOf
    rw [if_pos rfl]
    simp only [dec_up x hf, down_up]
  | false =>
    have hx := Ns.text_eq x hl
    unfold refOf at h ⊢
    rw [if_neg (by rw [hl]; simp)] at h ⊢
    by_cases h0 : (bytesOf x).length = 0
    · rw [if_pos h0]
      have : itOf rf0 = Ns.tx [] := rfl
      rw [this, hx, List.eq_nil_of_length_eq_zero h0]
    · rw [if_neg h0] at h ⊢
      by_cases h32 : (bytesOf x).length = 32
      · rw [if_pos h32]
        exact hx.symm
      · rw [if_neg h32] at h; cases h
/-- what is read is written as the same bytes -/
theorem enc_dec {b : List UInt8} {n : No} (h : dec b = some n) : enc n = b ∧ right dec n = true := by
  obtain ⟨xs, hd, hs, hr⟩ := dec_some h
  refine ⟨?_, hr⟩
  obtain ⟨hbe, hf⟩ := Ns.dec_ok b _ hd
  rw [hbe]
  unfold enc
  congr 2
  rcases shape_cases hs with ⟨p, o, q, rfl, h1, h2, h3, rfl⟩ | ⟨p, o, q, rfl, h1, h2, h3, rfl⟩ | ⟨l, z, rfl, hl, hz, hrs, rfl⟩
  · obtain ⟨hp, _, _⟩ := Nib.pack_unpack _ _ _ h2
    unfold items
    rw [if_pos rfl, hp, Option.getD_some, ← Ns.text_eq p h1, ← Ns.text_eq o h3]
  · obtain ⟨hp, _, _⟩ := Nib.pack_unpack _ _ _ h2
    unfold items
    rw [if_neg (by simp), if_pos rfl, hp, Option.getD_some, ← Ns.text_eq p h1, itOf_refOf o (hf.2 o (by simp)) h3]
  · unfold items
    rw [if_neg (by simp), if_neg (by simp), ← Ns.text_eq z hz, List.map_map]
    congr 1
    have hid : l.map (itOf ∘ fun x => (refOf x).1) = l.map id := List.map_congr_left fun x hx => itOf_refOf x (hf.2 x (by simp [hx])) (hrs x hx)
    rw [hid, List.map_id]
/-- digests have 32 bytes -/
def wf (n : No) : Prop := ∀ r ∈ refs n, r.dig.length = 32
theorem none_eq {r : Rf} (h : none r = true) : r = rf0 := by
  have := of_decide_eq_true h
  obtain ⟨k, d, i⟩ := r
  obtain ⟨rfl, rfl, h3⟩ := this
  have h4 : i = [] := List.eq_nil_of_length_eq_zero h3
  rw [h4]
  rfl
theorem refOf_itOf (r : Rf) (hd : r.dig.length = 32) (h : rightRef dec r = true) : refOf (itOf r) = (r, true) ∧ Ns.fit 7 (itOf r) ∧ (Ns.enc 8 (itOf r)).length ≤ 300 := by
  obtain ⟨k, d, i⟩ := r
  by_cases h1 : k = 1
  · subst h1
    obtain ⟨rfl, h32, m, hm⟩ := rightRef_inline h rfl
    simp only at h32 hm
    obtain ⟨y, hy, hl, he, hf⟩ := inline_item hm h32
    have : itOf ⟨1, z32, i⟩ = y := by
      unfold itOf
      rw [if_pos rfl]
      simp only [hy, down_up]
    rw [this, refOf_list hl, he]
    exact ⟨by simp [h32], hf, by omega⟩
  · by_cases h2 : k = 2
    · subst h2
      unfold rightRef at h
      rw [if_neg (by simp), if_pos rfl] at h
      have h3 := of_decide_eq_true h
      simp only at h3 hd
      rw [List.eq_nil_of_length_eq_zero h3]
      have : itOf ⟨2, d, []⟩ = Ns.tx d := rfl
      rw [this]
      refine ⟨?_, ?_, Nat.le_trans (Ns.enc_tx_le 7 d) (by omega)⟩
      · show (if isList (Ns.tx d : Ns.It 8) = true then _ else if (bytesOf (Ns.tx d : Ns.It 8)).length = 0 then _ else if (bytesOf (Ns.tx d : Ns.It 8)).length = 32 then _ else _) = _
        have e : bytesOf (Ns.tx d : Ns.It 8) = d := rfl
        rw [e, if_neg (by simp [isList, Ns.tx]), if_neg (by omega), if_pos hd]
      · rw [Ns.fit_tx]; unfold Ns.maxBytes; omega
    · by_cases h0 : k = 0
      · subst h0
        unfold rightRef at h
        rw [if_pos rfl] at h
        have h3 := of_decide_eq_true h
        simp only at h3
        obtain ⟨rfl, h4⟩ := h3
        rw [List.eq_nil_of_length_eq_zero h4]
        have : itOf ⟨0, z32, []⟩ = Ns.tx [] := rfl
        rw [this]
        refine ⟨rfl, ?_, Nat.le_trans (Ns.enc_tx_le 7 []) (by simp)⟩
        rw [Ns.fit_tx]; simp
      · unfold rightRef at h
        rw [if_neg h0, if_neg h2, if_neg h1] at h
        cases h
theorem pack_le (p : List UInt8) (leaf : Bool) (hp : p.length ≤ 64) (hr : Nib.right p = true) : ((Nib.pack p leaf).getD []).length ≤ 33 := by
  rw [Nib.pack_length p leaf hr]; omega
theorem fit_items {n : No} (hw : wf n) (h : right dec n = true) : (∀ x ∈ items n, Ns.fit 7 x ∧ (Ns.enc 8 x).length ≤ 300) ∧ (items n).length ≤ 17 := by
  have htx : ∀ b : List UInt8, b.length ≤ 256 → Ns.fit 7 (Ns.tx b : Ns.It 8) ∧ (Ns.enc 8 (Ns.tx b : Ns.It 8)).length ≤ 300 := fun b hb => ⟨by rw [Ns.fit_tx]; unfold Ns.maxBytes; omega, Nat.le_trans (Ns.enc_tx_le 7 b) (by omega)⟩
  rcases right_kind h with hk | hk | hk
  · obtain ⟨h1, h2, h3, h4, _, _⟩ := right_leaf h hk
    have := pack_le n.path true h1 h2
    unfold items
    rw [if_pos hk]
    refine ⟨fun x hx => ?_, by simp⟩
    simp only [List.mem_cons, List.not_mem_nil, or_false] at hx
    rcases hx with rfl | rfl
    · exact htx _ (by omega)
    · exact htx _ h4
  · obtain ⟨h1, h2, _, _, _, h6, _⟩ := right_ext h hk
    have := pack_le n.path false h1 h2
    unfold items
    rw [if_neg (by omega), if_pos hk]
    refine ⟨fun x hx => ?_, by simp⟩
    simp only [List.mem_cons, List.not_mem_nil, or_false] at hx
    rcases hx with rfl | rfl
    · exact htx _ (by omega)
    · exact (refOf_itOf n.child (hw _ (by simp [refs])) h6).2
  · obtain ⟨_, h2, _, h4, h5⟩ := right_branch h hk
    unfold items
    rw [if_neg (by omega), if_neg (by omega)]
    refine ⟨fun x hx => ?_, by simp [h4]⟩
    rcases List.mem_append.1 hx with hx | hx
    · obtain ⟨r, hr, rfl⟩ := List.mem_map.1 hx
      exact (refOf_itOf r (hw _ (by simp [refs, hr])) (h5 r hr)).2
    · simp only [List.mem_cons, List.not_mem_nil, or_false] at hx
      subst hx
      exact htx _ h2
theorem fit_enc {n : No} (hw : wf n) (h : right dec n = true) : Ns.fit 8 (.inr (items n)) ∧ (enc n).length ≤ 6000 := by
  obtain ⟨h1, h2⟩ := fit_items hw h
  have h3 := Ns.flat_le 300 (items n) (fun x hx => (h1 x hx).2)
  have h4 : (items n).length * 300 ≤ 17 * 300 := Nat.mul_le_mul_right _ h2
  refine ⟨⟨Nat.le_trans h3 (by unfold Ns.maxBytes; omega), fun x hx => (h1 x hx).1⟩, ?_⟩
  unfold enc
  rw [enc_item_eq, List.length_append]
  have := Ns.head_le 192 ((items n).flatMap (Ns.enc 8)).length
  omega
theorem shape_items {n : No} (hw : wf n) (h : right dec n = true) : shape (items n) = (n, true) := by
  rcases right_kind h with hk | hk | hk
  · obtain ⟨h1, h2, h3, h4, h5, h6⟩ := right_leaf h hk
    obtain ⟨k, p, v, c, ks⟩ := n
    simp only at hk h1 h2 h3 h4 h5 h6
    subst hk
    rw [none_eq h5, List.eq_nil_of_length_eq_zero h6]
    have hu := Nib.unpack_pack p true h2
    unfold items
    rw [if_pos rfl]
    have hp : (Nib.pack p true).getD [] = Nib.join (Nib.head p.length true ++ p) := by simp [Nib.pack, h2]
    simp only [hp]
    show two _ _ = _
    unfold two
    have e1 : bytesOf (Ns.tx (Nib.join (Nib.head p.length true ++ p)) : Ns.It 8) = Nib.join (Nib.head p.length true ++ p) := rfl
    rw [e1, if_neg (by rw [hu]; simp [isList, Ns.tx]), if_pos (by simp [Nib.unpackB, hu])]
    simp [Nib.unpackL, hu, bytesOf, Ns.tx, isList]
  · obtain ⟨h1, h2, h3, h4, h5, h6, h7⟩ := right_ext h hk
    obtain ⟨k, p, v, c, ks⟩ := n
    simp only at hk h1 h2 h3 h4 h5 h6
    subst hk
    rw [List.eq_nil_of_length_eq_zero h4, List.eq_nil_of_length_eq_zero h5]
    have hu := Nib.unpack_pack p false h2
    unfold items
    rw [if_neg (by simp), if_pos rfl]
    have hp : (Nib.pack p false).getD [] = Nib.join (Nib.head p.length false ++ p) := by simp [Nib.pack, h2]
    simp only [hp]
    show two _ _ = _
    unfold two
    have e1 : bytesOf (Ns.tx (Nib.join (Nib.head p.length false ++ p)) : Ns.It 8) = Nib.join (Nib.head p.length false ++ p) := rfl
    rw [e1, if_neg (by rw [hu]; simp [isList, Ns.tx]), if_neg (by simp [Nib.unpackB, hu]), (refOf_itOf c (hw _ (by simp [refs])) h6).1]
    simp [Nib.unpackL, hu]
  · obtain ⟨h1, h2, h3, h4, h5⟩ := right_branch h hk
    obtain ⟨k, p, v, c, ks⟩ := n
    simp only at hk h1 h2 h3 h4 h5
    subst hk
    rw [none_eq h3, List.eq_nil_of_length_eq_zero h1]
    unfold items
    rw [if_neg (by simp), if_neg (by simp)]
    have hl : (ks.map itOf ++ [(Ns.tx v : Ns.It 8)]).length = 17 := by simp [h4]
    have h17 : shape (ks.map itOf ++ [(Ns.tx v : Ns.It 8)]) = many ((ks.map itOf ++ [(Ns.tx v : Ns.It 8)]).take 16) ((ks.map itOf ++ [(Ns.tx v : Ns.It 8)])[16]'(by omega)) := by
      unfold shape
      split
      · rename_i he; rw [he] at hl; simp at hl
      · rw [dif_pos hl]
    have e1 : (ks.map itOf ++ [(Ns.tx v : Ns.It 8)]).take 16 = ks.map itOf := by rw [show 16 = (ks.map itOf).length by simp [h4], List.take_left]
    have e2 : (ks.map itOf ++ [(Ns.tx v : Ns.It 8)])[16]'(by omega) = Ns.tx v := by rw [List.getElem_append_right (by simp [h4])]; simp [h4]
    simp only at h17 ⊢
    rw [h17, e1, e2]
    unfold many
    have hr : ∀ r ∈ ks, refOf (itOf r) = (r, true) := fun r hr => (refOf_itOf r (hw _ (by simp [refs, hr])) (h5 r hr)).1
    have e3 : (ks.map itOf).map (fun x => (refOf x).1) = ks := by
      rw [List.map_map]
      have : ks.map ((fun x => (refOf x).1) ∘ itOf) = ks.map id := List.map_congr_left fun r h => by simp only [Function.comp]; rw [hr r h]; rfl
      rw [this, List.map_id]
    have e4 : (ks.map itOf).all (fun x => (refOf x).2) = true := by
      rw [List.all_eq_true]
      intro x hx
      obtain ⟨r, h, rfl⟩ := List.mem_map.1 hx
      rw [hr r h]
    rw [e3, e4]
    rfl
/-- what is written is read as it was -/
theorem dec_enc {n : No} (hw : wf n) (h : right dec n = true) : dec (enc n) = some n :=
  dec_of (Ns.dec_enc _ (fit_enc hw h).1) (shape_items hw h) h
theorem enc_inj {n m : No} (hn : wf n) (hm : wf m) (h1 : right dec n = true) (h2 : right dec m = true) : enc n = enc m ↔ n = m := by
  constructor
  · intro h
    have := dec_enc hn h1
    rw [h, dec_enc hm h2] at this
    injection this with this
    exact this.symm
  · rintro rfl; rfl
end Nd
end Go.Proofs.YtahaaeenbahknaaRRRR

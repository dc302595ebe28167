/-
  Nodes as bytes, plain: no program.
-/
import Derived.Test.YtahaaeenbahknaaRRRRItU
import Derived.Test.YtahaaeenbahknaaRRRRNib2
import Derived.Test.YtahaaeenbahknaaRRRRNib3
namespace Go.Proofs.YtahaaeenbahknaaRRRR
namespace Nd

def z32 : List UInt8 := List.replicate 32 0
/-- a reference; a node -/
structure Rf where
  kind : Int
  dig : List UInt8
  inl : List UInt8
structure No where
  kind : Int
  path : List UInt8
  value : List UInt8
  child : Rf
  kids : List Rf
def rf0 : Rf := ⟨0, z32, []⟩
def no0 : No := ⟨0, [], [], rf0, []⟩
/-- what an item names -/
def refOf (x : Ns.It 8) : Rf × Bool :=
  if isList x = true then (⟨1, z32, Ns.enc 8 x⟩, decide ((Ns.enc 8 x).length < 32))
  else if (bytesOf x).length = 0 then (rf0, true)
  else if (bytesOf x).length = 32 then (⟨2, bytesOf x, []⟩, true)
  else (rf0, false)
def two (p o : Ns.It 8) : No × Bool :=
  if (Nib.unpack (bytesOf p)).isSome = false ∨ isList p = true then (no0, false)
  else if Nib.unpackB (bytesOf p) = true then (⟨1, Nib.unpackL (bytesOf p), bytesOf o, rf0, []⟩, !isList o)
  else (⟨2, Nib.unpackL (bytesOf p), [], (refOf o).1, []⟩, (refOf o).2)
def many (l : List (Ns.It 8)) (z : Ns.It 8) : No × Bool := (⟨3, [], bytesOf z, rf0, l.map fun x => (refOf x).1⟩, !isList z && l.all fun x => (refOf x).2)
def shape (xs : List (Ns.It 8)) : No × Bool := match xs with
  | [p, o] => two p o
  | xs => if h : xs.length = 17 then many (xs.take 16) (xs[16]'(by omega)) else (no0, false)
def none (r : Rf) : Bool := decide (r.kind = 0 ∧ r.dig = z32 ∧ r.inl.length = 0)
def occupied (n : No) : Nat := (n.kids.filter fun r => decide (r.kind ≠ 0)).length + if 0 < n.value.length then 1 else 0
section
variable (D : List UInt8 → Option No)
def rightRef (r : Rf) : Bool :=
  if r.kind = 0 then decide (r.dig = z32 ∧ r.inl.length = 0)
  else if r.kind = 2 then decide (r.inl.length = 0)
  else if r.kind = 1 then decide (r.dig = z32 ∧ r.inl.length < 32 ∧ (D r.inl).isSome = true)
  else false
def branchOf (r : Rf) : Bool := if r.kind = 1 then decide (((D r.inl).getD no0).kind = 3) else decide (r.kind = 2)
def right (n : No) : Bool :=
  if 64 < n.path.length ∨ Nib.right n.path = false ∨ 256 < n.value.length then false
  else if n.kind = 1 then decide (0 < n.value.length ∧ none n.child = true ∧ n.kids.length = 0)
  else if n.kind = 2 then decide (0 < n.path.length ∧ n.value.length = 0 ∧ n.kids.length = 0 ∧ rightRef D n.child = true ∧ branchOf D n.child = true)
  else if n.kind = 3 then decide (n.path.length = 0 ∧ none n.child = true ∧ n.kids.length = 16 ∧ n.kids.all (rightRef D) = true ∧ 2 ≤ occupied n)
  else false
end
def decF : Nat → List UInt8 → Option No
  | 0, _ => .none
  | f + 1, b => match Ns.dec b with
    | .error _ => .none
    | .ok (.inl _) => .none
    | .ok (.inr xs) => if (shape xs).2 = true ∧ right (decF f) (shape xs).1 = true then some (shape xs).1 else .none
/-- the node whose bytes these are -/
def dec (b : List UInt8) : Option No := decF (b.length + 1) b
def refs (n : No) : List Rf := n.child :: n.kids
theorem rightRef_congr {D D' : List UInt8 → Option No} {r : Rf} (h : D r.inl = D' r.inl) : rightRef D r = rightRef D' r := by unfold rightRef; rw [h]
theorem branchOf_congr {D D' : List UInt8 → Option No} {r : Rf} (h : D r.inl = D' r.inl) : branchOf D r = branchOf D' r := by unfold branchOf; rw [h]
theorem right_congr {D D' : List UInt8 → Option No} {n : No} (h : ∀ r ∈ refs n, D r.inl = D' r.inl) : right D n = right D' n := by
  have hc := h n.child (by simp [refs])
  have hk : n.kids.all (rightRef D) = n.kids.all (rightRef D') := by
    have hk' : ∀ r ∈ n.kids, rightRef D r = rightRef D' r := fun r hr => rightRef_congr (h r (by simp [refs, hr]))
    generalize n.kids = ks at hk'
    induction ks with
    | nil => rfl
    | cons r rs ih => rw [List.all_cons, List.all_cons, hk' r (by simp), ih (fun s hs => hk' s (by simp [hs]))]
  unfold right
  rw [rightRef_congr hc, branchOf_congr hc, hk]
theorem refOf_inl (x : Ns.It 8) : (refOf x).1.inl.length ≤ (Ns.enc 8 x).length := by
  unfold refOf
  split
  · exact Nat.le_refl _
  · split
    · exact Nat.zero_le _
    · split <;> exact Nat.zero_le _
/-- what a node refers to is shorter than its bytes -/
theorem shape_shorter {b : List UInt8} {xs : List (Ns.It 8)} (h : Ns.dec b = .ok (.inr xs)) : ∀ r ∈ refs (shape xs).1, r.inl.length < b.length := by
  obtain ⟨hb, -⟩ := Ns.dec_ok b _ h
  have hlen : (xs.flatMap (Ns.enc 8)).length < b.length := by
    rw [hb]
    show _ < (Ns.head 192 (xs.flatMap (Ns.enc 8)).length ++ xs.flatMap (Ns.enc 8)).length
    have := Ns.head_pos 192 (xs.flatMap (Ns.enc 8)).length
    rw [List.length_append]; omega
  have hin : ∀ x ∈ xs, (refOf x).1.inl.length < b.length := fun x hx => Nat.lt_of_le_of_lt (Nat.le_trans (refOf_inl x) (by
    clear h hb hlen
    induction xs with
    | nil => cases hx
    | cons y ys ih =>
      rw [List.flatMap_cons, List.length_append]
      rcases List.mem_cons.1 hx with rfl | hx
      · omega
      · have := ih hx; omega)) hlen
  have h0 : (0 : Nat) < b.length := by omega
  have hz : ∀ r ∈ refs no0, r.inl.length < b.length := by
    intro r hr
    simp only [refs, no0, List.mem_cons, List.not_mem_nil, or_false] at hr
    subst hr; exact h0
  intro r hr
  unfold shape at hr
  split at hr
  · rename_i p o
    unfold two at hr
    split at hr
    · exact hz r hr
    · split at hr
      · simp only [refs, List.mem_cons, List.not_mem_nil, or_false] at hr
        subst hr; exact h0
      · simp only [refs, List.mem_cons, List.not_mem_nil, or_false] at hr
        subst hr; exact hin o (by simp)
  · split at hr
    · simp only [many, refs, List.mem_cons] at hr
      rcases hr with rfl | hr
      · exact h0
      · obtain ⟨x, hx, rfl⟩ := List.mem_map.1 hr
        exact hin x (List.mem_of_mem_take hx)
    · exact hz r hr
theorem decF_enough : ∀ (f : Nat) (b : List UInt8), b.length < f → decF f b = dec b := by
  intro f
  induction f using Nat.strongRecOn with
  | _ f ih =>
    intro b hb
    obtain ⟨f, rfl⟩ : ∃ g, f = g + 1 := ⟨f - 1, by omega⟩
    unfold dec
    simp only [decF]
    cases hd : Ns.dec b with
    | error e => rfl
    | ok x =>
      cases x with
      | inl _ => rfl
      | inr xs =>
        simp only
        have hs := shape_shorter hd
        have : right (decF f) (shape xs).1 = right (decF b.length) (shape xs).1 := right_congr fun r hr => by
          have h1 := hs r hr
          rw [ih f (by omega) r.inl (by omega)]
          rcases Nat.lt_or_ge b.length (f + 1) with h2 | h2
          · rw [ih b.length (by omega) r.inl h1]
          · omega
        rw [this]
theorem dec_eq (b : List UInt8) : dec b = match Ns.dec b with
    | .error _ => .none
    | .ok (.inl _) => .none
    | .ok (.inr xs) => if (shape xs).2 = true ∧ right dec (shape xs).1 = true then some (shape xs).1 else .none := by
  show decF (b.length + 1) b = _
  simp only [decF]
  cases hd : Ns.dec b with
  | error e => rfl
  | ok x =>
    cases x with
    | inl _ => rfl
    | inr xs =>
      simp only
      have hs := shape_shorter hd
      rw [right_congr (D := decF b.length) (D' := dec) fun r hr => decF_enough b.length r.inl (hs r hr)]
end Nd
end Go.Proofs.YtahaaeenbahknaaRRRR

/-
  Items: their bytes, whether they are lists, and as items of one depth more.
-/
import Derived.Test.YtahaaeenbahknaaRRRRItM
namespace Go.Proofs.YtahaaeenbahknaaRRRR
open Go.RowKit

/-- an item's row, and its bytes -/
def bytesOf : {d : Nat} → Ns.It d → List UInt8
  | 0, x => nomatch x
  | _ + 1, .inl b => b
  | _ + 1, .inr _ => []
def isList : {d : Nat} → Ns.It d → Bool
  | 0, x => nomatch x
  | _ + 1, .inl _ => false
  | _ + 1, .inr _ => true
theorem Sits.row {S : Nat → Prop} {w : World} : ∀ {d : Nat} {v : Value} {x : Ns.It d}, Sits S w d v x → ∃ A n c z, v = .agg #[.bool (isList x), .slice A n c, z] ∧ n = (bytesOf x).length ∧ n ≤ c ∧ c ≤ maxLen ∧ InS S w 1 A n (bv (bytesOf x)) ∧ z.oneCell' = true
  | 0, _, x, _ => nomatch x
  | _ + 1, _, .inl b, h => by
    obtain ⟨A, n, c, rfl, h1, h2, h3, h4⟩ := h
    exact ⟨A, n, c, _, rfl, h1, h2, h3, h4, rfl⟩
  | _ + 1, _, .inr xs, h => by
    obtain ⟨A, n, c, vs, rfl, h1, h2, h3, h4, h5⟩ := h
    exact ⟨none, 0, 0, _, rfl, rfl, Nat.le_refl _, by unfold maxLen; omega, ⟨rfl, fun h => by omega⟩, rfl⟩
namespace Ns
/-- an item, as one that may stand in one list less -/
def up : (d : Nat) → It d → It (d + 1)
  | 0, x => nomatch x
  | _ + 1, .inl b => .inl b
  | d + 1, .inr xs => .inr (xs.map (up d))
theorem enc_up : ∀ (d : Nat) (x : It d), enc (d + 1) (up d x) = enc d x
  | 0, x => nomatch x
  | _ + 1, .inl _ => rfl
  | d + 1, .inr xs => by
    have h : (xs.map (up d)).flatMap (enc (d + 1)) = xs.flatMap (enc d) := by
      rw [List.flatMap_map]
      congr 1
      funext x
      exact enc_up d x
    show head 192 ((xs.map (up d)).flatMap (enc (d + 1))).length ++ (xs.map (up d)).flatMap (enc (d + 1)) = _
    rw [h]; rfl
theorem fit_up : ∀ (d : Nat) (x : It (d + 1)), fit d x → fit (d + 1) (up (d + 1) x)
  | _, .inl b, h => by
    have h' : b.length ≤ maxBytes := by have h2 := fit_tx _ b ▸ (show fit _ (tx b) from h); exact h2
    exact h'
  | 0, .inr _, h => h.elim
  | d + 1, .inr xs, h => by
    obtain ⟨h1, h2⟩ := (show (xs.flatMap (enc (d + 1))).length ≤ maxBytes ∧ ∀ x ∈ xs, fit d x from h)
    have e : (xs.map (up (d + 1))).flatMap (enc (d + 1 + 1)) = xs.flatMap (enc (d + 1)) := by
      rw [List.flatMap_map]
      congr 1
      funext x
      exact enc_up (d + 1) x
    refine ⟨by rw [e]; exact h1, fun y hy => ?_⟩
    obtain ⟨x, hx, rfl⟩ := List.mem_map.1 hy
    exact fit_up d x (h2 x hx)
theorem up_inj : ∀ (d : Nat) (x y : It d), up d x = up d y → x = y
  | 0, x, _, _ => nomatch x
  | _ + 1, .inl _, .inl _, h => by cases h; rfl
  | _ + 1, .inl _, .inr _, h => by cases h
  | _ + 1, .inr _, .inl _, h => by cases h
  | d + 1, .inr xs, .inr ys, h => by
    have h' : xs.map (up d) = ys.map (up d) := by injection h
    have : xs = ys := by
      clear h
      induction xs generalizing ys with
      | nil => cases ys with | nil => rfl | cons => cases h'
      | cons x xs ih =>
        cases ys with
        | nil => cases h'
        | cons y ys =>
          simp only [List.map_cons, List.cons.injEq] at h'
          rw [up_inj d x y h'.1, ih ys h'.2]
    rw [this]
end Ns
theorem Sits.up {S : Nat → Prop} {w : World} : ∀ (d : Nat) (v : Value) (x : Ns.It d), Sits S w d v x → Sits S w (d + 1) v (Ns.up d x)
  | 0, _, x, _ => nomatch x
  | _ + 1, _, .inl _, h => h
  | d + 1, _, .inr xs, h => by
    obtain ⟨A, n, c, vs, h1, h2, h3, h4, h5, h6⟩ := h
    refine ⟨A, n, c, vs, h1, by rw [h2, List.length_map], h3, h4, h5, by rw [h6.1, List.length_map], fun i y hy => ?_⟩
    rw [List.getElem?_map] at hy
    cases hx : xs[i]? with
    | none => rw [hx] at hy; cases hy
    | some x =>
      rw [hx] at hy
      cases hy
      obtain ⟨v, hv, hs⟩ := h6.2 i x hx
      exact ⟨v, hv, Sits.up d v x hs⟩
end Go.Proofs.YtahaaeenbahknaaRRRR

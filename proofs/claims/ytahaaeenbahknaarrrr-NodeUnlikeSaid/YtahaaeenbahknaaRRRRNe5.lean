/-
  Package nest, what writes: all items whose bodies are short.
-/
import Derived.Test.YtahaaeenbahknaaRRRRNe4
namespace Go.Proofs.YtahaaeenbahknaaRRRR
open Go.RowKit

theorem Ns.body_le : ∀ (d : Nat) (x : Ns.It d), (Ns.body d x).length ≤ (Ns.enc d x).length
  | 0, x => nomatch x
  | d + 1, .inl b => by
    show b.length ≤ (Ns.encT b).length
    unfold Ns.encT
    split
    · exact Nat.le_refl _
    · rw [List.length_append]; omega
  | d + 1, .inr xs => by
    show (xs.flatMap (Ns.enc d)).length ≤ (Ns.head 192 (xs.flatMap (Ns.enc d)).length ++ xs.flatMap (Ns.enc d)).length
    rw [List.length_append]; omega
theorem enc_le_flat {d : Nat} {x : Ns.It d} {xs : List (Ns.It d)} (h : x ∈ xs) : (Ns.enc d x).length ≤ (xs.flatMap (Ns.enc d)).length := by
  induction xs with
  | nil => cases h
  | cons y ys ih =>
    rw [List.flatMap_cons, List.length_append]
    rcases List.mem_cons.1 h with rfl | h
    · omega
    · have := ih h; omega
theorem Ns.head_small (base n : Nat) (h : n ≤ 55) : Ns.head base n = [UInt8.ofNat (base + n)] := by unfold Ns.head; rw [if_pos h]
theorem write_all : ∀ (d : Nat), WriteC d
  | 0 => fun S A m c B l v x => nomatch x
  | d + 1 => by
    intro S A m c B l v x w hown hm hB hS hsit hlim h55
    match x, hsit, hlim, h55 with
    | .inl b, hsit, hlim, h55 =>
      obtain ⟨A2, n, c2, rfl, hn, hc, hcm, hin⟩ := hsit
      subst hn
      have h55' : b.length ≤ 55 := h55
      by_cases hp : b.length = 1 ∧ Ns.encT.rd1 b < 128
      · have he : Ns.enc (d + 1) (.inl b) = b := if_pos hp
        rw [he] at hlim ⊢
        exact write_plain A m c B l A2 _ c2 b w hown hm hB ⟨rfl, hc, hcm, hin.reads fun g _ h => h⟩ hp hlim
      · have he : Ns.enc (d + 1) (.inl b) = [UInt8.ofNat (128 + b.length)] ++ b := (if_neg hp).trans (by rw [Ns.head_small _ _ h55'])
        rw [he] at hlim ⊢
        rw [List.length_append, List.length_singleton] at hlim
        rw [← List.append_assoc]
        exact write_text A m c B l A2 _ c2 b w hown hm hB ⟨rfl, hc, hcm, hin.reads fun g h _ => hS g h⟩ hp h55' (by omega)
    | .inr xs, hsit, hlim, h55 =>
      obtain ⟨A2, n, c2, vs, rfl, hn, hc, hcm, hin, hall⟩ := hsit
      have h55' : (xs.flatMap (Ns.enc d)).length ≤ 55 := h55
      have he : Ns.enc (d + 1) (.inr xs) = [UInt8.ofNat (192 + (xs.flatMap (Ns.enc d)).length)] ++ xs.flatMap (Ns.enc d) := by
        show Ns.head 192 (xs.flatMap (Ns.enc d)).length ++ xs.flatMap (Ns.enc d) = _
        rw [Ns.head_small _ _ h55']
      rw [he] at hlim ⊢
      rw [List.length_append, List.length_singleton] at hlim
      rw [← List.append_assoc]
      exact write_list d (write_all d) S A m c B l A2 n c2 vs xs w hown hm hB hS hn hc hcm hin hall _ rfl h55' (fun x hx => Nat.le_trans (Ns.body_le d x) (Nat.le_trans (enc_le_flat hx) h55')) (by omega)
end Go.Proofs.YtahaaeenbahknaaRRRR

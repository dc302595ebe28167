/-
  Receipts as bytes, plain: what the reference reads is what is read.
-/
import Derived.Test.YtcpnfllekpekgaaRc3
namespace Go.Proofs.Ytcpnfllekpekgaa
open Go.RowKit

/-- the word of an item, read somehow -/
def wordZ (x : Ns.It 8) : Nat := (Wd.word (bytesOf x)).getD 0
def Rc.refRead (l : List UInt8) (x : Ns.It 9) : Option Rc := match x with
  | .inr [a, b, c, d] => if 9 < wordZ a then none else if (Rc.mk (wordZ a : Nat) (wordZ b) (wordZ c) (wordZ d)).right = true ∧ (Rc.mk (wordZ a : Nat) (wordZ b) (wordZ c) (wordZ d)).bytes = l then some ⟨(wordZ a : Nat), wordZ b, wordZ c, wordZ d⟩ else none
  | _ => none
def Rc.refDec (l : List UInt8) : Option Rc := match Ns.dec l with
  | .error _ => none
  | .ok x => Rc.refRead l x
theorem word_some {l : List UInt8} {n : Nat} (h : Wd.word l = some n) : l = Wd.be 8 n ∧ n < 18446744073709551616 := by
  unfold Wd.word at h
  split at h
  · rename_i hc
    cases h
    refine ⟨(Wd.be_rd l 8 hc.2 hc.1).symm, ?_⟩
    have := Wd.rd_lt l
    exact Nat.lt_of_lt_of_le this (Nat.le_trans (Nat.pow_le_pow_right (n := 256) (by omega) hc.1) (by decide))
  · cases h
theorem word_be {n : Nat} (h : n < 18446744073709551616) : Wd.word (Wd.be 8 n) = some n := by
  unfold Wd.word
  rw [if_pos ⟨Wd.be_length 8 n, Wd.be_tight 8 n (by omega)⟩, Wd.rd_be 8 n (by omega)]
theorem wordZ_lt (x : Ns.It 8) : wordZ x < 18446744073709551616 := by
  unfold wordZ
  cases h : Wd.word (bytesOf x) with
  | none => exact (by decide : 0 < 18446744073709551616)
  | some n => exact (word_some h).2
theorem wordOf_some {x : Ns.It 8} {n : Nat} (h : wordOf x = some n) : x = Ns.tx (Wd.be 8 n) ∧ wordZ x = n ∧ n < 18446744073709551616 := by
  cases x with
  | inl b =>
    have h' : Wd.word b = some n := h
    obtain ⟨h1, h2⟩ := word_some h'
    refine ⟨by rw [h1]; rfl, ?_, h2⟩
    show (Wd.word b).getD 0 = n
    rw [h']; rfl
  | inr xs => cases h
theorem wordOf_tx {n : Nat} (h : n < 18446744073709551616) : wordOf (Ns.tx (Wd.be 8 n)) = some n := word_be h
theorem wordsOf_item {ns : List Nat} (h : ∀ n ∈ ns, n < 18446744073709551616) : wordsOf (wordsI ns) = some ns := by
  induction ns with
  | nil => rfl
  | cons n ns ih =>
    show (match wordOf (Ns.tx (Wd.be 8 n)) with | none => none | some n => match wordsOf (wordsI ns) with | none => none | some ns => some (n :: ns)) = _
    rw [wordOf_tx (h n (by simp)), ih (fun m hm => h m (by simp [hm]))]
/-- what is read back of what was written -/
theorem Rc.dec_bytes (x : Rc) (hx : x.Real) (hr : x.right = true) : Rc.dec x.bytes = some x := by
  have hd := Ns.dec_enc x.item x.fit
  unfold Rc.dec
  rw [show x.bytes = Ns.enc 9 x.item from rfl, hd]
  show Rc.read (.inr (wordsI x.words)) = _
  obtain ⟨h0, h9⟩ := Rc.right_s hr
  have hw := wordsOf_item (ns := x.words) (by
    intro n hn
    simp only [Rc.words, List.mem_cons, List.not_mem_nil, or_false] at hn
    have h1 := hx.g
    have h2 := hx.r
    have h3 := hx.m
    rcases hn with rfl | rfl | rfl | rfl <;> omega)
  unfold Rc.read
  simp only
  rw [if_pos (show (wordsI x.words).length = 4 from rfl), hw]
  simp only
  have hof : Rc.of x.words = x := by
    show Rc.mk _ _ _ _ = x
    have : ((min x.s.toNat 10 : Nat) : Int) = x.s := by omega
    rw [show List.getD x.words 0 0 = x.s.toNat from rfl, this]
    rfl
  rw [hof, if_pos hr]
/-- what is read is written as the same bytes -/
theorem Rc.dec_some {l : List UInt8} {x : Rc} (h : Rc.dec l = some x) : x.Real ∧ x.right = true ∧ x.bytes = l := by
  unfold Rc.dec at h
  cases hd : Ns.dec l with
  | error k => rw [hd] at h; cases h
  | ok y =>
    rw [hd] at h
    simp only at h
    obtain ⟨hl, hfit⟩ := Ns.dec_ok l y hd
    cases y with
    | inl b => cases h
    | inr xs =>
      unfold Rc.read at h
      simp only at h
      split at h
      · rename_i h4
        cases hw : wordsOf xs with
        | none => rw [hw] at h; cases h
        | some ns =>
          rw [hw] at h
          simp only at h
          split at h
          · rename_i hr
            cases h
            match xs, h4, hw with
            | [a, b, c, d], _, hw =>
              simp only [wordsOf] at hw
              cases ha : wordOf a with
              | none => rw [ha] at hw; cases hw
              | some na =>
              cases hb : wordOf b with
              | none => rw [ha, hb] at hw; cases hw
              | some nb =>
              cases hc : wordOf c with
              | none => rw [ha, hb, hc] at hw; cases hw
              | some nc =>
              cases hd' : wordOf d with
              | none => rw [ha, hb, hc, hd'] at hw; cases hw
              | some nd =>
              rw [ha, hb, hc, hd'] at hw
              simp only [Option.some.injEq] at hw
              subst hw
              obtain ⟨ea, _, la⟩ := wordOf_some ha
              obtain ⟨eb, _, lb⟩ := wordOf_some hb
              obtain ⟨ec, _, lc⟩ := wordOf_some hc
              obtain ⟨ed, _, ld⟩ := wordOf_some hd'
              obtain ⟨h0, h9⟩ := Rc.right_s hr
              have hs : (Rc.of [na, nb, nc, nd]).s = ((min na 10 : Nat) : Int) := rfl
              rw [hs] at h9
              refine ⟨⟨lb, lc, ld⟩, hr, ?_⟩
              rw [hl]
              show Ns.enc 9 (.inr (wordsI [(min na 10 : Nat), nb, nc, nd])) = _
              rw [show min na 10 = na by omega, ea, eb, ec, ed]
              rfl
          · cases h
      · cases h
theorem Rc.ref_dec (l : List UInt8) : Rc.refDec l = Rc.dec l := by
  cases h : Rc.dec l with
  | some x =>
    obtain ⟨hreal, hr, hb⟩ := Rc.dec_some h
    obtain ⟨h0, h9⟩ := Rc.right_s hr
    have hd := Ns.dec_enc x.item x.fit
    rw [show Ns.enc 9 x.item = l from hb] at hd
    unfold Rc.refDec
    rw [hd]
    show Rc.refRead l (.inr (wordsI x.words)) = _
    have hz : ∀ n, n < 18446744073709551616 → wordZ (Ns.tx (Wd.be 8 n)) = n := fun n hn => (wordOf_some (wordOf_tx hn)).2.1
    show (if 9 < wordZ (Ns.tx (Wd.be 8 x.s.toNat)) then none else _) = _
    rw [hz _ (by omega), if_neg (by omega), hz _ hreal.g, hz _ hreal.r, hz _ hreal.m]
    have hx : (Rc.mk (x.s.toNat : Nat) x.g x.r x.m) = x := by
      cases x with
      | mk s g r m => simp only [Rc.mk.injEq, and_true]; simp only at h0; omega
    rw [hx, if_pos ⟨hr, hb⟩]
  | none =>
    cases h2 : Rc.refDec l with
    | none => rfl
    | some x =>
      exfalso
      unfold Rc.refDec at h2
      cases hd : Ns.dec l with
      | error k => rw [hd] at h2; cases h2
      | ok y =>
        rw [hd] at h2
        simp only at h2
        match y, h2 with
        | .inr [a, b, c, d], h2 =>
          have h2' : (if 9 < wordZ a then none else if (Rc.mk (wordZ a : Nat) (wordZ b) (wordZ c) (wordZ d)).right = true ∧ (Rc.mk (wordZ a : Nat) (wordZ b) (wordZ c) (wordZ d)).bytes = l then some (Rc.mk (wordZ a : Nat) (wordZ b) (wordZ c) (wordZ d)) else none) = some x := h2
          split at h2'
          · cases h2'
          · split at h2'
            · rename_i hc
              cases h2'
              have := Rc.dec_bytes _ ⟨wordZ_lt b, wordZ_lt c, wordZ_lt d⟩ hc.1
              rw [hc.2, h] at this
              cases this
            · cases h2'
end Go.Proofs.Ytcpnfllekpekgaa

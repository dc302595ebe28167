/-
  Package nest, what writes: lists with a short body.
-/
import Derived.Test.YtahaaeenbahknaaRRRRNe3
namespace Go.Proofs.YtahaaeenbahknaaRRRR
open Go.RowKit

/-- the contract of write on items of one depth, below B -/
def WriteC (d : Nat) : Prop := ∀ (S : Nat → Prop) (A : Option Addr) (m c B : Nat) (l : List UInt8) (v : Value) (x : Ns.It d) (w : World), w.ownsRow B 5 1 (.slice A m c) m (bv l) → m = l.length → B ≤ w.heap.size →
  (∀ q, S q → q < B) → Sits S w d v x → m + (Ns.enc d x).length ≤ 140737488355328 → (Ns.body d x).length ≤ 55 →
  Calls Try.prog 32 #[.slice A m c, v] w (WrQ w B (.slice A m c) (l ++ Ns.enc d x))
section
variable {w wr w' : World} {b0 : Option Nat} {B bx m c : Nat} {row : Array Value} {A : Option Addr} {l l2 : List UInt8}
/-- a callee that writes on -/
theorem WrI.call {e : Ending} (h : WrI w b0 B bx row wr A m c l) (hbx : w.heap.size = bx) (h0 : ∀ q, b0 = some q → q < w.heap.size) (hq : WrQ wr B (.slice A m c) l2 e w') :
    ∃ A' m' c', e = .returned (.slice A' m' c') ∧ WrI w b0 B bx row w' A' m' c' l2 := by
  obtain ⟨A', m', c', he, hown, hm, hg, hob⟩ := hq
  have hlt := h.box.lt
  have hne : (Value.slice A m c).ownBlock ≠ some bx := by
    intro e
    rcases h.at_ with h1 | ⟨q, h1, h2⟩ | h1
    · rw [h1] at e
      have := h0 _ e
      omega
    · rw [h1] at e; injection e with e; omega
    · rw [h1] at e; cases e
  refine ⟨A', m', c', he, hown, hm, World.grownBy.andThen h.gr hg (fun j hj => ?_), (hg.block bx hlt (fun e => hne e.symm)).trans h.box, ?_⟩
  · rcases h.at_ with h1 | ⟨q, h1, h2⟩ | h1
    · rw [h1] at hj; exact .inr hj
    · rw [h1] at hj; injection hj with hj; exact .inl (by omega)
    · rw [h1] at hj; cases hj
  · rcases hob with h1 | ⟨q, h1, h2⟩ | h1
    · rw [h1]; exact h.at_
    · exact .inr (.inl ⟨q, h1, by omega⟩)
    · exact .inr (.inr h1)
theorem WrI.rowed (h : WrI w b0 B bx row wr A m c l) {q : Nat} (hq : wr.heap.size ≤ q) (cs cs' : Array Value) : WrI w b0 B bx row ((wr.alloc (.cells cs 46)).setRow q cs') A m c l :=
  h.below (below_row ((Below.refl _ _).alloc (Nat.le_refl _) _) hq _)
end
set_option maxHeartbeats 2000000 in
set_option maxRecDepth 100000 in
theorem write_list (d : Nat) (hw : WriteC d) (S : Nat → Prop) (A : Option Addr) (m c B : Nat) (l : List UInt8) (A2 : Option Addr) (n c2 : Nat) (vs : List Value) (xs : List (Ns.It d)) (w : World)
    (hown : w.ownsRow B 5 1 (.slice A m c) m (bv l)) (hm : m = l.length) (hB : B ≤ w.heap.size) (hS : ∀ q, S q → q < B) (hn : n = xs.length) (hc : n ≤ c2) (hcm : c2 ≤ maxLen) (hin : InS S w 3 A2 n (flat vs)) (hall : All2 (Sits S w d) vs xs)
    (L : Nat) (hL : L = (xs.flatMap (Ns.enc d)).length) (h55 : L ≤ 55) (hsmall : ∀ x ∈ xs, (Ns.body d x).length ≤ 55) (hlim : m + L + 1 ≤ 140737488355328) :
    Calls Try.prog 32 #[.slice A m c, lsV A2 n c2] w (WrQ w B (.slice A m c) (l ++ [UInt8.ofNat (192 + L)] ++ xs.flatMap (Ns.enc d))) := by
  have hI := WrI.start (row := #[.bool true, .slice none 0 0, .slice A2 n c2]) hown hm
  have hbq : ∀ q, (Value.slice A m c).ownBlock = some q → B ≤ q := fun q e => (hown.lt q e).1
  have h0 : ∀ q, (Value.slice A m c).ownBlock = some q → q < w.heap.size := fun q e => (hown.lt q e).2
  have hp := plain_list A2 n c2 (w.alloc (.cells #[.bool true, .slice none 0 0, .slice A2 n c2] 46))
  have hbd : ∀ w', Below w.heap.size w w' → Calls Try.prog 31 #[lsV A2 n c2] w' fun e w'' => e = .returned (.int .i64 L) ∧ Below w'.heap.size w' w'' := fun w' hb => by
    rw [hL]
    exact body_list d (whole_all d) S A2 n c2 vs xs w' hn hc hcm (hin.move (fun q h1 h2 => ⟨h1, hb.block q h2⟩) hb.size) (hall.imp fun v x hx => hx.move _ _ _ (fun q h1 h2 => ⟨h1, hb.block q h2⟩) hb.size) (by omega)
  replace hI := Lib.hid hI
  replace h0 := Lib.hid h0
  replace hbq := Lib.hid hbq
  replace hin := Lib.hid hin
  replace hall := Lib.hid hall
  have h55' : (L : Int) ≤ 55 := by omega
  have hn63 : (n : Int) ≤ 9223372036854775807 := by unfold maxLen at hcm; omega
  replace hL := Lib.hid hL
  replace hn := Lib.hid hn
  replace hsmall := Lib.hid hsmall
  replace hw := Lib.hid hw
  replace hm := Lib.hid hm
  clear hown hc hcm
  unfold lsV at hp hbd ⊢
  go_enter Try.func32, Try.ntmps32
  go_wp2_with fail
  refine hp.mono ?_
  rintro e w1 ⟨rfl, hbe⟩
  have hI1 := Lib.hid (hI.out.below hbe)
  have k1 := Lib.hid hI1.out.box
  have g0 : w1.cell? ⟨w.heap.size, 0, none⟩ = some (.bool true) := hI1.out.box.cell 0
  have hbd1 := hbd w1 (((Below.refl _ _).alloc (Nat.le_refl _) _).trans (hbe.mono (by simp)))
  clear hp hbe hI hbd
  go_wp2_with (refine wpList_load_row rfl 46 _ rfl w.heap.size rfl _ _ _ _ k1.out Try.underlying46 rfl info_item3 ?_)
  refine hbd1.mono ?_
  rintro e w2 ⟨rfl, hbe2⟩
  have hI2 := Lib.hid (hI1.out.below hbe2)
  have hsz2 := hI2.out.gr.size
  clear hbd1 g0 k1 hI1 hbe2
  have hlit := hI2.out.alloc (.cells #[.int .u8 (192 + (L : Int))] 5)
  have e8 : IntKind.u8.wrap (192 + (L : Int)) = 192 + (L : Int) := by rw [IntKind.wrap_u8]; omega
  have e64 : IntKind.i64.wrap (192 + (L : Int)) = 192 + (L : Int) := by rw [IntKind.wrap_i64]; omega
  have hsrc := Bytes.lit1 (w := w2) (t := 5) (z := 192 + (L : Int)) (y := UInt8.ofNat (192 + L)) (by simp; omega)
  replace hlit := Lib.hid hlit
  go_wp2_with (first | (at_builtin; refine wpList_append_wr rfl _ _ rfl hlit.out rfl h0.out hB rfl _ _ _ _ [UInt8.ofNat (192 + L)] rfl hsrc (by omega) ?_; intro A3 c3 w3 hI3 hs3; have g1 := hI3.box.cell 1; have g2 := hI3.box.cell 2; simp at g1 g2; clear hlit hsrc; replace hI3 := Lib.hid hI3) | (at_builtin; refine wpList_append_wr rfl _ _ rfl hI3.out rfl h0.out hB rfl 0 _ _ _ [] rfl (Bytes.none_ _ _ _ (Nat.zero_le _)) (by omega) ?_; intro A4 c4 w4 hI4 hs4; clear g1 g2; have g2 := hI4.box.cell 2; simp at g2; replace hI4 := Lib.hid hI4))
  have hstep : ∀ k (hk : k < xs.length), (xs.take (k + 1)).flatMap (Ns.enc d) = (xs.take k).flatMap (Ns.enc d) ++ Ns.enc d xs[k] := by
    intro k hk
    rw [List.take_succ_eq_append_getElem hk, List.flatMap_append]
    simp
  have hle : ∀ k, ((xs.take k).flatMap (Ns.enc d)).length ≤ (xs.flatMap (Ns.enc d)).length := by
    intro k
    have h1 := congrArg (fun l => (List.flatMap (Ns.enc d) l).length) (List.take_append_drop k xs)
    simp only [List.flatMap_append, List.length_append] at h1
    omega
  replace hstep := Lib.hid hstep
  replace hle := Lib.hid hle
  replace hS := Lib.hid hS
  have hlen := hI4.out.len
  clear hI3 hs3 hs4 e8 e64 hI2 hsz2 h55'
  go_loopw [0, 61] (fun v i wr => ∃ (k m' : Nat) (A' : Option Addr) (c' : Nat), k ≤ xs.length ∧ i = .int .i64 k ∧ v = .slice A' m' c' ∧ WrI w (Value.slice A m c).ownBlock B w.heap.size #[.bool true, .slice none 0 0, .slice A2 n c2] wr A' m' c' (l ++ [UInt8.ofNat (192 + L)] ++ (xs.take k).flatMap (Ns.enc d))) (fun _ i _ => xs.length - (intOf i).toNat)
  case atStart =>
    refine ⟨0, _, _, _, Nat.zero_le _, rfl, rfl, ?_⟩
    have := hI4.out
    simpa using this
  case round =>
    clear hI4 g2 hlen
    obtain ⟨k, m', A', c', hk, rfl, rfl, hI⟩ := hrel
    by_cases hlt : k < xs.length
    · have hbel := hI.bel hB hbq.out
      obtain ⟨g, o, a, b, cc, rfl, hSg, hg, hrg, hone, hsit⟩ := items_at (hin.out.move (S' := S) (fun q h1 h2 => ⟨h1, hbel.block q (hS.out q h1)⟩) hbel.size) (hall.out.imp fun v x hx => hx.move (S' := S) _ _ _ (fun q h1 h2 => ⟨h1, hbel.block q (hS.out q h1)⟩) hbel.size) hn.out k hlt
      have hrg2 : wr.rangeAt g (o + k * 3) [a, b, cc] := by rw [Nat.mul_comm k 3]; exact hrg
      have hIr := hI.rowed (Nat.le_refl wr.heap.size) rowZ #[a, b, cc]
      have hsit2 : Sits S ((wr.alloc (.cells rowZ 46)).setRow wr.heap.size #[a, b, cc]) d (.agg #[a, b, cc]) xs[k] :=
        hsit.move _ _ _ (fun q h1 h2 => ⟨h1, (setRow_other _ _ q _ (by omega)).trans (Below.heap_alloc wr _ q h2)⟩) (by simp)
      have hs1 := hle.out (k + 1)
      rw [hstep.out k hlt, List.length_append] at hs1
      have hml := hI.len
      simp only [List.length_append, List.length_cons, List.length_nil] at hml
      have hLo := hL.out
      have hmo := hm.out
      have hcall := hw.out S A' m' c' B _ _ xs[k] _ hIr.own hIr.len (by have := hIr.gr.size; omega) hS.out hsit2 (by omega) (hsmall.out _ (List.getElem_mem hlt))
      have hbx : w.heap.size = w.heap.size := rfl
      clear hbel hrg hsit hsit2 hs1 hLo hml hmo
      replace hI := Lib.hid hI
      replace hIr := Lib.hid hIr
      have hlt' : (k : Int) < n := by have := hn.out; omega
      go_wp2_with (first
        | (refine wpList_load_mid rfl 46 _ rfl g (o + k * 3) rfl [a, b, cc] _ hrg2 Try.underlying46 rfl info_item3 ?_)
        | (refine wpList_store_row rfl 46 _ _ rfl wr.heap.size #[a, b, cc] rfl rfl _ _ (Blk.new wr 46 rowZ) info_item3 rfl (by simpa using hone) ?_)
        | (refine wpList_load_row rfl 46 _ rfl wr.heap.size rfl _ _ _ _ ((Blk.new wr 46 rowZ).row #[a, b, cc]) Try.underlying46 rfl info_item3 ?_)
        | fail)
      refine hcall.mono ?_
      intro e w2 hq
      obtain ⟨A5, m5, c5, rfl, hI5⟩ := hIr.out.call rfl h0.out hq
      replace hI5 := Lib.hid hI5
      clear hcall hq
      go_wp2_with fail
      refine ⟨⟨k + 1, _, _, _, by omega, by go_num, rfl, ?_⟩, ?_⟩
      · rw [hstep.out k hlt, ← List.append_assoc]; exact hI5.out
      · simp [intOf]; omega
    · obtain rfl : k = xs.length := by omega
      rw [List.take_length] at hI
      replace hI := Lib.hid hI
      have hlt' : ¬ (xs.length : Int) < n := by have := hn.out; omega
      go_wp2_with fail
      go_ret
      have := hI.out.out
      simp only [List.append_assoc, List.singleton_append, UInt8.ofNat_add, UInt8.reduceOfNat] at this ⊢
      exact this
end Go.Proofs.YtahaaeenbahknaaRRRR

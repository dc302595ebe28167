/-
  The reference of chapter 2: body, Bytes.
-/
import Derived.Test.YtcpnfllekpekgaaRf6
namespace Go.Proofs.Ytcpnfllekpekgaa
open Go.RowKit

def BytC (d : Nat) : Prop := ∀ (S : Nat → Prop) (v : Value) (x : Ns.It d) (w : World), Sits S w d v x → (∀ q, S q → q < w.heap.size) → (Ns.enc d x).length ≤ 16777215 → Calls Try.prog 17 #[v] w (PostB w (Ns.enc d x))
theorem ref_body_text (A : Option Addr) (n c : Nat) (l : List UInt8) (w : World) (h : Bytes w w.heap.size A n c l) (hl : l.length ≤ 140737488355328) :
    Calls Try.prog 30 #[txV A n c] w (PostB w l) := by
  have hlen := h.len
  subst hlen
  have hs0 : (w.alloc (.cells #[.bool false, .slice A l.length c, .slice none 0 0] 38)).heap.size = w.heap.size + 1 := by simp
  have ho : (w.alloc (.cells #[.bool false, .slice A l.length c, .slice none 0 0] 38)).ownsRow (w.heap.size + 1) 5 1 (.slice none 0 0) 0 (bv []) := World.ownsRow_nil _ _ _ _
  have h1 := h.alloc (Nat.le_refl _) (.cells #[.bool false, .slice A l.length c, .slice none 0 0] 38)
  have hbe : Below w.heap.size w (w.alloc (.cells #[.bool false, .slice A l.length c, .slice none 0 0] 38)) := (Below.refl _ _).alloc (Nat.le_refl _) _
  have hb0 := Blk.new w 38 #[.bool false, .slice A l.length c, .slice none 0 0]
  replace hbe := Lib.hid hbe
  replace hs0 := Lib.hid hs0
  replace hb0 := Lib.hid hb0
  unfold txV
  go_enter Try.func30, Try.ntmps30
  go_wp2_with (at_builtin; refine wpList_append_u8 rfl _ _ rfl (w.heap.size + 1) _ 0 [] rfl ho w.heap.size _ _ _ l rfl h1 (by omega) (by rw [hs0.out]; omega) ?_; intro A1 c1 w1 hown1 hb1; have g2 : w1.cell? ⟨w.heap.size, 2, none⟩ = some (.slice none 0 0) := (hb0.out.below hb1 (by omega)).cell 2; replace hb1 := Lib.hid hb1)
  refine wp_loop_rounds 1 ?_
  rw [rounds_succ]; go_wp2_with fail
  rw [List.nil_append, Nat.zero_add] at hown1
  go_ret
  refine ⟨A1, l.length, c1, rfl, new_of (m := l.length) (m' := l.length) rfl rfl hbe.out (by rw [hs0.out]; simpa using hown1) (hb1.out.mono (by rw [hs0.out]; omega))⟩
set_option maxHeartbeats 2000000 in
set_option maxRecDepth 100000 in
theorem ref_body_list (d : Nat) (hw : BytC d) (S : Nat → Prop) (A : Option Addr) (n c : Nat) (vs : List Value) (xs : List (Ns.It d)) (w : World) (hS : ∀ q, S q → q < w.heap.size) (hn : n = xs.length) (hc : n ≤ c) (hm : c ≤ maxLen)
    (hin : InS S w 3 A n (flat vs)) (hall : All2 (Sits S w d) vs xs) (hl : (xs.flatMap (Ns.enc d)).length ≤ 16777215) :
    Calls Try.prog 30 #[lsV A n c] w (PostB w (xs.flatMap (Ns.enc d))) := by
  have hn63 : (n : Int) ≤ 9223372036854775807 := by unfold maxLen at hm; omega
  subst hn
  have hs0 : (w.alloc (.cells #[.bool true, .slice none 0 0, .slice A xs.length c] 38)).heap.size = w.heap.size + 1 := by simp
  have ho : (w.alloc (.cells #[.bool true, .slice none 0 0, .slice A xs.length c] 38)).ownsRow (w.heap.size + 1) 5 1 (.slice none 0 0) 0 (bv []) := World.ownsRow_nil _ _ _ _
  have hbe : Below w.heap.size w (w.alloc (.cells #[.bool true, .slice none 0 0, .slice A xs.length c] 38)) := (Below.refl _ _).alloc (Nat.le_refl _) _
  have hb0 := Blk.new w 38 #[.bool true, .slice none 0 0, .slice A xs.length c]
  have hle : ∀ k, ((xs.take k).flatMap (Ns.enc d)).length ≤ (xs.flatMap (Ns.enc d)).length := by
    intro k
    have h1 := congrArg (fun l => (List.flatMap (Ns.enc d) l).length) (List.take_append_drop k xs)
    simp only [List.flatMap_append, List.length_append] at h1
    omega
  have hstep : ∀ k (hk : k < xs.length), (xs.take (k + 1)).flatMap (Ns.enc d) = (xs.take k).flatMap (Ns.enc d) ++ Ns.enc d xs[k] := by
    intro k hk
    rw [List.take_succ_eq_append_getElem hk, List.flatMap_append]
    simp
  replace hbe := Lib.hid hbe
  replace hb0 := Lib.hid hb0
  replace hin := Lib.hid hin
  replace hall := Lib.hid hall
  replace hS := Lib.hid hS
  replace hw := Lib.hid hw
  replace hle := Lib.hid hle
  replace hstep := Lib.hid hstep
  replace hs0 := Lib.hid hs0
  replace hl := Lib.hid hl
  clear hc hm
  unfold lsV
  go_enter Try.func30, Try.ntmps30
  go_wp2_with (at_builtin; refine wpList_append_u8 rfl _ _ rfl (w.heap.size + 1) _ 0 [] rfl ho 0 _ _ _ [] rfl (Bytes.none_ _ _ _ (Nat.zero_le _)) (by omega) (by rw [hs0.out]; omega) ?_; intro A1 c1 w1 hown1 hb1; replace hown1 := Lib.hid hown1; replace hb1 := Lib.hid hb1)
  have hs0' := hs0.out
  go_loopw [3, 4] (fun v i wr => ∃ (k m : Nat) (A' : Option Addr) (c' : Nat), k ≤ xs.length ∧ i = .int .i64 k ∧ v = .slice A' m c' ∧ m = ((xs.take k).flatMap (Ns.enc d)).length ∧ wr.ownsRow (w.heap.size + 1) 5 1 (.slice A' m c') m (bv ((xs.take k).flatMap (Ns.enc d))) ∧ Below (w.heap.size + 1) (w.alloc (.cells #[.bool true, .slice none 0 0, .slice A xs.length c] 38)) wr) (fun _ i _ => xs.length - (intOf i).toNat)
  case atStart =>
    refine ⟨0, _, _, _, Nat.zero_le _, rfl, rfl, by simp, ?_, hb1.out⟩
    simpa using hown1.out
  case round =>
    clear hown1 hb1 ho
    obtain ⟨k, m, A', c', hk, rfl, rfl, hmk, hown, hbw⟩ := hrel
    have hbl := hb0.out.below hbw (by omega)
    have g2 : wr.cell? ⟨w.heap.size, 2, none⟩ = some (.slice A xs.length c) := hbl.cell 2
    have hww := hbe.out.trans (hbw.mono (Nat.le_succ _))
    have hbs := hbw.size
    rw [hs0'] at hbs
    by_cases hlt : k < xs.length
    · have hmv : ∀ q, S q → q < w.heap.size → S q ∧ wr.heap[q]? = w.heap[q]? := fun q h1 h2 => ⟨h1, hww.block q h2⟩
      obtain ⟨g, o, a, b, cc, rfl, hSg, hg, hrg, hone, hsit⟩ := items_at (hin.out.move hmv hww.size) (hall.out.imp fun v x hx => hx.move _ _ _ hmv hww.size) rfl k hlt
      have hrg2 : wr.rangeAt g (o + k * 3) [a, b, cc] := by rw [Nat.mul_comm k 3]; exact hrg
      have hs1 := hle.out (k + 1)
      rw [hstep.out k hlt, List.length_append] at hs1
      have hlo := hl.out
      have hcall := hw.out S (.agg #[a, b, cc]) xs[k] wr hsit (fun q h => by have := hS.out q h; omega) (by omega)
      have hlt' : (k : Int) < (xs.length : Int) := by omega
      have hst := Lib.hid (hstep.out k hlt)
      clear hrg hsit hmv
      replace hmk := Lib.hid hmk
      replace hown := Lib.hid hown
      replace hbw := Lib.hid hbw
      replace hww := Lib.hid hww
      replace hbl := Lib.hid hbl
      go_wp2_with (refine wpList_load_mid rfl 38 _ rfl g (o + k * 3) rfl [a, b, cc] _ hrg2 Try.underlying38 rfl info_item3 ?_)
      refine hcall.mono ?_
      rintro e w5 ⟨A5, m5, c5, rfl, hN⟩
      have hown5 := hown.out.kept (row := none) ⟨hN.2.2.os, hN.2.2.tape, hN.2.2.output, hN.2.2.size, fun q hq _ => hN.2.2.block q hq⟩ (by cases e : (Value.slice A' m c').ownBlock with | none => exact .inl rfl | some q => exact .inr (by simp))
      have hb5 := hbw.out.trans (hN.2.2.mono hbs)
      have hby := hN.bytes
      have hm5 := hN.1
      have hs5 := hN.2.2.size
      clear hcall hN g2
      replace hb5 := Lib.hid hb5
      replace hm5 := Lib.hid hm5
      generalize hPe : (xs.take k).flatMap (Ns.enc d) = P at *
      replace hPe := Lib.hid hPe
      go_wp2_with (at_builtin; refine wpList_append_u8 rfl _ _ rfl (w.heap.size + 1) _ m P rfl hown5 _ _ _ _ (Ns.enc d xs[k]) rfl hby (by have := hm5.out; have := hmk.out; omega) (by omega) ?_; intro A6 c6 w6 hown6 hb6; replace hown6 := Lib.hid hown6; replace hb6 := Lib.hid hb6)
      refine ⟨⟨k + 1, _, _, _, by omega, by go_num, rfl, ?_, ?_, hb5.out.trans hb6.out⟩, ?_⟩
      · rw [hst.out, List.length_append, hm5.out, hmk.out]
      · rw [hst.out]; exact hown6.out
      · simp [intOf]; omega
    · obtain rfl : k = xs.length := by omega
      rw [List.take_length] at hmk hown
      have hlt' : ¬ (xs.length : Int) < (xs.length : Int) := by omega
      replace hown := Lib.hid hown
      replace hww := Lib.hid hww
      replace hbl := Lib.hid hbl
      replace hmk := Lib.hid hmk
      go_wp2_with fail
      go_ret
      exact ⟨A', m, c', rfl, new_of rfl hmk.out hbe.out (by rw [hs0']; exact hown.out) (hbw.mono (by rw [hs0']; omega))⟩
end Go.Proofs.Ytcpnfllekpekgaa

/-
  Package nest: write, Encode, of items of any length that may be.
-/
import Derived.Test.YtahaaeenbahknaaRRRRNe6
import Derived.Test.YtahaaeenbahknaaRRRREn1
namespace Go.Proofs.YtahaaeenbahknaaRRRR
open Go.RowKit

theorem Ns.head_big (base n : Nat) (h : 55 < n) : Ns.head base n = [UInt8.ofNat (base + 55 + (Wd.be 8 n).length)] ++ Wd.be 8 n := by unfold Ns.head; rw [if_neg (by omega)]; rfl
theorem write_any : ∀ (d : Nat), WriteA d
  | 0 => fun S A m c B l v x => nomatch x
  | d + 1 => by
    intro S A m c B l v x w hown hm hB hS hsit hlim h24
    match x, hsit, hlim, h24 with
    | .inl b, hsit, hlim, h24 =>
      have h24' : b.length ≤ 16777215 := h24
      rcases Nat.lt_or_ge 55 b.length with h55 | h55
      · obtain ⟨A2, n, c2, rfl, hn, hc, hcm, hin⟩ := hsit
        subst hn
        have he : Ns.enc (d + 1) (.inl b) = [UInt8.ofNat (128 + 55 + (Wd.be 8 b.length).length)] ++ Wd.be 8 b.length ++ b := by
          show Ns.encT b = _
          unfold Ns.encT
          rw [if_neg (fun e => by omega), Ns.head_big _ _ h55]
        have hk := Ns.be_short b.length h55 (by unfold Ns.maxBytes; omega)
        rw [he] at hlim ⊢
        simp only [List.length_append, List.length_singleton] at hlim
        rw [← List.append_assoc, ← List.append_assoc]
        exact write_text_long A m c B l A2 _ c2 b w hown hm hB ⟨rfl, hc, hcm, hin.reads fun g h _ => hS g h⟩ h55 h24' (by omega)
      · exact write_all (d + 1) S A m c B l v (.inl b) w hown hm hB hS hsit (by omega) h55
    | .inr xs, hsit, hlim, h24 =>
      have h24' : (xs.flatMap (Ns.enc d)).length ≤ 16777215 := h24
      rcases Nat.lt_or_ge 55 (xs.flatMap (Ns.enc d)).length with h55 | h55
      · obtain ⟨A2, n, c2, vs, rfl, hn, hc, hcm, hin, hall⟩ := hsit
        have he : Ns.enc (d + 1) (.inr xs) = [UInt8.ofNat (192 + 55 + (Wd.be 8 (xs.flatMap (Ns.enc d)).length).length)] ++ Wd.be 8 (xs.flatMap (Ns.enc d)).length ++ xs.flatMap (Ns.enc d) := by
          show Ns.head 192 (xs.flatMap (Ns.enc d)).length ++ xs.flatMap (Ns.enc d) = _
          rw [Ns.head_big _ _ h55]
        rw [he] at hlim ⊢
        simp only [List.length_append, List.length_singleton] at hlim
        rw [← List.append_assoc, ← List.append_assoc]
        exact write_list_long d (write_any d) S A m c B l A2 n c2 vs xs w hown hm hB hS hn hc hcm hin hall _ rfl h55 h24' (by omega)
      · exact write_all (d + 1) S A m c B l v (.inr xs) w hown hm hB hS hsit (by omega) h55
set_option maxHeartbeats 1000000 in
set_option maxRecDepth 100000 in
theorem nest_Encode_any (S : Nat → Prop) (v : Value) (x : Ns.It 9) (w : World) (hsit : Sits S w 9 v x) (hS : ∀ q, S q → q < w.heap.size) (hfit : Ns.fit 8 x) (hlim : (Ns.enc 9 x).length ≤ 16777215) :
    Calls Try.prog 22 #[v] w (PostBe w (Ns.enc 9 x) 0) := by
  obtain ⟨a, b, c, rfl, hcells, hone⟩ := hsit.cells
  have hbody := Ns.body_le 9 x
  have hbp : (Ns.body 9 x).length < 4611686018427387904 := by omega
  have hb1 : Blk ((w.alloc (.cells #[a, b, c] 46)).alloc (.cells #[.int .i64 0, .int .i64 0] 59)) w.heap.size 46 #[a, b, c] := (Blk.new w _ _).alloc _
  have hk1 : Blk ((w.alloc (.cells #[a, b, c] 46)).alloc (.cells #[.int .i64 0, .int .i64 0] 59)) (w.heap.size + 1) 59 #[.int .i64 ((0 : Nat) : Int), .int .i64 0] := Blk.new' (by simp)
  have hbe1 : Below w.heap.size w ((w.alloc (.cells #[a, b, c] 46)).alloc (.cells #[.int .i64 0, .int .i64 0] 59)) := ((Below.refl _ _).alloc (Nat.le_refl _) _).alloc (by simp) _
  have hsit1 : Sits S ((w.alloc (.cells #[a, b, c] 46)).alloc (.cells #[.int .i64 0, .int .i64 0] 59)) 9 (.agg #[a, b, c]) x := hsit.move _ _ _ (fun q h1 h2 => ⟨h1, hbe1.block q h2⟩) hbe1.size
  have hlook := look_all 8 (Nat.le_refl _) S (w.heap.size + 1) 0 _ x _ hk1 (fun q h e => by have := hS q h; omega) hsit1 hfit (by show 0 + (Ns.enc 9 x).length ≤ 16777215; omega)
  rw [show ((8 - 8 : Nat) : Int) = 0 from rfl] at hlook
  replace hk1 := Lib.hid hk1
  replace hbe1 := Lib.hid hbe1
  replace hsit := Lib.hid hsit
  replace hS := Lib.hid hS
  replace hfit := Lib.hid hfit
  clear hsit1
  go_enter Try.func22, Try.ntmps22
  go_wp2_with (refine wpList_load_row rfl 46 _ rfl w.heap.size rfl _ _ _ _ hb1 Try.underlying46 rfl info_item3 ?_)
  refine hlook.mono ?_
  rintro e w2 ⟨rfl, W, hW, hk2, hg2⟩
  have hb2 := hb1.grown hg2 (by omega)
  have hbe2 := hbe1.out.trans ⟨hg2.os, hg2.tape, hg2.output, hg2.size, fun k hk => hg2.block k (by simp; omega) (by simp; omega)⟩
  have hsit2 : Sits S w2 9 (.agg #[a, b, c]) x := hsit.out.move _ _ _ (fun q h1 h2 => ⟨h1, hbe2.block q h2⟩) hbe2.size
  have hbd := nest_body 8 S _ x w2 hsit2 hbp
  have e1 : w2.cell? ⟨w.heap.size + 1, 1, none⟩ = some (.int .i64 0) := hk2.cell 1
  have h24 : ((Ns.body 9 x).length : Int) ≤ 16777215 := by omega
  have hb2l := hb2.lt
  clear hlook hb1 hk1 hbe1 hg2 hk2
  replace hbe2 := Lib.hid hbe2
  replace hsit2 := Lib.hid hsit2
  obtain ⟨L, hL⟩ : ∃ L, L = (Ns.body 9 x).length := ⟨_, rfl⟩
  rw [← hL] at hbd h24
  replace hL := Lib.hid hL
  go_wp2_with (refine wpList_load_row rfl 46 _ rfl w.heap.size rfl _ _ _ _ hb2 Try.underlying46 rfl info_item3 ?_)
  refine hbd.mono ?_
  rintro e w3 ⟨rfl, hbe3⟩
  have hb3 := hb2.below hbe3 hb2l
  have hbw := hbe2.out.trans (hbe3.mono hbe2.out.size)
  have hsit3 : Sits S w3 9 (.agg #[a, b, c]) x := hsit2.out.move _ _ _ (fun q h1 h2 => ⟨h1, hbe3.block q h2⟩) hbe3.size
  have hwr := write_any 9 S none 0 0 w3.heap.size [] _ x w3 (World.ownsRow_nil _ _ _ _) rfl (Nat.le_refl _) (fun q h => Nat.lt_of_lt_of_le (hS.out q h) hbw.size) hsit3 (by show 0 + (Ns.enc 9 x).length + 8 ≤ _; omega) (by omega)
  clear hbd e1 hb2 hbe3 hsit2 hsit3
  replace hbw := Lib.hid hbw
  go_wp2_with (refine wpList_load_row rfl 46 _ rfl w.heap.size rfl _ _ _ _ hb3 Try.underlying46 rfl info_item3 ?_)
  refine hwr.mono ?_
  rintro e w4 ⟨A', m', c', rfl, hown, hm', hgr, -⟩
  clear hwr hb3
  have hfin : NewB w w4 A' m' c' (Ns.enc 9 x) := new_of rfl hm' hbw.out hown ⟨hgr.os, hgr.tape, hgr.output, hgr.size, fun k hk => hgr.block k hk (by simp [Value.ownBlock])⟩
  replace hfin := Lib.hid hfin
  clear hown hgr hm'
  go_wp2_with fail
  go_ret2
  exact ⟨A', m', c', rfl, hfin.out⟩
end Go.Proofs.YtahaaeenbahknaaRRRR

/-
  The laws of chapter 05: NodeOnly.
-/
import Derived.Test.YtahaaeenbahknaaRRRRLaw05a
namespace Go.Proofs.YtahaaeenbahknaaRRRR
open Go.RowKit

set_option maxHeartbeats 1000000 in
set_option maxRecDepth 100000 in
theorem law_NodeOnly (A : Option Addr) (n c : Nat) (l : List UInt8) (w : World) (h : Bytes w w.heap.size A n c l) : Calls Try.prog 4 #[.slice A n c] w (PostT w) := by
  have h1 := node_Decode l A n c w h
  cases hdec : Nd.dec l with
  | none =>
    have hS := fun (W : World) (hV : NodV W noZ.toList Nd.no0 W) => hV
    clear hS
    replace hdec := Lib.hid hdec
    clear h
    go_enter Try.func4, Try.ntmps4
    go_wp2_with fail
    refine h1.mono ?_
    intro e w1 hq
    obtain ⟨rfl, hb1⟩ := hq.none_ hdec.out
    have hst := Lib.hid (nodV_stored (NodIn.zero (fun _ => False) w1 : NodIn (fun _ => False) w1 (.agg noZ.toList.toArray) Nd.no0))
    replace hb1 := Lib.hid hb1
    clear h1 hq
    go_wp2_with (first
      | (refine wpList_store_row rfl 29 _ _ rfl w1.heap.size noZ rfl rfl _ _ (Blk.new w1 29 noZ) info_node rfl noZ_one ?_; refine list_at (NodV w1 noZ.toList Nd.no0) hst.out ?_; intro w2 hI2; replace hI2 := Lib.hid hI2)
      | fail)
    refine (law05_alive w2).mono ?_
    rintro e w3 ⟨rfl, hb3⟩
    have hV3 := Lib.hid (hI2.out.step hb3)
    have hbe := Lib.hid (hb1.out.trans (hV3.out.bel.mono hb1.out.size))
    clear hb1 hb3 hI2 hst
    go_wp2_with (first
      | (refine wpList_mid_g (by rfl) 29 _ rfl w1.heap.size 0 rfl noZ.toList _ hV3.out.range Try.underlying29 rfl (by rw [(show noZ.toList.length = 38 from rfl)]; exact info_node) ?_)
      | fail)
    refine (same_self _ _ _ _ Nd.no0 w3 hV3.out.nin (NodIn.zero (fun _ => False) w3) hV3.out.lim (fun _ h => h.elim)).mono ?_
    rintro e w4 ⟨rfl, hb4⟩
    have hbe4 := Lib.hid (hbe.out.trans (hb4.mono hbe.out.size))
    clear hb4 hbe hV3
    go_wp2_with fail
    go_ret
    exact ⟨rfl, hbe4.out⟩
  | some x =>
    obtain ⟨hbx, hr⟩ := Nd.enc_dec hdec
    replace hdec := Lib.hid hdec
    have hR := fun (W wr : World) (cs : List Value) (h : NodV wr cs x W) => node_Right _ _ x W h.nin h.lim (fun r _ _ => node_Decode r.inl)
    have hE := fun (W wr : World) (cs : List Value) (h : NodV wr cs x W) => node_Encode _ _ x W h.nin h.lim
    rw [hr] at hR hE
    simp only [if_true] at hE
    rw [hbx] at hE
    replace hR := Lib.hid hR
    replace hE := Lib.hid hE
    replace h := Lib.hid h
    clear hbx hr
    go_enter Try.func4, Try.ntmps4
    go_wp2_with fail
    refine h1.mono ?_
    intro e w1 hq
    obtain ⟨cs, rfl, hcl, hone, hnin, hb1⟩ := hq.some_ hdec.out
    have hst := Lib.hid (nodV_stored hnin)
    have hcs := Lib.hid (show cs.toArray.size = 38 by simp [hcl])
    replace hone := Lib.hid hone
    replace hcl := Lib.hid hcl
    replace hb1 := Lib.hid hb1
    clear h1 hq hnin
    go_wp2_with (first
      | (refine wpList_store_row rfl 29 _ _ rfl w1.heap.size cs.toArray rfl rfl _ _ (Blk.new w1 29 noZ) (by rw [hcs.out]; exact info_node) (by rw [hcs.out]; rfl) hone.out ?_; refine list_at (NodV w1 cs x) hst.out ?_; intro w2 hI2; replace hI2 := Lib.hid hI2)
      | (refine wpList_load_row rfl 29 _ rfl w1.heap.size rfl _ _ _ _ hI2.out.it Try.underlying29 rfl (by rw [hcs.out]; exact info_node) ?_)
      | fail)
    refine (hR.out _ _ _ hI2.out).mono ?_
    rintro e w3 ⟨rfl, hb3⟩
    have hV3 := Lib.hid (hI2.out.step hb3)
    clear hb3 hI2 hst hR
    go_wp2_with (first
      | (refine wpList_load_row rfl 29 _ rfl w1.heap.size rfl _ _ _ _ hV3.out.it Try.underlying29 rfl (by rw [hcs.out]; exact info_node) ?_)
      | fail)
    refine (hE.out _ _ _ hV3.out).mono ?_
    rintro e w4 ⟨A4, n4, c4, rfl, hN4⟩
    have hV4 := Lib.hid (hV3.out.step hN4.2.2)
    have hby4 := Lib.hid hN4.bytes
    clear hE hN4 hV3
    go_wp2_with fail
    refine (law05_alive w4).mono ?_
    rintro e w5 ⟨rfl, hb5⟩
    have hV5 := Lib.hid (hV4.out.step hb5)
    have hbe := hb1.out.trans (hV5.out.bel.mono hb1.out.size)
    have t1 := (hby4.out.step hb5).toStr (P := Try.prog) Try.underlying22 Try.underlying5 9 Try.underlying9
    have t2 := (h.out.below hbe).toStr (P := Try.prog) Try.underlying22 Try.underlying5 9 Try.underlying9
    replace hbe := Lib.hid hbe
    clear hb5 hV4 hby4 hV5 hb1
    go_wp2_with fail
    go_ret
    exact ⟨ret_bool (by simp), hbe.out⟩
end Go.Proofs.YtahaaeenbahknaaRRRR

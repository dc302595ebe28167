/-
  The laws of chapter 05: a node in a variable; alive.
-/
import Derived.Test.YtahaaeenbahknaaRRRRNo9
import Derived.Test.YtahaaeenbahknaaRRRROpN
namespace Go.Proofs.YtahaaeenbahknaaRRRR
open Go.RowKit

/-- a node in a variable -/
structure NodV (wr : World) (cs : List Value) (x : Nd.No) (W : World) : Prop where
  it : Blk W wr.heap.size 29 cs.toArray
  nin : NodIn (fun q => q < wr.heap.size) W (.agg cs.toArray) x
  bel : Below wr.heap.size wr W
theorem nodV_stored {S : Nat → Prop} {wr : World} {cs : List Value} {x : Nd.No} (h : NodIn S wr (.agg cs.toArray) x) : NodV wr cs x ((wr.alloc (.cells noZ 29)).setRow wr.heap.size cs.toArray) :=
  have hb : Below wr.heap.size wr ((wr.alloc (.cells noZ 29)).setRow wr.heap.size cs.toArray) := below_row ((Below.refl _ _).alloc (Nat.le_refl _) _) (Nat.le_refl _) _
  ⟨(Blk.new wr 29 noZ).row cs.toArray, h.move (fun q _ h2 => ⟨h2, hb.block q h2⟩) hb.size, hb⟩
theorem nodV_boxed {S : Nat → Prop} {wr : World} {cs : List Value} {x : Nd.No} (h : NodIn S wr (.agg cs.toArray) x) : NodV wr cs x (wr.alloc (.cells cs.toArray 29)) :=
  have hb : Below wr.heap.size wr (wr.alloc (.cells cs.toArray 29)) := (Below.refl _ _).alloc (Nat.le_refl _) _
  ⟨Blk.new wr 29 cs.toArray, h.move (fun q _ h2 => ⟨h2, hb.block q h2⟩) hb.size, hb⟩
theorem NodV.step {wr W W' : World} {cs : List Value} {x : Nd.No} (h : NodV wr cs x W) (hb : Below W.heap.size W W') : NodV wr cs x W' :=
  ⟨h.it.below hb h.it.lt, h.nin.move (fun q h1 h2 => ⟨h1, hb.block q h2⟩) hb.size, h.bel.trans (hb.mono h.bel.size)⟩
theorem NodV.lim {wr W : World} {cs : List Value} {x : Nd.No} (h : NodV wr cs x W) : ∀ q, q < wr.heap.size → q < W.heap.size := fun q hq => Nat.lt_of_lt_of_le hq h.bel.size
/-- Decode's answer, opened -/
theorem NodQ.some_ {b : List UInt8} {x : Nd.No} {w w' : World} {e : Ending} (h : NodQ b w e w') (hx : Nd.dec b = some x) :
    ∃ cs : List Value, e = .returned (.tuple #[.agg cs.toArray, .int .i64 0]) ∧ cs.length = 38 ∧ (cs.toArray.all (·.oneCell') = true) ∧ NodIn (fun q => w.heap.size ≤ q) w' (.agg cs.toArray) x ∧ Below w.heap.size w w' := by
  obtain ⟨hb, hq⟩ := h
  rw [hx] at hq
  obtain ⟨v, rfl, hn⟩ := hq
  obtain ⟨cs, rfl, hl, h1, _⟩ := hn.row
  exact ⟨cs, rfl, hl, by simpa using h1, hn, hb⟩
theorem NodQ.none_ {b : List UInt8} {w w' : World} {e : Ending} (h : NodQ b w e w') (hx : Nd.dec b = none) : e = .returned (.tuple #[.agg noZ, .int .i64 50]) ∧ Below w.heap.size w w' := by
  obtain ⟨hb, hq⟩ := h
  rw [hx] at hq
  exact ⟨hq, hb⟩

def aliveX : Nd.No := ⟨1, [1, 2], [5], Nd.rf0, []⟩
theorem alive05_enc : Nd.enc aliveX = [196, 130, 32, 18, 5] := by kernel_rfl
theorem alive05_right : Nd.right Nd.dec aliveX = true := by kernel_rfl
theorem alive05_dec : Nd.dec [194, 32, 5] = some ⟨1, [], [5], Nd.rf0, []⟩ := by kernel_rfl
theorem alive05_in (w : World) : NodIn (fun q => q < w.heap.size + 2) ((w.alloc (.cells #[.int .u8 1, .int .u8 2] 5)).alloc (.cells #[.int .u8 5] 5))
    (.agg (nodRow 1 (some ⟨w.heap.size, 0, none⟩) 2 2 (some ⟨w.heap.size + 1, 0, none⟩) 1 1 0 Nd.z32 none 0 0 none 0 0)) aliveX := by
  have h1 := (Bytes.lit (n := 2) w #[.int .u8 1, .int .u8 2] [1, 2] 5 rfl (by unfold maxLen; simp) rfl).alloc (by simp) (.cells #[.int .u8 5] 5)
  have h2 := Bytes.lit' (n := 1) (g := w.heap.size + 1) (w.alloc (.cells #[.int .u8 1, .int .u8 2] 5)) #[.int .u8 5] [5] 5 (by simp) rfl (by unfold maxLen; simp) rfl
  have hs : ((w.alloc (.cells #[.int .u8 1, .int .u8 2] 5)).alloc (.cells #[.int .u8 5] 5)).heap.size = w.heap.size + 2 := by simp
  refine ⟨_, 2, 2, _, 1, 1, none, 0, 0, none, 0, 0, [], rfl, rfl, ⟨rfl, Nat.le_refl _, by unfold maxLen; omega, ?_⟩, ⟨rfl, Nat.le_refl _, by unfold maxLen; omega, ?_⟩, ⟨rfl, Nat.le_refl _, Nat.zero_le _, ⟨rfl, fun h => by omega⟩⟩, rfl, Nat.le_refl _, Nat.zero_le _, ⟨rfl, fun h => by omega⟩, All2.nil⟩
  · refine ⟨rfl, fun hp => ?_⟩
    obtain ⟨g, o, e, hg, hc⟩ := h1.reads.2 hp
    exact ⟨g, o, e, by omega, by rw [hs]; omega, hc⟩
  · refine ⟨rfl, fun hp => ?_⟩
    obtain ⟨g, o, e, hg, hc⟩ := h2.reads.2 hp
    exact ⟨g, o, e, by omega, by rw [hs]; omega, hc⟩
set_option maxHeartbeats 1000000 in
set_option maxRecDepth 100000 in
theorem law05_alive (w : World) : Calls Try.prog 9 #[] w fun e w' => e = .returned (.bool true) ∧ Below w.heap.size w w' := by
  have hE := node_Encode _ _ aliveX _ (alive05_in w) (by intro q h; simpa using h)
  rw [alive05_right, alive05_enc] at hE
  simp only [if_true] at hE
  have hbe : Below w.heap.size w ((w.alloc (.cells #[.int .u8 1, .int .u8 2] 5)).alloc (.cells #[.int .u8 5] 5)) := ((Below.refl _ _).alloc (Nat.le_refl _) _).alloc (by simp) _
  have hD := fun (w' : World) => node_Decode [194, 32, 5] (some ⟨w'.heap.size, 0, none⟩) 3 3 (w'.alloc (.cells #[.int .u8 194, .int .u8 32, .int .u8 5] 5)) (by
    have := Bytes.lit (n := 3) w' #[.int .u8 194, .int .u8 32, .int .u8 5] [194, 32, 5] 5 rfl (by unfold maxLen; simp) rfl
    exact this.more (by simp))
  replace hD := Lib.hid hD
  replace hbe := Lib.hid hbe
  go_enter Try.func9, Try.ntmps9
  go_wp2_with fail
  refine hE.mono ?_
  rintro e w1 ⟨A1, n1, c1, rfl, hN1⟩
  have hb1 := hbe.out.trans (hN1.2.2.mono hbe.out.size)
  have hby1 := hN1.bytes
  have hb2 := hb1.alloc hb1.size (.cells #[.int .u8 194, .int .u8 32, .int .u8 5] 5)
  have hby2 := (hby1.alloc (Nat.le_refl _) (.cells #[.int .u8 194, .int .u8 32, .int .u8 5] 5)).more (show w1.heap.size ≤ (w1.alloc (.cells #[.int .u8 194, .int .u8 32, .int .u8 5] 5)).heap.size by simp)
  clear hE hN1 hbe hby1 hb1
  replace hb2 := Lib.hid hb2
  replace hby2 := Lib.hid hby2
  go_wp2_with fail
  refine (hD.out w1).mono ?_
  intro e w3 hq
  obtain ⟨cs, rfl, hcl, hone, hnin, hbe3⟩ := hq.some_ alive05_dec
  obtain ⟨Ap, np, cp, Av, nv, cv, Ac, nc, cc, Ak, nk, kk, vs, e1, hcd, ⟨hp1, hp2, hp3, hp4⟩, ⟨hv1, hv2, hv3, hv4⟩, _⟩ := hnin
  injection e1 with e1
  have hvB : Bytes w3 w3.heap.size Av nv cv [5] := ⟨hv1, hv2, hv3, hv4.reads fun g _ h => h⟩
  have hb3 := Lib.hid (hb2.out.trans (hbe3.mono hb2.out.size))
  have hby3 := Lib.hid (hby2.out.step hbe3)
  have hst := Lib.hid (node_stored (wr := w3) cs.toArray)
  have hcs := Lib.hid (show cs.toArray.size = 38 by simp [hcl])
  obtain rfl : np = 0 := hp1
  obtain rfl : nv = 1 := hv1
  clear hq hbe3 hb2 hby2 hcl hD hp2 hp3 hp4 hv2 hv3 hv4
  have g0 : cs.toArray[0]? = some (.int .i64 1) := by rw [e1]; rfl
  have g1 : cs.toArray[1]? = some (.slice Ap 0 cp) := by rw [e1]; rfl
  have g2 : cs.toArray[2]? = some (.slice Av 1 cv) := by rw [e1]; rfl
  replace hone := Lib.hid hone
  clear e1 hcd
  generalize cs.toArray = R at *
  replace hvB := Lib.hid hvB
  replace g0 := Lib.hid g0
  replace g1 := Lib.hid g1
  replace g2 := Lib.hid g2
  go_wp2_with (first
    | (refine wpList_store_row rfl 29 _ _ rfl w3.heap.size R rfl rfl _ _ (Blk.new w3 29 noZ) (by rw [hcs.out]; exact info_node) (by rw [hcs.out]; rfl) hone.out ?_; refine list_at (NodS w3 R) hst.out ?_; intro w4 hI4; have k0 := (hI4.it.cell 0).trans g0.out; have k1 := (hI4.it.cell 1).trans g1.out; have k2 := (hI4.it.cell 2).trans g2.out; have t1 := (hby3.out.step hI4.bel).toStr (P := Try.prog) Try.underlying22 Try.underlying5 9 Try.underlying9; have t2 := (hvB.out.step hI4.bel).toStr (P := Try.prog) Try.underlying22 Try.underlying5 9 Try.underlying9; replace hI4 := Lib.hid hI4)
    | fail)
  go_ret
  exact ⟨rfl, hb3.out.trans (hI4.out.bel.mono hb3.out.size)⟩
end Go.Proofs.YtahaaeenbahknaaRRRR

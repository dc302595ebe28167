import Derived.Test.YtioanppnkhiokaaDb5
import Derived.Test.YtioanppnkhiokaaWrap
namespace Go.Proofs.Ytioanppnkhiokaa
open Go.RowKit

/-- bytes into which may be written -/
def CellsU (w : World) (g n : Nat) : Prop := ∀ j, j < n → (∃ x : Int, 0 ≤ x ∧ x ≤ 255 ∧ w.cell? ⟨g, j, none⟩ = some (.int .u8 x)) ∧ w.frozen? ⟨g, j, none⟩ = false
theorem CellsU.set {w : World} {g n : Nat} (h : CellsU w g n) (k : Nat) (y : Int) (h0 : 0 ≤ y) (h1 : y ≤ 255) : CellsU (w.setCell ⟨g, k, none⟩ (.int .u8 y)) g n := by
  intro j hj
  obtain ⟨⟨x, hx0, hx1, hx⟩, hf⟩ := h j hj
  refine ⟨?_, by rw [World.frozen?_setCell]; exact hf⟩
  by_cases hjk : j = k
  · subst hjk
    exact ⟨y, h0, h1, World.cell?_setCell_same w _ _ hx⟩
  · exact ⟨x, hx0, hx1, (World.cell?_setCell_other w ⟨g, k, none⟩ ⟨g, j, none⟩ _ (by intro e; injection e with e1 e2; omega)).trans hx⟩
theorem Bytes.cellsU {w : World} {B g n c : Nat} {l : List UInt8} (h : Bytes w B (some ⟨g, 0, none⟩) n c l) (hf : ∀ j, j < l.length → w.frozen? ⟨g, j, none⟩ = false) : CellsU w g l.length := by
  intro j hj
  obtain ⟨g', o, hA, _, hc⟩ := h.at_ hj
  injection hA with hA
  injection hA with e1 e2
  subst e1; subst e2
  rw [Nat.zero_add] at hc
  have := l[j].toNat_lt
  exact ⟨⟨_, by omega, by omega, hc⟩, hf j hj⟩
theorem bytes_mk (s : ByteArray) : (⟨s.data.toList.toArray⟩ : ByteArray) = s := by
  cases s; simp
set_option maxRecDepth 100000 in
set_option maxHeartbeats 1000000 in
theorem law_NodedbTexts (s : ByteArray) (w : World) (hs : s.size ≤ 140737488351232) : Calls Try.prog 3 #[.string s] w (PostT w) := by
  have hsz : s.data.toList.length = s.size := Array.length_toList

  have hs63 : s.size ≤ 9223372036854775807 := by omega
  have HS := Lib.hid hs
  clear hs
  go_enter Try.func3, Try.ntmps3
  go_wp2_with fail
  refine (law_begun 1 _).mono ?_
  rintro e w1 ⟨T, b, rfl, hst⟩
  have hb1 := hst.2.2.2
  clear hst
  replace hb1 := Lib.hid hb1
  go_wp2_with fail
  refine (db_Bytes s _ (by have := HS.out; omega)).mono ?_
  rintro e w2 ⟨g, c, rfl, hg, hby, hfr, hb2⟩
  have hcu := hby.cellsU hfr
  have hb := hb1.out.trans (hb2.mono hb1.out.size)
  have hgb : w.heap.size ≤ g := Nat.le_trans hb1.out.size hg
  have h1 := hby.toStr (P := Try.prog) Try.underlying26 Try.underlying5 9 Try.underlying9
  rw [bytes_mk s] at h1
  rw [hsz] at h1 hcu
  clear hb1 hb2 hby hfr hg
  replace hb := Lib.hid hb
  replace hcu := Lib.hid hcu
  go_wp2_with fail
  clear h1
  go_loopw [22] (fun i wr => ∃ k : Nat, k ≤ s.size ∧ i = .int .i64 k ∧ CellsU wr g s.size ∧ Below w.heap.size w wr) (fun i _ => s.size - (intOf i).toNat)
  case atStart => exact ⟨0, Nat.zero_le _, rfl, hcu.out, hb.out⟩
  case round =>
    clear hcu hb
    obtain ⟨k, hk, rfl, hc, hb⟩ := hrel
    by_cases hlt : k < s.size
    · obtain ⟨⟨x, hx0, hx1, hx⟩, hf⟩ := hc k hlt
      have HC := Lib.hid (hc.set k ((x + 1) % 256) (by omega) (by omega))
      replace hb := Lib.hid hb
      clear hc
      go_wp2_with fail
      refine ⟨⟨k + 1, by omega, by go_num, HC.out, hb.out.setCell hgb _⟩, by simp [intOf]; omega⟩
    · obtain rfl : k = s.size := by omega
      replace hb := Lib.hid hb
      clear hc
      go_wp2_with fail
      refine (db_Bytes s _ (by have := HS.out; omega)).mono ?_
      rintro e w3 ⟨g3, c3, rfl, hg3, hby3, -, hb3⟩
      have h1 := hby3.toStr (P := Try.prog) Try.underlying26 Try.underlying5 9 Try.underlying9
      rw [bytes_mk s, hsz] at h1
      replace hb := Lib.hid (hb.out.trans (hb3.mono hb.out.size))
      clear hb3 hby3
      go_wp2_with fail
      go_ret
      exact ⟨rfl, hb.out⟩
end Go.Proofs.Ytioanppnkhiokaa

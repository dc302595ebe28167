import Derived.Test.YtahaaeenbahknaaRRRRNib
namespace Go.Proofs.YtahaaeenbahknaaRRRR
open Go.RowKit

namespace Nib
def unpack (b : List UInt8) : Option (List UInt8 × Bool) :=
  match of b with
  | f :: z :: r => if 3 < f.toNat then none else if f.toNat % 2 = 1 then some (z :: r, decide (2 ≤ f.toNat)) else if z.toNat ≠ 0 then none else some (r, decide (2 ≤ f.toNat))
  | _ => none
def unpackL (b : List UInt8) : List UInt8 := (unpack b).elim [] (·.1)
def unpackB (b : List UInt8) : Bool := (unpack b).elim false (·.2)
def unpackE (b : List UInt8) : Int := if (unpack b).isSome then 0 else 40
theorem bit1 : ∀ f : Nat, f ≤ 3 → bits BinOp.and IntKind.u8 (f : Int) 1 = ((f % 2 : Nat) : Int) := by decide
theorem bit2 : ∀ f : Nat, f ≤ 3 → bits BinOp.and IntKind.u8 (f : Int) 2 = if 2 ≤ f then 2 else 0 := by decide
theorem unpackL_le (b : List UInt8) : (unpackL b).length ≤ 2 * b.length := by
  have h := of_length b
  unfold unpackL unpack
  split
  · rename_i f z r hof
    rw [hof] at h
    simp only [List.length_cons] at h
    split
    · simp
    · split
      · simp only [Option.elim, List.length_cons]; omega
      · split
        · simp
        · simp only [Option.elim]; omega
  · simp
end Nib

theorem nib_of_cons (l : List UInt8) (h : 0 < l.length) : ∃ f z R, Nib.of l = f :: z :: R ∧ R.length + 2 = 2 * l.length := by
  match l, h with
  | x :: r, _ =>
    have := Nib.of_length r
    exact ⟨Nib.hi x, Nib.lo x, Nib.of r, rfl, by simp only [List.length_cons]; omega⟩

set_option maxHeartbeats 1000000 in
theorem nib_Unpack (l : List UInt8) (A : Option Addr) (n c B : Nat) (w : World) (h : Bytes w B A n c l) (hB : B ≤ w.heap.size) (hl : 2 * l.length ≤ 281474976710656) :
    Calls Try.prog 35 #[.slice A n c] w (PostObe w (Nib.unpackL l) (Nib.unpackB l) (Nib.unpackE l)) := by
  have hlen := h.len
  subst hlen
  rcases Nat.eq_zero_or_pos l.length with h0 | h0
  · have he : l = [] := List.eq_nil_of_length_eq_zero h0
    subst he
    go_enter Try.func35, Try.ntmps35
    go_wp2_with (first
      | (go_at_call 44; refine (nib_Of [] A _ c B w h hB hl).mono ?_; rintro e w1 ⟨g, rfl, hown, hb⟩))
    go_ret3
    exact ⟨none, 0, 0, rfl, rfl, Own.of_row (World.ownsRow_nil _ _ _ _), hb⟩
  · obtain ⟨f, z, R, hof, hRl⟩ := nib_of_cons l h0
    have hz0 : (2 * (l.length : Int) == 0) = false := beq_eq_false_iff_ne.2 (by omega)
    by_cases h3 : 3 < f.toNat
    · have HU := Lib.hid (show Nib.unpack l = none by simp [Nib.unpack, hof, h3])
      have HO := Lib.hid hof
      clear hof hRl
      go_enter Try.func35, Try.ntmps35
      go_wp2_with (first
        | (go_at_call 44; refine (nib_Of l A _ c B w h hB hl).mono ?_; rintro e w1 ⟨g, rfl, hown, hb⟩; have hc0 : w1.cell? ⟨g, 0, none⟩ = some (.int .u8 f.toNat) := own_cell hown 0 _ (by rw [HO.out]; rfl); clear hown))
      go_ret3
      exact ⟨none, 0, 0, by simp [Nib.unpackB, Nib.unpackE, HU.out], by simp [Nib.unpackL, HU.out], by simp only [Nib.unpackL, HU.out]; exact Own.of_row (World.ownsRow_nil _ _ _ _), hb⟩
    · have hA := Nib.bit1 f.toNat (by omega)
      have hB2 := Nib.bit2 f.toNat (by omega)
      have h3' : (f.toNat : Int) ≤ 3 := by omega
      by_cases hodd : f.toNat % 2 = 1
      · have HU := Lib.hid (show Nib.unpack l = some (z :: R, decide (2 ≤ f.toNat)) by simp [Nib.unpack, hof, h3, hodd])
        have HO := Lib.hid hof
        rw [hodd] at hA
        have HR := Lib.hid hRl
        clear hof hodd hRl
        have hne : ¬ (2 * l.length = 1) := by omega
        go_enter Try.func35, Try.ntmps35
        go_wp2_with (first
          | (go_at_call 44; refine (nib_Of l A _ c B w h hB hl).mono ?_; rintro e w1 ⟨g, rfl, hown, hb⟩; have hc0 : w1.cell? ⟨g, 0, none⟩ = some (.int .u8 f.toNat) := own_cell hown 0 _ (by rw [HO.out]; rfl); have HW := Lib.hid hown; clear hown))
        all_goals go_ret3
        all_goals exact ⟨_, _, _, ret_three rfl (by simp only [Nib.unpackB, HU.out, Option.elim]; congr 1; simp; omega) (by simp [Nib.unpackE, HU.out]),
          by simp only [Nib.unpackL, HU.out, Option.elim, List.length_cons]; have := HR.out; omega,
          by simp only [Nib.unpackL, HU.out, Option.elim]; exact own_cut_to (k := 1) (Own.of_row HW.out) (by omega) (.inr rfl) rfl rfl (by rw [HO.out]; rfl), hb⟩
      · have hA : bits BinOp.and IntKind.u8 (f.toNat : Int) 1 = 0 := by rw [hA]; omega
        by_cases hz : z.toNat = 0
        · have HU := Lib.hid (show Nib.unpack l = some (R, decide (2 ≤ f.toNat)) by simp [Nib.unpack, hof, h3, hodd, hz])
          have HO := Lib.hid hof
          have HR := Lib.hid hRl
          have hzz : (z.toNat : Int) = 0 := by omega
          clear hof hodd hRl hz
          by_cases h1 : 2 * l.length - 1 = 1
          all_goals
            go_enter Try.func35, Try.ntmps35
            go_wp2_with (first
              | (go_at_call 44; refine (nib_Of l A _ c B w h hB hl).mono ?_; rintro e w1 ⟨g, rfl, hown, hb⟩; have hc0 : w1.cell? ⟨g, 0, none⟩ = some (.int .u8 f.toNat) := own_cell hown 0 _ (by rw [HO.out]; rfl); have hc1 : w1.cell? ⟨g, 1, none⟩ = some (.int .u8 z.toNat) := own_cell hown 1 _ (by rw [HO.out]; rfl); have HW := Lib.hid hown; clear hown))
            all_goals go_ret3
            all_goals exact ⟨_, _, _, ret_three rfl (by simp only [Nib.unpackB, HU.out, Option.elim]; congr 1; simp; omega) (by simp [Nib.unpackE, HU.out]),
              by simp only [Nib.unpackL, HU.out, Option.elim]; have := HR.out; omega,
              by simp only [Nib.unpackL, HU.out, Option.elim]; exact own_cut_to (k := 2) (Own.of_row HW.out) (by omega) (by first | exact .inr rfl | exact .inl (by omega)) (by omega) (by omega) (by rw [HO.out]; rfl), hb⟩
        · have HU := Lib.hid (show Nib.unpack l = none by simp [Nib.unpack, hof, h3, hodd, hz])
          have HO := Lib.hid hof
          have hzz : ((z.toNat : Int) == 0) = false := beq_eq_false_iff_ne.2 (by omega)
          have hzz' : ((z.toNat : Int) != 0) = true := by rw [bne_iff_ne]; omega
          have hz1 : 0 < 2 * l.length - 1 := by omega
          clear hof hodd hRl hz
          go_enter Try.func35, Try.ntmps35
          go_wp2_with (first
            | (go_at_call 44; refine (nib_Of l A _ c B w h hB hl).mono ?_; rintro e w1 ⟨g, rfl, hown, hb⟩; have hc0 : w1.cell? ⟨g, 0, none⟩ = some (.int .u8 f.toNat) := own_cell hown 0 _ (by rw [HO.out]; rfl); have hc1 : w1.cell? ⟨g, 1, none⟩ = some (.int .u8 z.toNat) := own_cell hown 1 _ (by rw [HO.out]; rfl); have HW := Lib.hid hown; clear hown))
          all_goals go_ret3
          all_goals exact ⟨none, 0, 0, by simp [Nib.unpackB, Nib.unpackE, HU.out], by simp [Nib.unpackL, HU.out], by simp only [Nib.unpackL, HU.out]; exact Own.of_row (World.ownsRow_nil _ _ _ _), hb⟩
end Go.Proofs.YtahaaeenbahknaaRRRR

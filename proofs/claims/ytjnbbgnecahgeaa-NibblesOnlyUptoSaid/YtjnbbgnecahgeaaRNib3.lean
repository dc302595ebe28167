import Derived.Test.YtjnbbgnecahgeaaRNib2
namespace Go.Proofs.Ytjnbbgnecahgeaa
open Go.RowKit

set_option maxHeartbeats 1000000 in
theorem rnib_Pack (l : List UInt8) (leaf : Bool) (A : Option Addr) (n c B : Nat) (w : World) (h : Bytes w B A n c l) (hB : B ≤ w.heap.size) (hl : l.length + 2 ≤ 140737488355328) :
    Calls Try.prog 11 #[.slice A n c, .bool leaf] w (PostBe w ((Nib.pack l leaf).getD []) (Nib.packE l)) := by
  have hlen := h.len
  subst hlen
  have hm : l.length ≤ 9223372036854775807 := by omega
  by_cases hr : Nib.right l = true
  · have H := Lib.hid hr
    have HK := Lib.hid (show Nib.pack l leaf = some (Nib.join (Nib.head l.length leaf ++ l)) by simp [Nib.pack, hr])
    by_cases hp : l.length % 2 = 1
    · have hp1 : (l.length : Int) % 2 = 1 := by omega
      cases leaf
      · have HD := Lib.hid (show Nib.head l.length false = [1] by simp [Nib.head, hp])
        have HR := Lib.hid (show Nib.key ([1] ++ l) = some (Nib.join ([1] ++ l)) by unfold Nib.key; rw [if_pos ⟨by rw [Nib.right_append, hr]; rfl, by simp; omega⟩])
        clear hp hr
        go_enter Try.func11, Try.ntmps11
        go_wp2_with (first
          | (go_at_call 25; refine (rnib_Right l A l.length c B w h).mono ?_; rintro e w' ⟨rfl, rfl⟩; rw [H.out])
          | (at_builtin; refine wpList_append_u8 rfl _ _ rfl w.heap.size _ 1 [1] rfl (own_lit w _ [1] _ rfl (by simp [maxLen]) (Nat.le_refl _) rfl) B A l.length c l rfl (h.alloc hB _) (by omega) (by simp) ?_; intro A' c' w1 hown1 hb1)
          | (go_at_call 23; refine (rnib_Key ([1] ++ l) A' _ c' w1.heap.size w1 ⟨by simp; omega, (Own.of_row hown1).cap, (Own.of_row hown1).lim, Reads.of_own hown1⟩ (Nat.le_refl _) (by simp; omega)).mono ?_; rw [HR.out]; rintro e w2 ⟨A2, m2, c2, rfl, hm2, hown2, hb2⟩; have HM := Lib.hid hm2; clear hm2))
        go_ret2
        rw [HK.out, HD.out]
        exact ⟨_, _, _, ret_pair rfl (by simp [Nib.packE, H.out]), new_of rfl HM.out (((Below.refl _ _).alloc (Nat.le_refl _) _).trans hb1) hown2 hb2⟩
      · have HD := Lib.hid (show Nib.head l.length true = [3] by simp [Nib.head, hp])
        have HR := Lib.hid (show Nib.key ([3] ++ l) = some (Nib.join ([3] ++ l)) by unfold Nib.key; rw [if_pos ⟨by rw [Nib.right_append, hr]; rfl, by simp; omega⟩])
        clear hp hr
        go_enter Try.func11, Try.ntmps11
        go_wp2_with (first
          | (go_at_call 25; refine (rnib_Right l A l.length c B w h).mono ?_; rintro e w' ⟨rfl, rfl⟩; rw [H.out])
          | (at_builtin; refine wpList_append_u8 rfl _ _ rfl w.heap.size _ 1 [3] rfl (own_lit w _ [3] _ rfl (by simp [maxLen]) (Nat.le_refl _) rfl) B A l.length c l rfl (h.alloc hB _) (by omega) (by simp) ?_; intro A' c' w1 hown1 hb1)
          | (go_at_call 23; refine (rnib_Key ([3] ++ l) A' _ c' w1.heap.size w1 ⟨by simp; omega, (Own.of_row hown1).cap, (Own.of_row hown1).lim, Reads.of_own hown1⟩ (Nat.le_refl _) (by simp; omega)).mono ?_; rw [HR.out]; rintro e w2 ⟨A2, m2, c2, rfl, hm2, hown2, hb2⟩; have HM := Lib.hid hm2; clear hm2))
        go_ret2
        rw [HK.out, HD.out]
        exact ⟨_, _, _, ret_pair rfl (by simp [Nib.packE, H.out]), new_of rfl HM.out (((Below.refl _ _).alloc (Nat.le_refl _) _).trans hb1) hown2 hb2⟩
    · have hp0 : (l.length : Int) % 2 = 0 := by omega
      cases leaf
      · have HD := Lib.hid (show Nib.head l.length false = [0, 0] by simp [Nib.head, hp])
        have HR := Lib.hid (show Nib.key ([0] ++ [0] ++ l) = some (Nib.join ([0] ++ [0] ++ l)) by unfold Nib.key; rw [if_pos ⟨by rw [Nib.right_append, hr]; rfl, by simp; omega⟩])
        clear hp hr
        go_enter Try.func11, Try.ntmps11
        go_wp2_with (first
          | (go_at_call 25; refine (rnib_Right l A l.length c B w h).mono ?_; rintro e w' ⟨rfl, rfl⟩; rw [H.out])
          | (at_builtin; refine wpList_append1_u8 rfl _ _ rfl w.heap.size _ 1 [0] rfl (own_lit w _ [0] _ rfl (by simp [maxLen]) (Nat.le_refl _) rfl) 0 0 rfl _ rfl (by simp) (by omega) (by simp) ?_; intro g1 c1 w1 hown1 hg1 hb1 hs1)
          | (at_builtin; refine wpList_append_u8 rfl _ _ rfl w.heap.size _ 2 ([0] ++ [0]) rfl hown1 B A l.length c l rfl ((h.alloc hB _).below (hb1.mono hB)) (by omega) (by omega) ?_; intro A' c' w2 hown2 hb2)
          | (go_at_call 23; refine (rnib_Key ([0] ++ [0] ++ l) A' _ c' w2.heap.size w2 ⟨by simp; omega, (Own.of_row hown2).cap, (Own.of_row hown2).lim, Reads.of_own hown2⟩ (Nat.le_refl _) (by simp; omega)).mono ?_; rw [HR.out]; rintro e w3 ⟨A3, m3, c3, rfl, hm3, hown3, hb3⟩; have HM := Lib.hid hm3; clear hm3))
        go_ret2
        rw [HK.out, HD.out]
        exact ⟨_, _, _, ret_pair rfl (by simp [Nib.packE, H.out]), new_of rfl HM.out (((Below.refl _ _).alloc (Nat.le_refl _) _).trans (hb1.trans hb2)) hown3 hb3⟩
      · have HD := Lib.hid (show Nib.head l.length true = [2, 0] by simp [Nib.head, hp])
        have HR := Lib.hid (show Nib.key ([2] ++ [0] ++ l) = some (Nib.join ([2] ++ [0] ++ l)) by unfold Nib.key; rw [if_pos ⟨by rw [Nib.right_append, hr]; rfl, by simp; omega⟩])
        clear hp hr
        go_enter Try.func11, Try.ntmps11
        go_wp2_with (first
          | (go_at_call 25; refine (rnib_Right l A l.length c B w h).mono ?_; rintro e w' ⟨rfl, rfl⟩; rw [H.out])
          | (at_builtin; refine wpList_append1_u8 rfl _ _ rfl w.heap.size _ 1 [2] rfl (own_lit w _ [2] _ rfl (by simp [maxLen]) (Nat.le_refl _) rfl) 0 0 rfl _ rfl (by simp) (by omega) (by simp) ?_; intro g1 c1 w1 hown1 hg1 hb1 hs1)
          | (at_builtin; refine wpList_append_u8 rfl _ _ rfl w.heap.size _ 2 ([2] ++ [0]) rfl hown1 B A l.length c l rfl ((h.alloc hB _).below (hb1.mono hB)) (by omega) (by omega) ?_; intro A' c' w2 hown2 hb2)
          | (go_at_call 23; refine (rnib_Key ([2] ++ [0] ++ l) A' _ c' w2.heap.size w2 ⟨by simp; omega, (Own.of_row hown2).cap, (Own.of_row hown2).lim, Reads.of_own hown2⟩ (Nat.le_refl _) (by simp; omega)).mono ?_; rw [HR.out]; rintro e w3 ⟨A3, m3, c3, rfl, hm3, hown3, hb3⟩; have HM := Lib.hid hm3; clear hm3))
        go_ret2
        rw [HK.out, HD.out]
        exact ⟨_, _, _, ret_pair rfl (by simp [Nib.packE, H.out]), new_of rfl HM.out (((Below.refl _ _).alloc (Nat.le_refl _) _).trans (hb1.trans hb2)) hown3 hb3⟩
  · have hk : Nib.pack l leaf = none := by simp [Nib.pack, hr]
    have H := Lib.hid (Bool.not_eq_true _ ▸ hr : Nib.right l = false)
    clear hr
    go_enter Try.func11, Try.ntmps11
    go_wp2_with (first | (go_at_call 25; refine (rnib_Right l A l.length c B w h).mono ?_; rintro e w' ⟨rfl, rfl⟩; rw [H.out]))
    go_ret2
    rw [hk]
    exact ⟨none, 0, 0, by simp [Nib.packE, H.out], NewB.none_ w⟩

set_option maxHeartbeats 2000000 in
theorem rnib_Unpack (l : List UInt8) (A : Option Addr) (n c B : Nat) (w : World) (h : Bytes w B A n c l) (hB : B ≤ w.heap.size) (hl : 2 * l.length ≤ 140737488355328) :
    Calls Try.prog 13 #[.slice A n c] w (PostObe w (Nib.unpackL l) (Nib.unpackB l) (Nib.unpackE l)) := by
  have hlen := h.len
  subst hlen
  rcases Nat.eq_zero_or_pos l.length with h0 | h0
  · have he : l = [] := List.eq_nil_of_length_eq_zero h0
    subst he
    go_enter Try.func13, Try.ntmps13
    go_wp2_with (first
      | (go_at_call 17; refine (rnib_Of [] A _ c B w h hB hl).mono ?_; rintro e w1 ⟨A1, m1, c1, rfl, rfl, hown, hb⟩))
    go_ret3
    exact ⟨none, 0, 0, rfl, rfl, Own.of_row (World.ownsRow_nil _ _ _ _), hb⟩
  · obtain ⟨f, z, R, hof, hRl⟩ := nib_of_cons l h0
    have hz0 : (2 * (l.length : Int) == 0) = false := beq_eq_false_iff_ne.2 (by omega)
    have HO := Lib.hid hof
    have HR := Lib.hid hRl
    have hbits : f.toNat % 2 = 0 ∨ f.toNat % 2 = 1 := by omega
    by_cases h3 : 3 < f.toNat
    · have HU := Lib.hid (show Nib.unpack l = none by simp [Nib.unpack, hof, h3])
      have h3' : (3 : Int) < (f.toNat : Int) := by omega
      clear hof hRl hbits
      go_enter Try.func13, Try.ntmps13
      go_wp2_with (first
        | (go_at_call 17; refine (rnib_Of l A _ c B w h hB hl).mono ?_; rintro e w1 ⟨A1, m1, c1, rfl, hm1, hown, hb⟩; rw [Nib.of_length] at hm1; subst hm1; obtain ⟨g, rfl, _, _⟩ := own_at hown (by omega); have hc0 : w1.cell? ⟨g, 0, none⟩ = some (.int .u8 f.toNat) := own_cell hown 0 _ (by rw [HO.out]; rfl); clear hown))
      all_goals go_ret3
      all_goals exact ⟨none, 0, 0, by simp [Nib.unpackB, Nib.unpackE, HU.out], by simp [Nib.unpackL, HU.out], by simp only [Nib.unpackL, HU.out]; exact Own.of_row (World.ownsRow_nil _ _ _ _), hb⟩
    · have h3' : (f.toNat : Int) ≤ 3 := by omega
      rcases hbits with hev | hodd
      · have hf2 : ((f.toNat : Int) % 2 == 0) = true := by rw [beq_iff_eq]; omega
        by_cases hz : z.toNat = 0
        · have HU := Lib.hid (show Nib.unpack l = some (R, decide (2 ≤ f.toNat)) by simp [Nib.unpack, hof, h3, hev, hz])
          have hzz : ((z.toNat : Int) != 0) = false := by rw [bne_eq_false_iff_eq]; omega
          clear hof hRl hev hz
          go_enter Try.func13, Try.ntmps13
          go_wp2_with (first
            | (go_at_call 17; refine (rnib_Of l A _ c B w h hB hl).mono ?_; rintro e w1 ⟨A1, m1, c1, rfl, hm1, hown, hb⟩; rw [Nib.of_length] at hm1; subst hm1; obtain ⟨g, rfl, _, _⟩ := own_at hown (by omega); have hc0 : w1.cell? ⟨g, 0, none⟩ = some (.int .u8 f.toNat) := own_cell hown 0 _ (by rw [HO.out]; rfl); have hc1 : w1.cell? ⟨g, 1, none⟩ = some (.int .u8 z.toNat) := own_cell hown 1 _ (by rw [HO.out]; rfl); have HW := Lib.hid hown; clear hown))
          go_quiet (fail)
          go_wp2_with fail
          all_goals go_ret3
          all_goals exact ⟨_, _, _, ret_three rfl (by simp only [Nib.unpackB, HU.out, Option.elim]; exact bool_eq (decide_eq_decide.2 (by omega))) (by simp [Nib.unpackE, HU.out]),
            by simp only [Nib.unpackL, HU.out, Option.elim]; have := HR.out; omega,
            by simp only [Nib.unpackL, HU.out, Option.elim]; exact own_cut_to (k := 2) (Own.of_row HW.out) (by omega) (by first | exact .inr rfl | exact .inl (by omega)) (by omega) (by omega) (by rw [HO.out]; rfl), below_drewN hb _⟩
        · have HU := Lib.hid (show Nib.unpack l = none by simp [Nib.unpack, hof, h3, hev, hz])
          have hzz : ((z.toNat : Int) != 0) = true := by rw [bne_iff_ne]; omega
          clear hof hRl hev hz
          go_enter Try.func13, Try.ntmps13
          go_wp2_with (first
            | (go_at_call 17; refine (rnib_Of l A _ c B w h hB hl).mono ?_; rintro e w1 ⟨A1, m1, c1, rfl, hm1, hown, hb⟩; rw [Nib.of_length] at hm1; subst hm1; obtain ⟨g, rfl, _, _⟩ := own_at hown (by omega); have hc0 : w1.cell? ⟨g, 0, none⟩ = some (.int .u8 f.toNat) := own_cell hown 0 _ (by rw [HO.out]; rfl); have hc1 : w1.cell? ⟨g, 1, none⟩ = some (.int .u8 z.toNat) := own_cell hown 1 _ (by rw [HO.out]; rfl); have HW := Lib.hid hown; clear hown))
          all_goals go_ret3
          all_goals exact ⟨none, 0, 0, by simp [Nib.unpackB, Nib.unpackE, HU.out], by simp [Nib.unpackL, HU.out], by simp only [Nib.unpackL, HU.out]; exact Own.of_row (World.ownsRow_nil _ _ _ _), hb⟩
      · have hf2 : ((f.toNat : Int) % 2 == 0) = false := beq_eq_false_iff_ne.2 (by omega)
        have HU := Lib.hid (show Nib.unpack l = some (z :: R, decide (2 ≤ f.toNat)) by simp [Nib.unpack, hof, h3, hodd])
        clear hof hRl hodd
        go_enter Try.func13, Try.ntmps13
        go_wp2_with (first
          | (go_at_call 17; refine (rnib_Of l A _ c B w h hB hl).mono ?_; rintro e w1 ⟨A1, m1, c1, rfl, hm1, hown, hb⟩; rw [Nib.of_length] at hm1; subst hm1; obtain ⟨g, rfl, _, _⟩ := own_at hown (by omega); have hc0 : w1.cell? ⟨g, 0, none⟩ = some (.int .u8 f.toNat) := own_cell hown 0 _ (by rw [HO.out]; rfl); have hc1 : w1.cell? ⟨g, 1, none⟩ = some (.int .u8 z.toNat) := own_cell hown 1 _ (by rw [HO.out]; rfl); have HW := Lib.hid hown; clear hown))
        go_quiet (fail)
        go_wp2_with fail
        all_goals go_ret3
        all_goals exact ⟨_, _, _, ret_three rfl (by simp only [Nib.unpackB, HU.out, Option.elim]; exact bool_eq (decide_eq_decide.2 (by omega))) (by simp [Nib.unpackE, HU.out]),
          by simp only [Nib.unpackL, HU.out, Option.elim, List.length_cons]; have := HR.out; omega,
          by simp only [Nib.unpackL, HU.out, Option.elim]; exact own_cut_to (k := 1) (Own.of_row HW.out) (by omega) (by first | exact .inr rfl | exact .inl (by omega)) (by omega) (by omega) (by rw [HO.out]; rfl), below_drewN hb _⟩
end Go.Proofs.Ytjnbbgnecahgeaa

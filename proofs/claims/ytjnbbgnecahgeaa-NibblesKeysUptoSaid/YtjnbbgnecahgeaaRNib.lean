import Derived.Test.YtjnbbgnecahgeaaNib2
import Derived.Test.YtjnbbgnecahgeaaNib3
import Derived.Test.YtjnbbgnecahgeaaNib4
import Derived.StillTailTactics
namespace Go.Proofs.Ytjnbbgnecahgeaa
open Go.RowKit

set_option maxHeartbeats 400000 in
theorem rnib_Right (l : List UInt8) (A : Option Addr) (n c B : Nat) (w : World) (h : Bytes w B A n c l) :
    Calls Try.prog 25 #[.slice A n c] w fun e w' => e = .returned (.bool (Nib.right l)) ∧ w = w' := by
  obtain ⟨hlen, hcap, hlim, hr⟩ := h
  have hm : l.length ≤ 9223372036854775807 := by unfold maxLen at hlim; omega
  subst hlen
  clear hcap hlim
  go_enter Try.func25, Try.ntmps25
  go_wp2
  go_loop [3] (fun i => ∃ k : Nat, k ≤ l.length ∧ i = .int .i64 k ∧ Nib.right (l.take k) = true) (fun i => l.length - (intOf i).toNat)
  case atStart => exact ⟨0, Nat.zero_le _, rfl, rfl⟩
  case round =>
    obtain ⟨k, hk, rfl, hright⟩ := hrel
    have HR := Lib.hid hright
    clear hright
    by_cases hlt : k < l.length
    · obtain ⟨g, o, u, rfl, _, hx, hc⟩ := hr.at_ hlt
      rw [bv_at l k hlt] at hx
      cases hx
      go_wp2
      · have h2 : 15 < (l[k].toNat : Int) := by assumption
        go_ret
        exact ⟨by rw [Nib.right_bad l k hlt (by omega)]; rfl, rfl⟩
      · have h2 : (l[k].toNat : Int) ≤ 15 := by assumption
        refine ⟨⟨k + 1, by omega, by go_num, Nib.right_step l k hlt HR.out (by omega)⟩, ?_⟩
        simp [intOf]; omega
    · obtain rfl : k = l.length := by omega
      go_wp2
      go_ret
      have h3 := HR.out
      rw [List.take_length] at h3
      exact ⟨by rw [h3]; rfl, rfl⟩

set_option maxHeartbeats 1000000 in
theorem rnib_Of (l : List UInt8) (A : Option Addr) (n c B : Nat) (w : World) (h : Bytes w B A n c l) (hB : B ≤ w.heap.size) (hl : 2 * l.length ≤ 140737488355328) :
    Calls Try.prog 17 #[.slice A n c] w (PostB w (Nib.of l)) := by
  obtain ⟨hlen, hcap, hlim, hr⟩ := h
  have hm : l.length ≤ 9223372036854775807 := by omega
  subst hlen
  clear hcap hlim
  go_enter Try.func17, Try.ntmps17
  go_wp2
  go_loopw [3, 4] (fun v i wr => ∃ k A' m' c', k ≤ l.length ∧ i = .int .i64 (k : Nat) ∧ v = .slice A' m' c' ∧ NewB w wr A' m' c' (Nib.of (l.take k))) (fun _ i _ => l.length - (intOf i).toNat)
  case atStart => exact ⟨0, none, 0, 0, Nat.zero_le _, rfl, rfl, NewB.none_ w⟩
  case round =>
    obtain ⟨k, A', m', c', hk, rfl, rfl, hnew⟩ := hrel
    by_cases hlt : k < l.length
    · obtain ⟨g, o, u, rfl, hg, hx, hc⟩ := hr.at_ hlt
      rw [bv_at l k hlt] at hx
      cases hx
      obtain ⟨hm', hown, hb⟩ := hnew
      have hml : m' = 2 * k := by rw [hm', Nib.of_length, List.length_take]; omega
      clear hm'
      subst hml
      have hc1 := (hb.cell (p := ⟨g, o + k, none⟩) (by show g < _; omega)).trans hc
      have hsz := hb.size
      have HW := Lib.hid hown
      have hbk := l[k].toNat_lt
      clear hown
      go_wp2_with (first
        | (at_builtin; refine wpList_append1_u8 rfl (.tmp 11) (.tmp 17) rfl w.heap.size _ (2 * k) (Nib.of (l.take k)) rfl HW.out _ (Nib.hi l[k]) (by rw [Nib.hi_toNat]; omega) _ rfl (by simp) (by omega) (by omega) ?_; intro g1 c1 w1 hown1 hg1 hb1 hs1; have hc2 : w1.cell? ⟨g, o + k, none⟩ = some (.int .u8 (l[k].toNat : Int)) := (hb1.cell (p := ⟨g, o + k, none⟩) (by show g < _; omega)).trans hc1)
        | (at_builtin; refine wpList_append1_u8 rfl (.tmp 19) (.tmp 25) rfl w.heap.size _ (2 * k + 1) (Nib.of (l.take k) ++ [Nib.hi l[k]]) rfl hown1 _ (Nib.lo l[k]) (by rw [Nib.lo_toNat]; omega) _ rfl (by simp) (by omega) (by omega) ?_; intro g2 c2 w2 hown2 hg2 hb2 hs2))
      go_roundw
      case rel => exact ⟨k + 1, _, _, _, by omega, by go_num, rfl, by rw [Nib.of_length, List.length_take]; omega, by rw [Nib.of_take l k hlt]; simpa using hown2, hb.trans (hb1.trans hb2)⟩
      case measure => simp [intOf]; omega
    · obtain rfl : k = l.length := by omega
      go_wp2
      go_ret
      rw [List.take_length] at hnew
      exact ⟨_, _, _, rfl, hnew⟩

namespace Nib
theorem add_join (a b : UInt8) : (16 * (a.toNat : Int) + (b.toNat : Int)) % 256 = ((UInt8.ofNat (16 * a.toNat + b.toNat)).toNat : Int) := by simp
end Nib

set_option maxHeartbeats 1000000 in
theorem rnib_Key (l : List UInt8) (A : Option Addr) (n c B : Nat) (w : World) (h : Bytes w B A n c l) (hB : B ≤ w.heap.size) (hl : l.length ≤ 140737488355328) :
    Calls Try.prog 23 #[.slice A n c] w (PostBb w ((Nib.key l).getD []) (Nib.key l).isSome) := by
  have hlen := h.len
  subst hlen
  have hm : l.length ≤ 9223372036854775807 := by omega
  by_cases hr : Nib.right l = true
  · by_cases hp : l.length % 2 = 0
    · have hk : Nib.key l = some (Nib.join l) := by simp [Nib.key, hr, hp]
      have HK := Lib.hid hk
      clear hk
      have hp1 : ((l.length : Int) % 2 != 0) = false := by rw [bne_eq_false_iff_eq]; omega
      have H := Lib.hid hr
      have HP := Lib.hid hp
      have hrd := h.reads
      clear hr hp
      go_enter Try.func23, Try.ntmps23
      go_wp2_with (go_at_call 25; refine (rnib_Right l A l.length c B w h).mono ?_; rintro e w' ⟨rfl, rfl⟩; rw [H.out])
      go_loopw [4, 5] (fun v i wr => ∃ k A' m' c', 2 * k ≤ l.length ∧ i = .int .i64 (2 * (k : Nat) : Int) ∧ v = .slice A' m' c' ∧ NewB w wr A' m' c' ((Nib.join l).take k)) (fun _ i _ => l.length - (intOf i).toNat)
      case atStart => exact ⟨0, none, 0, 0, Nat.zero_le _, rfl, rfl, NewB.none_ w⟩
      case round =>
        obtain ⟨k, A', m', c', hk, rfl, rfl, hnew⟩ := hrel
        by_cases hlt : 2 * k + 1 < l.length
        · obtain ⟨g, o, u, rfl, hg, hx, hc⟩ := hrd.at_ (k := 2 * k) (by omega)
          obtain ⟨g', o', u', had, _, hx', hc'⟩ := hrd.at_ (k := 2 * k + 1) (by omega)
          cases had
          rw [bv_at l _ (by omega)] at hx hx'
          cases hx
          cases hx'
          obtain ⟨hm', hown, hb⟩ := hnew
          have hml : m' = k := by rw [hm', List.length_take, Nib.join_length]; omega
          clear hm'
          subst hml
          have hc1 := (hb.cell (p := ⟨g, o + 2 * m', none⟩) (by show g < _; omega)).trans hc
          have hc2 := (hb.cell (p := ⟨g, o + (2 * m' + 1), none⟩) (by show g < _; omega)).trans hc'
          have hsz := hb.size
          have HW := Lib.hid hown
          clear hown
          have hlt' : 2 * (m' : Int) + 1 < (l.length : Int) := by omega
          have q1 : IntKind.i64.wrap (2 * (m' : Int) + 1) = 2 * (m' : Int) + 1 := IntWalk.i64_in _ (by omega)
          have q3 : (2 * (m' : Int)).toNat = 2 * m' := by omega
          have q4 : (2 * (m' : Int) + 1).toNat = 2 * m' + 1 := by omega
          have q5 : 0 ≤ 2 * (m' : Int) := by omega
          have q6 : 2 * (m' : Int) < (l.length : Int) := by omega
          have q7 : 0 ≤ 2 * (m' : Int) + 1 := by omega
          have q8 : (0 : Int) ≤ 2 * (m' : Int) + 1 := by omega
          clear hc hc'
          go_wp2_with fail
          go_region_held3 (fun w' => w'.cell? ⟨g, o + 2 * m', none⟩ = some (.int .u8 (l[2 * m'].toNat : Int)) ∧ w'.cell? ⟨g, o + (2 * m' + 1), none⟩ = some (.int .u8 (l[2 * m' + 1].toNat : Int)))
            (first
              | go_keep
              | exact ⟨(hb1.cell (p := ⟨g, o + 2 * m', none⟩) (by show g < _; omega)).trans ((World.cell?_alloc_lt wr _ _ (by show g < _; omega)).trans hc1), (hb1.cell (p := ⟨g, o + (2 * m' + 1), none⟩) (by show g < _; omega)).trans ((World.cell?_alloc_lt wr _ _ (by show g < _; omega)).trans hc2)⟩)
            ((refine step_append_u8 (by rfl) _ _ (by rfl) w.heap.size _ m' ((Nib.join l).take m') (by rfl) (HW.out.alloc _).drew (wr.heap.size + 1) _ 1 1 [UInt8.ofNat (16 * l[2 * m'].toNat + l[2 * m' + 1].toNat)] (by rfl) (Bytes.lit1 (by simp [IntKind.wrap_u8'])).drew (by omega) (by simp; omega) ?_; intro A1 c1 w1 hown1 hb1 _))
          go_wp2_with fail
          go_roundw
          case rel => exact ⟨m' + 1, _, _, _, by omega, by go_num, rfl, by rw [List.length_take, Nib.join_length]; omega, by rw [Nib.join_take l m' hlt]; simpa using hown1, (hb.alloc hsz _).drew.trans hb1⟩
          case measure => simp [intOf]; omega
        · have hkk : 2 * k = l.length := by have := HP.out; omega
          have hlt' : ¬ (2 * (k : Int) + 1 < (l.length : Int)) := by omega
          go_wp2_with fail
          go_ret2
          rw [HK.out]
          rw [List.take_of_length_le (by rw [Nib.join_length]; omega)] at hnew
          exact ⟨_, _, _, rfl, hnew⟩
    · have hk : Nib.key l = none := by simp [Nib.key, hp]
      have hp1 : ((l.length : Int) % 2 != 0) = true := by rw [bne_iff_ne]; omega
      have H := Lib.hid hr
      clear hr hp
      go_enter Try.func23, Try.ntmps23
      go_wp2_with (first | (go_at_call 25; refine (rnib_Right l A l.length c B w h).mono ?_; rintro e w' ⟨rfl, rfl⟩; rw [H.out]))
      go_ret2
      rw [hk]
      exact ⟨none, 0, 0, rfl, NewB.none_ w⟩
  · have hk : Nib.key l = none := by simp [Nib.key, hr]
    have H := Lib.hid (Bool.not_eq_true _ ▸ hr : Nib.right l = false)
    clear hr
    go_enter Try.func23, Try.ntmps23
    go_wp2_with (first | (go_at_call 25; refine (rnib_Right l A l.length c B w h).mono ?_; rintro e w' ⟨rfl, rfl⟩; rw [H.out]))
    go_ret2
    rw [hk]
    exact ⟨none, 0, 0, rfl, NewB.none_ w⟩

set_option maxHeartbeats 1000000 in
theorem rnib_Common (p q : List UInt8) (A A' : Option Addr) (n n' c c' B : Nat) (w : World) (h : Bytes w B A n c p) (h' : Bytes w B A' n' c' q) :
    Calls Try.prog 20 #[.slice A n c, .slice A' n' c'] w (PostQ w (.int .i64 (Nib.common p q))) := by
  have hlen := h.len
  have hlen' := h'.len
  have hlim := h.lim
  have hlim' := h'.lim
  have hcap := h.cap
  have hcap' := h'.cap
  subst hlen
  subst hlen'
  unfold maxLen at hlim hlim'
  have hr := h.reads
  have hr' := h'.reads
  go_enter Try.func20, Try.ntmps20
  go_wp2_with fail
  go_loopw [5] (fun i wr => ∃ k : Nat, k ≤ p.length ∧ k ≤ q.length ∧ i = .int .i64 k ∧ p.take k = q.take k ∧ ∃ d, wr = w.drewN d) (fun i _ => p.length - (intOf i).toNat)
  case atStart => exact ⟨0, Nat.zero_le _, Nat.zero_le _, rfl, rfl, 0, rfl⟩
  case round =>
    obtain ⟨k, hk, hk', rfl, htake, d, rfl⟩ := hrel
    have HT := Lib.hid htake
    clear htake
    by_cases hlt : k < p.length
    · by_cases hlt' : k < q.length
      · obtain ⟨g, o, u, rfl, _, hx, hc⟩ := hr.at_ (k := k) (by omega)
        obtain ⟨g', o', u', rfl, _, hx', hc'⟩ := hr'.at_ (k := k) (by omega)
        rw [bv_at p k (by omega)] at hx
        rw [bv_at q k (by omega)] at hx'
        cases hx
        cases hx'
        have hkp : (k : Int) < (p.length : Int) := by omega
        have hkq : (k : Int) < (q.length : Int) := by omega
        by_cases hne : p[k] = q[k]
        · have hb : ((p[k].toNat : Int) == (q[k].toNat : Int)) = true := by rw [hne]; simp
          have HE := Lib.hid hne
          clear hne
          go_wp2_with fail
          go_quiet (fail)
          go_wp2_with fail
          refine ⟨⟨k + 1, by omega, by omega, by go_num, Nib.take_step p q k (by omega) (by omega) HT.out HE.out, _, rfl⟩, ?_⟩
          simp [intOf]; omega
        · have hb : ((p[k].toNat : Int) == (q[k].toNat : Int)) = false := beq_eq_false_iff_ne.2 (fun e => hne (UInt8.toNat_inj.1 (by omega)))
          have HE := Lib.hid hne
          clear hne
          go_wp2_with fail
          go_quiet (fail)
          go_wp2_with fail
          go_ret
          exact ⟨by rw [Nib.common_stop p q k (by omega) (by omega) HT.out HE.out]; rfl, d + _, by rw [World.drewN_drewN]⟩
      · obtain rfl : k = q.length := by omega
        have hf : decide (q.length < q.length) = false := by simp
        go_wp2_with fail
        go_quiet (fail)
        go_wp2_with fail
        go_ret
        exact ⟨by rw [Nib.common_all p q q.length (by omega) HT.out]; rfl, d + _, by rw [World.drewN_drewN]⟩
    · obtain rfl : k = p.length := by omega
      have hf : decide (p.length < p.length) = false := by simp
      go_wp2_with fail
      go_quiet (fail)
      go_wp2_with fail
      go_ret
      exact ⟨by rw [Nib.common_all p q p.length (by omega) HT.out]; rfl, d + _, by rw [World.drewN_drewN]⟩
end Go.Proofs.Ytjnbbgnecahgeaa

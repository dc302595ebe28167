import Derived.Test.YtmpafibpmpgciaaBy
import Derived.BigQuiet
import Derived.Lib.MinMax
import Derived.Deep.QuietTactic
namespace Go.Proofs.Ytmpafibpmpgciaa
open Go.RowKit

namespace Nib
/-- how many things two lists begin with alike -/
def common : List UInt8 → List UInt8 → Nat
  | a :: ra, b :: rb => if a = b then common ra rb + 1 else 0
  | _, _ => 0
theorem common_le : ∀ p q : List UInt8, common p q ≤ p.length ∧ common p q ≤ q.length
  | [], _ => by simp [common]
  | _ :: _, [] => by simp [common]
  | a :: ra, b :: rb => by
    have := common_le ra rb
    simp only [common]; split <;> simp only [List.length_cons] <;> omega
/-- the walk's own road to it: all ahead of k is alike -/
theorem common_stop : ∀ (p q : List UInt8) (k : Nat) (hp : k < p.length) (hq : k < q.length), p.take k = q.take k → p[k] ≠ q[k] → common p q = k
  | a :: ra, b :: rb, 0, _, _, _, h => by simp [common]; exact fun e => (h e).elim
  | a :: ra, b :: rb, k + 1, hp, hq, h, hne => by
    simp only [List.take_succ_cons, List.cons.injEq] at h
    simp only [List.length_cons] at hp hq
    have := common_stop ra rb k (by omega) (by omega) h.2 (by simpa using hne)
    simp [common, h.1, this]
theorem common_all : ∀ (p q : List UInt8) (k : Nat), k = min p.length q.length → p.take k = q.take k → common p q = k
  | [], q, k, hk, _ => by simp at hk; simp [common, hk]
  | a :: ra, [], k, hk, _ => by simp at hk; simp [common, hk]
  | a :: ra, b :: rb, 0, hk, _ => by simp only [List.length_cons] at hk; omega
  | a :: ra, b :: rb, k + 1, hk, h => by
    simp only [List.take_succ_cons, List.cons.injEq] at h
    simp only [List.length_cons] at hk
    have := common_all ra rb k (by omega) h.2
    simp [common, h.1, this]
theorem take_step (p q : List UInt8) (k : Nat) (hp : k < p.length) (hq : k < q.length) (h : p.take k = q.take k) (e : p[k] = q[k]) : p.take (k + 1) = q.take (k + 1) := by
  rw [List.take_succ_eq_append_getElem hp, List.take_succ_eq_append_getElem hq, h, e]
end Nib

set_option maxHeartbeats 1000000 in
theorem nib_Common (p q : List UInt8) (A A' : Option Addr) (n n' c c' B : Nat) (w : World) (h : Bytes w B A n c p) (h' : Bytes w B A' n' c' q) :
    Calls Try.prog 5 #[.slice A n c, .slice A' n' c'] w (PostQ w (.int .i64 (Nib.common p q))) := by
  have hlen := h.len
  have hlen' := h'.len
  have hlim := h.lim
  have hlim' := h'.lim
  have hcap := h.cap
  have hcap' := h'.cap
  subst hlen
  subst hlen'
  unfold maxLen at hlim hlim'
  obtain ⟨m, hm⟩ : ∃ m, m = min p.length q.length := ⟨_, rfl⟩
  have hmi : min (p.length : Int) (q.length : Int) = (m : Int) := by omega
  have hm1 : m ≤ p.length := by omega
  have hm2 : m ≤ q.length := by omega
  have HM := Lib.hid hm
  have hr := h.reads
  have hr' := h'.reads
  clear hm
  go_enter Try.func5, Try.ntmps5
  go_wp2_with fail

  go_loopw [13] (fun i wr => ∃ k : Nat, k ≤ m ∧ i = .int .i64 k ∧ p.take k = q.take k ∧ ∃ d, wr = w.drewN d) (fun i _ => m - (intOf i).toNat)
  case atStart => exact ⟨0, Nat.zero_le _, rfl, rfl, 0, rfl⟩
  case round =>
    obtain ⟨k, hk, rfl, htake, d, rfl⟩ := hrel
    have HT := Lib.hid htake
    clear htake
    by_cases hlt : k < m
    · obtain ⟨g, o, u, rfl, _, hx, hc⟩ := hr.at_ (k := k) (by omega)
      obtain ⟨g', o', u', rfl, _, hx', hc'⟩ := hr'.at_ (k := k) (by omega)
      rw [bv_at p k (by omega)] at hx
      rw [bv_at q k (by omega)] at hx'
      cases hx
      cases hx'
      have hkp : (k : Int) < (p.length : Int) := by omega
      have hkq : (k : Int) < (q.length : Int) := by omega
      by_cases hne : p[k] = q[k]
      · have hb : ((p[k].toNat : Int) != (q[k].toNat : Int)) = false := by rw [hne]; simp
        have HE := Lib.hid hne
        clear hne
        go_wp2_with fail
        go_quiet (fail)
        go_wp2_with fail
        refine ⟨⟨k + 1, by omega, by go_num, Nib.take_step p q k (by omega) (by omega) HT.out HE.out, _, rfl⟩, ?_⟩
        simp [intOf]; omega
      · have hb : ((p[k].toNat : Int) != (q[k].toNat : Int)) = true := by rw [bne_iff_ne]; intro e; exact hne (UInt8.toNat_inj.1 (by omega))
        have HE := Lib.hid hne
        clear hne
        go_wp2_with fail
        go_quiet (fail)
        go_wp2_with fail
        go_ret
        exact ⟨by rw [Nib.common_stop p q k (by omega) (by omega) HT.out HE.out]; rfl, d + nq, by rw [World.drewN_drewN]⟩
    · obtain rfl : k = m := by omega
      go_wp2_with fail
      go_ret
      exact ⟨by rw [Nib.common_all p q k HM.out HT.out]; rfl, d, rfl⟩

/-- bytes.Compare -/
theorem bytes_Compare (p q : List UInt8) (A A' : Option Addr) (n n' c c' B : Nat) (w : World) (h : Bytes w B A n c p) (h' : Bytes w B A' n' c' q) :
    Calls Try.prog 12 #[.slice A n c, .slice A' n' c'] w fun e w' => e = .returned (.int .i64 (Lib.compareBytes p q)) ∧ w = w' := by
  have hrun : (Extern.BytealgCompare.compare #[.slice A n c, .slice A' n' c']).run Try.prog w = .ok (.int .i64 (Lib.compareBytes p q)) w := by
    change Sem.run _ (do pure (goInt (Extern.BytealgCompare.cmp (← Extern.Bytes.bytesOf (.slice A n c)) (← Extern.Bytes.bytesOf (.slice A' n' c'))))) w = _
    simp only [Sem.run_bind, h.ofVal, h'.ofVal, Result.andThen_ok, Sem.run_pure, Lib.cmp_eq, goInt]
  go_enter Try.func12, Try.ntmps12
  go_wp2
  rw [run_callFunc_extern Try.func14 (by kernel_rfl) (by kernel_rfl) (by kernel_rfl) (e := Extern.BytealgCompare.compare) (by kernel_rfl), hrun]
  simp only [Result.andThen]
  rw [Oper.upon_value]
  go_wp2
  go_ret
  exact ⟨rfl, rfl⟩

set_option maxHeartbeats 400000 in
theorem nib_Less (p q : List UInt8) (A A' : Option Addr) (n n' c c' B : Nat) (w : World) (h : Bytes w B A n c p) (h' : Bytes w B A' n' c' q) :
    Calls Try.prog 8 #[.slice A n c, .slice A' n' c'] w fun e w' => e = .returned (.bool (decide (Lib.compareBytes p q < 0))) ∧ w = w' := by
  go_enter Try.func8, Try.ntmps8
  go_wp2_with (go_at_call 12; refine (bytes_Compare p q A A' n n' c c' B w h h').mono ?_; rintro e w' ⟨rfl, rfl⟩)
  go_ret
  exact ⟨rfl, rfl⟩
end Go.Proofs.Ytmpafibpmpgciaa

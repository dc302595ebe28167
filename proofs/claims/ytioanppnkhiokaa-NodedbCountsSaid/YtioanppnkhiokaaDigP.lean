/-
  The digest as a plain function on lists of bytes: no program.
-/
import Derived.Laws.BitsAllLaws
import Derived.Laws.BitsLemmas
namespace Go.Proofs.Ytioanppnkhiokaa
namespace Dig

/-- a word, as a walk writes it: kept closed -/
def v (x : UInt64) : Int := (x.toNat : Int)
theorem v_nonneg (x : UInt64) : 0 ≤ v x := by unfold v; omega
theorem v_lt (x : UInt64) : v x < 18446744073709551616 := by
  have := x.toNat_lt
  unfold v; omega
theorem wrap_u64 (n : Int) : IntKind.u64.wrap n = n % 18446744073709551616 := by simp [IntKind.wrap, IntKind.bits, IntKind.signed]
theorem add_v (x y : UInt64) : IntKind.u64.wrap (v x + v y) = v (x + y) := by
  rw [wrap_u64]; unfold v
  rw [UInt64.toNat_add]; omega
theorem xor_v (x y : UInt64) : bits .xor .u64 (v x) (v y) = v (x ^^^ y) := by
  unfold v
  rw [u64_xor_nat _ _ x.toNat_lt y.toNat_lt, UInt64.toNat_xor]
theorem or_v (x y : UInt64) : bits .or .u64 (v x) (v y) = v (x ||| y) := by
  unfold v
  rw [u64_or_nat _ _ x.toNat_lt y.toNat_lt, UInt64.toNat_or]

structure St where
  a : UInt64
  b : UInt64
  c : UInt64
  d : UInt64

def golden : UInt64 := 11400714819323198485

def rot (x k : UInt64) : UInt64 := (x <<< k) ||| (x >>> (64 - k))

def round (s : St) (m k : UInt64) : St :=
  let a := s.a + (s.b + m + k)
  let d := rot (s.d ^^^ a) 32
  let c := s.c + d
  let b := rot (s.b ^^^ c) 24
  let a := a + b
  let d := rot (d ^^^ a) 16
  let c := c + d
  let b := rot (b ^^^ c) 63
  ⟨b, c, d, a⟩

/-- eight bytes, the highest first -/
def word (l : List UInt8) : UInt64 := l.foldl (fun n c => n * 256 + UInt64.ofNat c.toNat) 0

def at4 (m : St) : Nat → UInt64
  | 0 => m.a
  | 1 => m.b
  | 2 => m.c
  | _ => m.d

/-- rounds by these words: the state, the constant (what is added to it is a variable: the kernel must never count it down) -/
def roundsG (G : UInt64) : List UInt64 → St → UInt64 → St
  | [], s, _ => s
  | m :: ms, s, k => roundsG G ms (round s m k) (k + G)
theorem roundsG_cons (G m : UInt64) (ms : List UInt64) (s : St) (k : UInt64) : roundsG G (m :: ms) s k = roundsG G ms (round s m k) (k + G) := by rw [roundsG]
def words (m : St) : List UInt64 := [m.a, m.b, m.c, m.d, m.a, m.b, m.c, m.d]
theorem words_at (m : St) (r : Nat) (h : r < 8) : (words m).drop r = at4 m (r % 4) :: (words m).drop (r + 1) := by
  match r, h with
  | 0, _ => rfl
  | 1, _ => rfl
  | 2, _ => rfl
  | 3, _ => rfl
  | 4, _ => rfl
  | 5, _ => rfl
  | 6, _ => rfl
  | 7, _ => rfl
theorem roundsG_step (G : UInt64) (m s : St) (K : UInt64) (r : Nat) (h : r < 8) : roundsG G ((words m).drop r) s K = roundsG G ((words m).drop (r + 1)) (round s (at4 m (r % 4)) K) (K + G) := by
  rw [words_at m r h, roundsG_cons]
def rounds (l : List UInt64) (s : St) (k : UInt64) : St := roundsG golden l s k
theorem rounds_step (m s : St) (K : UInt64) (r : Nat) (h : r < 8) : rounds ((words m).drop r) s K = rounds ((words m).drop (r + 1)) (round s (at4 m (r % 4)) K) (K + golden) :=
  roundsG_step golden m s K r h

def piece (b : List UInt8) : St := ⟨word (b.take 8), word ((b.drop 8).take 8), word ((b.drop 16).take 8), word ((b.drop 24).take 8)⟩
def xor4 (s m : St) : St := ⟨s.a ^^^ m.a, s.b ^^^ m.b, s.c ^^^ m.c, s.d ^^^ m.d⟩
def mixed (s : St) (b : List UInt8) : St := xor4 (rounds (words (piece b)) (xor4 s (piece b)) golden) s
def begun : St := ⟨golden, golden + golden, golden + golden + golden, golden + golden + golden + golden⟩

def absorb : Nat → St → List UInt8 → St
  | 0, s, _ => s
  | k + 1, s, l => absorb k (mixed s (l.take 32)) (l.drop 32)

theorem absorb_add : ∀ (j k : Nat) (s : St) (l : List UInt8), absorb (j + k) s l = absorb k (absorb j s l) (l.drop (32 * j))
  | 0, k, s, l => by simp [absorb]
  | j + 1, k, s, l => by
    rw [show j + 1 + k = (j + k) + 1 by omega]
    simp only [absorb]
    rw [absorb_add j k, List.drop_drop]
    congr 2; omega
theorem absorb_front : ∀ (j : Nat) (s : St) (a b : List UInt8), 32 * j ≤ a.length → absorb j s (a ++ b) = absorb j s a
  | 0, s, a, b, _ => rfl
  | j + 1, s, a, b, h => by
    simp only [absorb]
    rw [List.take_append_of_le_length (by omega), List.drop_append_of_le_length (by omega), absorb_front j _ _ b (by rw [List.length_drop]; omega)]

/-- a word's eight bytes -/
def bytes8 (n : UInt64) : List UInt8 := (List.range 8).map fun i => UInt8.ofNat ((n >>> (UInt64.ofNat (56 - 8 * i))).toNat)
theorem bytes8_length (n : UInt64) : (bytes8 n).length = 8 := by simp [bytes8]
/-- how many noughts -/
def noughts (n : Nat) : Nat := (32 + 23 - n % 32) % 32
def tail (r : List UInt8) (n : UInt64) : List UInt8 := r ++ [128] ++ List.replicate (noughts r.length) 0 ++ bytes8 n
def padded (t : List UInt8) : List UInt8 := tail t (UInt64.ofNat t.length)
def out (s : St) : List UInt8 := bytes8 s.a ++ bytes8 s.b ++ bytes8 s.c ++ bytes8 s.d
theorem out_length (s : St) : (out s).length = 32 := by simp [out, bytes8_length]
def of (t : List UInt8) : List UInt8 := out (absorb ((padded t).length / 32) begun (padded t))
theorem of_length (t : List UInt8) : (of t).length = 32 := out_length _

theorem tail_length (r : List UInt8) (n : UInt64) : (tail r n).length = r.length + 9 + noughts r.length := by
  simp only [tail, List.length_append, List.length_replicate, bytes8_length, List.length_cons, List.length_nil]; omega
theorem tail_mod (r : List UInt8) (n : UInt64) : (tail r n).length % 32 = 0 := by
  rw [tail_length]; unfold noughts; omega

/-- piece by piece, with a rest: as the whole at once -/
theorem of_rest (t : List UInt8) : of t = out (absorb ((tail (t.drop (32 * (t.length / 32))) (UInt64.ofNat t.length)).length / 32) (absorb (t.length / 32) begun t) (tail (t.drop (32 * (t.length / 32))) (UInt64.ofNat t.length))) := by
  have hl : (t.drop (32 * (t.length / 32))).length = t.length % 32 := by rw [List.length_drop]; omega
  have hn : noughts (t.drop (32 * (t.length / 32))).length = noughts t.length := by rw [hl]; unfold noughts; omega
  have hd : tail (t.drop (32 * (t.length / 32))) (UInt64.ofNat t.length) = (padded t).drop (32 * (t.length / 32)) := by
    unfold padded tail
    rw [hn]
    rw [List.append_assoc, List.append_assoc, List.append_assoc, List.append_assoc, List.drop_append_of_le_length (by omega)]
  have hp := tail_length t (UInt64.ofNat t.length)
  have hq : (padded t).length / 32 = t.length / 32 + ((padded t).drop (32 * (t.length / 32))).length / 32 := by
    rw [List.length_drop]; unfold padded; omega
  rw [hd]
  unfold of
  rw [hq, absorb_add]
  congr 2
  unfold padded tail
  rw [List.append_assoc, List.append_assoc, absorb_front _ _ _ _ (by omega)]
end Dig
end Go.Proofs.Ytioanppnkhiokaa

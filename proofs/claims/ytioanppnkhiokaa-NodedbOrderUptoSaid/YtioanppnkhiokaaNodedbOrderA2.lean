/-
  Texts of a proof, one behind the other: DbM, Db1, Db2, LyS, Cm6, It6, It7, Db3, Db4, OneP, Rq1, Rq2, Rq3.
-/
import Derived.Test.YtioanppnkhiokaaNodedbOrderA1
import Derived.Maps.Keyed
import Derived.Maps.Own
import Derived.DeepKeys4
import Derived.Carry
import Derived.Lib.ConvBytes
import Derived.Test.YtioanppnkhiokaaProg
import Derived.Test.YtioanppnkhiokaaChecked
import Derived.Shelf.SlSortCmp.WholeK
import Derived.Lib.Bytealg
import Derived.RangeFuncGives
import Derived.RangeFuncBound
import Derived.Maps.AppendAt
import Derived.Sort.MapsRangeIn
import Derived.WalkKit
import Derived.Great.BuildSlice
import Derived.OwnWalkIn
import Derived.TacticsInMore
import Derived.RegionIn
import Derived.LoopNIn
import Derived.LoopIn
import Derived.Shelf.AbstractIn
import Derived.RangeFuncNested
import Derived.RangeFuncLeaves
import Derived.RangeFuncCalls
import Derived.Deep.Cut
/-
  Maps whose keys are digests, as lists of what they hold.
-/
namespace Go.Proofs.Ytioanppnkhiokaa
open Go.RowKit

/-- an association of digests and values -/
abbrev Assoc := List (List UInt8 × Value)
def Assoc.get (m : Assoc) (d : List UInt8) : Option Value := (m.find? (·.1 == d)).map (·.2)
def Assoc.put (m : Assoc) (d : List UInt8) (v : Value) : Assoc := if (m.get d).isSome then m.map (fun p => if p.1 == d then (d, v) else p) else m ++ [(d, v)]
def Assoc.del (m : Assoc) (d : List UInt8) : Assoc := m.filter (fun p => !(p.1 == d))
def ents (m : Assoc) : List (Value × Value) := m.map fun p => (digV p.1, p.2)
/-- the entries' stamps -/
structure BornOk (es : Array MapEntry) (clock : Nat) : Prop where
  lt : ∀ x ∈ es.toList, x.born < clock
  one : (es.toList.map (·.born)).Nodup
theorem BornOk.push {es : Array MapEntry} {clock : Nat} (h : BornOk es clock) (k v : Value) : BornOk (es.push ⟨k, v, clock⟩) (clock + 1) := by
  refine ⟨fun x hx => ?_, ?_⟩
  · rw [Array.toList_push, List.mem_append, List.mem_singleton] at hx
    rcases hx with hx | rfl
    · have := h.lt x hx; omega
    · exact Nat.lt_succ_self _
  · rw [Array.toList_push, List.map_append, List.nodup_append]
    refine ⟨h.one, by simp, fun a ha b hb => ?_⟩
    simp only [List.map_cons, List.map_nil, List.mem_singleton] at hb
    obtain ⟨x, hx, rfl⟩ := List.mem_map.1 ha
    have := h.lt x hx
    omega
theorem BornOk.modify {es : Array MapEntry} {clock : Nat} (h : BornOk es clock) (j : Nat) (k v : Value) : BornOk (es.modify j fun e' => { e' with key := k, val := v }) clock := by
  have e : ((es.modify j fun e' => { e' with key := k, val := v }).toList).map (·.born) = es.toList.map (·.born) := by
    apply List.ext_getElem?
    intro i
    simp only [List.getElem?_map, Array.toList_modify, List.getElem?_modify]
    by_cases hij : j = i
    · subst hij
      cases es.toList[j]? <;> simp
    · simp [hij]
  refine ⟨fun x hx => ?_, by rw [e]; exact h.one⟩
  have : x.born ∈ ((es.modify j fun e' => { e' with key := k, val := v }).toList).map (·.born) := List.mem_map_of_mem hx
  rw [e] at this
  obtain ⟨y, hy, hyx⟩ := List.mem_map.1 this
  rw [← hyx]
  exact h.lt y hy
theorem BornOk.erase {es : Array MapEntry} {clock : Nat} (h : BornOk es clock) {j : Nat} (hj : j < es.size) : BornOk (es.eraseIdxIfInBounds j) clock := by
  have e1 : (es.eraseIdxIfInBounds j).toList = es.toList.eraseIdx j := by simp [Array.eraseIdxIfInBounds, hj]
  refine ⟨fun x hx => ?_, ?_⟩
  · rw [e1] at hx
    exact h.lt x ((List.eraseIdx_sublist _ _).subset hx)
  · rw [e1]
    exact h.one.sublist ((List.eraseIdx_sublist _ _).map _)
/-- block b is a map that holds just this -/
structure MapIs (w : World) (b : Nat) (m : Assoc) : Prop where
  ex : ∃ es clock, w.heap[b]? = some (.map es clock) ∧ es.toList.map (fun e => (e.key, e.val)) = ents m
  len : ∀ p ∈ m, p.1.length = 32
  one : m.Pairwise (fun p q => p.1 ≠ q.1)
  born : ∀ es clock, w.heap[b]? = some (.map es clock) → BornOk es clock
section
variable {w w' : World} {b : Nat} {m : Assoc}
theorem MapIs.lt (h : MapIs w b m) : b < w.heap.size := by
  obtain ⟨es, clock, hb, _⟩ := h.ex
  exact (Array.getElem?_eq_some_iff.1 hb).1
theorem MapIs.new (w : World) : MapIs (w.alloc (.map #[] 0)) w.heap.size [] :=
  ⟨⟨#[], 0, (MapKept.heap_alloc w _).1, rfl⟩, by simp, by simp, fun es clock h => by
    rw [(MapKept.heap_alloc w _).1] at h
    cases h
    exact ⟨by simp, by simp⟩⟩
theorem MapIs.of_block (h : MapIs w b m) (hb : w'.heap[b]? = w.heap[b]?) : MapIs w' b m := by
  obtain ⟨⟨es, clock, he, r⟩, r2, r3, r4⟩ := h
  exact ⟨⟨es, clock, hb.trans he, r⟩, r2, r3, fun es clock h => r4 es clock (hb.symm.trans h)⟩
theorem MapIs.below {B : Nat} (h : MapIs w b m) (hb : Below B w w') (hB : b < B) : MapIs w' b m := h.of_block (hb.block b hB)
theorem MapIs.alloc (h : MapIs w b m) (o : Obj) : MapIs (w.alloc o) b m := h.of_block (Below.heap_alloc w o b h.lt)
theorem MapIs.drew (h : MapIs w b m) : MapIs w.drew b m := h.of_block rfl
theorem MapIs.drewN (h : MapIs w b m) (n : Nat) : MapIs (w.drewN n) b m := h.of_block rfl
theorem MapIs.far (h : MapIs w b m) {p : Addr} (hp : b ≠ p.block) (u : Value) : MapIs (w.setCell p u) b m := h.of_block (Below.heap_setCell w p u b hp)
theorem MapIs.grown {g : Nat} (h : MapIs w b m) (hg : w.grownBy w' (some g)) (hne : b ≠ g) : MapIs w' b m := h.of_block (hg.block b h.lt (by simp; omega))
/-- the model's search finds what is there -/
theorem MapIs.find (h : MapIs w b m) {es : Array MapEntry} (he : es.toList.map (fun e => (e.key, e.val)) = ents m) (d : List UInt8) (hd : d.length = 32) :
    ((Instr.findKey 30 (digV d) es.toList).run Try.prog w = .ok none w ∧ m.get d = none) ∨
    ∃ j v, (Instr.findKey 30 (digV d) es.toList).run Try.prog w = .ok (some (j, v)) w ∧ m[j]? = some (d, v) ∧ m.get d = some v := by
  obtain ⟨k, hk⟩ := dig_key d hd
  have hkeys : ∀ e ∈ es.toList, ∃ l, keyOf Try.prog 30 e.key = some l := by
    intro e hee
    have : (e.key, e.val) ∈ ents m := by rw [← he]; exact List.mem_map_of_mem hee
    obtain ⟨p, hp, hpe⟩ := List.mem_map.1 this
    have e1 : digV p.1 = e.key := (Prod.ext_iff.1 hpe).1
    rw [← e1]
    exact dig_key p.1 (h.len p hp)
  have hlen : es.toList.length = m.length := by have := congrArg List.length he; simpa [ents] using this
  have hat : ∀ j (hj : j < es.toList.length), es.toList[j].key = digV (m[j]'(by omega)).1 ∧ es.toList[j].val = (m[j]'(by omega)).2 := by
    intro j hj
    have h1 : (es.toList.map (fun e => (e.key, e.val)))[j]? = (ents m)[j]? := by rw [he]
    simp only [ents, List.getElem?_map, List.getElem?_eq_getElem hj, List.getElem?_eq_getElem (show j < m.length by omega), Option.map_some, Option.some.injEq, Prod.mk.injEq] at h1
    exact h1
  rcases dig_law.find w hk es.toList hkeys with ⟨hr, hne⟩ | ⟨j, e, hr, hj, hek⟩
  · refine .inl ⟨hr, ?_⟩
    unfold Assoc.get
    rw [Option.map_eq_none_iff, List.find?_eq_none]
    intro p hp
    obtain ⟨j, hj, rfl⟩ := List.getElem_of_mem hp
    have := hne _ (List.getElem_mem (show j < es.toList.length by omega))
    rw [(hat j (by omega)).1] at this
    simp only [beq_iff_eq]
    intro e
    exact this (by rw [e])
  · have hjl : j < es.toList.length := (List.getElem?_eq_some_iff.1 hj).1
    have hej : es.toList[j] = e := by rw [List.getElem?_eq_getElem hjl] at hj; exact Option.some.inj hj
    have ha := hat j hjl
    rw [hej, hek] at ha
    have hdj := digV_inj ha.1
    have hmj : m[j]? = some (d, e.val) := by
      rw [List.getElem?_eq_getElem (by omega), ha.2, hdj]
    refine .inr ⟨j, e.val, hr, hmj, ?_⟩
    unfold Assoc.get
    have : m.find? (·.1 == d) = some (d, e.val) := by
      rw [List.find?_eq_some_iff_getElem]
      refine ⟨by simp, j, by omega, by rw [List.getElem?_eq_getElem (by omega)] at hmj; exact Option.some.inj hmj, fun i hi => ?_⟩
      have hp := List.pairwise_iff_getElem.1 h.one i j (by omega) (by omega) hi
      rw [← hdj] at hp
      simpa using hp
    rw [this]; rfl
/-- what a search tells -/
def Assoc.told (m : Assoc) (d : List UInt8) (z : Value) : Value := .tuple #[(m.get d).getD z, .bool (m.get d).isSome]
/-- 'v, ok := m[d]' -/
theorem MapIs.lookup {e : TypeId} {t : TypeId} {z : Value} (h : MapIs w b m) (ht : Try.prog.underlying t = some (.map 30 e)) (hz : (zeroValue e).run Try.prog w = .ok z w) (d : List UInt8) (hd : d.length = 32) :
    (Instr.lookup t (.map (some b)) (.agg (row32 d)) true).run Try.prog w = .ok (m.told d z) w := by
  obtain ⟨es, clock, hb, he⟩ := h.ex
  obtain ⟨k, hk⟩ := dig_key d hd
  have hc := fun em => dig_law.check w em hk
  rcases h.find he d hd with ⟨hr, hg⟩ | ⟨j, v, hr, hj, hg⟩
  · unfold digV at hr hc
    simp [Instr.lookup, run_underlying ht, MapKept.run_getObj_map hb, hc, hr, hz, Assoc.told, hg]
  · unfold digV at hr hc
    simp [Instr.lookup, run_underlying ht, MapKept.run_getObj_map hb, hc, hr, Assoc.told, hg]
/-- 'len(m)' -/
theorem MapIs.size (h : MapIs w b m) : ∃ es clock, w.heap[b]? = some (.map es clock) ∧ es.size = m.length := by
  obtain ⟨es, clock, hb, he⟩ := h.ex
  exact ⟨es, clock, hb, by have := congrArg List.length he; simpa [ents] using this⟩
theorem grown_block {es es' : Array MapEntry} {clock clock' : Nat} (hb : w.heap[b]? = some (.map es clock)) : w.grownBy (ChangeMaps.setBlock w b (.map es' clock')) (some b) :=
  ⟨rfl, rfl, rfl, by simp [ChangeMaps.setBlock], fun i _ hi => ChangeMaps.heap_setBlock_other hb _ (fun e => hi (by rw [e]))⟩
theorem one_at (h : MapIs w b m) {j j' : Nat} {d : List UInt8} {v v' : Value} (h1 : m[j]? = some (d, v)) (h2 : m[j']? = some (d, v')) : j = j' := by
  have l1 := (List.getElem?_eq_some_iff.1 h1).1
  have l2 := (List.getElem?_eq_some_iff.1 h2).1
  rw [List.getElem?_eq_getElem l1, Option.some.injEq] at h1
  rw [List.getElem?_eq_getElem l2, Option.some.injEq] at h2
  rcases Nat.lt_trichotomy j j' with hl | hl | hl
  · exact absurd (by rw [h1, h2]) (List.pairwise_iff_getElem.1 h.one j j' l1 l2 hl)
  · exact hl
  · exact absurd (by rw [h1, h2]) (List.pairwise_iff_getElem.1 h.one j' j l2 l1 hl)
/-- 'm[d] = v' -/
theorem MapIs.update {e : TypeId} {t : TypeId} (h : MapIs w b m) (ht : Try.prog.underlying t = some (.map 30 e)) (d : List UInt8) (hd : d.length = 32) (v : Value) :
    ∃ w', (Instr.mapUpdate t (.map (some b)) (.agg (row32 d)) v).run Try.prog w = .ok () w' ∧ MapIs w' b (m.put d v) ∧ w.grownBy w' (some b) := by
  obtain ⟨es, clock, hb, he⟩ := h.ex
  obtain ⟨k, hk⟩ := dig_key d hd
  have hc := dig_law.check w false hk
  have hlen : es.toList.length = m.length := by have := congrArg List.length he; simpa [ents] using this
  have hlen' : (m.put d v).Pairwise (fun p q => p.1 ≠ q.1) ∧ ∀ p ∈ m.put d v, p.1.length = 32 := by
    unfold Assoc.put
    cases hg : m.get d with
    | none =>
      simp only [Option.isSome_none, Bool.false_eq_true, if_false]
      refine ⟨List.pairwise_append.2 ⟨h.one, by simp, fun p hp q hq => ?_⟩, fun p hp => ?_⟩
      · simp only [List.mem_singleton] at hq
        subst hq
        intro e
        unfold Assoc.get at hg
        rw [Option.map_eq_none_iff, List.find?_eq_none] at hg
        exact hg p hp (by simpa using e)
      · rcases List.mem_append.1 hp with hp | hp
        · exact h.len p hp
        · simp only [List.mem_singleton] at hp; subst hp; exact hd
    | some x =>
      simp only [Option.isSome_some, if_true]
      have hkey : ∀ p : List UInt8 × Value, (if p.1 == d then (d, v) else p).1 = p.1 := by
        intro p
        split
        · rename_i h; simpa using (beq_iff_eq.1 h).symm
        · rfl
      refine ⟨List.pairwise_map.2 (h.one.imp (fun {p q} hpq => by rw [hkey, hkey]; exact hpq)), fun p hp => ?_⟩
      obtain ⟨q, hq, rfl⟩ := List.mem_map.1 hp
      rw [hkey]
      exact h.len q hq
  rcases h.find he d hd with ⟨hr, hg⟩ | ⟨j, x, hr, hj, hg⟩
  · unfold digV at hr hc
    refine ⟨ChangeMaps.setBlock w b (.map (es.push ⟨.agg (row32 d), v, clock⟩) (clock + 1)), ?_, ⟨⟨_, _, ChangeMaps.heap_setBlock_same hb _, ?_⟩, hlen'.2, hlen'.1, fun es' clock' h' => by rw [ChangeMaps.heap_setBlock_same hb _] at h'; cases h'; exact (h.born _ _ hb).push _ _⟩, grown_block hb⟩
    · simp [Instr.mapUpdate, run_underlying ht, MapKept.run_getObj_map hb, hc, hr, MapKept.run_setObj_map _ hb, Result.andThen, ChangeMaps.setBlock]
    · simp only [Assoc.put, hg, Option.isSome_none, Bool.false_eq_true, if_false, Array.toList_push, List.map_append, he, ents, List.map_cons, List.map_nil]
      rfl
  · have hjl : j < m.length := (List.getElem?_eq_some_iff.1 hj).1
    have hmj : m[j] = (d, x) := by rw [List.getElem?_eq_getElem hjl] at hj; exact Option.some.inj hj
    have hjs : j < es.size := by rw [← Array.length_toList]; omega
    have hje : es[j]? = some es[j] := Array.getElem?_eq_getElem hjs
    have hs := dig_law.stays w hk
    have hat : es[j].key = digV d ∧ es[j].val = x := by
      have h1 : (es.toList.map (fun e => (e.key, e.val)))[j]? = (ents m)[j]? := by rw [he]
      simp only [ents, List.getElem?_map, hj, Option.map_some, Array.getElem?_toList, hje, Option.some.injEq, Prod.mk.injEq] at h1
      exact h1
    unfold digV at hr hc hs hat
    refine ⟨ChangeMaps.setBlock w b (.map (es.modify j fun e' => { e' with key := .agg (row32 d), val := v }) clock), ?_, ⟨⟨_, _, ChangeMaps.heap_setBlock_same hb _, ?_⟩, hlen'.2, hlen'.1, fun es' clock' h' => by rw [ChangeMaps.heap_setBlock_same hb _] at h'; cases h'; exact (h.born _ _ hb).modify _ _ _⟩, grown_block hb⟩
    · simp [Instr.mapUpdate, run_underlying ht, MapKept.run_getObj_map hb, hc, hr, hje, hat.1, hs, MapKept.run_setObj_map _ hb, Result.andThen, ChangeMaps.setBlock]
    · apply List.ext_getElem?
      intro i
      simp only [Assoc.put, hg, Option.isSome_some, if_true, ents, List.getElem?_map, Array.toList_modify, List.map_map]
      by_cases hij : i = j
      · subst hij
        rw [List.getElem?_modify_eq]
        simp [hje, hj, digV]
      · have hmod : ∀ f : MapEntry → MapEntry, (es.toList.modify j f)[i]? = es.toList[i]? := fun f => by rw [List.getElem?_modify]; simp [Ne.symm hij]
        rw [hmod]
        have h1 : (es.toList.map (fun e => (e.key, e.val)))[i]? = (ents m)[i]? := by rw [he]
        simp only [ents, List.getElem?_map] at h1
        rw [h1]
        cases hm : m[i]? with
        | none => simp
        | some p =>
          have hne : (p.1 == d) = false := by
            rw [beq_eq_false_iff_ne]
            intro e
            obtain ⟨p1, p2⟩ := p
            simp only at e
            subst e
            exact hij (one_at h hm hj)
          have hne2 : ¬ p.1 = d := by simpa using hne
          simp [if_neg hne2]
/-- 'delete(m, d)' -/
theorem MapIs.delete {e : TypeId} {t ty : TypeId} (h : MapIs w b m) (ht : Try.prog.underlying t = some (.map 30 e)) (d : List UInt8) (hd : d.length = 32) :
    ∃ w', (Builtin.delete_ #[t, 30] ty #[.map (some b), .agg (row32 d)]).run Try.prog w = .ok (.tuple #[]) w' ∧ MapIs w' b (m.del d) ∧ w.grownBy w' (some b) := by
  obtain ⟨es, clock, hb, he⟩ := h.ex
  obtain ⟨k, hk⟩ := dig_key d hd
  have hc := fun em => dig_law.check w em hk
  have hlen : es.toList.length = m.length := by have := congrArg List.length he; simpa [ents] using this
  have hp : (m.del d).Pairwise (fun p q => p.1 ≠ q.1) := h.one.filter _
  have hl : ∀ p ∈ m.del d, p.1.length = 32 := fun p hp => h.len p (List.mem_filter.1 hp).1
  rcases h.find he d hd with ⟨hr, hg⟩ | ⟨j, x, hr, hj, hg⟩
  · have hm : m.del d = m := by
      unfold Assoc.get at hg
      rw [Option.map_eq_none_iff, List.find?_eq_none] at hg
      exact List.filter_eq_self.2 (fun p hp => by have := hg p hp; simpa using this)
    unfold digV at hr hc
    refine ⟨ChangeMaps.setBlock w b (.map es clock), ?_, ⟨⟨_, _, ChangeMaps.heap_setBlock_same hb _, by rw [he, hm]⟩, hl, hp, fun es' clock' h' => by rw [ChangeMaps.heap_setBlock_same hb _] at h'; cases h'; exact h.born _ _ hb⟩, grown_block hb⟩
    simp [Builtin.delete_, run_underlying ht, MapKept.run_getObj_map hb, hc, hr, MapKept.run_setObj_map _ hb, Result.andThen, ChangeMaps.setBlock]
  · have hjl : j < m.length := (List.getElem?_eq_some_iff.1 hj).1
    have hjs : j < es.size := by rw [← Array.length_toList]; omega
    have hdel : m.del d = m.eraseIdx j := by
      have : ∀ (l : Assoc) (j : Nat), l.Pairwise (fun p q => p.1 ≠ q.1) → l[j]? = some (d, x) → l.filter (fun p => !(p.1 == d)) = l.eraseIdx j := by
        intro l
        induction l with
        | nil => intro j _ h; simp at h
        | cons a r ih =>
          intro j hp hj
          obtain ⟨h1, h2⟩ := List.pairwise_cons.1 hp
          cases j with
          | zero =>
            simp only [List.getElem?_cons_zero, Option.some.injEq] at hj
            subst hj
            simp only [List.filter_cons, beq_self_eq_true, Bool.not_true, Bool.false_eq_true, if_false, List.eraseIdx_zero, List.tail_cons]
            exact List.filter_eq_self.2 (fun q hq => by have := h1 q hq; simp [Ne.symm this])
          | succ j =>
            simp only [List.getElem?_cons_succ] at hj
            have hne := h1 _ (List.mem_of_getElem? hj)
            simp only [List.filter_cons, List.eraseIdx_cons_succ, ih j h2 hj]
            rw [if_pos (by simpa using hne)]
      exact this m j h.one hj
    unfold digV at hr hc
    refine ⟨ChangeMaps.setBlock w b (.map (es.eraseIdxIfInBounds j) clock), ?_, ⟨⟨_, _, ChangeMaps.heap_setBlock_same hb _, ?_⟩, hl, hp, fun es' clock' h' => by rw [ChangeMaps.heap_setBlock_same hb _] at h'; cases h'; exact (h.born _ _ hb).erase hjs⟩, grown_block hb⟩
    · simp [Builtin.delete_, run_underlying ht, MapKept.run_getObj_map hb, hc, hr, MapKept.run_setObj_map _ hb, Result.andThen, ChangeMaps.setBlock]
    · rw [hdel]
      have e1 : (es.eraseIdxIfInBounds j).toList = es.toList.eraseIdx j := by simp [Array.eraseIdxIfInBounds, hjs]
      rw [e1, ChangeMaps.map_eraseIdx, he]
      unfold ents
      rw [ChangeMaps.map_eraseIdx]
end
end Go.Proofs.Ytioanppnkhiokaa

/-
  The store's functions: New, Len, Get, Put, Drop.
-/
namespace Go.Proofs.Ytioanppnkhiokaa
open Go.RowKit

def held (t : ByteArray) (n : Int) : Value := .agg #[.string t, .int .i64 n]
structure StoreIs (w : World) (S b : Nat) (most : Int) (m : Assoc) : Prop where
  cells : Blk w S 77 #[.int .i64 most, .map (some b)]
  map : MapIs w b m
  ne : S ≠ b
section
variable {w w' : World} {S b : Nat} {most : Int} {m : Assoc}
theorem StoreIs.below {B : Nat} (h : StoreIs w S b most m) (hb : Below B w w') (h1 : S < B) (h2 : b < B) : StoreIs w' S b most m := ⟨h.cells.below hb h1, h.map.below hb h2, h.ne⟩
theorem StoreIs.step (h : StoreIs w S b most m) (hb : Below w.heap.size w w') : StoreIs w' S b most m := h.below hb h.cells.lt h.map.lt
theorem StoreIs.alloc (h : StoreIs w S b most m) (o : Obj) : StoreIs (w.alloc o) S b most m := ⟨h.cells.alloc o, h.map.alloc o, h.ne⟩
theorem StoreIs.drew (h : StoreIs w S b most m) : StoreIs w.drew S b most m := ⟨h.cells.drew, h.map.drew, h.ne⟩
theorem StoreIs.grown {g : Nat} (h : StoreIs w S b most m) (hg : w.grownBy w' (some g)) (h1 : S ≠ g) (h2 : b ≠ g) : StoreIs w' S b most m := ⟨h.cells.grown hg h1, h.map.grown hg h2, h.ne⟩
end
section
variable {w : World} {ops : Array Oper} {rest : List Oper} {o : Oper} {a : Act} {Q : Exit → Act → World → Prop}
theorem run_len_map {b : Nat} {m : Assoc} {k e : TypeId} {t ty : TypeId} (ht : Try.prog.underlying t = some (.map k e)) (h : MapIs w b m) : (Builtin.len_ #[t] ty #[.map (some b)]).run Try.prog w = .ok (.int .i64 m.length) w := by
  obtain ⟨es, clock, hb, hs⟩ := h.size
  simp [Builtin.len_, run_underlying ht, MapKept.run_getObj_map hb, goInt, hs]
theorem wpList_len_map (hg : o.guard = none) (x : Operand) (t : TypeId) (hop : o.op = Op.call { callee := Callee.builtin Builtin.len, args := #[x], argTypes := #[t] })
    (k e : TypeId) (ht : Try.prog.underlying t = some (.map k e)) (b : Nat) (m : Assoc) (hm : a.eval x = .map (some b)) (h : MapIs w b m)
    (hK : wpList Try.prog ops Q rest (a.put o.dst (.int .i64 m.length)) w) : wpList Try.prog ops Q (o :: rest) a w := by
  refine wpList_plain hg fun K' hK' => ?_
  unfold Oper.wp
  simp [execOp, hop, resolve, invoke, builtin, hm, run_len_map ht h, Result.andThen]
  exact hK' _ _ hK
theorem wp_update_map {K : Act → World → Prop} (mm x v : Operand) (t : TypeId) (hop : o.op = Op.mapUpdate t mm x v)
    (e : TypeId) (ht : Try.prog.underlying t = some (.map 30 e)) (b : Nat) (m : Assoc) (hm : a.eval mm = .map (some b)) (h : MapIs w b m)
    (d : List UInt8) (hd : d.length = 32) (val : Value) (hx : a.eval x = .agg (row32 d)) (hv : a.eval v = val)
    (hK : ∀ w', MapIs w' b (m.put d val) → w.grownBy w' (some b) → K (a.put o.dst undef) w') : o.wp Try.prog a w K Q := by
  obtain ⟨w', hrun, r1, r2⟩ := h.update ht d hd val
  unfold Oper.wp
  simp [execOp, hop, hm, hx, hv, hrun, Result.andThen]
  exact hK w' r1 r2
theorem wp_delete_map {K : Act → World → Prop} (mm x : Operand) (t : TypeId) (hop : o.op = Op.call { callee := Callee.builtin Builtin.delete, args := #[mm, x], argTypes := #[t, 30] })
    (e : TypeId) (ht : Try.prog.underlying t = some (.map 30 e)) (b : Nat) (m : Assoc) (hm : a.eval mm = .map (some b)) (h : MapIs w b m)
    (d : List UInt8) (hd : d.length = 32) (hx : a.eval x = .agg (row32 d))
    (hK : ∀ w', MapIs w' b (m.del d) → w.grownBy w' (some b) → K (a.put o.dst (.tuple #[])) w') : o.wp Try.prog a w K Q := by
  obtain ⟨w', hrun, r1, r2⟩ := h.delete (ty := o.type) ht d hd
  unfold Oper.wp
  simp [execOp, hop, resolve, invoke, builtin, hm, hx, hrun, Result.andThen]
  exact hK w' r1 r2
theorem wpList_update_map (hg : o.guard = none) (mm x v : Operand) (t : TypeId) (hop : o.op = Op.mapUpdate t mm x v)
    (e : TypeId) (ht : Try.prog.underlying t = some (.map 30 e)) (b : Nat) (m : Assoc) (hm : a.eval mm = .map (some b)) (h : MapIs w b m)
    (d : List UInt8) (hd : d.length = 32) (val : Value) (hx : a.eval x = .agg (row32 d)) (hv : a.eval v = val)
    (hK : ∀ w', MapIs w' b (m.put d val) → w.grownBy w' (some b) → wpList Try.prog ops Q rest (a.put o.dst undef) w') : wpList Try.prog ops Q (o :: rest) a w := by
  refine wpList_plain hg fun K' hK' => ?_
  obtain ⟨w', hrun, r1, r2⟩ := h.update ht d hd val
  unfold Oper.wp
  simp [execOp, hop, hm, hx, hv, hrun, Result.andThen]
  exact hK' _ _ (hK w' r1 r2)
theorem wpList_delete_map (hg : o.guard = none) (mm x : Operand) (t : TypeId) (hop : o.op = Op.call { callee := Callee.builtin Builtin.delete, args := #[mm, x], argTypes := #[t, 30] })
    (e : TypeId) (ht : Try.prog.underlying t = some (.map 30 e)) (b : Nat) (m : Assoc) (hm : a.eval mm = .map (some b)) (h : MapIs w b m)
    (d : List UInt8) (hd : d.length = 32) (hx : a.eval x = .agg (row32 d))
    (hK : ∀ w', MapIs w' b (m.del d) → w.grownBy w' (some b) → wpList Try.prog ops Q rest (a.put o.dst (.tuple #[])) w') : wpList Try.prog ops Q (o :: rest) a w := by
  refine wpList_plain hg fun K' hK' => ?_
  obtain ⟨w', hrun, r1, r2⟩ := h.delete (ty := o.type) ht d hd
  unfold Oper.wp
  simp [execOp, hop, resolve, invoke, builtin, hm, hx, hrun, Result.andThen]
  exact hK' _ _ (hK w' r1 r2)
end
theorem db_New (most : Int) (w : World) : Calls Try.prog 16 #[.int .i64 most] w fun e w' => ∃ S b, e = .returned (.pointer (some ⟨S, 0, none⟩)) ∧
    w.heap.size ≤ b ∧ b < S ∧ StoreIs w' S b most [] ∧ Below w.heap.size w w' := by
  have hmm := @run_makeMap Try.prog
  go_enter Try.func16, Try.ntmps16
  go_wp2
  go_ret
  exact ⟨_, _, rfl, Nat.le_refl _, Nat.lt_succ_self _, ⟨Blk.new' (by simp), (MapIs.new w).alloc _, by simp⟩, ((Below.refl _ _).alloc (Nat.le_refl _) _).alloc (by simp) _⟩
set_option maxRecDepth 100000 in
theorem db_Len (S b : Nat) (most : Int) (m : Assoc) (w : World) (h : StoreIs w S b most m) :
    Calls Try.prog 15 #[.pointer (some ⟨S, 0, none⟩)] w fun e w' => e = .returned (.int .i64 m.length) ∧ w = w' := by
  have g1 : w.cell? ⟨S, 1, none⟩ = some (.map (some b)) := h.cells.cell 1
  have H := Lib.hid h.map
  clear h
  go_enter Try.func15, Try.ntmps15
  go_wp2_with (refine wpList_len_map rfl _ 75 rfl _ _ Try.underlying75 b m rfl H.out ?_)
  go_ret
  exact ⟨rfl, rfl⟩
/-- a text's bytes, made anew -/
def PostR (w : World) (l : List UInt8) (e : Ending) (w' : World) : Prop := ∃ g c, e = .returned (.slice (some ⟨g, 0, none⟩) l.length c) ∧ w.heap.size ≤ g ∧
  Bytes w' w'.heap.size (some ⟨g, 0, none⟩) l.length c l ∧ (∀ j, j < l.length → w'.frozen? ⟨g, j, none⟩ = false) ∧ Below w.heap.size w w'
theorem conv_post (t : ByteArray) (w : World) (e : TypeId) (ht : t.size ≤ 140737488355328) : Bytes (Lib.bytesWorld w e t) (Lib.bytesWorld w e t).heap.size (some ⟨w.heap.size, 0, none⟩) t.size (grownCap w t.size 0 e) t.data.toList ∧
    (∀ j, j < t.data.toList.length → (Lib.bytesWorld w e t).frozen? ⟨w.heap.size, j, none⟩ = false) ∧ Below w.heap.size w (Lib.bytesWorld w e t) := by
  have hsz : t.data.toList.length = t.size := Array.length_toList
  refine ⟨⟨hsz.symm, grownCap_ge w t.size 0 e, grownCap_le_maxLen w t.size 0 e (by unfold maxLen; omega), ?_⟩, ?_, ⟨rfl, rfl, rfl, ?_, fun k hk => Lib.bytesWorld_at_old w e t k hk⟩⟩
  · refine ⟨by rw [bv_length, hsz, Nat.mul_one], fun _ => ⟨w.heap.size, 0, rfl, by rw [Lib.bytesWorld_size]; omega, fun j u hu => ?_⟩⟩
    have hj : j < t.data.toList.length := by have := (List.getElem?_eq_some_iff.1 hu).1; rwa [bv_length] at this
    rw [bv_at _ _ hj] at hu
    rw [Nat.zero_add, Lib.bytesWorld_cell w e t j (by omega), ← hu]
    have hj' : j < t.data.size := by rwa [Array.length_toList] at hj
    have e : t.data[j]? = some t.data[j] := Array.getElem?_eq_getElem hj'
    simp [List.getD, e]
  · intro j hj
    have hc : j < (Lib.bytesCells w e t).size := by simp [Lib.bytesCells]; have : t.data.size = t.size := rfl; omega
    simp [World.frozen?, Lib.bytesWorld_at_new]
    omega
  · rw [Lib.bytesWorld_size]; omega
set_option maxRecDepth 100000 in
theorem db_Bytes (t : ByteArray) (w : World) (ht : t.size ≤ 140737488355328) : Calls Try.prog 10 #[.string t] w (PostR w t.data.toList) := by
  have hcv := Lib.run_convert_string_bytes (P := Try.prog) w 25 26 5 t Try.underlying25 Try.underlying26 Try.underlying5
  have HP := Lib.hid (conv_post t w 5 ht)
  clear ht
  go_enter Try.func10, Try.ntmps10
  go_wp2
  go_ret
  have hsz : t.data.toList.length = t.size := Array.length_toList
  exact ⟨w.heap.size, grownCap w t.size 0 5, by rw [hsz]; rfl, Nat.le_refl _, by rw [hsz]; exact HP.out.1, HP.out.2⟩
end Go.Proofs.Ytioanppnkhiokaa

namespace Go.Proofs.Ytioanppnkhiokaa
open Go.RowKit

theorem zero_held (w : World) : (zeroValue 73).run Try.prog w = .ok (held ⟨#[]⟩ 0) w := by kernel_rfl
def heldOf (v : Option (ByteArray × Int)) : Value := held (v.getD (⟨#[]⟩, 0)).1 (v.getD (⟨#[]⟩, 0)).2
theorem told_held {m : Assoc} {d : List UInt8} {v : Option (ByteArray × Int)} (h : m.get d = v.map fun x => held x.1 x.2) : m.told d (held ⟨#[]⟩ 0) = .tuple #[heldOf v, .bool v.isSome] := by
  cases v <;> simp [Assoc.told, h, heldOf]
theorem Blk.range {w : World} {g : Nat} {t : TypeId} {l : List UInt8} (h : Blk w g t (row32 l)) : w.rangeAt g 0 (bv l) := fun j v hv => by
  rw [Nat.zero_add, h.cell j, ← Array.getElem?_toList]
  exact hv
/-- a digest lies in a block of the call's own, beside a store -/
def AtStore (w : World) (D S b : Nat) (most : Int) (m : Assoc) (d : List UInt8) (wr : World) : Prop := Blk wr D 30 (row32 d) ∧ StoreIs wr S b most m ∧ w.heap.size ≤ D ∧ Below w.heap.size w wr
theorem AtStore.alloc {w wr : World} {D S b : Nat} {most : Int} {m : Assoc} {d : List UInt8} (h : AtStore w D S b most m d wr) (o : Obj) : AtStore w D S b most m d (wr.alloc o) :=
  ⟨h.1.alloc o, h.2.1.alloc o, h.2.2.1, h.2.2.2.alloc (Nat.le_of_lt (Nat.lt_of_le_of_lt h.2.2.1 h.1.lt)) o⟩
theorem AtStore.drew {w wr : World} {D S b : Nat} {most : Int} {m : Assoc} {d : List UInt8} (h : AtStore w D S b most m d wr) : AtStore w D S b most m d wr.drew :=
  ⟨h.1.drew, h.2.1.drew, h.2.2.1, h.2.2.2.drew⟩
theorem AtStore.look {w wr : World} {D S b : Nat} {most : Int} {m : Assoc} {d : List UInt8} (h : AtStore w D S b most m d wr) (v : Option (ByteArray × Int)) (hd : d.length = 32) (hv : m.get d = v.map fun x => held x.1 x.2) :
    (Instr.lookup 75 (.map (some b)) (.agg (bv d).toArray) true).run Try.prog wr = .ok (.tuple #[.agg #[.string (v.getD (⟨#[]⟩, 0)).1, .int .i64 (v.getD (⟨#[]⟩, 0)).2], .bool v.isSome]) wr := by
  have := h.2.1.map.lookup Try.underlying75 (zero_held _) d hd
  rw [told_held hv] at this
  exact this
set_option maxRecDepth 100000 in
set_option maxHeartbeats 1000000 in
theorem db_Get (S b : Nat) (most : Int) (m : Assoc) (d : List UInt8) (v : Option (ByteArray × Int)) (w : World) (h : StoreIs w S b most m) (hd : d.length = 32) (hv : m.get d = v.map fun x => held x.1 x.2) :
    Calls Try.prog 14 #[.pointer (some ⟨S, 0, none⟩), .agg (row32 d)] w fun e w' =>
      e = .returned (.tuple #[.string (v.getD (⟨#[]⟩, 0)).1, .int .i64 (v.getD (⟨#[]⟩, 0)).2, .bool v.isSome]) ∧ Below w.heap.size w w' := by
  have hsz := row32_size hd
  have HA := Lib.hid (show AtStore w w.heap.size S b most m d (w.alloc (.cells (row32 d) 30)) from ⟨Blk.new _ _ _, h.alloc _, Nat.le_refl _, (Below.refl _ _).alloc (Nat.le_refl _) _⟩)
  clear h
  have hlk := fun W (hW : AtStore w w.heap.size S b most m d W) => hW.look v hd hv
  clear hv
  generalize v.isSome = is at *
  generalize v.getD (⟨#[]⟩, 0) = vv at *
  obtain ⟨t, n⟩ := vv
  have HL := Lib.hid hlk
  clear hlk
  go_enter Try.func14, Try.ntmps14
  go_wp2_with fail
  refine code_at _ HA.out ?_
  clear HA
  intro w1 ha
  have g1 : w1.cell? ⟨S, 1, none⟩ = some (.map (some b)) := ha.2.1.cells.cell 1
  have hlk := HL.out
  have hB := ha.2.2.2
  have hsz1 := hB.size
  replace ha := Lib.hid ha
  replace hB := Lib.hid hB
  refine wp_region_held_drew (S := (AtStore w w.heap.size S b most m d)) (by kernel_rfl) (by exact ⟨ha.out.1.drew, ha.out.2.1.drew, ha.out.2.2.1, ha.out.2.2.2.drew⟩) (fun hS => ?_)
  (refine hTake (i := 0) (v := ?v1) rfl (by kernel_rfl) (by kernel_rfl) (by kernel_rfl) (fun _ _ _ h => h) (Or.inl ⟨by rfl, ?y1⟩) hS ?r1; (case y1 => (intro W hW; (go_simp); (try with_reducible rfl); done)); try simp only [Act.put, List.setIfInBounds_toArray, List.set_cons_zero, List.set_cons_succ])
  (refine hTake (i := 1) (v := ?v2) rfl (by kernel_rfl) (by kernel_rfl) (by kernel_rfl) (fun _ _ _ h => h) (Or.inl ⟨by rfl, ?y2⟩) hS ?r2; (case y2 => (intro W hW; (go_simp); (try with_reducible rfl); done)); try simp only [Act.put, List.setIfInBounds_toArray, List.set_cons_zero, List.set_cons_succ])
  (refine hTake (i := 2) (v := ?v3) rfl (by kernel_rfl) (by kernel_rfl) (by kernel_rfl) (fun _ _ _ h => h) (Or.inl ⟨by rfl, ?y3⟩) hS ?r3; (case y3 => (intro W hW; (go_simp); (try with_reducible rfl); done)); try simp only [Act.put, List.setIfInBounds_toArray, List.set_cons_zero, List.set_cons_succ])
  (refine hTake (i := 3) (v := ?v4) rfl (by kernel_rfl) (by kernel_rfl) (by kernel_rfl) (fun _ _ _ h => h) (Or.inl ⟨by rfl, ?y4⟩) hS ?r4; (case y4 => (intro W hW; ((have g := hW.2.1.cells.cell 1; simp at g; go_simp)); (try with_reducible rfl); done)); try simp only [Act.put, List.setIfInBounds_toArray, List.set_cons_zero, List.set_cons_succ])
  (refine hTake (i := 4) rfl (by kernel_rfl) (by kernel_rfl) (by kernel_rfl) (fun _ _ _ h => h) (yieldsIf_load_mid (by rfl) _ _ rfl _ _ rfl (bv d) _ (fun W hW => (hW.1.range)) Try.underlying30 rfl (by rw [bv_length, hd]; exact info_digest)) hS ?_; try simp only [Act.put, List.setIfInBounds_toArray, List.set_cons_zero, List.set_cons_succ])
  (refine hTake (i := 5) (v := ?v5) rfl (by kernel_rfl) (by kernel_rfl) (by kernel_rfl) (fun _ _ _ h => h) (Or.inl ⟨by rfl, ?y5⟩) hS ?r5; (case y5 => (intro W hW; ((have g := hlk W hW; go_simp)); (try with_reducible rfl); done)); try simp only [Act.put, List.setIfInBounds_toArray, List.set_cons_zero, List.set_cons_succ])
  (refine hTake (i := 6) (v := ?v6) rfl (by kernel_rfl) (by kernel_rfl) (by kernel_rfl) (fun _ _ _ h => h) (Or.inl ⟨by rfl, ?y6⟩) hS ?r6; (case y6 => (intro W hW; (go_simp); (try with_reducible rfl); done)); try simp only [Act.put, List.setIfInBounds_toArray, List.set_cons_zero, List.set_cons_succ])
  (refine hTake (i := 7) (v := ?v7) rfl (by kernel_rfl) (by kernel_rfl) (by kernel_rfl) (fun _ _ _ h => h) (Or.inl ⟨by rfl, ?y7⟩) hS ?r7; (case y7 => (intro W hW; (go_simp); (try with_reducible rfl); done)); try simp only [Act.put, List.setIfInBounds_toArray, List.set_cons_zero, List.set_cons_succ])
  (refine hTake (i := 8) (v := ?v8) rfl (by kernel_rfl) (by kernel_rfl) (by kernel_rfl) (fun _ _ _ h => h) (Or.inl ⟨by rfl, ?y8⟩) hS ?r8; (case y8 => (intro W hW; (go_simp); (try with_reducible rfl); done)); try simp only [Act.put, List.setIfInBounds_toArray, List.set_cons_zero, List.set_cons_succ])
  (refine hOne (i := 9) rfl (by kernel_rfl) (fun K hK => ?_))
  go_simp
  (refine hK.out _ _ (by exact (ha.out.alloc _).drew) (fun hS => ?_); clear hK K; try simp only [Act.put, List.setIfInBounds_toArray, List.set_cons_zero, List.set_cons_succ])
  (refine hOne (i := 10) rfl (by kernel_rfl) (fun K hK => ?_))
  go_simp
  (refine hK.out _ _ (by exact (ha.out.alloc _).drew) (fun hS => ?_); clear hK K; try simp only [Act.put, List.setIfInBounds_toArray, List.set_cons_zero, List.set_cons_succ])
  (refine hTake (i := 11) (v := ?v9) rfl (by kernel_rfl) (by kernel_rfl) (by kernel_rfl) (fun _ _ _ h => h) (Or.inl ⟨by rfl, ?y9⟩) hS ?r9; (case y9 => (intro W hW; (go_simp); (try with_reducible rfl); done)); try simp only [Act.put, List.setIfInBounds_toArray, List.set_cons_zero, List.set_cons_succ])
  refine wpAnyH_done (by kernel_rfl) ?_ _
  clear hS
  go_wp2_with fail
  go_quiet (fail)
  go_wp2_with fail
  go_ret3
  exact ⟨rfl, below_drewN ((hB.out.alloc hsz1 _).drew) _⟩
end Go.Proofs.Ytioanppnkhiokaa

/-
  The bodies of slices.SortFunc at [][32]byte, as the kit's proof of it wants them: where each lies in this program.
-/
namespace Go.Proofs.Ytioanppnkhiokaa
open Go.Shelf

def sortD_ren : Go.Shelf.Ren := ⟨fun | 6 => 42 | 15 => 51 | 14 => 50 | 28 => 62 | 29 => 63 | 20 => 54 | 21 => 55 | 22 => 56 | 23 => 57 | 24 => 58 | 25 => 59 | 26 => 60 | 27 => 61 | 46 => 64 | 47 => 65 | 48 => 66 | 49 => 67 | 50 => 68 | 57 => 69 | n => n, fun | 22 => 49 | 24 => 30 | 25 => 85 | 3 => 3 | 39 => 109 | 0 => 0 | 53 => 120 | 55 => 68 | 4 => 4 | 46 => 113 | 45 => 112 | 50 => 117 | 5 => 5 | 9 => 9 | 66 => 122 | 70 => 126 | 76 => 128 | 77 => 129 | n => n, fun | n => n⟩
theorem sortD : Go.Proofs.SlLaysF0.n6 Try.prog sortD_ren := {
  mixed := by kernel_rfl,
  f6 := ⟨Try.f42.name, by decide, Try.func42.trans (congrArg some (by kernel_rfl))⟩,
  f14 := ⟨Try.f50.name, by decide, Try.func50.trans (congrArg some (by kernel_rfl))⟩,
  f15 := Try.func51.trans (congrArg some (by kernel_rfl)),
  f20 := ⟨Try.f54.name, by decide, Try.func54.trans (congrArg some (by kernel_rfl))⟩,
  f21 := ⟨Try.f55.name, by decide, Try.func55.trans (congrArg some (by kernel_rfl))⟩,
  f22 := ⟨Try.f56.name, by decide, Try.func56.trans (congrArg some (by kernel_rfl))⟩,
  f23 := ⟨Try.f57.name, by decide, Try.func57.trans (congrArg some (by kernel_rfl))⟩,
  f24 := ⟨Try.f58.name, by decide, Try.func58.trans (congrArg some (by kernel_rfl))⟩,
  f25 := ⟨Try.f59.name, by decide, Try.func59.trans (congrArg some (by kernel_rfl))⟩,
  f26 := ⟨Try.f60.name, by decide, Try.func60.trans (congrArg some (by kernel_rfl))⟩,
  f27 := ⟨Try.f61.name, by decide, Try.func61.trans (congrArg some (by kernel_rfl))⟩,
  f28 := Try.func62.trans (congrArg some (by kernel_rfl)),
  f29 := Try.func63.trans (congrArg some (by kernel_rfl)),
  f46 := ⟨Try.f64.name, by decide, Try.func64.trans (congrArg some (by kernel_rfl))⟩,
  f47 := Try.func65.trans (congrArg some (by kernel_rfl)),
  f48 := Try.func66.trans (congrArg some (by kernel_rfl)),
  f49 := ⟨Try.f67.name, by decide, Try.func67.trans (congrArg some (by kernel_rfl))⟩,
  f50 := ⟨Try.f68.name, by decide, Try.func68.trans (congrArg some (by kernel_rfl))⟩,
  f57 := ⟨Try.f69.name, by decide, Try.func69.trans (congrArg some (by kernel_rfl))⟩,
  t0 := Try.underlying0,
  a0 := Try.isAgg0,
  z0 := Try.sizeOf0,
  v0 := Try.zeroValue0,
  t3 := Try.underlying3,
  a3 := Try.isAgg3,
  z3 := Try.sizeOf3,
  v3 := Try.zeroValue3,
  t4 := Try.underlying4,
  a4 := Try.isAgg4,
  z4 := Try.sizeOf4,
  v4 := Try.zeroValue4,
  t5 := Try.underlying5,
  a5 := Try.isAgg5,
  z5 := Try.sizeOf5,
  v5 := Try.zeroValue5,
  t9 := Try.underlying9,
  a9 := Try.isAgg9,
  z9 := Try.sizeOf9,
  v9 := Try.zeroValue9,
  t22 := Try.underlying49,
  a22 := Try.isAgg49,
  z22 := Try.sizeOf49,
  v22 := Try.zeroValue49,
  t25 := Try.underlying85,
  a25 := Try.isAgg85,
  z25 := Try.sizeOf85,
  v25 := Try.zeroValue85,
  t39 := Try.underlying109,
  a39 := Try.isAgg109,
  z39 := Try.sizeOf109,
  v39 := Try.zeroValue109,
  t45 := Try.underlying112,
  a45 := Try.isAgg112,
  z45 := Try.sizeOf112,
  v45 := Try.zeroValue112,
  t46 := Try.underlying113,
  a46 := Try.isAgg113,
  z46 := Try.sizeOf113,
  v46 := Try.zeroValue113,
  t50 := Try.underlying117,
  a50 := Try.isAgg117,
  z50 := Try.sizeOf117,
  v50 := Try.zeroValue117,
  t53 := Try.underlying120,
  a53 := Try.isAgg120,
  z53 := Try.sizeOf120,
  v53 := Try.zeroValue120,
  t55 := Try.underlying68,
  a55 := Try.isAgg68,
  z55 := Try.sizeOf68,
  v55 := Try.zeroValue68,
  t66 := Try.underlying122,
  a66 := Try.isAgg122,
  z66 := Try.sizeOf122,
  v66 := Try.zeroValue122,
  t70 := Try.underlying126,
  a70 := Try.isAgg126,
  z70 := Try.sizeOf126,
  v70 := Try.zeroValue126,
  t76 := Try.underlying128,
  a76 := Try.isAgg128,
  z76 := Try.sizeOf128,
  v76 := Try.zeroValue128,
  t77 := Try.underlying129,
  a77 := Try.isAgg129,
  z77 := Try.sizeOf129,
  v77 := Try.zeroValue129 }
end Go.Proofs.Ytioanppnkhiokaa

/-
  The comparison that nodedb's List sorts by.
-/
namespace Go.Proofs.Ytioanppnkhiokaa
open Go.RowKit Go.Sort

theorem bytes_CompareD (p q : List UInt8) (A A' : Option Addr) (n n' c c' B B' : Nat) (w : World) (h : Bytes w B A n c p) (h' : Bytes w B' A' n' c' q) :
    Calls Try.prog 33 #[.slice A n c, .slice A' n' c'] w fun e w' => e = .returned (.int .i64 (Lib.compareBytes p q)) ∧ w = w' := by
  have hrun : (Extern.BytealgCompare.compare #[.slice A n c, .slice A' n' c']).run Try.prog w = .ok (.int .i64 (Lib.compareBytes p q)) w := by
    change Sem.run _ (do pure (goInt (Extern.BytealgCompare.cmp (← Extern.Bytes.bytesOf (.slice A n c)) (← Extern.Bytes.bytesOf (.slice A' n' c'))))) w = _
    simp only [Sem.run_bind, h.ofVal, h'.ofVal, Result.andThen_ok, Sem.run_pure, Lib.cmp_eq, goInt]
  go_enter Try.func33, Try.ntmps33
  go_wp2
  rw [run_callFunc_extern Try.func44 (by kernel_rfl) (by kernel_rfl) (by kernel_rfl) (e := Extern.BytealgCompare.compare) (by kernel_rfl), hrun]
  simp only [Result.andThen]
  rw [Oper.upon_value]
  go_wp2
  go_ret
  exact ⟨rfl, rfl⟩
/-- digests, as what is sorted -/
abbrev Dg := { l : List UInt8 // l.length = 32 }
instance : Inhabited Dg := ⟨⟨zero32, rfl⟩⟩
def encD (x : Dg) : List Value := bv x.1
theorem encD_len (x : Dg) : (encD x).length = 32 := by unfold encD; rw [bv_length, x.2]
theorem encD_one (x : Dg) : ∀ v ∈ encD x, v.oneCell' = true := fun v hv => bv_one x.1 v hv
def cmpD (x y : Dg) : Int := Lib.compareBytes x.1 y.1
/-- two arrays in blocks of their own -/
structure TwoI (W : World) (g h : Nat) (x y : Dg) : Prop where
  a : Blk W g 30 (row32 x.1)
  b : Blk W h 30 (row32 y.1)
theorem TwoI.drew {W : World} {g h : Nat} {x y : Dg} (t : TwoI W g h x y) : TwoI W.drew g h x y := ⟨t.a.drew, t.b.drew⟩
theorem bytes_row {W : World} {g : Nat} {x : Dg} (h : Blk W g 30 (row32 x.1)) : Bytes W (g + 1) (some ⟨g, 0, none⟩) 32 32 x.1 :=
  Bytes.of_blk h (by rw [List.take_of_length_le (by simp [row32, bv_length, x.2])]; rfl) x.2.symm (Nat.le_refl _) (by unfold maxLen; omega)
set_option maxRecDepth 100000 in
set_option maxHeartbeats 1000000 in
theorem list_cmp (x y : Dg) (W : World) : Calls Try.prog 32 #[.agg (encD x).toArray, .agg (encD y).toArray] W fun e w' => e = .returned (.int .i64 (cmpD x y)) ∧ ∃ q os', w' = grow (W.drewN q) os' := by
  have hT := Lib.hid (show TwoI ((W.alloc (.cells (row32 x.1) 30)).alloc (.cells (row32 y.1) 30)) W.heap.size (W.heap.size + 1) x y from ⟨(Blk.new W _ _).alloc _, Blk.new' (by simp)⟩)
  have e1 : (encD x).toArray = row32 x.1 := rfl
  have e2 : (encD y).toArray = row32 y.1 := rfl
  have s1 := row32_size x.2
  have s2 := row32_size y.2
  rw [e1, e2]
  clear e1 e2
  go_enter Try.func32, Try.ntmps32
  go_wp2_with fail
  refine wp_region_held_drew (S := (fun w => TwoI w W.heap.size (W.heap.size + 1) x y)) (by kernel_rfl) (by exact hT.out.drew) (fun hS => ?_)
  (refine hTake (i := 0) (v := ?v1) rfl (by kernel_rfl) (by kernel_rfl) (by kernel_rfl) (fun _ _ _ h => h) (Or.inl ⟨by rfl, ?y1⟩) hS ?r1; (case y1 => (intro W hW; (go_simp); (try with_reducible rfl); done)); try simp only [Act.put, List.setIfInBounds_toArray, List.set_cons_zero, List.set_cons_succ])
  (refine hTake (i := 1) (v := ?v2) rfl (by kernel_rfl) (by kernel_rfl) (by kernel_rfl) (fun _ _ _ h => h) (Or.inl ⟨by rfl, ?y2⟩) hS ?r2; (case y2 => (intro W hW; (go_simp); (try with_reducible rfl); done)); try simp only [Act.put, List.setIfInBounds_toArray, List.set_cons_zero, List.set_cons_succ])
  (refine hOne (i := 2) rfl (by kernel_rfl) (fun K hK => ?_))
  rw [if_pos (by rfl)]
  go_simp
  refine (bytes_CompareD x.1 y.1 _ _ 32 32 32 32 _ _ _ (bytes_row hS.a) (bytes_row hS.b)).mono ?_
  rintro e w1 ⟨rfl, rfl⟩
  go_wp2_with fail
  (refine hK.out _ _ (by exact hT.out.drew) (fun hS => ?_); clear hK K; try simp only [Act.put, List.setIfInBounds_toArray, List.set_cons_zero, List.set_cons_succ])
  (refine hTake (i := 3) (v := ?v3) rfl (by kernel_rfl) (by kernel_rfl) (by kernel_rfl) (fun _ _ _ h => h) (Or.inl ⟨by rfl, ?y3⟩) hS ?r3; (case y3 => (intro W hW; (go_simp); (try with_reducible rfl); done)); try simp only [Act.put, List.setIfInBounds_toArray, List.set_cons_zero, List.set_cons_succ])
  refine wpAnyH_done (by kernel_rfl) ?_ _
  go_wp2_with fail
  go_ret
  exact ⟨rfl, 1, _, by rw [alloc_eq_grow, alloc_eq_grow, grow_grow]; rfl⟩
theorem cmpLaysD (blk off size : Nat) (w : World) : CmpLays Try.prog 32 #[] encD 32 cmpD blk off size w :=
  fun _ _ _ _ x y => list_cmp x y _
end Go.Proofs.Ytioanppnkhiokaa

/-
  The range over the store's map, as an iterator: each key once, in some order (turned from the worked proof of maps.Keys at string keys).
-/
namespace Go.Proofs.Ytioanppnkhiokaa
open Go.RowKit Go.Sort

/-- a digest's bytes, read back -/
def undig : Value → List UInt8
  | .agg cs => cs.toList.map fun
    | .int _ x => UInt8.ofNat x.toNat
    | _ => 0
  | _ => []
theorem undig_digV (l : List UInt8) : undig (digV l) = l := by
  simp only [undig, digV, row32, bv, List.map_map]
  conv => rhs; rw [← List.map_id l]
  refine List.map_congr_left fun x _ => ?_
  simp
/-- a range over the map in block b, its walk in block r: these have come -/
def RngD (b r : Nat) (m : Assoc) (ss : List (List UInt8)) (w : World) : Prop :=
  ∃ es clock since seen c0, ∃ ts : List MapEntry, w.heap[b]? = some (.map es clock) ∧ BornOk es clock ∧ es.toList.map (fun e => (e.key, e.val)) = ents m ∧ w.heap[r]? = some (.mapIter (some b) since seen c0) ∧
    (∀ x ∈ es.toList, x.born < since) ∧ since ≤ c0 ∧ since ≤ clock ∧ (∀ t ∈ ts, t ∈ es.toList) ∧ ts.map (·.born) = seen.toList ∧ seen.toList.Nodup ∧ ts.map (·.key) = ss.map digV
section
variable {w w' : World} {b r : Nat} {m : Assoc} {ss : List (List UInt8)}
theorem RngD.ne (h : RngD b r m ss w) : r ≠ b := by
  obtain ⟨es, clock, since, seen, c0, ts, hb, _, _, hr, _⟩ := h
  intro e
  rw [e, hb] at hr
  cases hr
theorem RngD.iter_walk (h : RngD b r m ss w) : ∃ o : Obj, w.heap[r]? = some o ∧ o.isWalk = true := by
  obtain ⟨es, clock, since, seen, c0, ts, hb, _, _, hr, _⟩ := h
  exact ⟨_, hr, rfl⟩
theorem RngD.of_walks (h : RngD b r m ss w) (hk : KeepsWalks w w') : RngD b r m ss w' := by
  obtain ⟨es, clock, since, seen, c0, ts, hb, h1, h2, hr, rest⟩ := h
  exact ⟨es, clock, since, seen, c0, ts, hk.same b _ hb rfl, h1, h2, hk.same r _ hr rfl, rest⟩
theorem RngD.left_walks (h : RngD b r m ss w) (hk : KeepsWalks w w') : w'.rangeLeft b r = w.rangeLeft b r := by
  obtain ⟨es, clock, since, seen, c0, ts, hb, h1, h2, hr, rest⟩ := h
  simp only [World.rangeLeft, hb, hr, hk.same b _ hb rfl, hk.same r _ hr rfl]
/-- 'range m' -/
theorem MapIs.range {t k e : TypeId} (h : MapIs w b m) (ht : Try.prog.underlying t = some (.map k e)) :
    ∃ w', (Instr.range t (.map (some b))).run Try.prog w = .ok (.pointer (some ⟨w.heap.size, 0, none⟩)) w' ∧ RngD b w.heap.size m [] w' ∧ w.grownBy w' none ∧ w'.heap.size = w.heap.size + 1 := by
  have hlt := h.lt
  obtain ⟨es, clock, hb, he⟩ := h.ex
  have hB := h.born es clock hb
  exact ⟨_, run_range_map w t k e b es clock ht hb, ⟨es, clock, clock, #[], clock, [], ((MapKept.heap_alloc w _).2 b hlt).trans hb, hB, he, (MapKept.heap_alloc w _).1, hB.lt, Nat.le_refl _, Nat.le_refl _, by simp, rfl, by simp, rfl⟩, World.grownBy_alloc w _ none, by simp⟩
/-- the step -/
theorem RngD.next (h : RngD b r m ss w) (hm : ∀ p ∈ m, p.1.length = 32) (ty : TypeId) :
    (ss.Perm (m.map (·.1)) ∧ (Instr.next (.pointer (some ⟨r, 0, none⟩)) false ty).run Try.prog w = .ok (.tuple #[.bool false]) w) ∨
    ∃ d v w', d.length = 32 ∧ ss.length < m.length ∧ (Instr.next (.pointer (some ⟨r, 0, none⟩)) false ty).run Try.prog w = .ok (.tuple #[.bool true, digV d, v]) w' ∧ RngD b r m (ss ++ [d]) w' ∧ w'.rangeLeft b r < w.rangeLeft b r ∧
      w.grownBy w' (some r) ∧ w'.heap.size = w.heap.size ∧ (Instr.entry (.pointer (some ⟨r, 0, none⟩))).run Try.prog w' = .ok (.tuple #[digV d, v]) w' := by
  have hne := h.ne
  obtain ⟨es, clock, since, seen, c0, ts, hb, hB, he, hr, hold, hsc, hsk, hts, htb, hnd, htk⟩ := h
  have hlen : es.toList.length = m.length := by have := congrArg List.length he; simpa [ents] using this
  have htl : ts.length = ss.length := by have := congrArg List.length htk; simpa using this
  have hkey : ∀ x ∈ es.toList, ∃ p ∈ m, digV p.1 = x.key := fun x hx => by
    have : (x.key, x.val) ∈ ents m := by rw [← he]; exact List.mem_map_of_mem hx
    obtain ⟨p, hp, hpe⟩ := List.mem_map.1 this
    exact ⟨p, hp, (Prod.ext_iff.1 hpe).1⟩
  have htn : ts.Nodup := by
    have : (ts.map (·.born)).Nodup := by rw [htb]; exact hnd
    exact List.Pairwise.of_map _ (fun a c hac e => hac (by rw [e])) this
  have hen : es.toList.Nodup := List.Pairwise.of_map _ (fun a c hac e => hac (by rw [e])) hB.one
  rcases run_next_at (P := Try.prog) w ty r b since c0 seen es clock hr hb hold hsc with ⟨h0, hrun⟩ | ⟨e, he', w1, hal, hrun⟩
  · refine .inl ⟨?_, hrun⟩
    have hp : ts.Perm es.toList := (List.perm_ext_iff_of_nodup htn hen).2 fun x => ⟨hts x, fun hx => by
      have h1 := all_seen es seen h0 x hx
      have h2 : x.born ∈ seen.toList := by simpa using h1
      rw [← htb] at h2
      obtain ⟨t, ht, htx⟩ := List.mem_map.1 h2
      have := born_inj hB.one (hts t ht) hx htx
      exact this ▸ ht⟩
    have hq := (hp.map (·.key)).map undig
    have e1 : (ts.map (·.key)).map undig = ss := by
      rw [htk, List.map_map]
      conv => rhs; rw [← List.map_id ss]
      exact List.map_congr_left fun x _ => undig_digV x
    have e2 : (es.toList.map (·.key)).map undig = m.map (·.1) := by
      have : es.toList.map (·.key) = (ents m).map (·.1) := by rw [← he, List.map_map]; rfl
      rw [this, ents, List.map_map, List.map_map]
      exact List.map_congr_left fun x _ => undig_digV x.1
    rw [e1, e2] at hq
    exact hq
  · obtain ⟨hem, hes⟩ := mem_left he'
    obtain ⟨p, hp, hpk⟩ := hkey e hem
    have hnt : e ∉ ts := fun hin => by
      have : e.born ∈ seen.toList := by rw [← htb]; exact List.mem_map_of_mem hin
      have : seen.contains e.born = true := by simpa using this
      rw [hes] at this
      cases this
    have hcnt : ss.length < m.length := by
      have := List.Nodup.length_le_of_subset (List.nodup_cons.2 ⟨hnt, htn⟩) (fun z hz => by
        rcases List.mem_cons.1 hz with rfl | hz
        · exact hem
        · exact hts z hz)
      rw [List.length_cons] at this
      omega
    have hr1 : w1.heap[r]? = some (.mapIter (some b) since seen c0) := by rcases hal with rfl | rfl <;> exact hr
    have hb1 : w1.heap[b]? = some (.map es clock) := by rcases hal with rfl | rfl <;> exact hb
    have hset := MapKept.heap_set (o' := .mapIter (some b) since (seen.push e.born) clock) hr1
    have hb' : (ChangeMaps.setBlock w1 r (.mapIter (some b) since (seen.push e.born) clock)).heap[b]? = some (.map es clock) := (hset.2 b (fun e1 => hne e1.symm)).trans hb1
    have hr' : (ChangeMaps.setBlock w1 r (.mapIter (some b) since (seen.push e.born) clock)).heap[r]? = some (.mapIter (some b) since (seen.push e.born) clock) := hset.1
    refine .inr ⟨p.1, e.val, _, hm p hp, hcnt, by rw [hpk]; exact hrun,
      ⟨es, clock, since, seen.push e.born, clock, ts ++ [e], hb', hB, he, hr', hold, hsk, hsk, fun t ht => ?_, ?_, ?_, ?_⟩, ?_, ?_, ?_, ?_⟩
    · rcases List.mem_append.1 ht with ht | ht
      · exact hts t ht
      · rw [List.mem_singleton.1 ht]; exact hem
    · rw [List.map_append, htb, Array.toList_push]; rfl
    · rw [Array.toList_push, List.nodup_append]
      refine ⟨hnd, by simp, fun x hx y hy => ?_⟩
      rw [List.mem_singleton.1 hy]
      intro e1
      rw [e1] at hx
      have : seen.contains e.born = true := by simpa using hx
      rw [hes] at this
      cases this
    · rw [List.map_append, htk, List.map_append, List.map_cons, List.map_nil, List.map_cons, List.map_nil, hpk]
    · simp only [World.rangeLeft, hb', hr', hb, hr]
      exact left_shrinks es seen e he'
    · rcases hal with rfl | rfl <;> exact ⟨rfl, rfl, rfl, by simp [ChangeMaps.setBlock], fun i _ hi => hset.2 i (fun e1 => hi (by rw [e1]))⟩
    · rcases hal with rfl | rfl <;> simp [ChangeMaps.setBlock]
    · rw [hpk]
      exact run_entry_at _ r b since seen es clock e hr' hb' hem hB.one
end
/-! ### rows, inside a fence -/
section
variable {F : Fence} {nF : Nat} {P : Program} {ops : Array Oper} {rest : List Oper} {o : Oper} {a : Act} {w : World} {Q : Exit → Act → World → Prop}
theorem wpListIn_load_row (hgd : o.guard = none) (ty : TypeId) (x : Operand) (ho : o.op = .load ty x)
    (g : Nat) (hx : a.eval x = .pointer (some ⟨g, 0, none⟩)) (t : TypeId) (cs : Array Value) (fr : Nat × Nat) (d : TypeDesc) (hg : w.heap[g]? = some (.cells cs t fr))
    (hu : P.underlying ty = some d) (hd : (match d with | .struct _ | .array _ _ => true | _ => false) = true) (hi : (P.info? ty).map (·.size) = some cs.size)
    (h : wpListIn F nF P ops Q rest (a.put o.dst (.agg cs)) w) : wpListIn F nF P ops Q (o :: rest) a w := by
  refine wpListIn_plain hgd fun K hK => ?_
  unfold Oper.wpIn
  refine ⟨by simp [Oper.about, ho], ?_⟩
  rw [Oper.semAt_plain F _ _ (by rw [ho]; intro c hc; cases hc)]
  unfold execOp
  simp only [ho, hx, Instr.loadAt, Instr.sureAddr, Sem.run_bind, Sem.run_pure, Result.andThen_ok, run_loadVar_row w g t ty cs fr d hg hu hd hi]
  exact hK _ _ h
theorem wpListIn_store_row (hgd : o.guard = none) (ty : TypeId) (x y : Operand) (ho : o.op = .store ty x y)
    (g : Nat) (cells : Array Value) (hx : a.eval x = .pointer (some ⟨g, 0, none⟩)) (hy : a.eval y = .agg cells)
    (t : TypeId) (old : Array Value) (hg : w.heap[g]? = some (.cells old t (0, 0))) (hi : (P.info? ty).map (·.size) = some cells.size)
    (hold : old.size = cells.size) (h1 : cells.all (·.oneCell') = true)
    (h : wpListIn F nF P ops Q rest (a.put o.dst undef) (w.setRow g cells)) : wpListIn F nF P ops Q (o :: rest) a w := by
  refine wpListIn_plain hgd fun K hK => ?_
  unfold Oper.wpIn
  refine ⟨by simp [Oper.about, ho], ?_⟩
  rw [Oper.semAt_plain F _ _ (by rw [ho]; intro c hc; cases hc)]
  unfold execOp
  simp only [ho, hx, hy, Instr.storeAt, Instr.sureAddr, Sem.run_bind, Sem.run_pure, Result.andThen_ok, run_storeVar_row w g t ty old cells hg hi hold h1]
  exact hK _ _ h
theorem wpListIn_buildSlice (hgd : o.guard = none) (t e : TypeId) (len : Nat) (parts : Array (Nat × Operand)) (ho : o.op = .buildSlice t len parts)
    (cells : Array Value) (ie : TypeInfo) (z : Value)
    (hu : P.underlying t = some (.slice e)) (hie : P.info? e = some ie) (hz : ie.zero = some z) (hsmall : ¬ len * ie.size > 2 ^ 24) (hpos : ¬ len * ie.size = 0)
    (hf : Instr.fill (fun i => some (i * ie.size, ie.size)) ((Array.range (len * ie.size)).map (z.cells[· % z.cells.size]!)) (parts.map fun (i, x) => (i, a.eval x)).toList = some cells)
    (h : wpListIn F nF P ops Q rest (a.put o.dst (.slice (some ⟨w.heap.size, 0, none⟩) len len)) (w.alloc (.cells cells e))) : wpListIn F nF P ops Q (o :: rest) a w := by
  refine wpListIn_plain hgd fun K hK => ?_
  unfold Oper.wpIn
  refine ⟨by simp [Oper.about, ho], ?_⟩
  rw [Oper.semAt_plain F _ _ (by rw [ho]; intro c hc; cases hc)]
  unfold execOp
  simp only [ho, Sem.run_bind, run_buildSlice w t e len _ cells ie z hu hie hz hsmall hpos hf, Result.andThen_ok]
  exact hK _ _ h
/-- 'range m' -/
theorem wpListIn_rangeD {b : Nat} {m : Assoc} (hg : o.guard = none) (x : Operand) (t : TypeId) (hop : o.op = Op.range t x) (k e : TypeId) (ht : Try.prog.underlying t = some (.map k e))
    (hx : a.eval x = .map (some b)) (hm : MapIs w b m)
    (hK : ∀ w', RngD b w.heap.size m [] w' → w.grownBy w' none → w'.heap.size = w.heap.size + 1 → wpListIn F nF Try.prog ops Q rest (a.put o.dst (.pointer (some ⟨w.heap.size, 0, none⟩))) w') :
    wpListIn F nF Try.prog ops Q (o :: rest) a w := by
  refine wpListIn_plain hg fun K' hK' => ?_
  obtain ⟨w', hrun, r1, r2, r3⟩ := hm.range ht
  unfold Oper.wpIn
  refine ⟨by simp [Oper.about, hop], ?_⟩
  rw [Oper.semAt_plain F _ _ (by rw [hop]; intro c hc'; cases hc')]
  simp [execOp, hop, hx, hrun, Result.andThen]
  exact hK' _ _ (hK w' r1 r2 r3)
/-- the step -/
theorem wpListIn_nextD {b r : Nat} {m : Assoc} {ss : List (List UInt8)} (hg : o.guard = none) (it : Operand) (hop : o.op = Op.next it false) (hm : ∀ p ∈ m, p.1.length = 32)
    (hit : a.eval it = .pointer (some ⟨r, 0, none⟩)) (h : RngD b r m ss w)
    (hDone : ss.Perm (m.map (·.1)) → wpListIn F nF Try.prog ops Q rest (a.put o.dst (.tuple #[.bool false])) w)
    (hMore : ∀ (d : List UInt8) (v : Value) (w' : World), d.length = 32 → ss.length < m.length → RngD b r m (ss ++ [d]) w' → w'.rangeLeft b r < w.rangeLeft b r → w.grownBy w' (some r) → w'.heap.size = w.heap.size →
      (Instr.entry (.pointer (some ⟨r, 0, none⟩))).run Try.prog w' = .ok (.tuple #[digV d, v]) w' → wpListIn F nF Try.prog ops Q rest (a.put o.dst (.tuple #[.bool true, digV d, v])) w') :
    wpListIn F nF Try.prog ops Q (o :: rest) a w := by
  refine wpListIn_plain hg fun K' hK' => ?_
  unfold Oper.wpIn
  refine ⟨by simp [Oper.about, hop], ?_⟩
  rw [Oper.semAt_plain F _ _ (by rw [hop]; intro c hc'; cases hc')]
  rcases h.next hm o.type with ⟨h0, hrun⟩ | ⟨d, v, w', hd, hlt, hrun, hrg, hl, hgr, hsz, hen⟩
  · simp [execOp, hop, hit, hrun, Result.andThen]
    exact hK' _ _ (hDone h0)
  · simp [execOp, hop, hit, hrun, Result.andThen]
    exact hK' _ _ (hMore d v w' hd hlt hrg hl hgr hsz hen)
end
end Go.Proofs.Ytioanppnkhiokaa

/-
  maps.Keys over the store's map, as the library's iterators promise (turned from the worked proof at string keys).
-/
namespace Go.Proofs.Ytioanppnkhiokaa
open Go.RowKit Go.Sort

theorem grown_stored (W : World) (cs cs' : Array Value) (t : TypeId) : W.grownBy ((W.alloc (.cells cs t)).setRow W.heap.size cs') none :=
  ⟨rfl, rfl, rfl, by simp, fun k hk _ => (setRow_other _ _ k cs' (by omega)).trans (Below.heap_alloc W _ k hk)⟩
theorem walks_stored (W : World) (cs cs' : Array Value) (t : TypeId) : KeepsWalks W ((W.alloc (.cells cs t)).setRow W.heap.size cs') :=
  KeepsWalks.of_grownBy (grown_stored W cs cs' t) (fun j o e => by cases e)
theorem opsIn_at {F : Fence} {nF : Nat} {P : Program} {ops : Array Oper} {Q : Exit → Act → World → Prop} {rest : List Oper} {w : World} {a : Act} (I : World → Prop) (hI : I w) (h : ∀ w2, I w2 → wpListIn F nF P ops Q rest a w2) : wpListIn F nF P ops Q rest a w := h w hI
def encV (x : Dg) : Value := digV x.1
set_option maxRecDepth 100000 in
set_option maxHeartbeats 1000000 in
theorem keysD_in (n l Bm b : Nat) (m : Assoc) (J Jx : List Dg → World → Prop)
    (hY : ∀ pre x W, J pre W → pre.length < m.length → YieldAt Fence.wide (n - 1) Try.prog l #[encV x] W fun e W' => (e = .returned (.bool true) ∧ J (pre ++ [x]) W' ∧ KeepsWalks W W') ∨ (e = .returned (.bool false) ∧ Jx (pre ++ [x]) W'))
    (W : World) (hJ : AbidesFrom W.heap.size J) (hm : W.cell? ⟨Bm, 0, none⟩ = some (.map (some b))) (hown : MapIs W b m) (h0 : J [] W) :
    CallsIn Fence.wide n Try.prog 43 #[.func (.yield l) #[] #[], .pointer (some ⟨Bm, 0, none⟩)] W fun e W' => (∃ v, e = .returned v) ∧ ((∃ ss : List Dg, (ss.map (·.1)).Perm (m.map (·.1)) ∧ J ss W') ∨ (∃ pre, True ∧ Jx pre W')) := by
  have hlen := hown.len
  refine callsIn_of_wp Try.func43 rfl trivial ?_ rfl
  simp only [Try.ntmps43, List.size_toArray, List.length_cons, List.length_nil, Nat.reduceAdd, Nat.reduceSub, Array.replicate_succ, Array.replicate_zero, List.push_toArray, List.append_toArray, List.nil_append, List.cons_append]
  gi_wp2_with (first
    | (gi_at_range; refine wpListIn_rangeD rfl _ 75 rfl _ _ Try.underlying75 rfl hown ?_; intro w0 hrg0 hg0 hs0)
    | gi_in)
  go_frame
  gi_loopw [3] (fun _ wr => ∃ ss : List Dg, RngD b W.heap.size m (ss.map (·.1)) wr ∧ J ss wr)
    (fun _ wr => wr.rangeLeft b W.heap.size)
  case atStart =>
    exact ⟨[], hrg0, hJ [] W w0 none h0 hg0 (fun r e => by cases e)⟩
  case round =>
    obtain ⟨ss, hrg, hJs⟩ := hrel
    gi_wp2_with (first
      | (gi_at_next; refine wpListIn_nextD rfl _ rfl hlen rfl hrg ?_ ?_)
      | gi_in)
    · intro hperm
      gi_wp2
      go_end0
      exact ⟨⟨_, rfl⟩, .inl ⟨ss, hperm, hJs⟩⟩
    · intro d v w2 hd hlt hrg2 hl hg2 hs2 hen
      have hJ2 := Lib.hid (hJ ss wr w2 (some W.heap.size) hJs hg2 (fun r e => by cases e; exact ⟨Nat.le_refl _, hrg.iter_walk⟩))
      have hcnt : ss.length < m.length := by simpa using hlt
      replace hcnt := Lib.hid hcnt
      have hsd := row32_size hd
      replace hd := Lib.hid hd
      clear hs2 hg2 hlt
      replace hrg2 := Lib.hid hrg2
      replace hl := Lib.hid hl
      unfold digV at hen
      unfold digV
      gi_wp2_with (first
        | (refine wpListIn_store_row rfl 30 _ _ rfl w2.heap.size (row32 d) rfl rfl _ _ (Blk.zeros w2 _ 30 rfl) (by rw [hsd]; exact info_digest) (by rw [hsd]; rfl) (row32_one _) ?_; refine opsIn_at (fun W3 => w2.grownBy W3 none ∧ KeepsWalks w2 W3 ∧ Blk W3 w2.heap.size 30 (row32 d)) ⟨grown_stored _ _ _ _, walks_stored _ _ _ _, (Blk.new w2 _ _).row _⟩ ?_; rintro w3 ⟨hg3, hk3, hb3⟩; have hJ3 := hJ ss w2 w3 none hJ2.out hg3 (fun r e => by cases e); obtain ⟨fn, tmps, assign, body, hy, hR⟩ := hY ss ⟨d, hd.out⟩ w3 hJ3 hcnt.out; change (Instr.yield l #[.agg (row32 d)]).run Try.prog w3 = _ at hy; replace hb3 := Lib.hid hb3; replace hk3 := Lib.hid hk3; clear hg3 hJ3)
        | (refine wpListIn_load_row rfl 30 _ rfl w2.heap.size rfl _ (row32 d) _ _ hb3.out Try.underlying30 rfl (by rw [hsd]; exact info_digest) ?_)
        | gi_in)
      refine ⟨(by intro h; cases h), hR.mono ?_⟩
      rintro e W4 (⟨rfl, hJ4, hk4⟩ | ⟨rfl, hJx⟩)
      · gi_wp2
        have hk5 := hk3.out.trans hk4
        go_roundw
        case rel => exact ⟨ss ++ [⟨d, hd.out⟩], by rw [List.map_append]; exact hrg2.out.of_walks hk5, hJ4⟩
        case measure => rw [hrg2.out.left_walks hk5]; exact hl.out
      · gi_wp2
        refine bodyPost_ret (results_none rfl _ _ _) rfl ?_
        exact ⟨⟨_, rfl⟩, .inr ⟨_, trivial, hJx⟩⟩
/-- maps.Keys -/
theorem keysD_call (n : Nat) (mb : Option Nat) (w : World) :
    CallsIn Fence.wide n Try.prog 31 #[.map mb] w fun e w' => e = .returned (.func (.func 43) #[] #[.pointer (some ⟨w.heap.size, 0, none⟩)]) ∧ w' = w.alloc (.cells #[.map mb] 75) := by
  refine callsIn_of_wp Try.func31 rfl trivial ?_ rfl
  simp only [Try.ntmps31, List.size_toArray, List.length_cons, List.length_nil, Nat.reduceAdd, Nat.reduceSub, Array.replicate_succ, Array.replicate_zero, List.push_toArray, List.append_toArray, List.nil_append, List.cons_append]
  gi_wp2
  go_ret
  exact ⟨rfl, rfl⟩
/-- .. hands back an iterator over the keys -/
theorem keysD_stops (n Bm b : Nat) (m : Assoc) (w : World) (hBm : Bm < w.heap.size) (hm : w.cell? ⟨Bm, 0, none⟩ = some (.map (some b))) (hown : MapIs w b m) :
    SeqStopsK Fence.wide n Try.prog 43 #[.pointer (some ⟨Bm, 0, none⟩)] (fun x : Dg => #[encV x]) KeepsWalks (fun ss => (ss.map (·.1)).Perm (m.map (·.1))) (fun _ => True) m.length w := fun l J Jx W hW hJ _ hY h0 =>
  keysD_in n l Bm b m J Jx hY W hJ ((hW.cell (p := ⟨Bm, 0, none⟩) hBm).trans hm) (hown.below hW hown.lt) h0
end Go.Proofs.Ytioanppnkhiokaa

namespace Go.Proofs.Ytioanppnkhiokaa
open Go.RowKit

theorem bytes_Equal (x y : List UInt8) (A A' : Option Addr) (n n' c c' B B' : Nat) (w : World) (hx : Bytes w B A n c x) (hy : Bytes w B' A' n' c' y) :
    Calls Try.prog 28 #[.slice A n c, .slice A' n' c'] w fun e w' => e = .returned (.bool (decide (x = y))) ∧ w = w' := by
  have h1 := hx.toStr (P := Try.prog) Try.underlying26 Try.underlying5 9 Try.underlying9
  have h2 := hy.toStr (P := Try.prog) Try.underlying26 Try.underlying5 9 Try.underlying9
  clear hx hy
  go_enter Try.func28, Try.ntmps28
  go_wp2
  go_ret
  exact ⟨ret_bool (by by_cases e : x = y <;> simp [e]), rfl⟩
theorem text_method (n : Nat) (t : ByteArray) (w : World) : (method (n + 1) 25 (.string t) "Bytes").run Try.prog w = .ok (10, .string t) w := by kernel_rfl
/-- what Put sees: where its answer and the digest lie, the store, the text's bytes -/
structure PutI (w : World) (R D S b : Nat) (most : Int) (m : Assoc) (g c : Nat) (t : ByteArray) (d : List UInt8) (wr : World) : Prop where
  r : Blk wr R 30 (row32 zero32)
  dd : Blk wr D 30 (row32 d)
  st : StoreIs wr S b most m
  txt : Bytes wr (D + 1) (some ⟨g, 0, none⟩) t.data.toList.length c t.data.toList
  ne : R < D
  rl : w.heap.size ≤ R
  bel : Below w.heap.size w wr
  sl : S < w.heap.size
  bl : b < w.heap.size
section
variable {w : World} {R D S b : Nat} {most : Int} {m : Assoc} {g c : Nat} {t : ByteArray} {d : List UInt8} {wr wx : World}
theorem PutI.step (h : PutI w R D S b most m g c t d wr) (hb : Below (D + 1) wr wx) : PutI w R D S b most m g c t d wx := by
  have h1 := h.ne
  have h2 := h.rl
  have h3 := h.sl
  have h4 := h.bl
  exact ⟨h.r.below hb (by omega), h.dd.below hb (by omega), h.st.below hb (by omega) (by omega), h.txt.below hb, h.ne, h.rl, h.bel.trans (hb.mono (by omega)), h.sl, h.bl⟩
theorem PutI.alloc (h : PutI w R D S b most m g c t d wr) (o : Obj) : PutI w R D S b most m g c t d (wr.alloc o) := h.step ((Below.refl _ _).alloc h.dd.lt o)
theorem PutI.drew (h : PutI w R D S b most m g c t d wr) : PutI w R D S b most m g c t d wr.drew := h.step (Below.refl _ _).drew
theorem PutI.look (h : PutI w R D S b most m g c t d wr) (v : Option (ByteArray × Int)) (hd : d.length = 32) (hv : m.get d = v.map fun x => held x.1 x.2) :
    (Instr.lookup 75 (.map (some b)) (.agg (bv d).toArray) true).run Try.prog wr = .ok (.tuple #[.agg #[.string (v.getD (⟨#[]⟩, 0)).1, .int .i64 (v.getD (⟨#[]⟩, 0)).2], .bool v.isSome]) wr := by
  have := h.st.map.lookup Try.underlying75 (zero_held _) d hd
  rw [told_held hv] at this
  exact this
end
/-- what Put tells, and what it lays in -/
def putK (m : Assoc) (t : ByteArray) (v : Option (ByteArray × Int)) (most : Int) : Int :=
  match v with
  | none => if most ≤ (m.length : Int) then 62 else 0
  | some (t', n) => if t'.data.toList = t.data.toList then (if 4294967295 ≤ n then 62 else 0) else 60
def putX (m : Assoc) (d : List UInt8) (t : ByteArray) (v : Option (ByteArray × Int)) (most : Int) : List UInt8 := if putK m t v most = 0 then d else zero32
def putM (m : Assoc) (d : List UInt8) (t : ByteArray) (v : Option (ByteArray × Int)) (most : Int) : Assoc :=
  if putK m t v most = 0 then m.put d (held t ((v.getD (⟨#[]⟩, 0)).2 + 1)) else m
/-- what Put leaves -/
def PutPost (w : World) (S b : Nat) (most : Int) (m : Assoc) (x : List UInt8) (k : Int) (e : Ending) (w' : World) : Prop :=
  e = .returned (.tuple #[digV x, .int .i64 k]) ∧ StoreIs w' S b most m ∧ w.grownBy w' (some b)
set_option maxRecDepth 100000 in
set_option maxHeartbeats 2000000 in
theorem db_Put (S b : Nat) (most : Int) (m : Assoc) (t : ByteArray) (v : Option (ByteArray × Int)) (w : World) (h : StoreIs w S b most m) (ht : t.size ≤ 140737488355328) (d : List UInt8) (hd : Dig.of t.data.toList = d) (hv : m.get d = v.map fun x => held x.1 x.2)
    (hvs : ∀ x, v = some x → x.1.size ≤ 140737488355328 ∧ 0 ≤ x.2 ∧ x.2 ≤ 4294967295) :
    Calls Try.prog 12 #[.pointer (some ⟨S, 0, none⟩), .string t] w (PutPost w S b most (putM m d t v most) (putX m d t v most) (putK m t v most)) := by
  have tm := text_method
  have hol := Dig.of_length t.data.toList
  rw [hd] at hol
  have hsz : t.data.toList.length = t.size := Array.length_toList
  have HD := Lib.hid hd
  clear hd
  replace hvs := Lib.hid hvs
  have hlk := fun R D g c W (hW : PutI w R D S b most m g c t d W) => hW.look v hol hv
  clear hv
  have hvv : v = (if v.isSome then some (v.getD (⟨#[]⟩, 0)) else none) := by cases v <;> rfl
  have hv0 : v.isSome = false → (v.getD (⟨#[]⟩, 0)).2 = 0 := by cases v <;> simp
  generalize v.isSome = is at *
  generalize v.getD (⟨#[]⟩, 0) = vv at *
  obtain ⟨t', n'⟩ := vv
  replace hvv := Lib.hid hvv
  replace hv0 := Lib.hid hv0
  replace hlk := Lib.hid hlk
  replace h := Lib.hid h
  have HT := Lib.hid ht
  clear ht
  go_enter Try.func12, Try.ntmps12
  go_wp2_with fail
  refine calls_at (fun wx => Blk wx w.heap.size 30 (row32 zero32) ∧ StoreIs wx S b most m ∧ Below w.heap.size w wx) ⟨Blk.zeros _ _ _ rfl, h.out.alloc _, (Below.refl _ _).alloc (Nat.le_refl _) _⟩ ?_
  rintro w0 ⟨hr, hst, hbel⟩
  refine (db_Bytes t _ HT.out).mono ?_
  rintro e w1 ⟨g, c, rfl, hg, hby, -, hb1⟩
  have hr0 := hr.lt
  have hs0 := hbel.size
  replace hr := Lib.hid (hr.below hb1 hr0)
  replace hst := Lib.hid (hst.step hb1)
  replace hbel := Lib.hid (hbel.trans (hb1.mono hs0))
  clear hb1
  replace hby := Lib.hid hby
  go_wp2_with fail
  refine (dig_Of t.data.toList _ _ _ _ hby.out (by rw [hsz]; exact HT.out)).mono ?_
  rintro e w2 ⟨rfl, hb2⟩
  rw [HD.out]
  replace hr := Lib.hid (hr.out.below hb2 hr.out.lt)
  replace hst := Lib.hid (hst.out.step hb2)
  replace hbel := Lib.hid (hbel.out.trans (hb2.mono hbel.out.size))
  replace hby := Lib.hid (hby.out.step hb2)
  clear hb2
  unfold digV
  have hsd := row32_size hol
  have hsq := Lib.hid h.out.cells.lt
  go_wp2_with (refine wpList_store_row rfl 30 _ _ rfl w2.heap.size (row32 d) rfl rfl _ _ (Blk.zeros w2 _ 30 rfl) (by rw [hsd]; exact info_digest) (by rw [hsd]; rfl) (row32_one _) ?_)
  refine code_at (PutI w w.heap.size w2.heap.size S b most m g c t d) ?_ ?_
  · have hb3 := below_row ((Below.refl w2.heap.size w2).alloc (Nat.le_refl _) (.cells (bv zero32).toArray 30)) (Nat.le_refl _) (row32 d)
    exact ⟨hr.out.below hb3 hr.out.lt, ((Blk.zeros w2 _ 30 rfl).row _), hst.out.step hb3, (hby.out.below hb3).more (Nat.le_succ _), hr.out.lt, Nat.le_refl _, hbel.out.trans (hb3.mono hbel.out.size), h.out.cells.lt, h.out.map.lt⟩
  clear hr hst hbel hby hsq
  generalize w2.heap.size = D at *
  intro w3 hp
  have hS1 := hp.st.cells.cell 1
  replace hlk := Lib.hid (fun W hW => hlk.out _ _ _ _ W hW : ∀ W, PutI w w.heap.size D S b most m g c t d W → _)
  replace hp := Lib.hid hp
  refine wp_region_held_drew (S := (PutI w w.heap.size D S b most m g c t d)) (by kernel_rfl) (by exact hp.out.drew) (fun hS => ?_)
  (refine hTake (i := 0) (v := ?v1) rfl (by kernel_rfl) (by kernel_rfl) (by kernel_rfl) (fun _ _ _ h => h) (Or.inl ⟨by rfl, ?y1⟩) hS ?r1; (case y1 => (intro W hW; (go_simp); (try with_reducible rfl); done)); try simp only [Act.put, List.setIfInBounds_toArray, List.set_cons_zero, List.set_cons_succ])
  (refine hTake (i := 1) (v := ?v2) rfl (by kernel_rfl) (by kernel_rfl) (by kernel_rfl) (fun _ _ _ h => h) (Or.inl ⟨by rfl, ?y2⟩) hS ?r2; (case y2 => (intro W hW; (go_simp); (try with_reducible rfl); done)); try simp only [Act.put, List.setIfInBounds_toArray, List.set_cons_zero, List.set_cons_succ])
  (refine hTake (i := 2) (v := ?v3) rfl (by kernel_rfl) (by kernel_rfl) (by kernel_rfl) (fun _ _ _ h => h) (Or.inl ⟨by rfl, ?y3⟩) hS ?r3; (case y3 => (intro W hW; (go_simp); (try with_reducible rfl); done)); try simp only [Act.put, List.setIfInBounds_toArray, List.set_cons_zero, List.set_cons_succ])
  (refine hTake (i := 3) (v := ?v4) rfl (by kernel_rfl) (by kernel_rfl) (by kernel_rfl) (fun _ _ _ h => h) (Or.inl ⟨by rfl, ?y4⟩) hS ?r4; (case y4 => (intro W hW; ((have g := hW.st.cells.cell 1; simp at g; go_simp)); (try with_reducible rfl); done)); try simp only [Act.put, List.setIfInBounds_toArray, List.set_cons_zero, List.set_cons_succ])
  (refine hTake (i := 4) rfl (by kernel_rfl) (by kernel_rfl) (by kernel_rfl) (fun _ _ _ h => h) (yieldsIf_load_mid (by rfl) _ _ rfl _ _ rfl (bv d) _ (fun W hW => (hW.dd.range)) Try.underlying30 rfl (by rw [bv_length, hol]; exact info_digest)) hS ?_; try simp only [Act.put, List.setIfInBounds_toArray, List.set_cons_zero, List.set_cons_succ])
  (refine hTake (i := 5) (v := ?v5) rfl (by kernel_rfl) (by kernel_rfl) (by kernel_rfl) (fun _ _ _ h => h) (Or.inl ⟨by rfl, ?y5⟩) hS ?r5; (case y5 => (intro W hW; ((have g := hlk.out W hW; go_simp)); (try with_reducible rfl); done)); try simp only [Act.put, List.setIfInBounds_toArray, List.set_cons_zero, List.set_cons_succ])
  (refine hTake (i := 6) (v := ?v6) rfl (by kernel_rfl) (by kernel_rfl) (by kernel_rfl) (fun _ _ _ h => h) (Or.inl ⟨by rfl, ?y6⟩) hS ?r6; (case y6 => (intro W hW; (go_simp); (try with_reducible rfl); done)); try simp only [Act.put, List.setIfInBounds_toArray, List.set_cons_zero, List.set_cons_succ])
  (refine hTake (i := 7) (v := ?v7) rfl (by kernel_rfl) (by kernel_rfl) (by kernel_rfl) (fun _ _ _ h => h) (Or.inl ⟨by rfl, ?y7⟩) hS ?r7; (case y7 => (intro W hW; (go_simp); (try with_reducible rfl); done)); try simp only [Act.put, List.setIfInBounds_toArray, List.set_cons_zero, List.set_cons_succ])
  (refine hTake (i := 8) (v := ?v8) rfl (by kernel_rfl) (by kernel_rfl) (by kernel_rfl) (fun _ _ _ h => h) (Or.inl ⟨by rfl, ?y8⟩) hS ?r8; (case y8 => (intro W hW; (go_simp); (try with_reducible rfl); done)); try simp only [Act.put, List.setIfInBounds_toArray, List.set_cons_zero, List.set_cons_succ])
  (refine hOne (i := 9) rfl (by kernel_rfl) (fun K hK => ?_))
  go_simp
  (refine hK.out _ _ (by exact (hp.out.alloc _).drew) (fun hS => ?_); clear hK K; try simp only [Act.put, List.setIfInBounds_toArray, List.set_cons_zero, List.set_cons_succ])
  (refine hOne (i := 10) rfl (by kernel_rfl) (fun K hK => ?_))
  go_simp
  (refine hK.out _ _ (by exact (hp.out.alloc _).drew) (fun hS => ?_); clear hK K; try simp only [Act.put, List.setIfInBounds_toArray, List.set_cons_zero, List.set_cons_succ])
  (refine hTake (i := 11) (v := ?v9) rfl (by kernel_rfl) (by kernel_rfl) (by kernel_rfl) (fun _ _ _ h => h) (Or.inl ⟨by rfl, ?y9⟩) hS ?r9; (case y9 => (intro W hW; (go_simp); (try with_reducible rfl); done)); try simp only [Act.put, List.setIfInBounds_toArray, List.set_cons_zero, List.set_cons_succ])
  refine wpAnyH_done (by kernel_rfl) ?_ _
  have hJ := Lib.hid ((Blk.new w3 73 #[.string t', .int .i64 n']).drew)
  have hJn := Lib.hid (show D < w3.heap.size from hp.out.dd.lt)
  replace hS := Lib.hid hS
  clear hp hS1
  rename_i hSa hSb
  clear hSa hSb
  generalize (w3.alloc (.cells #[.string t', .int .i64 n'] 73)).drew = w4 at *
  generalize w3.heap.size = Hb at *
  have a0 : w4.cell? ⟨S, 0, none⟩ = some (.int .i64 most) := hS.out.st.cells.cell 0
  have a1 : w4.cell? ⟨S, 1, none⟩ = some (.map (some b)) := hS.out.st.cells.cell 1
  have j0 : w4.cell? ⟨Hb, 0, none⟩ = some (.string t') := hJ.out.cell 0
  have j1 : w4.cell? ⟨Hb, 1, none⟩ = some (.int .i64 n') := hJ.out.cell 1
  cases is with
  | false =>
    have hv1 : v = none := hvv.out
    have hn0 : n' = 0 := hv0.out rfl
    subst hv1
    subst hn0
    by_cases hfull : most ≤ (m.length : Int)
    · have hfl : decide (most ≤ (m.length : Int)) = true := by simpa using hfull
      have e1 : putK m t none most = 62 := by simp [putK, hfull]
      have e2 : putX m d t none most = zero32 := by simp [putX, e1]
      have e3 : putM m d t none most = m := by simp [putM, e1]
      replace e1 := Lib.hid e1
      replace e2 := Lib.hid e2
      replace e3 := Lib.hid e3
      go_wp2_with fail
      clear a0 a1 j0 j1
      have hP := hS
      clear hS
      refine wp_region_held_drew (S := (PutI w w.heap.size D S b most m g c t d)) (by kernel_rfl) (by exact hP.out.drew) (fun hS => ?_)
      (refine hTake (i := 0) (v := ?v10) rfl (by kernel_rfl) (by kernel_rfl) (by kernel_rfl) (fun _ _ _ h => h) (Or.inl ⟨by rfl, ?y10⟩) hS ?r10; (case y10 => (intro W hW; (go_simp); (try with_reducible rfl); done)); try simp only [Act.put, List.setIfInBounds_toArray, List.set_cons_zero, List.set_cons_succ])
      (refine hTake (i := 1) (v := ?v11) rfl (by kernel_rfl) (by kernel_rfl) (by kernel_rfl) (fun _ _ _ h => h) (Or.inl ⟨by rfl, ?y11⟩) hS ?r11; (case y11 => (intro W hW; (go_simp); (try with_reducible rfl); done)); try simp only [Act.put, List.setIfInBounds_toArray, List.set_cons_zero, List.set_cons_succ])
      (refine hTake (i := 2) (v := ?v12) rfl (by kernel_rfl) (by kernel_rfl) (by kernel_rfl) (fun _ _ _ h => h) (Or.inl ⟨by rfl, ?y12⟩) hS ?r12; (case y12 => (intro W hW; (go_simp); (try with_reducible rfl); done)); try simp only [Act.put, List.setIfInBounds_toArray, List.set_cons_zero, List.set_cons_succ])
      (refine hTake (i := 3) (v := ?v13) rfl (by kernel_rfl) (by kernel_rfl) (by kernel_rfl) (fun _ _ _ h => h) (Or.inl ⟨by rfl, ?y13⟩) hS ?r13; (case y13 => (intro W hW; (go_simp); (try with_reducible rfl); done)); try simp only [Act.put, List.setIfInBounds_toArray, List.set_cons_zero, List.set_cons_succ])
      (refine hTake (i := 4) (v := ?v14) rfl (by kernel_rfl) (by kernel_rfl) (by kernel_rfl) (fun _ _ _ h => h) (Or.inl ⟨by rfl, ?y14⟩) hS ?r14; (case y14 => (intro W hW; (go_simp); (try with_reducible rfl); done)); try simp only [Act.put, List.setIfInBounds_toArray, List.set_cons_zero, List.set_cons_succ])
      (refine hTake (i := 5) (v := ?v15) rfl (by kernel_rfl) (by kernel_rfl) (by kernel_rfl) (fun _ _ _ h => h) (Or.inl ⟨by rfl, ?y15⟩) hS ?r15; (case y15 => (intro W hW; (go_simp); (try with_reducible rfl); done)); try simp only [Act.put, List.setIfInBounds_toArray, List.set_cons_zero, List.set_cons_succ])
      (refine hTake (i := 6) (v := ?v16) rfl (by kernel_rfl) (by kernel_rfl) (by kernel_rfl) (fun _ _ _ h => h) (Or.inl ⟨by rfl, ?y16⟩) hS ?r16; (case y16 => (intro W hW; ((have g := hW.st.cells.cell 1; simp at g; go_simp)); (try with_reducible rfl); done)); try simp only [Act.put, List.setIfInBounds_toArray, List.set_cons_zero, List.set_cons_succ])
      (refine hTake (i := 7) (v := ?v17) rfl (by kernel_rfl) (by kernel_rfl) (by kernel_rfl) (fun _ _ _ h => h) (Or.inl ⟨by rfl, ?y17⟩) hS ?r17; (case y17 => (intro W hW; ((have g1 := run_len_map (ty := 3) Try.underlying75 hW.st.map; simp [execOp, resolve, invoke, builtin, Act.eval, g1, Result.andThen])); (try with_reducible rfl); done)); try simp only [Act.put, List.setIfInBounds_toArray, List.set_cons_zero, List.set_cons_succ])
      (refine hTake (i := 8) (v := ?v18) rfl (by kernel_rfl) (by kernel_rfl) (by kernel_rfl) (fun _ _ _ h => h) (Or.inl ⟨by rfl, ?y18⟩) hS ?r18; (case y18 => (intro W hW; (go_simp); (try with_reducible rfl); done)); try simp only [Act.put, List.setIfInBounds_toArray, List.set_cons_zero, List.set_cons_succ])
      (refine hTake (i := 9) (v := ?v19) rfl (by kernel_rfl) (by kernel_rfl) (by kernel_rfl) (fun _ _ _ h => h) (Or.inl ⟨by rfl, ?y19⟩) hS ?r19; (case y19 => (intro W hW; (go_simp); (try with_reducible rfl); done)); try simp only [Act.put, List.setIfInBounds_toArray, List.set_cons_zero, List.set_cons_succ])
      (refine hTake (i := 10) (v := ?v20) rfl (by kernel_rfl) (by kernel_rfl) (by kernel_rfl) (fun _ _ _ h => h) (Or.inl ⟨by rfl, ?y20⟩) hS ?r20; (case y20 => (intro W hW; (go_simp); (try with_reducible rfl); done)); try simp only [Act.put, List.setIfInBounds_toArray, List.set_cons_zero, List.set_cons_succ])
      (refine hTake (i := 11) (v := ?v21) rfl (by kernel_rfl) (by kernel_rfl) (by kernel_rfl) (fun _ _ _ h => h) (Or.inl ⟨by rfl, ?y21⟩) hS ?r21; (case y21 => (intro W hW; ((have g := hW.st.cells.cell 0; simp at g; go_simp)); (try with_reducible rfl); done)); try simp only [Act.put, List.setIfInBounds_toArray, List.set_cons_zero, List.set_cons_succ])
      (refine hTake (i := 12) (v := ?v22) rfl (by kernel_rfl) (by kernel_rfl) (by kernel_rfl) (fun _ _ _ h => h) (Or.inl ⟨by rfl, ?y22⟩) hS ?r22; (case y22 => (intro W hW; (go_simp); (try with_reducible rfl); done)); try simp only [Act.put, List.setIfInBounds_toArray, List.set_cons_zero, List.set_cons_succ])
      (refine hTake (i := 13) (v := ?v23) rfl (by kernel_rfl) (by kernel_rfl) (by kernel_rfl) (fun _ _ _ h => h) (Or.inl ⟨by rfl, ?y23⟩) hS ?r23; (case y23 => (intro W hW; (go_simp); (try with_reducible rfl); done)); try simp only [Act.put, List.setIfInBounds_toArray, List.set_cons_zero, List.set_cons_succ])
      (refine hTake (i := 14) (v := ?v24) rfl (by kernel_rfl) (by kernel_rfl) (by kernel_rfl) (fun _ _ _ h => h) (Or.inl ⟨by rfl, ?y24⟩) hS ?r24; (case y24 => (intro W hW; (go_simp); (try with_reducible rfl); done)); try simp only [Act.put, List.setIfInBounds_toArray, List.set_cons_zero, List.set_cons_succ])
      refine wpAnyH_done (by kernel_rfl) ?_ _
      go_wp2_with (refine wpList_store_row rfl 30 _ _ rfl w.heap.size (row32 zero32) rfl rfl _ _ hS.r (by rw [row32_size rfl]; exact info_digest) rfl (row32_one _) ?_)
      refine bodyPost_ret (v := .tuple #[digV zero32, .int .i64 62]) (results_row_tmp rfl _ _ w.heap.size _ (row32 zero32) _ _ _ rfl rfl (hS.r.row _) Try.underlying30 rfl (by rw [row32_size rfl]; exact info_digest)) rfl ?_
      rw [e1.out, e2.out, e3.out]
      have hbb := below_row hS.bel (Nat.le_refl w.heap.size) (row32 zero32)
      exact ⟨rfl, h.out.step hbb, grown_below hbb⟩
    · have hfl : decide (most ≤ (m.length : Int)) = false := by simpa using hfull
      have e1 : putK m t none most = 0 := by simp [putK, hfull]
      have e2 : putX m d t none most = d := by simp [putX, e1]
      have e3 : putM m d t none most = m.put d (held t 1) := by simp [putM, e1]
      replace e1 := Lib.hid e1
      replace e2 := Lib.hid e2
      replace e3 := Lib.hid e3
      go_wp2_with fail
      clear a0 a1 j0 j1
      have hP := hS
      clear hS
      refine wp_region_held_drew (S := (PutI w w.heap.size D S b most m g c t d)) (by kernel_rfl) (by exact hP.out.drew) (fun hS => ?_)
      (refine hTake (i := 0) (v := ?v25) rfl (by kernel_rfl) (by kernel_rfl) (by kernel_rfl) (fun _ _ _ h => h) (Or.inl ⟨by rfl, ?y25⟩) hS ?r25; (case y25 => (intro W hW; (go_simp); (try with_reducible rfl); done)); try simp only [Act.put, List.setIfInBounds_toArray, List.set_cons_zero, List.set_cons_succ])
      (refine hTake (i := 1) (v := ?v26) rfl (by kernel_rfl) (by kernel_rfl) (by kernel_rfl) (fun _ _ _ h => h) (Or.inl ⟨by rfl, ?y26⟩) hS ?r26; (case y26 => (intro W hW; (go_simp); (try with_reducible rfl); done)); try simp only [Act.put, List.setIfInBounds_toArray, List.set_cons_zero, List.set_cons_succ])
      (refine hTake (i := 2) (v := ?v27) rfl (by kernel_rfl) (by kernel_rfl) (by kernel_rfl) (fun _ _ _ h => h) (Or.inl ⟨by rfl, ?y27⟩) hS ?r27; (case y27 => (intro W hW; (go_simp); (try with_reducible rfl); done)); try simp only [Act.put, List.setIfInBounds_toArray, List.set_cons_zero, List.set_cons_succ])
      (refine hTake (i := 3) (v := ?v28) rfl (by kernel_rfl) (by kernel_rfl) (by kernel_rfl) (fun _ _ _ h => h) (Or.inl ⟨by rfl, ?y28⟩) hS ?r28; (case y28 => (intro W hW; (go_simp); (try with_reducible rfl); done)); try simp only [Act.put, List.setIfInBounds_toArray, List.set_cons_zero, List.set_cons_succ])
      (refine hTake (i := 4) (v := ?v29) rfl (by kernel_rfl) (by kernel_rfl) (by kernel_rfl) (fun _ _ _ h => h) (Or.inl ⟨by rfl, ?y29⟩) hS ?r29; (case y29 => (intro W hW; (go_simp); (try with_reducible rfl); done)); try simp only [Act.put, List.setIfInBounds_toArray, List.set_cons_zero, List.set_cons_succ])
      (refine hTake (i := 5) (v := ?v30) rfl (by kernel_rfl) (by kernel_rfl) (by kernel_rfl) (fun _ _ _ h => h) (Or.inl ⟨by rfl, ?y30⟩) hS ?r30; (case y30 => (intro W hW; (go_simp); (try with_reducible rfl); done)); try simp only [Act.put, List.setIfInBounds_toArray, List.set_cons_zero, List.set_cons_succ])
      (refine hTake (i := 6) (v := ?v31) rfl (by kernel_rfl) (by kernel_rfl) (by kernel_rfl) (fun _ _ _ h => h) (Or.inl ⟨by rfl, ?y31⟩) hS ?r31; (case y31 => (intro W hW; ((have g := hW.st.cells.cell 1; simp at g; go_simp)); (try with_reducible rfl); done)); try simp only [Act.put, List.setIfInBounds_toArray, List.set_cons_zero, List.set_cons_succ])
      (refine hTake (i := 7) (v := ?v32) rfl (by kernel_rfl) (by kernel_rfl) (by kernel_rfl) (fun _ _ _ h => h) (Or.inl ⟨by rfl, ?y32⟩) hS ?r32; (case y32 => (intro W hW; ((have g1 := run_len_map (ty := 3) Try.underlying75 hW.st.map; simp [execOp, resolve, invoke, builtin, Act.eval, g1, Result.andThen])); (try with_reducible rfl); done)); try simp only [Act.put, List.setIfInBounds_toArray, List.set_cons_zero, List.set_cons_succ])
      (refine hTake (i := 8) (v := ?v33) rfl (by kernel_rfl) (by kernel_rfl) (by kernel_rfl) (fun _ _ _ h => h) (Or.inl ⟨by rfl, ?y33⟩) hS ?r33; (case y33 => (intro W hW; (go_simp); (try with_reducible rfl); done)); try simp only [Act.put, List.setIfInBounds_toArray, List.set_cons_zero, List.set_cons_succ])
      (refine hTake (i := 9) (v := ?v34) rfl (by kernel_rfl) (by kernel_rfl) (by kernel_rfl) (fun _ _ _ h => h) (Or.inl ⟨by rfl, ?y34⟩) hS ?r34; (case y34 => (intro W hW; (go_simp); (try with_reducible rfl); done)); try simp only [Act.put, List.setIfInBounds_toArray, List.set_cons_zero, List.set_cons_succ])
      (refine hTake (i := 10) (v := ?v35) rfl (by kernel_rfl) (by kernel_rfl) (by kernel_rfl) (fun _ _ _ h => h) (Or.inl ⟨by rfl, ?y35⟩) hS ?r35; (case y35 => (intro W hW; (go_simp); (try with_reducible rfl); done)); try simp only [Act.put, List.setIfInBounds_toArray, List.set_cons_zero, List.set_cons_succ])
      (refine hTake (i := 11) (v := ?v36) rfl (by kernel_rfl) (by kernel_rfl) (by kernel_rfl) (fun _ _ _ h => h) (Or.inl ⟨by rfl, ?y36⟩) hS ?r36; (case y36 => (intro W hW; ((have g := hW.st.cells.cell 0; simp at g; go_simp)); (try with_reducible rfl); done)); try simp only [Act.put, List.setIfInBounds_toArray, List.set_cons_zero, List.set_cons_succ])
      (refine hTake (i := 12) (v := ?v37) rfl (by kernel_rfl) (by kernel_rfl) (by kernel_rfl) (fun _ _ _ h => h) (Or.inl ⟨by rfl, ?y37⟩) hS ?r37; (case y37 => (intro W hW; (go_simp); (try with_reducible rfl); done)); try simp only [Act.put, List.setIfInBounds_toArray, List.set_cons_zero, List.set_cons_succ])
      (refine hTake (i := 13) (v := ?v38) rfl (by kernel_rfl) (by kernel_rfl) (by kernel_rfl) (fun _ _ _ h => h) (Or.inl ⟨by rfl, ?y38⟩) hS ?r38; (case y38 => (intro W hW; (go_simp); (try with_reducible rfl); done)); try simp only [Act.put, List.setIfInBounds_toArray, List.set_cons_zero, List.set_cons_succ])
      (refine hTake (i := 14) (v := ?v39) rfl (by kernel_rfl) (by kernel_rfl) (by kernel_rfl) (fun _ _ _ h => h) (Or.inl ⟨by rfl, ?y39⟩) hS ?r39; (case y39 => (intro W hW; (go_simp); (try with_reducible rfl); done)); try simp only [Act.put, List.setIfInBounds_toArray, List.set_cons_zero, List.set_cons_succ])
      refine wpAnyH_done (by kernel_rfl) ?_ _
      replace hS := Lib.hid hS
      have hJ4 := Lib.hid hJ.out.drew
      clear hP hJ
      generalize w4.drew = w5 at *
      have j0 : w5.cell? ⟨Hb, 0, none⟩ = some (.string t') := hJ4.out.cell 0
      have j1 : w5.cell? ⟨Hb, 1, none⟩ = some (.int .i64 0) := hJ4.out.cell 1
      have k0 := hJ4.out.frozen 0
      have k1 := hJ4.out.frozen 1
      go_wp2_with fail
      refine code_at (fun wx => PutI w w.heap.size D S b most m g c t d wx ∧ Blk wx Hb 73 #[.string t, .int .i64 1]) ⟨?_, ?_⟩ ?_
      · exact hS.out.step (((Below.refl _ _).setCell hJn.out _).setCell hJn.out _)
      · (apply Blk.eq; (repeat (first | with_reducible apply Blk.set_ | with_reducible apply Blk.drew | with_reducible exact hJ4.out)); rfl)
      clear hS hJ4 j0 j1 k0 k1
      rintro w6 ⟨hP, hJ⟩
      replace hP := Lib.hid hP
      replace hJ := Lib.hid hJ
      refine wp_region_held_drew (S := (fun wx => Blk wx S 77 #[.int .i64 most, .map (some b)] ∧ Blk wx D 30 (row32 d) ∧ Blk wx Hb 73 #[.string t, .int .i64 1])) (by kernel_rfl) (by exact ⟨hP.out.st.cells.drew, hP.out.dd.drew, hJ.out.drew⟩) (fun hS => ?_)
      (refine hTake (i := 0) (v := ?v40) rfl (by kernel_rfl) (by kernel_rfl) (by kernel_rfl) (fun _ _ _ h => h) (Or.inl ⟨by rfl, ?y40⟩) hS ?r40; (case y40 => (intro W hW; (go_simp); (try with_reducible rfl); done)); try simp only [Act.put, List.setIfInBounds_toArray, List.set_cons_zero, List.set_cons_succ])
      (refine hTake (i := 1) (v := ?v41) rfl (by kernel_rfl) (by kernel_rfl) (by kernel_rfl) (fun _ _ _ h => h) (Or.inl ⟨by rfl, ?y41⟩) hS ?r41; (case y41 => (intro W hW; (go_simp); (try with_reducible rfl); done)); try simp only [Act.put, List.setIfInBounds_toArray, List.set_cons_zero, List.set_cons_succ])
      (refine hTake (i := 2) (v := ?v42) rfl (by kernel_rfl) (by kernel_rfl) (by kernel_rfl) (fun _ _ _ h => h) (Or.inl ⟨by rfl, ?y42⟩) hS ?r42; (case y42 => (intro W hW; (go_simp); (try with_reducible rfl); done)); try simp only [Act.put, List.setIfInBounds_toArray, List.set_cons_zero, List.set_cons_succ])
      (refine hTake (i := 3) (v := ?v43) rfl (by kernel_rfl) (by kernel_rfl) (by kernel_rfl) (fun _ _ _ h => h) (Or.inl ⟨by rfl, ?y43⟩) hS ?r43; (case y43 => (intro W hW; ((have g := hW.1.cell 1; simp at g; go_simp)); (try with_reducible rfl); done)); try simp only [Act.put, List.setIfInBounds_toArray, List.set_cons_zero, List.set_cons_succ])
      (refine hTake (i := 4) rfl (by kernel_rfl) (by kernel_rfl) (by kernel_rfl) (fun _ _ _ h => h) (yieldsIf_load_mid (by rfl) _ _ rfl _ _ rfl (bv d) _ (fun W hW => (hW.2.1.range)) Try.underlying30 rfl (by rw [bv_length, hol]; exact info_digest)) hS ?_; try simp only [Act.put, List.setIfInBounds_toArray, List.set_cons_zero, List.set_cons_succ])
      (refine hTake (i := 5) (v := ?v44) rfl (by kernel_rfl) (by kernel_rfl) (by kernel_rfl) (fun _ _ _ h => h) (Or.inl ⟨by rfl, ?y44⟩) hS ?r44; (case y44 => (intro W hW; ((have g := hW.2.2.cell 0; have g' := hW.2.2.cell 1; simp at g g'; go_simp)); (try with_reducible rfl); done)); try simp only [Act.put, List.setIfInBounds_toArray, List.set_cons_zero, List.set_cons_succ])
      (refine hOne (i := 6) rfl (by kernel_rfl) (fun K hK => ?_))
      rw [if_pos (by rfl)]
      refine wp_update_map _ _ _ 75 rfl _ Try.underlying75 b m rfl hP.out.st.map.drew d hol (held t 1) rfl rfl ?_
      intro w7 hm7 hg7
      have hS7 : S ≠ b := hP.out.st.ne
      have hbl := hP.out.bl
      have hrl := hP.out.rl
      have hrd := hP.out.ne
      have hr7 := hP.out.r.drew.grown hg7 (by omega)
      have hd7 := hP.out.dd.drew.grown hg7 (by omega)
      have hc7 := hP.out.st.cells.drew.grown hg7 hS7
      have hgw := grown_trans hP.out.bel.drew hg7
      (refine hK.out _ _ (by exact ⟨hc7, hd7, hJ.out.drew.grown hg7 (by have := hJn.out; omega)⟩) (fun hS => ?_); clear hK K; try simp only [Act.put, List.setIfInBounds_toArray, List.set_cons_zero, List.set_cons_succ])
      refine wpAnyH_done (by kernel_rfl) ?_ _
      replace hr7 := Lib.hid hr7
      replace hd7 := Lib.hid hd7
      replace hc7 := Lib.hid hc7
      replace hgw := Lib.hid hgw
      replace hm7 := Lib.hid hm7
      clear hS hg7 hP hJ
      go_wp2_with (first
        | (refine wpList_load_row rfl 30 _ rfl _ rfl _ (row32 d) _ _ hd7.out Try.underlying30 rfl (by rw [hsd]; exact info_digest) ?_)
        | (refine wpList_store_row rfl 30 _ _ rfl w.heap.size (row32 d) rfl rfl _ _ hr7.out (by rw [hsd]; exact info_digest) (by rw [hsd]; rfl) (row32_one _) ?_))
      refine bodyPost_ret (v := .tuple #[digV d, .int .i64 0]) (results_row_tmp rfl _ _ w.heap.size _ (row32 d) _ _ _ rfl rfl (hr7.out.row _) Try.underlying30 rfl (by rw [hsd]; exact info_digest)) rfl ?_
      rw [e1.out, e2.out, e3.out]
      refine ⟨rfl, ⟨hc7.out.row_far _ ?_, hm7.out.of_block ?_, hS7⟩, grown_row hgw.out (Nat.le_refl _) _⟩
      · have := h.out.cells.lt; omega
      · exact setRow_other _ _ _ _ (by omega)
  | true =>
    have hv1 : v = some (t', n') := hvv.out
    subst hv1
    obtain ⟨hs', hn0, hn1⟩ := hvs.out _ rfl
    have HS' := Lib.hid hs'
    clear hs' hvv hv0
    have hsz' : t'.data.toList.length = t'.size := Array.length_toList
    go_wp2_with fail
    refine (db_Bytes t' _ HS'.out).mono ?_
    rintro e w5 ⟨g5, c5, rfl, hg5, hby5, -, hb5⟩
    have hP := Lib.hid (hS.out.step (hb5.mono hS.out.dd.lt))
    have hHl := hJ.out.lt
    replace hJ := Lib.hid (hJ.out.below hb5 hHl)
    clear hb5 hS a0 a1 j0 j1 hHl
    replace hby5 := Lib.hid hby5
    go_wp2_with fail
    refine (bytes_Equal t'.data.toList t.data.toList _ _ _ _ _ _ _ _ w5 hby5.out (by rw [← hsz]; exact hP.out.txt)).mono ?_
    rintro e _ ⟨rfl, rfl⟩
    have j1 : w5.cell? ⟨Hb, 1, none⟩ = some (.int .i64 n') := hJ.out.cell 1
    clear hby5
    by_cases htt : t'.data.toList = t.data.toList
    · obtain rfl := bytes_ext htt
      rw [decide_eq_true htt]
      by_cases hfull : 4294967295 ≤ n'
      · have e1 : putK m t' (some (t', n')) most = 62 := by simp [putK, hfull]
        have e2 : putX m d t' (some (t', n')) most = zero32 := by simp [putX, e1]
        have e3 : putM m d t' (some (t', n')) most = m := by simp [putM, e1]
        replace e1 := Lib.hid e1
        replace e2 := Lib.hid e2
        replace e3 := Lib.hid e3
        go_wp2_with (refine wpList_store_row rfl 30 _ _ rfl w.heap.size (row32 zero32) rfl rfl _ _ hP.out.r (by rw [row32_size rfl]; exact info_digest) rfl (row32_one _) ?_)
        refine bodyPost_ret (v := .tuple #[digV zero32, .int .i64 62]) (results_row_tmp rfl _ _ w.heap.size _ (row32 zero32) _ _ _ rfl rfl (hP.out.r.row _) Try.underlying30 rfl (by rw [row32_size rfl]; exact info_digest)) rfl ?_
        rw [e1.out, e2.out, e3.out]
        have hbb := below_row hP.out.bel (Nat.le_refl w.heap.size) (row32 zero32)
        exact ⟨rfl, h.out.step hbb, grown_below hbb⟩
      · have e1 : putK m t' (some (t', n')) most = 0 := by simp [putK, hfull]
        have e2 : putX m d t' (some (t', n')) most = d := by simp [putX, e1]
        have e3 : putM m d t' (some (t', n')) most = m.put d (held t' (n' + 1)) := by simp [putM, e1]
        replace e1 := Lib.hid e1
        replace e2 := Lib.hid e2
        replace e3 := Lib.hid e3
        clear htt
        go_wp2_with fail
        clear j1
        refine wp_region_held_drew (S := (PutI w w.heap.size D S b most m g c t' d)) (by kernel_rfl) (by exact hP.out.drew) (fun hS => ?_)
        (refine hTake (i := 0) (v := ?v45) rfl (by kernel_rfl) (by kernel_rfl) (by kernel_rfl) (fun _ _ _ h => h) (Or.inl ⟨by rfl, ?y45⟩) hS ?r45; (case y45 => (intro W hW; (go_simp); (try with_reducible rfl); done)); try simp only [Act.put, List.setIfInBounds_toArray, List.set_cons_zero, List.set_cons_succ])
        (refine hTake (i := 1) (v := ?v46) rfl (by kernel_rfl) (by kernel_rfl) (by kernel_rfl) (fun _ _ _ h => h) (Or.inl ⟨by rfl, ?y46⟩) hS ?r46; (case y46 => (intro W hW; (go_simp); (try with_reducible rfl); done)); try simp only [Act.put, List.setIfInBounds_toArray, List.set_cons_zero, List.set_cons_succ])
        (refine hTake (i := 2) (v := ?v47) rfl (by kernel_rfl) (by kernel_rfl) (by kernel_rfl) (fun _ _ _ h => h) (Or.inl ⟨by rfl, ?y47⟩) hS ?r47; (case y47 => (intro W hW; (go_simp); (try with_reducible rfl); done)); try simp only [Act.put, List.setIfInBounds_toArray, List.set_cons_zero, List.set_cons_succ])
        (refine hTake (i := 3) (v := undef) rfl (by kernel_rfl) (by kernel_rfl) (by kernel_rfl) (fun _ _ _ h => h) (Or.inr ⟨by rfl, rfl⟩) hS ?_; try simp only [Act.put, List.setIfInBounds_toArray, List.set_cons_zero, List.set_cons_succ])
        (refine hTake (i := 4) (v := undef) rfl (by kernel_rfl) (by kernel_rfl) (by kernel_rfl) (fun _ _ _ h => h) (Or.inr ⟨by rfl, rfl⟩) hS ?_; try simp only [Act.put, List.setIfInBounds_toArray, List.set_cons_zero, List.set_cons_succ])
        (refine hTake (i := 5) (v := undef) rfl (by kernel_rfl) (by kernel_rfl) (by kernel_rfl) (fun _ _ _ h => h) (Or.inr ⟨by rfl, rfl⟩) hS ?_; try simp only [Act.put, List.setIfInBounds_toArray, List.set_cons_zero, List.set_cons_succ])
        (refine hTake (i := 6) (v := undef) rfl (by kernel_rfl) (by kernel_rfl) (by kernel_rfl) (fun _ _ _ h => h) (Or.inr ⟨by rfl, rfl⟩) hS ?_; try simp only [Act.put, List.setIfInBounds_toArray, List.set_cons_zero, List.set_cons_succ])
        (refine hTake (i := 7) (v := undef) rfl (by kernel_rfl) (by kernel_rfl) (by kernel_rfl) (fun _ _ _ h => h) (Or.inr ⟨by rfl, rfl⟩) hS ?_; try simp only [Act.put, List.setIfInBounds_toArray, List.set_cons_zero, List.set_cons_succ])
        (refine hTake (i := 8) (v := undef) rfl (by kernel_rfl) (by kernel_rfl) (by kernel_rfl) (fun _ _ _ h => h) (Or.inr ⟨by rfl, rfl⟩) hS ?_; try simp only [Act.put, List.setIfInBounds_toArray, List.set_cons_zero, List.set_cons_succ])
        (refine hTake (i := 9) (v := undef) rfl (by kernel_rfl) (by kernel_rfl) (by kernel_rfl) (fun _ _ _ h => h) (Or.inr ⟨by rfl, rfl⟩) hS ?_; try simp only [Act.put, List.setIfInBounds_toArray, List.set_cons_zero, List.set_cons_succ])
        (refine hTake (i := 10) (v := undef) rfl (by kernel_rfl) (by kernel_rfl) (by kernel_rfl) (fun _ _ _ h => h) (Or.inr ⟨by rfl, rfl⟩) hS ?_; try simp only [Act.put, List.setIfInBounds_toArray, List.set_cons_zero, List.set_cons_succ])
        (refine hTake (i := 11) (v := undef) rfl (by kernel_rfl) (by kernel_rfl) (by kernel_rfl) (fun _ _ _ h => h) (Or.inr ⟨by rfl, rfl⟩) hS ?_; try simp only [Act.put, List.setIfInBounds_toArray, List.set_cons_zero, List.set_cons_succ])
        (refine hTake (i := 12) (v := undef) rfl (by kernel_rfl) (by kernel_rfl) (by kernel_rfl) (fun _ _ _ h => h) (Or.inr ⟨by rfl, rfl⟩) hS ?_; try simp only [Act.put, List.setIfInBounds_toArray, List.set_cons_zero, List.set_cons_succ])
        (refine hTake (i := 13) (v := ?v48) rfl (by kernel_rfl) (by kernel_rfl) (by kernel_rfl) (fun _ _ _ h => h) (Or.inl ⟨by rfl, ?y48⟩) hS ?r48; (case y48 => (intro W hW; (go_simp); (try with_reducible rfl); done)); try simp only [Act.put, List.setIfInBounds_toArray, List.set_cons_zero, List.set_cons_succ])
        (refine hTake (i := 14) (v := ?v49) rfl (by kernel_rfl) (by kernel_rfl) (by kernel_rfl) (fun _ _ _ h => h) (Or.inl ⟨by rfl, ?y49⟩) hS ?r49; (case y49 => (intro W hW; (go_simp); (try with_reducible rfl); done)); try simp only [Act.put, List.setIfInBounds_toArray, List.set_cons_zero, List.set_cons_succ])
        refine wpAnyH_done (by kernel_rfl) ?_ _
        replace hS := Lib.hid hS
        have hJ4 := Lib.hid hJ.out.drew
        clear hP hJ
        generalize w5.drew = w6 at *
        have j1 : w6.cell? ⟨Hb, 1, none⟩ = some (.int .i64 n') := hJ4.out.cell 1
        have k1 := hJ4.out.frozen 1
        go_wp2_with fail
        refine code_at (fun wx => PutI w w.heap.size D S b most m g c t' d wx ∧ Blk wx Hb 73 #[.string t', .int .i64 (n' + 1)]) ⟨?_, ?_⟩ ?_
        · exact hS.out.step ((Below.refl _ _).setCell hJn.out _)
        · (apply Blk.eq; (repeat (first | with_reducible apply Blk.set_ | with_reducible apply Blk.drew | with_reducible exact hJ4.out)); rfl)
        clear hS hJ4 j1 k1
        rintro w7 ⟨hP, hJ⟩
        replace hP := Lib.hid hP
        replace hJ := Lib.hid hJ
        refine wp_region_held_drew (S := (fun wx => Blk wx S 77 #[.int .i64 most, .map (some b)] ∧ Blk wx D 30 (row32 d) ∧ Blk wx Hb 73 #[.string t', .int .i64 (n' + 1)])) (by kernel_rfl) (by exact ⟨hP.out.st.cells.drew, hP.out.dd.drew, hJ.out.drew⟩) (fun hS => ?_)
        (refine hTake (i := 0) (v := ?v50) rfl (by kernel_rfl) (by kernel_rfl) (by kernel_rfl) (fun _ _ _ h => h) (Or.inl ⟨by rfl, ?y50⟩) hS ?r50; (case y50 => (intro W hW; (go_simp); (try with_reducible rfl); done)); try simp only [Act.put, List.setIfInBounds_toArray, List.set_cons_zero, List.set_cons_succ])
        (refine hTake (i := 1) (v := ?v51) rfl (by kernel_rfl) (by kernel_rfl) (by kernel_rfl) (fun _ _ _ h => h) (Or.inl ⟨by rfl, ?y51⟩) hS ?r51; (case y51 => (intro W hW; (go_simp); (try with_reducible rfl); done)); try simp only [Act.put, List.setIfInBounds_toArray, List.set_cons_zero, List.set_cons_succ])
        (refine hTake (i := 2) (v := ?v52) rfl (by kernel_rfl) (by kernel_rfl) (by kernel_rfl) (fun _ _ _ h => h) (Or.inl ⟨by rfl, ?y52⟩) hS ?r52; (case y52 => (intro W hW; (go_simp); (try with_reducible rfl); done)); try simp only [Act.put, List.setIfInBounds_toArray, List.set_cons_zero, List.set_cons_succ])
        (refine hTake (i := 3) (v := ?v53) rfl (by kernel_rfl) (by kernel_rfl) (by kernel_rfl) (fun _ _ _ h => h) (Or.inl ⟨by rfl, ?y53⟩) hS ?r53; (case y53 => (intro W hW; ((have g := hW.1.cell 1; simp at g; go_simp)); (try with_reducible rfl); done)); try simp only [Act.put, List.setIfInBounds_toArray, List.set_cons_zero, List.set_cons_succ])
        (refine hTake (i := 4) rfl (by kernel_rfl) (by kernel_rfl) (by kernel_rfl) (fun _ _ _ h => h) (yieldsIf_load_mid (by rfl) _ _ rfl _ _ rfl (bv d) _ (fun W hW => (hW.2.1.range)) Try.underlying30 rfl (by rw [bv_length, hol]; exact info_digest)) hS ?_; try simp only [Act.put, List.setIfInBounds_toArray, List.set_cons_zero, List.set_cons_succ])
        (refine hTake (i := 5) (v := ?v54) rfl (by kernel_rfl) (by kernel_rfl) (by kernel_rfl) (fun _ _ _ h => h) (Or.inl ⟨by rfl, ?y54⟩) hS ?r54; (case y54 => (intro W hW; ((have g := hW.2.2.cell 0; have g' := hW.2.2.cell 1; simp at g g'; go_simp)); (try with_reducible rfl); done)); try simp only [Act.put, List.setIfInBounds_toArray, List.set_cons_zero, List.set_cons_succ])
        (refine hOne (i := 6) rfl (by kernel_rfl) (fun K hK => ?_))
        rw [if_pos (by rfl)]
        refine wp_update_map _ _ _ 75 rfl _ Try.underlying75 b m rfl hP.out.st.map.drew d hol (held t' (n' + 1)) rfl rfl ?_
        intro w7 hm7 hg7
        have hS7 : S ≠ b := hP.out.st.ne
        have hbl := hP.out.bl
        have hrl := hP.out.rl
        have hrd := hP.out.ne
        have hr7 := hP.out.r.drew.grown hg7 (by omega)
        have hd7 := hP.out.dd.drew.grown hg7 (by omega)
        have hc7 := hP.out.st.cells.drew.grown hg7 hS7
        have hgw := grown_trans hP.out.bel.drew hg7
        (refine hK.out _ _ (by exact ⟨hc7, hd7, hJ.out.drew.grown hg7 (by have := hJn.out; omega)⟩) (fun hS => ?_); clear hK K; try simp only [Act.put, List.setIfInBounds_toArray, List.set_cons_zero, List.set_cons_succ])
        refine wpAnyH_done (by kernel_rfl) ?_ _
        replace hr7 := Lib.hid hr7
        replace hd7 := Lib.hid hd7
        replace hc7 := Lib.hid hc7
        replace hgw := Lib.hid hgw
        replace hm7 := Lib.hid hm7
        clear hS hg7 hP hJ
        go_wp2_with (first
          | (refine wpList_load_row rfl 30 _ rfl _ rfl _ (row32 d) _ _ hd7.out Try.underlying30 rfl (by rw [hsd]; exact info_digest) ?_)
          | (refine wpList_store_row rfl 30 _ _ rfl w.heap.size (row32 d) rfl rfl _ _ hr7.out (by rw [hsd]; exact info_digest) (by rw [hsd]; rfl) (row32_one _) ?_))
        refine bodyPost_ret (v := .tuple #[digV d, .int .i64 0]) (results_row_tmp rfl _ _ w.heap.size _ (row32 d) _ _ _ rfl rfl (hr7.out.row _) Try.underlying30 rfl (by rw [hsd]; exact info_digest)) rfl ?_
        rw [e1.out, e2.out, e3.out]
        refine ⟨rfl, ⟨hc7.out.row_far _ ?_, hm7.out.of_block ?_, hS7⟩, grown_row hgw.out (Nat.le_refl _) _⟩
        · have := h.out.cells.lt; omega
        · exact setRow_other _ _ _ _ (by omega)
    · rw [decide_eq_false htt]
      have e1 : putK m t (some (t', n')) most = 60 := by simp [putK, htt]
      have e2 : putX m d t (some (t', n')) most = zero32 := by simp [putX, e1]
      have e3 : putM m d t (some (t', n')) most = m := by simp [putM, e1]
      replace e1 := Lib.hid e1
      replace e2 := Lib.hid e2
      replace e3 := Lib.hid e3
      clear htt
      go_wp2_with (refine wpList_store_row rfl 30 _ _ rfl w.heap.size (row32 zero32) rfl rfl _ _ hP.out.r (by rw [row32_size rfl]; exact info_digest) rfl (row32_one _) ?_)
      refine bodyPost_ret (v := .tuple #[digV zero32, .int .i64 60]) (results_row_tmp rfl _ _ w.heap.size _ (row32 zero32) _ _ _ rfl rfl (hP.out.r.row _) Try.underlying30 rfl (by rw [row32_size rfl]; exact info_digest)) rfl ?_
      rw [e1.out, e2.out, e3.out]
      have hbb := below_row hP.out.bel (Nat.le_refl w.heap.size) (row32 zero32)
      exact ⟨rfl, h.out.step hbb, grown_below hbb⟩
end Go.Proofs.Ytioanppnkhiokaa

namespace Go.Proofs.Ytioanppnkhiokaa
open Go.RowKit

/-- what Drop tells, and leaves -/
def dropK (v : Option (ByteArray × Int)) : Int := if v.isSome then 0 else 61
def dropG (v : Option (ByteArray × Int)) : Bool := match v with
  | none => false
  | some (_, n) => decide (n = 1)
def dropM (m : Assoc) (d : List UInt8) (v : Option (ByteArray × Int)) : Assoc := match v with
  | none => m
  | some (t, n) => if n = 1 then m.del d else m.put d (held t (n - 1))
def DropPost (w : World) (S b : Nat) (most : Int) (m : Assoc) (g : Bool) (k : Int) (e : Ending) (w' : World) : Prop :=
  e = .returned (.tuple #[.bool g, .int .i64 k]) ∧ StoreIs w' S b most m ∧ w.grownBy w' (some b)
set_option maxRecDepth 100000 in
set_option maxHeartbeats 1000000 in
theorem db_Drop (S b : Nat) (most : Int) (m : Assoc) (d : List UInt8) (v : Option (ByteArray × Int)) (w : World) (h : StoreIs w S b most m) (hd : d.length = 32) (hv : m.get d = v.map fun x => held x.1 x.2)
    (hvs : ∀ x, v = some x → 1 ≤ x.2 ∧ x.2 ≤ 4294967295) :
    Calls Try.prog 13 #[.pointer (some ⟨S, 0, none⟩), .agg (row32 d)] w (DropPost w S b most (dropM m d v) (dropG v) (dropK v)) := by
  have H0 := Lib.hid h
  have hsz := row32_size hd
  have HA := Lib.hid (show AtStore w w.heap.size S b most m d (w.alloc (.cells (row32 d) 30)) from ⟨Blk.new _ _ _, h.alloc _, Nat.le_refl _, (Below.refl _ _).alloc (Nat.le_refl _) _⟩)
  clear h
  have hlk := fun W (hW : AtStore w w.heap.size S b most m d W) => hW.look v hd hv
  clear hv
  have hvv : v = (if v.isSome then some (v.getD (⟨#[]⟩, 0)) else none) := by cases v <;> rfl
  generalize v.isSome = is at *
  generalize v.getD (⟨#[]⟩, 0) = vv at *
  obtain ⟨t, n⟩ := vv
  replace hvv := Lib.hid hvv
  replace hvs := Lib.hid hvs
  have HL := Lib.hid hlk
  clear hlk
  go_enter Try.func13, Try.ntmps13
  go_wp2_with fail
  refine code_at _ HA.out ?_
  clear HA
  intro w1 ha
  have g1 : w1.cell? ⟨S, 1, none⟩ = some (.map (some b)) := ha.2.1.cells.cell 1
  have hlk := HL.out
  have hB := ha.2.2.2
  have hsz1 := hB.size
  replace ha := Lib.hid ha
  replace hB := Lib.hid hB
  refine wp_region_held_drew (S := (AtStore w w.heap.size S b most m d)) (by kernel_rfl) (by exact ⟨ha.out.1.drew, ha.out.2.1.drew, ha.out.2.2.1, ha.out.2.2.2.drew⟩) (fun hS => ?_)
  (refine hTake (i := 0) (v := ?v1) rfl (by kernel_rfl) (by kernel_rfl) (by kernel_rfl) (fun _ _ _ h => h) (Or.inl ⟨by rfl, ?y1⟩) hS ?r1; (case y1 => (intro W hW; (go_simp); (try with_reducible rfl); done)); try simp only [Act.put, List.setIfInBounds_toArray, List.set_cons_zero, List.set_cons_succ])
  (refine hTake (i := 1) (v := ?v2) rfl (by kernel_rfl) (by kernel_rfl) (by kernel_rfl) (fun _ _ _ h => h) (Or.inl ⟨by rfl, ?y2⟩) hS ?r2; (case y2 => (intro W hW; (go_simp); (try with_reducible rfl); done)); try simp only [Act.put, List.setIfInBounds_toArray, List.set_cons_zero, List.set_cons_succ])
  (refine hTake (i := 2) (v := ?v3) rfl (by kernel_rfl) (by kernel_rfl) (by kernel_rfl) (fun _ _ _ h => h) (Or.inl ⟨by rfl, ?y3⟩) hS ?r3; (case y3 => (intro W hW; (go_simp); (try with_reducible rfl); done)); try simp only [Act.put, List.setIfInBounds_toArray, List.set_cons_zero, List.set_cons_succ])
  (refine hTake (i := 3) (v := ?v4) rfl (by kernel_rfl) (by kernel_rfl) (by kernel_rfl) (fun _ _ _ h => h) (Or.inl ⟨by rfl, ?y4⟩) hS ?r4; (case y4 => (intro W hW; ((have g := hW.2.1.cells.cell 1; simp at g; go_simp)); (try with_reducible rfl); done)); try simp only [Act.put, List.setIfInBounds_toArray, List.set_cons_zero, List.set_cons_succ])
  (refine hTake (i := 4) rfl (by kernel_rfl) (by kernel_rfl) (by kernel_rfl) (fun _ _ _ h => h) (yieldsIf_load_mid (by rfl) _ _ rfl _ _ rfl (bv d) _ (fun W hW => (hW.1.range)) Try.underlying30 rfl (by rw [bv_length, hd]; exact info_digest)) hS ?_; try simp only [Act.put, List.setIfInBounds_toArray, List.set_cons_zero, List.set_cons_succ])
  (refine hTake (i := 5) (v := ?v5) rfl (by kernel_rfl) (by kernel_rfl) (by kernel_rfl) (fun _ _ _ h => h) (Or.inl ⟨by rfl, ?y5⟩) hS ?r5; (case y5 => (intro W hW; ((have g := hlk W hW; go_simp)); (try with_reducible rfl); done)); try simp only [Act.put, List.setIfInBounds_toArray, List.set_cons_zero, List.set_cons_succ])
  (refine hTake (i := 6) (v := ?v6) rfl (by kernel_rfl) (by kernel_rfl) (by kernel_rfl) (fun _ _ _ h => h) (Or.inl ⟨by rfl, ?y6⟩) hS ?r6; (case y6 => (intro W hW; (go_simp); (try with_reducible rfl); done)); try simp only [Act.put, List.setIfInBounds_toArray, List.set_cons_zero, List.set_cons_succ])
  (refine hTake (i := 7) (v := ?v7) rfl (by kernel_rfl) (by kernel_rfl) (by kernel_rfl) (fun _ _ _ h => h) (Or.inl ⟨by rfl, ?y7⟩) hS ?r7; (case y7 => (intro W hW; (go_simp); (try with_reducible rfl); done)); try simp only [Act.put, List.setIfInBounds_toArray, List.set_cons_zero, List.set_cons_succ])
  (refine hTake (i := 8) (v := ?v8) rfl (by kernel_rfl) (by kernel_rfl) (by kernel_rfl) (fun _ _ _ h => h) (Or.inl ⟨by rfl, ?y8⟩) hS ?r8; (case y8 => (intro W hW; (go_simp); (try with_reducible rfl); done)); try simp only [Act.put, List.setIfInBounds_toArray, List.set_cons_zero, List.set_cons_succ])
  (refine hOne (i := 9) rfl (by kernel_rfl) (fun K hK => ?_))
  go_simp
  (refine hK.out _ _ (by exact (ha.out.alloc _).drew) (fun hS => ?_); clear hK K; try simp only [Act.put, List.setIfInBounds_toArray, List.set_cons_zero, List.set_cons_succ])
  (refine hOne (i := 10) rfl (by kernel_rfl) (fun K hK => ?_))
  go_simp
  (refine hK.out _ _ (by exact (ha.out.alloc _).drew) (fun hS => ?_); clear hK K; try simp only [Act.put, List.setIfInBounds_toArray, List.set_cons_zero, List.set_cons_succ])
  (refine hTake (i := 11) (v := ?v9) rfl (by kernel_rfl) (by kernel_rfl) (by kernel_rfl) (fun _ _ _ h => h) (Or.inl ⟨by rfl, ?y9⟩) hS ?r9; (case y9 => (intro W hW; (go_simp); (try with_reducible rfl); done)); try simp only [Act.put, List.setIfInBounds_toArray, List.set_cons_zero, List.set_cons_succ])
  refine wpAnyH_done (by kernel_rfl) ?_ _
  have hJ := Lib.hid ((Blk.new w1 73 #[.string t, .int .i64 n]).drew)
  have hJn := Lib.hid (show w.heap.size < w1.heap.size from ha.out.1.lt)
  replace hS := Lib.hid hS
  clear ha g1 hB hsz1
  rename_i hSa hSb
  clear hSa hSb
  generalize (w1.alloc (.cells #[.string t, .int .i64 n] 73)).drew = w4 at *
  generalize w1.heap.size = Hb at *
  have j1 : w4.cell? ⟨Hb, 1, none⟩ = some (.int .i64 n) := hJ.out.cell 1
  have k1 := hJ.out.frozen 1
  cases is with
  | false =>
    have hv1 : v = none := hvv.out
    subst hv1
    go_wp2_with fail
    go_ret2
    have hb := hS.out.2.2.2
    exact ⟨rfl, H0.out.step hb, grown_below hb⟩
  | true =>
    have hv1 : v = some (t, n) := hvv.out
    subst hv1
    obtain ⟨hn0, hn1⟩ := hvs.out _ rfl
    clear hlk
    by_cases h1 : n = 1
    · subst h1
      go_wp2_with fail
      have hSl := H0.out.cells.lt
      have hbl := H0.out.map.lt
      have hJl := hJn.out
      have hbs := (Below.refl Hb w4).setCell (p := ⟨Hb, 1, none⟩) (Nat.le_refl _) (.int .i64 (0))
      refine code_at (fun wx => AtStore w w.heap.size S b most m d wx ∧ Blk wx Hb 73 #[.string t, .int .i64 (0)]) ⟨?_, ?_⟩ ?_
      · exact ⟨hS.out.1.below hbs hJl, hS.out.2.1.below hbs (by omega) (by omega), hS.out.2.2.1, hS.out.2.2.2.trans (hbs.mono (by omega))⟩
      · (apply Blk.eq; (repeat (first | with_reducible apply Blk.set_ | with_reducible apply Blk.drew | with_reducible exact hJ.out)); rfl)
      clear hbs hS hJ j1 k1
      rintro w5 ⟨hP, hJ⟩
      replace hP := Lib.hid hP
      replace hJ := Lib.hid hJ
      refine wp_region_held_drew (S := (fun wx => Blk wx S 77 #[.int .i64 most, .map (some b)] ∧ Blk wx w.heap.size 30 (row32 d) ∧ Blk wx Hb 73 #[.string t, .int .i64 (0)])) (by kernel_rfl) (by exact ⟨hP.out.2.1.cells.drew, hP.out.1.drew, hJ.out.drew⟩) (fun hS => ?_)
      (refine hTake (i := 0) (v := ?v10) rfl (by kernel_rfl) (by kernel_rfl) (by kernel_rfl) (fun _ _ _ h => h) (Or.inl ⟨by rfl, ?y10⟩) hS ?r10; (case y10 => (intro W hW; (go_simp); (try with_reducible rfl); done)); try simp only [Act.put, List.setIfInBounds_toArray, List.set_cons_zero, List.set_cons_succ])
      (refine hTake (i := 1) (v := ?v11) rfl (by kernel_rfl) (by kernel_rfl) (by kernel_rfl) (fun _ _ _ h => h) (Or.inl ⟨by rfl, ?y11⟩) hS ?r11; (case y11 => (intro W hW; (go_simp); (try with_reducible rfl); done)); try simp only [Act.put, List.setIfInBounds_toArray, List.set_cons_zero, List.set_cons_succ])
      (refine hTake (i := 2) (v := ?v12) rfl (by kernel_rfl) (by kernel_rfl) (by kernel_rfl) (fun _ _ _ h => h) (Or.inl ⟨by rfl, ?y12⟩) hS ?r12; (case y12 => (intro W hW; (go_simp); (try with_reducible rfl); done)); try simp only [Act.put, List.setIfInBounds_toArray, List.set_cons_zero, List.set_cons_succ])
      (refine hTake (i := 3) (v := ?v13) rfl (by kernel_rfl) (by kernel_rfl) (by kernel_rfl) (fun _ _ _ h => h) (Or.inl ⟨by rfl, ?y13⟩) hS ?r13; (case y13 => (intro W hW; ((have g := hW.1.cell 1; simp at g; go_simp)); (try with_reducible rfl); done)); try simp only [Act.put, List.setIfInBounds_toArray, List.set_cons_zero, List.set_cons_succ])
      (refine hTake (i := 4) rfl (by kernel_rfl) (by kernel_rfl) (by kernel_rfl) (fun _ _ _ h => h) (yieldsIf_load_mid (by rfl) _ _ rfl _ _ rfl (bv d) _ (fun W hW => (hW.2.1.range)) Try.underlying30 rfl (by rw [bv_length, hd]; exact info_digest)) hS ?_; try simp only [Act.put, List.setIfInBounds_toArray, List.set_cons_zero, List.set_cons_succ])
      (refine hOne (i := 5) rfl (by kernel_rfl) (fun K hK => ?_))
      rw [if_pos (by rfl)]
      refine wp_delete_map _ _ 75 rfl _ Try.underlying75 b m rfl hP.out.2.1.map.drew d hd rfl ?_
      intro w7 hm7 hg7
      have hS7 : S ≠ b := hP.out.2.1.ne
      have hc7 := hP.out.2.1.cells.drew.grown hg7 hS7
      have hgw := grown_trans hP.out.2.2.2.drew hg7
      (refine hK.out _ _ (by exact ⟨hc7, hP.out.1.drew.grown hg7 (by omega), hJ.out.drew.grown hg7 (by omega)⟩) (fun hS => ?_); clear hK K; try simp only [Act.put, List.setIfInBounds_toArray, List.set_cons_zero, List.set_cons_succ])
      refine wpAnyH_done (by kernel_rfl) ?_ _
      replace hc7 := Lib.hid hc7
      replace hgw := Lib.hid hgw
      replace hm7 := Lib.hid hm7
      clear hS hg7 hP hJ
      go_wp2_with fail
      go_ret2
      exact ⟨by simp [dropG, dropK], ⟨hc7.out, by have := hm7.out; simpa [dropM] using this, hS7⟩, hgw.out⟩
    · have hne : ¬ n - 1 = 0 := by omega
      go_wp2_with fail
      have hSl := H0.out.cells.lt
      have hbl := H0.out.map.lt
      have hJl := hJn.out
      have hbs := (Below.refl Hb w4).setCell (p := ⟨Hb, 1, none⟩) (Nat.le_refl _) (.int .i64 (n - 1))
      refine code_at (fun wx => AtStore w w.heap.size S b most m d wx ∧ Blk wx Hb 73 #[.string t, .int .i64 (n - 1)]) ⟨?_, ?_⟩ ?_
      · exact ⟨hS.out.1.below hbs hJl, hS.out.2.1.below hbs (by omega) (by omega), hS.out.2.2.1, hS.out.2.2.2.trans (hbs.mono (by omega))⟩
      · (apply Blk.eq; (repeat (first | with_reducible apply Blk.set_ | with_reducible apply Blk.drew | with_reducible exact hJ.out)); rfl)
      clear hbs hS hJ j1 k1
      rintro w5 ⟨hP, hJ⟩
      replace hP := Lib.hid hP
      replace hJ := Lib.hid hJ
      refine wp_region_held_drew (S := (fun wx => Blk wx S 77 #[.int .i64 most, .map (some b)] ∧ Blk wx w.heap.size 30 (row32 d) ∧ Blk wx Hb 73 #[.string t, .int .i64 (n - 1)])) (by kernel_rfl) (by exact ⟨hP.out.2.1.cells.drew, hP.out.1.drew, hJ.out.drew⟩) (fun hS => ?_)
      (refine hTake (i := 0) (v := ?v14) rfl (by kernel_rfl) (by kernel_rfl) (by kernel_rfl) (fun _ _ _ h => h) (Or.inl ⟨by rfl, ?y14⟩) hS ?r14; (case y14 => (intro W hW; (go_simp); (try with_reducible rfl); done)); try simp only [Act.put, List.setIfInBounds_toArray, List.set_cons_zero, List.set_cons_succ])
      (refine hTake (i := 1) (v := ?v15) rfl (by kernel_rfl) (by kernel_rfl) (by kernel_rfl) (fun _ _ _ h => h) (Or.inl ⟨by rfl, ?y15⟩) hS ?r15; (case y15 => (intro W hW; (go_simp); (try with_reducible rfl); done)); try simp only [Act.put, List.setIfInBounds_toArray, List.set_cons_zero, List.set_cons_succ])
      (refine hTake (i := 2) (v := ?v16) rfl (by kernel_rfl) (by kernel_rfl) (by kernel_rfl) (fun _ _ _ h => h) (Or.inl ⟨by rfl, ?y16⟩) hS ?r16; (case y16 => (intro W hW; (go_simp); (try with_reducible rfl); done)); try simp only [Act.put, List.setIfInBounds_toArray, List.set_cons_zero, List.set_cons_succ])
      (refine hTake (i := 3) (v := ?v17) rfl (by kernel_rfl) (by kernel_rfl) (by kernel_rfl) (fun _ _ _ h => h) (Or.inl ⟨by rfl, ?y17⟩) hS ?r17; (case y17 => (intro W hW; ((have g := hW.1.cell 1; simp at g; go_simp)); (try with_reducible rfl); done)); try simp only [Act.put, List.setIfInBounds_toArray, List.set_cons_zero, List.set_cons_succ])
      (refine hTake (i := 4) rfl (by kernel_rfl) (by kernel_rfl) (by kernel_rfl) (fun _ _ _ h => h) (yieldsIf_load_mid (by rfl) _ _ rfl _ _ rfl (bv d) _ (fun W hW => (hW.2.1.range)) Try.underlying30 rfl (by rw [bv_length, hd]; exact info_digest)) hS ?_; try simp only [Act.put, List.setIfInBounds_toArray, List.set_cons_zero, List.set_cons_succ])
      (refine hTake (i := 5) (v := ?v18) rfl (by kernel_rfl) (by kernel_rfl) (by kernel_rfl) (fun _ _ _ h => h) (Or.inl ⟨by rfl, ?y18⟩) hS ?r18; (case y18 => (intro W hW; ((have g := hW.2.2.cell 0; have g' := hW.2.2.cell 1; simp at g g'; go_simp)); (try with_reducible rfl); done)); try simp only [Act.put, List.setIfInBounds_toArray, List.set_cons_zero, List.set_cons_succ])
      (refine hOne (i := 6) rfl (by kernel_rfl) (fun K hK => ?_))
      rw [if_pos (by rfl)]
      refine wp_update_map _ _ _ 75 rfl _ Try.underlying75 b m rfl hP.out.2.1.map.drew d hd (held t (n - 1)) rfl rfl ?_
      intro w7 hm7 hg7
      have hS7 : S ≠ b := hP.out.2.1.ne
      have hc7 := hP.out.2.1.cells.drew.grown hg7 hS7
      have hgw := grown_trans hP.out.2.2.2.drew hg7
      (refine hK.out _ _ (by exact ⟨hc7, hP.out.1.drew.grown hg7 (by omega), hJ.out.drew.grown hg7 (by omega)⟩) (fun hS => ?_); clear hK K; try simp only [Act.put, List.setIfInBounds_toArray, List.set_cons_zero, List.set_cons_succ])
      refine wpAnyH_done (by kernel_rfl) ?_ _
      replace hc7 := Lib.hid hc7
      replace hgw := Lib.hid hgw
      replace hm7 := Lib.hid hm7
      clear hS hg7 hP hJ
      go_wp2_with fail
      go_ret2
      exact ⟨by simp [dropG, dropK, h1], ⟨hc7.out, by have := hm7.out; simpa [dropM, h1] using this, hS7⟩, hgw.out⟩
end Go.Proofs.Ytioanppnkhiokaa

/-
  The reference's store (pergolaref06), plain: a list of things.
-/
namespace Go.Proofs.Ytioanppnkhiokaa
open Go.RowKit

structure One where
  d : List UInt8
  t : ByteArray
  n : Int
/-- what the store's map holds -/
def asc (L : List One) : Assoc := L.map fun o => (o.d, held o.t o.n)
def getL (L : List One) (d : List UInt8) : Option (ByteArray × Int) := (L.find? (·.d == d)).map fun o => (o.t, o.n)
def setL (L : List One) (d : List UInt8) (n : Int) : List One := L.map fun o => if o.d == d then { o with n := n } else o
def delL (L : List One) (d : List UInt8) : List One := L.filter fun o => !(o.d == d)
def putL (L : List One) (most : Int) (t : ByteArray) (d : List UInt8) : List One :=
  if putK (asc L) t (getL L d) most = 0 then (match getL L d with
    | none => L ++ [⟨d, t, 1⟩]
    | some x => setL L d (x.2 + 1)) else L
def dropL (L : List One) (d : List UInt8) : List One := match getL L d with
  | none => L
  | some x => if x.2 = 1 then delL L d else setL L d (x.2 - 1)
def OkOne (o : One) : Prop := o.d.length = 32 ∧ o.t.size ≤ 140737488355328 ∧ 1 ≤ o.n ∧ o.n ≤ 4294967295
structure OkL (L : List One) : Prop where
  all : ∀ o ∈ L, OkOne o
  one : L.Pairwise fun p q => p.d ≠ q.d
section
variable {L : List One} {d : List UInt8} {t : ByteArray} {most : Int}
theorem OkL.nil : OkL [] := ⟨by simp, by simp⟩
theorem asc_length (L : List One) : (asc L).length = L.length := by simp [asc]
theorem asc_get (L : List One) (d : List UInt8) : (asc L).get d = (getL L d).map fun x => held x.1 x.2 := by
  unfold Assoc.get asc getL
  rw [List.find?_map]
  have : ((fun p : List UInt8 × Value => p.1 == d) ∘ fun o : One => (o.d, held o.t o.n)) = fun o : One => o.d == d := rfl
  rw [this]
  cases L.find? (fun o => o.d == d) <;> rfl
theorem getL_mem : ∀ {L : List One}, L.Pairwise (fun p q => p.d ≠ q.d) → ∀ o ∈ L, getL L o.d = some (o.t, o.n)
  | [], _, _, h => by simp at h
  | x :: r, hp, o, h => by
    obtain ⟨h1, h2⟩ := List.pairwise_cons.1 hp
    rcases List.mem_cons.1 h with rfl | h
    · simp [getL]
    · have hne : (x.d == o.d) = false := by simpa using h1 o h
      have := getL_mem h2 o h
      unfold getL at this ⊢
      rw [List.find?_cons, hne]
      exact this
theorem getL_some {x : ByteArray × Int} (h : getL L d = some x) : ∃ o ∈ L, o.d = d ∧ x = (o.t, o.n) := by
  unfold getL at h
  obtain ⟨o, ho, rfl⟩ := Option.map_eq_some_iff.1 h
  exact ⟨o, List.mem_of_find?_eq_some ho, by simpa using List.find?_some ho, rfl⟩
theorem getL_none (h : getL L d = none) : ∀ o ∈ L, o.d ≠ d := by
  unfold getL at h
  rw [Option.map_eq_none_iff, List.find?_eq_none] at h
  intro o ho
  simpa using h o ho
theorem OkL.small (h : OkL L) : ∀ x, getL L d = some x → x.1.size ≤ 140737488355328 ∧ 0 ≤ x.2 ∧ x.2 ≤ 4294967295 := by
  intro x hx
  obtain ⟨o, ho, _, rfl⟩ := getL_some hx
  obtain ⟨_, h1, h2, h3⟩ := h.all o ho
  exact ⟨h1, by show 0 ≤ o.n; omega, h3⟩
theorem OkL.pos (h : OkL L) : ∀ x, getL L d = some x → 1 ≤ x.2 ∧ x.2 ≤ 4294967295 := by
  intro x hx
  obtain ⟨o, ho, _, rfl⟩ := getL_some hx
  obtain ⟨_, _, h2, h3⟩ := h.all o ho
  exact ⟨h2, h3⟩
theorem asc_set (hL : OkL L) {x : ByteArray × Int} (hx : getL L d = some x) (n : Int) : asc (setL L d n) = (asc L).put d (held x.1 n) := by
  unfold Assoc.put
  rw [asc_get, hx]
  simp only [Option.map_some, Option.isSome_some, if_true]
  unfold asc setL
  rw [List.map_map, List.map_map]
  refine List.map_congr_left fun o ho => ?_
  simp only [Function.comp]
  by_cases e : o.d = d
  · have h1 := getL_mem hL.one o ho
    rw [e, hx] at h1
    cases h1
    simp [e]
  · have hb : (o.d == d) = false := by simpa using e
    rw [hb]
    simp
theorem asc_del (L : List One) (d : List UInt8) : asc (delL L d) = (asc L).del d := by
  unfold asc delL Assoc.del
  rw [List.filter_map]
  rfl
theorem putK_some {m : Assoc} {x : ByteArray × Int} (h : putK m t (some x) most = 0) : x.1 = t ∧ x.2 < 4294967295 := by
  obtain ⟨t', n⟩ := x
  unfold putK at h
  simp only at h
  by_cases e : t'.data.toList = t.data.toList
  · rw [if_pos e] at h
    by_cases e2 : (4294967295 : Int) ≤ n
    · rw [if_pos e2] at h; omega
    · exact ⟨bytes_ext e, by show n < _; omega⟩
  · rw [if_neg e] at h; omega
theorem asc_put (hL : OkL L) : asc (putL L most t d) = putM (asc L) d t (getL L d) most := by
  unfold putL putM
  by_cases hk : putK (asc L) t (getL L d) most = 0
  · rw [if_pos hk, if_pos hk]
    cases hg : getL L d with
    | none =>
      simp only [Assoc.put, asc_get, hg]
      simp [asc]
    | some x =>
      rw [hg] at hk
      simp only
      rw [asc_set hL hg, (putK_some hk).1]
      rfl
  · rw [if_neg hk, if_neg hk]
theorem asc_drop (hL : OkL L) : asc (dropL L d) = dropM (asc L) d (getL L d) := by
  unfold dropL dropM
  cases hg : getL L d with
  | none => rfl
  | some x =>
    obtain ⟨t, n⟩ := x
    simp only
    by_cases h1 : n = 1
    · rw [if_pos h1, if_pos h1, asc_del]
    · rw [if_neg h1, if_neg h1, asc_set hL hg]
theorem okL_set (hL : OkL L) (d : List UInt8) {n : Int} (h1 : 1 ≤ n) (h2 : n ≤ 4294967295) : OkL (setL L d n) := by
  have hd : ∀ o : One, (if o.d == d then { o with n := n } else o : One).d = o.d := fun o => by split <;> rfl
  refine ⟨fun o ho => ?_, List.pairwise_map.2 (hL.one.imp (fun {p q} hpq => by rw [hd, hd]; exact hpq))⟩
  obtain ⟨p, hp, rfl⟩ := List.mem_map.1 ho
  obtain ⟨a1, a2, a3, a4⟩ := hL.all p hp
  split
  · exact ⟨a1, a2, h1, h2⟩
  · exact ⟨a1, a2, a3, a4⟩
theorem okL_put (hL : OkL L) (hd : d.length = 32) (ht : t.size ≤ 140737488355328) : OkL (putL L most t d) := by
  unfold putL
  by_cases hk : putK (asc L) t (getL L d) most = 0
  · rw [if_pos hk]
    cases hg : getL L d with
    | none =>
      simp only
      refine ⟨fun o ho => ?_, List.pairwise_append.2 ⟨hL.one, by simp, fun p hp q hq => ?_⟩⟩
      · rcases List.mem_append.1 ho with ho | ho
        · exact hL.all o ho
        · obtain rfl := List.mem_singleton.1 ho
          exact ⟨hd, ht, (by show (1 : Int) ≤ 1; omega), by show (1 : Int) ≤ 4294967295; omega⟩
      · obtain rfl := List.mem_singleton.1 hq
        exact getL_none hg p hp
    | some x =>
      rw [hg] at hk
      have h1 := hL.pos x hg
      have h2 := putK_some hk
      exact okL_set hL d (by omega) (by omega)
  · rw [if_neg hk]; exact hL
theorem okL_drop (hL : OkL L) (d : List UInt8) : OkL (dropL L d) := by
  unfold dropL
  cases hg : getL L d with
  | none => exact hL
  | some x =>
    have h1 := hL.pos x hg
    simp only
    split
    · exact ⟨fun o ho => hL.all o (List.mem_filter.1 ho).1, hL.one.filter _⟩
    · exact okL_set hL d (by omega) (by omega)
theorem putL_length (L : List One) (most : Int) (t : ByteArray) (d : List UInt8) : (putL L most t d).length ≤ L.length + 1 := by
  unfold putL
  split
  · cases getL L d with
    | none => simp
    | some x => simp [setL]
  · omega
theorem dropL_length (L : List One) (d : List UInt8) : (dropL L d).length ≤ L.length := by
  unfold dropL
  cases getL L d with
  | none => exact Nat.le_refl _
  | some x =>
    simp only
    split
    · exact List.length_filter_le _ _
    · simp [setL]
/-- where a digest stands -/
def atI (L : List One) (d : List UInt8) : Int := match L.findIdx? (·.d == d) with
  | none => -1
  | some k => (k : Int)
theorem atI_found {i : Nat} (hi : i < L.length) (h : L[i].d = d) (hb : ∀ j (hj : j < i), (L[j]'(by omega)).d ≠ d) : atI L d = i := by
  have : L.findIdx? (·.d == d) = some i := by
    rw [List.findIdx?_eq_some_iff_getElem]
    exact ⟨hi, by simpa using h, fun j hj => by simpa using hb j hj⟩
  unfold atI; rw [this]
theorem atI_none (h : ∀ j (hj : j < L.length), L[j].d ≠ d) : atI L d = -1 := by
  have : L.findIdx? (·.d == d) = none := by
    rw [List.findIdx?_eq_none_iff]
    intro o ho
    obtain ⟨j, hj, rfl⟩ := List.getElem_of_mem ho
    simpa using h j hj
  unfold atI; rw [this]
theorem atI_get (hp : L.Pairwise fun p q => p.d ≠ q.d) (d : List UInt8) : (getL L d = none ∧ atI L d = -1) ∨ ∃ (k : Nat) (hk : k < L.length), atI L d = k ∧ L[k].d = d ∧ getL L d = some (L[k].t, L[k].n) := by
  unfold atI
  cases h : L.findIdx? (·.d == d) with
  | none =>
    refine .inl ⟨?_, rfl⟩
    rw [List.findIdx?_eq_none_iff] at h
    unfold getL
    rw [Option.map_eq_none_iff, List.find?_eq_none]
    intro o ho
    rw [h o ho]; simp
  | some k =>
    obtain ⟨hk, h1, _⟩ := List.findIdx?_eq_some_iff_getElem.1 h
    have h1 : L[k].d = d := by simpa using h1
    refine .inr ⟨k, hk, rfl, h1, ?_⟩
    have := getL_mem hp _ (List.getElem_mem hk)
    rwa [h1] at this
/-- what 'with' lays anew -/
def keep (k : Nat) (n : Int) (x : One) (i : Nat) : List One := if 0 < (if i = k then n else x.n) then [{ x with n := if i = k then n else x.n }] else []
def withL (k : Nat) (n : Int) : Nat → List One → List One
  | _, [] => []
  | i, x :: r => keep k n x i ++ withL k n (i + 1) r
theorem withL_snoc (k : Nat) (n : Int) (x : One) : ∀ (l : List One) (i : Nat), withL k n i (l ++ [x]) = withL k n i l ++ keep k n x (i + l.length)
  | [], i => by simp [withL]
  | y :: r, i => by simp only [List.cons_append, withL, withL_snoc k n x r (i + 1), List.append_assoc, List.length_cons]; rw [Nat.add_comm r.length 1, Nat.add_assoc]
theorem withL_length (k : Nat) (n : Int) : ∀ (l : List One) (i : Nat), (withL k n i l).length ≤ l.length
  | [], i => by simp [withL]
  | y :: r, i => by
    have := withL_length k n r (i + 1)
    have h1 : (keep k n y i).length ≤ 1 := by
      unfold keep
      by_cases h : 0 < (if i = k then n else y.n)
      · rw [if_pos h]; exact Nat.le_refl _
      · rw [if_neg h]; exact Nat.zero_le _
    simp only [withL, List.length_append, List.length_cons]
    omega
theorem withL_gen (k : Nat) (n : Int) (hn : 0 ≤ n) (d : List UInt8) : ∀ (l : List One) (i : Nat), (∀ o ∈ l, 1 ≤ o.n) → (∀ j (hj : j < l.length), l[j].d = d ↔ i + j = k) →
    withL k n i l = if n = 0 then delL l d else setL l d n
  | [], i, _, _ => by simp [withL, delL, setL]
  | x :: r, i, h1, h2 => by
    have ih := withL_gen k n hn d r (i + 1) (fun o ho => h1 o (List.mem_cons_of_mem _ ho)) (fun j hj => by
      have := h2 (j + 1) (by simp; omega)
      simp only [List.getElem_cons_succ] at this
      rw [this]; omega)
    have hx := h1 x (by simp)
    have h0 := h2 0 (by simp)
    simp only [List.getElem_cons_zero, Nat.add_zero] at h0
    rw [withL, ih]
    unfold keep delL setL
    by_cases e : i = k
    · have hd := h0.2 e
      have hb : (x.d == d) = true := by simpa using hd
      by_cases hz : n = 0
      · subst hz; simp [e, hb]
      · have : 0 < n := by omega
        simp [e, hb, hz, this, hd]
    · have hd : ¬ x.d = d := fun h => e (h0.1 h)
      have hb : (x.d == d) = false := by simpa using hd
      have : 0 < x.n := by omega
      by_cases hz : n = 0
      · subst hz; simp [e, hb, this]
      · simp [e, hb, hz, this, hd]
theorem withL_eq (hL : OkL L) {k : Nat} (hk : k < L.length) {n : Int} (hn : 0 ≤ n) : withL k n 0 L = if n = 0 then delL L L[k].d else setL L L[k].d n := by
  refine withL_gen k n hn _ L 0 (fun o ho => (hL.all o ho).2.2.1) (fun j hj => ?_)
  rw [Nat.zero_add]
  refine ⟨fun h => ?_, fun h => by subst h; rfl⟩
  rcases Nat.lt_trichotomy j k with hl | hl | hl
  · exact absurd h (List.pairwise_iff_getElem.1 hL.one j k hj hk hl)
  · exact hl
  · exact absurd h.symm (List.pairwise_iff_getElem.1 hL.one k j hk hj hl)
end
/-! ### the digests in order -/
def srt (L : List One) : List (List UInt8) := (L.map (·.d)).mergeSort fun x y => decide (x ≤ y)
theorem cmp_lt : ∀ p q : List UInt8, Lib.compareBytes p q < 0 ↔ p < q
  | [], [] => by simp [Lib.compareBytes]
  | [], b :: rb => by simp [Lib.compareBytes]
  | a :: ra, [] => by simp [Lib.compareBytes]
  | a :: ra, b :: rb => by
    rw [List.cons_lt_cons_iff]
    unfold Lib.compareBytes
    by_cases h : a < b
    · simp [h]
    · by_cases h' : b < a
      · have : ¬ a = b := fun e => by subst e; exact absurd h' (by simp)
        simp [h, h', this]
      · have e : a = b := UInt8.le_antisymm (UInt8.not_lt.1 h') (UInt8.not_lt.1 h)
        subst e
        simp [cmp_lt ra rb]
theorem le_total_list (x y : List UInt8) : x ≤ y ∨ y ≤ x := List.le_total x y
theorem srt_eq {L : List One} {out : List (List UInt8)} (h1 : out.Pairwise (· < ·)) (h2 : out.Perm (L.map (·.d))) : out = srt L := by
  have hs : (srt L).Pairwise fun x y => decide (x ≤ y) = true :=
    List.pairwise_mergeSort (fun a b c h1 h2 => by simp only [decide_eq_true_eq] at *; exact List.le_trans h1 h2) (fun a b => by simpa using List.le_total a b) _
  refine List.Perm.eq_of_pairwise (le := fun x y => decide (x ≤ y) = true) (fun a b _ _ h1 h2 => List.le_antisymm (by simpa using h1) (by simpa using h2)) (h1.imp fun h => by simpa using List.le_of_lt h) hs (h2.trans (List.mergeSort_perm _ _).symm)
/-- a search for the least one that is left, begun -/
structure Sel (ds out : List (List UInt8)) : Prop where
  up : out.Pairwise (· < ·)
  sub : ∀ x ∈ out, x ∈ ds
  low : ∀ y ∈ ds, y ∉ out → ∀ x ∈ out, x < y
theorem Sel.start (ds : List (List UInt8)) : Sel ds [] := ⟨by simp, by simp, by simp⟩
theorem Sel.nodup {ds out : List (List UInt8)} (h : Sel ds out) : out.Nodup := h.up.imp fun {a b} hab e => by subst e; exact List.lt_irrefl _ hab
theorem Sel.left {ds out : List (List UInt8)} (h : Sel ds out) (hl : out.length < ds.length) (hd : ds.Nodup) : ∃ y ∈ ds, y ∉ out := by
  refine Classical.byContradiction fun hn => ?_
  have : ∀ y ∈ ds, y ∈ out := fun y hy => Classical.byContradiction fun hy' => hn ⟨y, hy, hy'⟩
  have := List.Nodup.length_le_of_subset hd (fun y hy => this y hy)
  omega
theorem Sel.next {ds out : List (List UInt8)} (h : Sel ds out) {y : List UInt8} (hy : y ∈ ds) (hn : y ∉ out) (hm : ∀ z ∈ ds, z ∉ out → ¬ z < y) : Sel ds (out ++ [y]) := by
  refine ⟨List.pairwise_append.2 ⟨h.up, by simp, fun a ha b hb => ?_⟩, fun x hx => ?_, fun z hz hzn x hx => ?_⟩
  · obtain rfl := List.mem_singleton.1 hb
    exact h.low _ hy hn a ha
  · rcases List.mem_append.1 hx with hx | hx
    · exact h.sub x hx
    · obtain rfl := List.mem_singleton.1 hx; exact hy
  · simp only [List.mem_append, List.mem_singleton, not_or] at hzn
    rcases List.mem_append.1 hx with hx | hx
    · exact h.low z hz hzn.1 x hx
    · obtain rfl := List.mem_singleton.1 hx
      rcases List.le_total z x with hle | hle
      · exact absurd ((List.le_iff_lt_or_eq.1 hle).resolve_right hzn.2) (hm z hz hzn.1)
      · exact (List.le_iff_lt_or_eq.1 hle).resolve_right (fun e => hzn.2 e.symm)
theorem Sel.done {L : List One} {out : List (List UInt8)} (h : Sel (L.map (·.d)) out) (hd : (L.map (·.d)).Nodup) (hl : L.length ≤ out.length) : out = srt L := by
  refine srt_eq h.up ?_
  refine (List.perm_ext_iff_of_nodup h.nodup hd).2 fun y => ⟨h.sub y, fun hy => Classical.byContradiction fun hn => ?_⟩
  have h1 : (y :: out).length ≤ (L.map (·.d)).length := List.Nodup.length_le_of_subset (List.nodup_cons.2 ⟨hn, h.nodup⟩) (fun z hz => by
    rcases List.mem_cons.1 hz with rfl | hz
    · exact hy
    · exact h.sub z hz)
  simp only [List.length_cons, List.length_map] at h1
  omega
/-- 'behind': all that came are less -/
theorem Sel.behind {ds out : List (List UInt8)} (h : Sel ds out) {y : List UInt8} (hy : y ∈ ds) : y ∉ out ↔ (out = [] ∨ ∃ x, out.getLast? = some x ∧ x < y) := by
  constructor
  · intro hn
    cases hl : out.getLast? with
    | none => exact .inl (List.getLast?_eq_none_iff.1 hl)
    | some x => exact .inr ⟨x, rfl, h.low y hy hn x (List.mem_of_getLast? hl)⟩
  · rintro (e | ⟨x, hx, hlt⟩) hm
    · subst e; simp at hm
    · obtain ⟨r, rfl⟩ := List.getLast?_eq_some_iff.1 hx
      rcases List.mem_append.1 hm with hm | hm
      · have := (List.pairwise_append.1 h.up).2.2 y hm x (by simp)
        exact List.lt_irrefl _ (List.lt_trans this hlt)
      · obtain rfl := List.mem_singleton.1 hm
        exact List.lt_irrefl _ hlt
end Go.Proofs.Ytioanppnkhiokaa

/-
  The reference's store in memory; pergolaref06.At.
-/
namespace Go.Proofs.Ytioanppnkhiokaa
open Go.RowKit

def oneRow (o : One) : List Value := bv o.d ++ [.string o.t, .int .i64 o.n]
def rows (L : List One) : List Value := (L.map oneRow).flatten
theorem oneRow_length {o : One} (h : o.d.length = 32) : (oneRow o).length = 34 := by simp [oneRow, bv_length, h]
theorem rows_append (L M : List One) : rows (L ++ M) = rows L ++ rows M := by simp [rows]
theorem rows_one (o : One) : rows [o] = oneRow o := by simp [rows]
theorem rows_length : ∀ {L : List One}, (∀ o ∈ L, o.d.length = 32) → (rows L).length = L.length * 34
  | [], _ => rfl
  | x :: r, h => by
    have h1 := oneRow_length (h x (by simp))
    have h2 := rows_length (L := r) fun o ho => h o (List.mem_cons_of_mem _ ho)
    simp only [rows, List.map_cons, List.flatten_cons, List.length_append, List.length_cons] at *
    omega
theorem rows_at : ∀ {L : List One}, (∀ o ∈ L, o.d.length = 32) → ∀ (k : Nat) (hk : k < L.length) (j : Nat), j < 34 → (rows L)[k * 34 + j]? = (oneRow L[k])[j]?
  | [], _, k, hk, _, _ => by simp at hk
  | x :: r, h, 0, _, j, hj => by
    have h1 := oneRow_length (h x (by simp))
    simp only [rows, List.map_cons, List.flatten_cons, List.getElem_cons_zero, Nat.zero_mul, Nat.zero_add]
    rw [List.getElem?_append_left (by omega)]
  | x :: r, h, k + 1, hk, j, hj => by
    have h1 := oneRow_length (h x (by simp))
    have h2 := rows_at (L := r) (fun o ho => h o (List.mem_cons_of_mem _ ho)) k (by simpa using hk) j hj
    simp only [rows, List.map_cons, List.flatten_cons, List.getElem_cons_succ] at *
    rw [List.getElem?_append_right (by omega), ← h2]
    congr 1
    omega
theorem rows_one_cell : ∀ (L : List One), ∀ u ∈ rows L, u.oneCell' = true := by
  intro L u hu
  simp only [rows, List.mem_flatten, List.mem_map] at hu
  obtain ⟨_, ⟨o, _, rfl⟩, hu⟩ := hu
  simp only [oneRow, List.mem_append, List.mem_cons, List.mem_singleton, List.not_mem_nil, or_false] at hu
  rcases hu with hu | rfl | rfl
  · exact bv_one _ u hu
  · rfl
  · rfl
structure RefIs (w : World) (B : Nat) (L : List One) (A : Option Addr) (n c : Nat) : Prop where
  len : n = L.length
  cap : n ≤ c
  lim : c ≤ maxLen
  ds : ∀ o ∈ L, o.d.length = 32
  rd : Reads w B 34 A n (rows L)
section
variable {w w' : World} {B B' : Nat} {L : List One} {A : Option Addr} {n c : Nat}
theorem RefIs.nil (w : World) (B : Nat) : RefIs w B [] none 0 0 := ⟨rfl, Nat.le_refl _, Nat.zero_le _, by simp, Reads.none_⟩
theorem RefIs.below (h : RefIs w B L A n c) (hb : Below B w w') : RefIs w' B L A n c := ⟨h.len, h.cap, h.lim, h.ds, h.rd.below hb⟩
theorem RefIs.more (h : RefIs w B L A n c) (hB : B ≤ B') : RefIs w B' L A n c := ⟨h.len, h.cap, h.lim, h.ds, h.rd.more hB⟩
/-- the k-th row, cell by cell -/
theorem RefIs.row (h : RefIs w B L A n c) (k : Nat) (hk : k < L.length) : ∃ g o, A = some ⟨g, o, none⟩ ∧ g < B ∧ w.rangeAt g (o + k * 34) (oneRow L[k]) := by
  obtain ⟨h1, h2⟩ := h.rd
  have hl := h.len
  obtain ⟨g, o, e, hg, hc⟩ := h2 (by omega)
  refine ⟨g, o, e, hg, fun j u hu => ?_⟩
  have hj : j < 34 := by
    have := (List.getElem?_eq_some_iff.1 hu).1
    rwa [oneRow_length (h.ds _ (List.getElem_mem hk))] at this
  rw [Nat.add_assoc]
  refine hc _ _ ?_
  rw [rows_at h.ds k hk j hj]
  exact hu
end
theorem oneRow_dig {w : World} {g o : Nat} {x : One} (h : w.rangeAt g o (oneRow x)) : w.rangeAt g o (bv x.d) := fun j u hu => h j u (by
  rw [oneRow, List.getElem?_append_left (List.getElem?_eq_some_iff.1 hu).1]; exact hu)
theorem oneRow_txt {w : World} {g o : Nat} {x : One} (h : w.rangeAt g o (oneRow x)) (hd : x.d.length = 32) : w.cell? ⟨g, o + 32, none⟩ = some (.string x.t) := h 32 _ (by
  rw [oneRow, List.getElem?_append_right (by rw [bv_length]; omega), bv_length, hd]; rfl)
theorem oneRow_num {w : World} {g o : Nat} {x : One} (h : w.rangeAt g o (oneRow x)) (hd : x.d.length = 32) : w.cell? ⟨g, o + 33, none⟩ = some (.int .i64 x.n) := h 33 _ (by
  rw [oneRow, List.getElem?_append_right (by rw [bv_length]; omega), bv_length, hd]; rfl)
/-- the store's and the digest's boxes -/
structure AtI (w : World) (most : Int) (L : List One) (A : Option Addr) (n c : Nat) (d : List UInt8) (W : World) : Prop where
  b1 : Blk W w.heap.size 45 #[.int .i64 most, .slice A n c]
  b2 : Blk W (w.heap.size + 1) 30 (row32 d)
  r : RefIs W w.heap.size L A n c
  bel : Below w.heap.size w W
section
variable {w W : World} {most : Int} {L : List One} {A : Option Addr} {n c : Nat} {d : List UInt8}
theorem AtI.drew (h : AtI w most L A n c d W) : AtI w most L A n c d W.drew := ⟨h.b1.drew, h.b2.drew, h.r.below (Below.refl _ _).drew, h.bel.drew⟩
end
set_option maxRecDepth 100000 in
set_option maxHeartbeats 1000000 in
theorem ref_At (most : Int) (L : List One) (A : Option Addr) (n c : Nat) (d : List UInt8) (w : World) (h : RefIs w w.heap.size L A n c) (hd : d.length = 32) :
    Calls Try.prog 21 #[.agg #[.int .i64 most, .slice A n c], .agg (row32 d)] w fun e w' => e = .returned (.int .i64 (atI L d)) ∧ Below w.heap.size w w' := by
  have hn63 : (n : Int) ≤ 9223372036854775807 := by have := h.cap; have := h.lim; unfold maxLen at this; omega
  have hlen := Lib.hid h.len
  have hsz := row32_size hd
  have HA := Lib.hid (show AtI w most L A n c d ((w.alloc (.cells #[.int .i64 most, .slice A n c] 45)).alloc (.cells (row32 d) 30)) from
    have hb := ((Below.refl w.heap.size w).alloc (Nat.le_refl _) (.cells #[.int .i64 most, .slice A n c] 45)).alloc (by simp) (.cells (row32 d) 30)
    ⟨(Blk.new _ _ _).alloc _, Blk.new' (by simp), h.below hb, hb⟩)
  clear h
  go_enter Try.func21, Try.ntmps21
  go_wp2_with fail
  refine code_at _ HA.out ?_
  clear HA
  intro w1 ha
  go_loopw [5] (fun i wr => ∃ k : Nat, k ≤ n ∧ i = .int .i64 k ∧ AtI w most L A n c d wr ∧ ∀ j (hj : j < L.length), j < k → L[j].d ≠ d) (fun i _ => n - (intOf i).toNat)
  case atStart => exact ⟨0, Nat.zero_le _, rfl, ha, fun j _ hj => absurd hj (Nat.not_lt_zero _)⟩
  case round =>
    clear ha
    obtain ⟨k, hk, rfl, ha, hb⟩ := hrel
    replace hb := Lib.hid hb
    have c1 : wr.cell? ⟨w.heap.size, 1, none⟩ = some (.slice A n c) := ha.b1.cell 1
    by_cases hlt : k < n
    · have hlt' : (k : Int) < n := by omega
      have hkl : k < L.length := by have := hlen.out; omega
      obtain ⟨g, o, rfl, hg, hr⟩ := ha.r.row k hkl
      have hdl := ha.r.ds _ (List.getElem_mem hkl)
      replace ha := Lib.hid ha
      clear hr
      go_wp2_with fail
      refine wp_region_held_drew (S := (AtI w most L (some ⟨g, o, none⟩) n c d)) (by kernel_rfl) (by exact ha.out.drew) (fun hS => ?_)
      (refine hTake (i := 0) (v := ?v1) rfl (by kernel_rfl) (by kernel_rfl) (by kernel_rfl) (fun _ _ _ h => h) (Or.inl ⟨by rfl, ?y1⟩) hS ?r1; (case y1 => (intro W hW; (go_simp); (try with_reducible rfl); done)); try simp only [Act.put, List.setIfInBounds_toArray, List.set_cons_zero, List.set_cons_succ])
      (refine hTake (i := 1) (v := ?v2) rfl (by kernel_rfl) (by kernel_rfl) (by kernel_rfl) (fun _ _ _ h => h) (Or.inl ⟨by rfl, ?y2⟩) hS ?r2; (case y2 => (intro W hW; ((have g := hW.b1.cell 1; simp at g; go_simp)); (try with_reducible rfl); done)); try simp only [Act.put, List.setIfInBounds_toArray, List.set_cons_zero, List.set_cons_succ])
      (refine hTake (i := 2) (v := ?v3) rfl (by kernel_rfl) (by kernel_rfl) (by kernel_rfl) (fun _ _ _ h => h) (Or.inl ⟨by rfl, ?y3⟩) hS ?r3; (case y3 => (intro W hW; (go_simp); (try with_reducible rfl); done)); try simp only [Act.put, List.setIfInBounds_toArray, List.set_cons_zero, List.set_cons_succ])
      (refine hTake (i := 3) (v := ?v4) rfl (by kernel_rfl) (by kernel_rfl) (by kernel_rfl) (fun _ _ _ h => h) (Or.inl ⟨by rfl, ?y4⟩) hS ?r4; (case y4 => (intro W hW; (go_simp); (try with_reducible rfl); done)); try simp only [Act.put, List.setIfInBounds_toArray, List.set_cons_zero, List.set_cons_succ])
      (refine hTake (i := 4) (v := ?v5) rfl (by kernel_rfl) (by kernel_rfl) (by kernel_rfl) (fun _ _ _ h => h) (Or.inl ⟨by rfl, ?y5⟩) hS ?r5; (case y5 => (intro W hW; (go_simp); (try with_reducible rfl); done)); try simp only [Act.put, List.setIfInBounds_toArray, List.set_cons_zero, List.set_cons_succ])
      (refine hTake (i := 5) rfl (by kernel_rfl) (by kernel_rfl) (by kernel_rfl) (fun _ _ _ h => h) (yieldsIf_load_mid (by rfl) _ _ rfl _ _ rfl (bv L[k].d) _ (fun W hW => (by obtain ⟨g', o', e, _, hr⟩ := hW.r.row k hkl; cases e; exact oneRow_dig hr)) Try.underlying30 rfl (by rw [bv_length, hdl]; exact info_digest)) hS ?_; try simp only [Act.put, List.setIfInBounds_toArray, List.set_cons_zero, List.set_cons_succ])
      (refine hTake (i := 6) rfl (by kernel_rfl) (by kernel_rfl) (by kernel_rfl) (fun _ _ _ h => h) (yieldsIf_load_mid (by rfl) _ _ rfl _ _ rfl (bv d) _ (fun W hW => (hW.b2.range)) Try.underlying30 rfl (by rw [bv_length, hd]; exact info_digest)) hS ?_; try simp only [Act.put, List.setIfInBounds_toArray, List.set_cons_zero, List.set_cons_succ])
      (refine hTake (i := 7) (v := ?v6) rfl (by kernel_rfl) (by kernel_rfl) (by kernel_rfl) (fun _ _ _ h => h) (Or.inl ⟨by rfl, ?y6⟩) hS ?r6; (case y6 => (intro W hW; ((have g : ∀ w, (binOp .eql 30 (.agg (bv L[k].d).toArray) (.agg (bv d).toArray)).run Try.prog w = .ok (.bool (decide (L[k].d = d))) w := fun w => run_eql_dig _ _ hdl hd w; go_simp)); (try with_reducible rfl); done)); try simp only [Act.put, List.setIfInBounds_toArray, List.set_cons_zero, List.set_cons_succ])
      refine wpAnyH_done (by kernel_rfl) ?_ _
      replace hS := Lib.hid hS
      by_cases he : L[k].d = d
      · have hq := decide_eq_true he
        replace he := Lib.hid he
        go_wp2_with fail
        go_ret
        exact ⟨by rw [atI_found hkl he.out (fun j hj => hb.out j (by omega) hj)]; rfl, hS.out.bel⟩
      · have hq := decide_eq_false he
        replace he := Lib.hid he
        go_wp2_with fail
        refine ⟨⟨k + 1, by omega, by go_num, hS.out, fun j hj hjk => ?_⟩, by simp [intOf]; omega⟩
        rcases Nat.lt_or_ge j k with hl | hl
        · exact hb.out j hj hl
        · obtain rfl : j = k := by omega
          exact he.out
    · obtain rfl : k = n := by omega
      have hlt' : ¬ (k : Int) < k := by omega
      replace ha := Lib.hid ha
      go_wp2_with fail
      go_ret
      exact ⟨by rw [atI_none fun j hj => hb.out j hj (by have := hlen.out; omega)]; rfl, ha.out.bel⟩
end Go.Proofs.Ytioanppnkhiokaa

/-
  pergolaref06.with.
-/
namespace Go.Proofs.Ytioanppnkhiokaa
open Go.RowKit

theorem list_fold_set (off : Nat) : ∀ (l : List Value) (k : Nat) (cs : Array Value), off + k + l.length ≤ cs.size →
    (l.zipIdx k).foldl (fun (cs : Array Value) (p : Value × Nat) => cs.setIfInBounds (off + p.2) p.1) cs = (cs.toList.take (off + k) ++ l ++ cs.toList.drop (off + k + l.length)).toArray
  | [], k, cs, _ => by simp
  | v :: l, k, cs, h => by
    rw [List.zipIdx_cons, List.foldl_cons, list_fold_set off l (k + 1) _ (by simp at h ⊢; omega)]
    simp only [List.length_cons] at h
    apply Array.ext'
    simp only [Array.toList_setIfInBounds]
    apply List.ext_getElem?
    intro i
    simp only [List.append_assoc, List.getElem?_append, List.getElem?_drop, List.getElem?_take, List.length_append, List.length_take, List.length_set, List.getElem?_set, List.length_cons, List.getElem?_cons, Array.length_toList]
    have hk : min (off + (k + 1)) cs.size = off + k + 1 := by omega
    have hk2 : min (off + k) cs.size = off + k := by omega
    rw [hk, hk2]
    by_cases h1 : i < off + k
    · rw [if_pos (by omega), if_pos (by omega), if_pos h1, if_pos h1]
      rw [if_neg (by omega)]
    · by_cases h2 : i = off + k
      · subst h2
        rw [if_pos (by omega), if_pos (by omega), if_neg h1]
        simp
        omega
      · rw [if_neg (by omega), if_neg h1]
        by_cases h3 : i < off + k + 1 + l.length
        · rw [if_pos (by omega), if_pos (by omega), if_neg (by omega)]
          congr 1 <;> omega
        · rw [if_neg (by omega), if_neg (by omega), if_neg (by omega)]
          congr 1 <;> omega
theorem fold_set (v : Value) (l : List Value) (hv : v.cells.toList = l) (off : Nat) (cs : Array Value) (h : off + l.length ≤ cs.size) :
    (v.cells.zipIdx.foldl (fun (cs : Array Value) (p : Value × Nat) => cs.setIfInBounds (off + p.2) p.1) cs) = (cs.toList.take off ++ l ++ cs.toList.drop (off + l.length)).toArray := by
  rw [← Array.foldl_toList, Array.toList_zipIdx, hv]
  exact list_fold_set off l 0 cs (by simpa using h)
theorem wpList_built {P : Program} {ops : Array Oper} {rest : List Oper} {o : Oper} {a : Act} {w : World} {Q : Exit → Act → World → Prop} (hg : o.guard = none) (t : TypeId) (parts : Array (Nat × Operand)) (ho : o.op = .build t parts) (cells : Array Value)
    (hb : P.built t (parts.map fun (i, x) => (i, a.eval x)).toList = some cells)
    (h : wpList P ops Q rest (a.put o.dst (.agg cells)) w) : wpList P ops Q (o :: rest) a w :=
  wpList_build hg t parts ho (by rw [hb]; rfl) (by rw [hb]; exact h)
theorem wpList_wanted {P : Program} {ops : Array Oper} {Q : Exit → Act → World → Prop} {a : Act} {w : World} {rest : List Oper} {o : Oper} (hw : Region.wanted o (yielded ops a.tmps) = true)
    (h : ∀ K : Act → World → Prop, (∀ a w, wpList P ops Q rest a w → K a w) → o.wp P a w K Q) : wpList P ops Q (o :: rest) a w :=
  wpList_step fun K hK => by rw [if_pos hw]; exact h K hK
theorem wpList_mid_g {P : Program} {ops : Array Oper} {rest : List Oper} {op : Oper} {a : Act} {w : World} {Q : Exit → Act → World → Prop} (hw : Region.wanted op (yielded ops a.tmps) = true) (ty : TypeId) (x : Operand) (ho : op.op = .load ty x)
    (b o : Nat) (hx : a.eval x = .pointer (some ⟨b, o, none⟩)) (cs : List Value) (d : TypeDesc) (hc : w.rangeAt b o cs)
    (hu : P.underlying ty = some d) (hd : d.isRow = true) (hi : (P.info? ty).map (·.size) = some cs.length)
    (h : wpList P ops Q rest (a.put op.dst (.agg cs.toArray)) w) : wpList P ops Q (op :: rest) a w :=
  wpList_wanted hw fun _ hK => wp_load_mid ty x ho b o hx cs d hc hu hd hi (hK _ _ h)
theorem ops_at {P : Program} {ops : Array Oper} {Q : Exit → Act → World → Prop} {rest : List Oper} {w : World} {a : Act} (I : World → Prop) (hI : I w) (h : ∀ w2, I w2 → wpList P ops Q rest a w2) : wpList P ops Q rest a w := h w hI
def oneArr (o : One) : Array Value := (oneRow o).toArray
def one0 : One := ⟨zero32, ⟨#[]⟩, 0⟩
theorem oneArr_size {o : One} (h : o.d.length = 32) : (oneArr o).size = 34 := by simp [oneArr, oneRow_length h]
theorem oneArr_one (o : One) : (oneArr o).all (·.oneCell') = true := Array.all_eq_true_iff_forall_mem.2 fun v hv => rows_one_cell [o] v (by rw [rows_one]; simpa [oneArr] using hv)
theorem info_one : (Try.prog.info? 59).map (fun i => (i.zero, i.size, i.bytes)) = some (some (.agg (oneArr one0)), 34, 56) := by kernel_rfl
theorem info_one1 : (Try.prog.info? 59).map (·.size) = some 34 := by kernel_rfl
theorem info_sto : (Try.prog.info? 45).map (·.size) = some 2 := by kernel_rfl
theorem oneArr_set {o : One} (h : o.d.length = 32) (n : Int) : (oneArr o).setIfInBounds 33 (.int .i64 n) = oneArr { o with n := n } := by
  apply Array.ext'
  rw [Array.toList_setIfInBounds]
  simp only [oneArr, oneRow]
  rw [List.set_append_right _ _ (by rw [bv_length]; omega), bv_length, h]
  rfl
theorem Blk.rangeOf {w : World} {g : Nat} {t : TypeId} {o : One} (h : Blk w g t (oneArr o)) : w.rangeAt g 0 (oneRow o) := fun j v hv => by
  rw [Nat.zero_add, h.cell j, ← Array.getElem?_toList]
  exact hv
/-- a list of things that is appended to -/
structure OnL (B : Nat) (w : World) (A : Option Addr) (m c : Nat) (L : List One) : Prop where
  own : w.ownsRow B 59 34 (.slice A m c) m (rows L)
  len : m = L.length
  ds : ∀ o ∈ L, o.d.length = 32
section
variable {B m c : Nat} {w w' : World} {A : Option Addr} {L : List One}
theorem OnL.start : OnL B w none 0 0 [] := ⟨World.ownsRow_nil _ _ _ _, rfl, by simp⟩
theorem OnL.below (h : OnL B w A m c L) (hb : Below w.heap.size w w') : OnL B w' A m c L := by
  refine ⟨h.own.kept (row := none) ⟨hb.os, hb.tape, hb.output, hb.size, fun k hk _ => hb.block k hk⟩ ?_, h.len, h.ds⟩
  cases e : (Value.slice A m c).ownBlock with
  | none => exact .inl rfl
  | some q => exact .inr (by simp)
theorem OnL.far (h : OnL B w A m c L) {g : Nat} (hg : w.grownBy w' (some g)) (hne : (Value.slice A m c).ownBlock ≠ some g) : OnL B w' A m c L := by
  refine ⟨h.own.kept hg ?_, h.len, h.ds⟩
  cases e : (Value.slice A m c).ownBlock with
  | none => exact .inl rfl
  | some q => exact .inr (by rw [← e]; exact hne)
theorem OnL.ref (h : OnL B w A m c L) : RefIs w w.heap.size L A m c := by
  have ho := Own.of_row h.own
  exact ⟨h.len, ho.cap, ho.lim, h.ds, ho.reads⟩
/-- '[]One{x}' -/
theorem wpList_build_one {ops : Array Oper} {rest : List Oper} {o : Oper} {a : Act} {Q : Exit → Act → World → Prop} (hg : o.guard = none) (parts : Array (Nat × Operand)) (ho : o.op = .buildSlice 43 1 parts)
    (x : One) (hd : x.d.length = 32) (hp : parts.toList.map (fun (i, y) => (i, a.eval y)) = [(0, .agg (oneArr x))])
    (h : wpList Try.prog ops Q rest (a.put o.dst (.slice (some ⟨w.heap.size, 0, none⟩) 1 1)) (w.alloc (.cells (oneArr x) 59))) : wpList Try.prog ops Q (o :: rest) a w := by
  obtain ⟨i0, hi, hz0, hz1, hz2⟩ := info_parts info_one
  refine wpList_buildSlice hg 43 59 1 parts ho (oneArr x) i0 (.agg (oneArr one0)) Try.underlying43 hi hz0 (by rw [hz1]; decide) (by rw [hz1]; decide) ?_ h
  rw [Array.toList_map, hp, hz1]
  have hl : (oneArr x).toList.length = 34 := by rw [Array.length_toList, oneArr_size hd]
  have hc0 : ((Array.range (1 * 34)).map ((Value.agg (oneArr one0)).cells[· % (Value.agg (oneArr one0)).cells.size]!)).size = 34 := by simp
  generalize (Array.range (1 * 34)).map ((Value.agg (oneArr one0)).cells[· % (Value.agg (oneArr one0)).cells.size]!) = cs0 at *
  have hf := fold_set (.agg (oneArr x)) (oneArr x).toList rfl 0 cs0 (by rw [hl, hc0]; omega)
  unfold Instr.fill
  rw [show (some (0 * 34, 34) : Option (Nat × Nat)) = some (0, 34) from rfl]
  simp only
  rw [if_neg (by
    show ¬ ((decide ((oneArr x).size ≠ 34) || decide (0 + (oneArr x).size > cs0.size)) = true)
    rw [oneArr_size hd, hc0]; decide)]
  unfold Instr.fill
  have e : (cs0.toList.take 0 ++ (oneArr x).toList ++ cs0.toList.drop (0 + (oneArr x).toList.length)).toArray = oneArr x := by
    have : cs0.toList.drop (0 + 34) = [] := List.drop_eq_nil_of_le (by rw [Array.length_toList, hc0]; omega)
    rw [hl, this, List.take_zero, List.nil_append, List.append_nil, Array.toArray_toList]
  rw [hf, e]
/-- 'x = append(x, rows ..)' -/
theorem wpList_append_ones {ops : Array Oper} {rest : List Oper} {o : Oper} {a : Act} {Q : Exit → Act → World → Prop} {B2 n2 c2 : Nat} {A2 : Option Addr} {M : List One} (hgd : o.guard = none) (s y : Operand)
    (ho : o.op = .call { callee := .builtin .append, args := #[s, y], argTypes := #[43, 43] })
    (h : OnL B w A m c L) (hB : B ≤ w.heap.size) (hs : a.eval s = .slice A m c) (hx : a.eval y = .slice A2 n2 c2) (hM : RefIs w B2 M A2 n2 c2)
    (hlim : (m + n2) * 56 ≤ 140737488355328)
    (H : ∀ A' c' w', OnL B w' A' (m + n2) c' (L ++ M) → w.grownBy w' (Value.slice A m c).ownBlock → ((Value.slice A' (m + n2) c').ownBlock = (Value.slice A m c).ownBlock ∨ (∃ q, (Value.slice A' (m + n2) c').ownBlock = some q ∧ w.heap.size ≤ q)) → wpList Try.prog ops Q rest (a.put o.dst (.slice A' (m + n2) c')) w') : wpList Try.prog ops Q (o :: rest) a w := by
  obtain ⟨i0, hi, hz0, hz1, hz2⟩ := info_parts info_one
  refine wpList_append_any w hgd s y 43 ho B 59 i0 (.agg (oneArr one0)) 34 56 Try.underlying43 hi hz0 hz1 hz2 (by kernel_rfl) (by omega) (.slice A m c) m (rows L) hs h.own B2 A2 n2 c2 (rows M) hx hM.rd (rows_one_cell M) (by unfold maxLen; omega) hlim hB ?_
  intro v' w' hown hg hob
  rw [← rows_append] at hown
  have hds : ∀ o ∈ L ++ M, o.d.length = 32 := fun o ho => (List.mem_append.1 ho).elim (h.ds o) (hM.ds o)
  have hlen : m + n2 = (L ++ M).length := by rw [List.length_append, ← h.len, ← hM.len]
  obtain ⟨A', c', rfl⟩ : ∃ A' c', v' = .slice A' (m + n2) c' := by
    rcases hown.2 with ⟨rfl, h0⟩ | ⟨g, cap, cur, rfl, _⟩
    · exact ⟨none, 0, by rw [h0]⟩
    · exact ⟨_, _, rfl⟩
  exact H A' c' w' ⟨hown, hlen, hds⟩ hg (hob.imp id fun e => ⟨_, e, Nat.le_refl _⟩)
end
theorem ref_one (w : World) (x : One) (hd : x.d.length = 32) : RefIs (w.alloc (.cells (oneArr x) 59)) (w.heap.size + 1) [x] (some ⟨w.heap.size, 0, none⟩) 1 1 := by
  refine ⟨rfl, Nat.le_refl _, by unfold maxLen; omega, by simpa using hd, ⟨by rw [rows_one, oneRow_length hd], fun _ => ⟨w.heap.size, 0, rfl, Nat.lt_succ_self _, fun j u hu => ?_⟩⟩⟩
  rw [rows_one] at hu
  exact (Blk.new w _ (oneArr x)).rangeOf j u hu
/-- in the midst of with -/
structure WiI (w : World) (most : Int) (L : List One) (A : Option Addr) (n c : Nat) (L' : List One) (A' : Option Addr) (m' c' : Nat) (W : World) : Prop where
  s : Blk W w.heap.size 45 #[.int .i64 most, .slice A n c]
  z : Blk W (w.heap.size + 1) 45 #[.int .i64 0, .slice none 0 0]
  t : Blk W (w.heap.size + 2) 45 #[.int .i64 most, .slice A' m' c']
  o : OnL (w.heap.size + 3) W A' m' c' L'
  r : RefIs W w.heap.size L A n c
  bel : Below w.heap.size w W
  sz : w.heap.size + 3 ≤ W.heap.size
section
variable {w W W' : World} {most : Int} {L L' : List One} {A A' : Option Addr} {n c m' c' : Nat}
theorem WiI.step (h : WiI w most L A n c L' A' m' c' W) (hb : Below W.heap.size W W') : WiI w most L A n c L' A' m' c' W' :=
  ⟨h.s.below hb h.s.lt, h.z.below hb h.z.lt, h.t.below hb h.t.lt, h.o.below hb, h.r.below (hb.mono h.bel.size), h.bel.trans (hb.mono h.bel.size), Nat.le_trans h.sz hb.size⟩
/-- .. and the next thing in a block of its own -/
structure WiO (w : World) (most : Int) (L : List One) (A : Option Addr) (n c : Nat) (L' : List One) (A' : Option Addr) (m' c' : Nat) (Y : Nat) (x : One) (W : World) : Prop where
  wi : WiI w most L A n c L' A' m' c' W
  y : Blk W Y 59 (oneArr x)
  ne : (Value.slice A' m' c').ownBlock ≠ some Y
  yl : w.heap.size + 3 ≤ Y
theorem wiO_stored (h : WiI w most L A n c L' A' m' c' W) (x : One) (cs : Array Value) : WiO w most L A n c L' A' m' c' W.heap.size x ((W.alloc (.cells cs 59)).setRow W.heap.size (oneArr x)) := by
  have hb : Below W.heap.size W ((W.alloc (.cells cs 59)).setRow W.heap.size (oneArr x)) := below_row ((Below.refl _ _).alloc (Nat.le_refl _) _) (Nat.le_refl _) _
  refine ⟨h.step hb, (Blk.new W _ _).row _, fun e => ?_, h.sz⟩
  have := (h.o.own.lt _ e).2
  omega
theorem WiO.set_ {Y : Nat} {x : One} (h : WiO w most L A n c L' A' m' c' Y x W) (hd : x.d.length = 32) (k : Int) : WiO w most L A n c L' A' m' c' Y { x with n := k } (W.setCell ⟨Y, 33, none⟩ (.int .i64 k)) := by
  have hy := h.yl
  refine ⟨⟨h.wi.s.far (by show w.heap.size ≠ Y; omega) _, h.wi.z.far (by show w.heap.size + 1 ≠ Y; omega) _, h.wi.t.far (by show w.heap.size + 2 ≠ Y; omega) _, h.wi.o.far (grown_set (World.grownBy.refl W _)) h.ne, ?_, h.wi.bel.setCell (by show w.heap.size ≤ Y; omega) _, by rw [size_set]; exact h.wi.sz⟩, ?_, h.ne, hy⟩
  · exact h.wi.r.below ((Below.refl w.heap.size W).setCell (by show w.heap.size ≤ Y; omega) _)
  · have := h.y.set_ 33 (.int .i64 k)
    rwa [oneArr_set hd] at this
theorem wi_t5 {Y : Nat} {x : One} {cs : Array Value} {w5 : World} (h : WiO w most L A n c L' A' m' c' Y x W) (hg : (W.alloc (.cells cs 59)).grownBy w5 (Value.slice A' m' c').ownBlock) :
    Blk w5 (w.heap.size + 2) 45 #[.int .i64 most, .slice A' m' c'] := by
  have hsz := h.wi.sz
  have hs4 : (W.alloc (.cells cs 59)).heap.size = W.heap.size + 1 := by simp
  exact ((hg.block _ (by omega) (fun e => by have := (h.wi.o.own.lt _ e.symm).1; omega)).trans (Below.heap_alloc W _ _ (by omega))).trans h.wi.t
theorem wi_next {Y : Nat} {x : One} {A5 : Option Addr} {c5 : Nat} {w5 : World} (h : WiO w most L A n c L' A' m' c' Y x W) (cs : Array Value) (hL : OnL (w.heap.size + 3) w5 A5 (m' + 1) c5 (L' ++ [x])) (hg : (W.alloc (.cells cs 59)).grownBy w5 (Value.slice A' m' c').ownBlock) :
    WiI w most L A n c (L' ++ [x]) A5 (m' + 1) c5 (w5.setCell ⟨w.heap.size + 2, 1, none⟩ (.slice A5 (m' + 1) c5)) := by
  have hsz := h.wi.sz
  have hs4 : (W.alloc (.cells cs 59)).heap.size = W.heap.size + 1 := by simp
  have hs5 := hg.size
  have hlow : ∀ q, q < w.heap.size + 3 → some q ≠ (Value.slice A' m' c').ownBlock := fun q hq e => by have := (h.wi.o.own.lt q e.symm).1; omega
  have hb5 : ∀ q, q < w.heap.size + 3 → w5.heap[q]? = W.heap[q]? := fun q hq => (hg.block q (by omega) (hlow q hq)).trans (Below.heap_alloc W _ q (by omega))
  have hbel : Below w.heap.size w w5 := (h.wi.bel.alloc (by omega) (.cells cs 59)).trans ⟨hg.os, hg.tape, hg.output, hg.size, fun q hq => hg.block q (by omega) (hlow q (by omega))⟩
  have hT5 : Blk w5 (w.heap.size + 2) 45 #[.int .i64 most, .slice A' m' c'] := (hb5 _ (by omega)).trans h.wi.t
  refine ⟨?_, ?_, (hT5.set_ 1 _).eq rfl, hL.far (grown_set (World.grownBy.refl w5 _)) (fun e => ?_), ?_, hbel.setCell (by simp) _, by rw [size_set]; omega⟩
  · exact (Below.heap_setCell w5 _ _ _ (by simp)).trans ((hb5 _ (by omega)).trans h.wi.s)
  · exact (Below.heap_setCell w5 _ _ _ (by simp)).trans ((hb5 _ (by omega)).trans h.wi.z)
  · have := (hL.own.lt _ e).1; omega
  · refine h.wi.r.below ⟨?_, ?_, ?_, ?_, fun q hq => ?_⟩
    · exact hg.os
    · exact hg.tape
    · exact hg.output
    · rw [size_set]; omega
    · exact (Below.heap_setCell w5 _ _ q (by simp; omega)).trans (hb5 q (by omega))
end
end Go.Proofs.Ytioanppnkhiokaa

/-
  pergolaref06.with, walked.
-/
namespace Go.Proofs.Ytioanppnkhiokaa
open Go.RowKit

/-- a store handed back -/
def RefQ (most : Int) (L : List One) (w : World) (e : Ending) (w' : World) : Prop := ∃ A n c, e = .returned (.agg #[.int .i64 most, .slice A n c]) ∧ RefIs w' w'.heap.size L A n c ∧ Below w.heap.size w w'
theorem sto_one (m : Int) (A : Option Addr) (n c : Nat) : (#[Value.int .i64 m, Value.slice A n c].all fun x => x.oneCell') = true := by simp [Value.oneCell']
theorem withL_take {k : Nat} {r : Int} {L : List One} {i : Nat} (hi : i < L.length) : withL k r 0 (L.take (i + 1)) = withL k r 0 (L.take i) ++ keep k r L[i] i := by
  rw [List.take_succ_eq_append_getElem hi, withL_snoc]
  congr 2
  simp; omega
theorem keep_yes {k : Nat} {r : Int} {x : One} {i : Nat} {m : Int} (hm : (if i = k then r else x.n) = m) (h : 0 < m) : keep k r x i = [{ x with n := m }] := by unfold keep; rw [hm, if_pos h]
theorem keep_no {k : Nat} {r : Int} {x : One} {i : Nat} {m : Int} (hm : (if i = k then r else x.n) = m) (h : ¬ 0 < m) : keep k r x i = [] := by unfold keep; rw [hm, if_neg h]
theorem wi_begin (w : World) (most : Int) (L : List One) (A : Option Addr) (n c : Nat) (h : RefIs w w.heap.size L A n c) :
    WiI w most L A n c [] none 0 0 (((w.alloc (.cells #[.int .i64 most, .slice A n c] 45)).alloc (.cells #[.int .i64 0, .slice none 0 0] 45)).alloc (.cells #[.int .i64 most, .slice none 0 0] 45)) := by
  have hb0 := ((Below.refl w.heap.size w).alloc (Nat.le_refl _) (.cells #[.int .i64 most, .slice A n c] 45)).alloc (by simp) (.cells #[.int .i64 0, .slice none 0 0] 45)
  have hb := hb0.alloc (by simp; omega) (.cells #[.int .i64 most, .slice none 0 0] 45)
  refine ⟨?_, ?_, ?_, OnL.start, h.below hb, hb, by simp⟩
  · exact ((Blk.new w _ _).alloc _).alloc _
  · exact (Blk.new' (g := w.heap.size + 1) (by simp)).alloc _
  · exact Blk.new' (g := w.heap.size + 2) (by simp)
set_option maxRecDepth 100000 in
set_option maxHeartbeats 4000000 in
theorem ref_with (most : Int) (L : List One) (A : Option Addr) (n c k : Nat) (r : Int) (w : World) (h : RefIs w w.heap.size L A n c) (hlim : n * 56 ≤ 140737488355328) :
    Calls Try.prog 29 #[.agg #[.int .i64 most, .slice A n c], .int .i64 k, .int .i64 r] w (RefQ most (withL k r 0 L) w) := by
  have hn63 : (n : Int) ≤ 9223372036854775807 := by omega
  have hlen := Lib.hid h.len
  have hst := Lib.hid (wi_begin w most L A n c h)
  replace hlim := Lib.hid hlim
  clear h
  go_enter Try.func29, Try.ntmps29
  go_wp2_with fail
  refine code_at (WiI w most L A n c [] none 0 0) hst.out ?_
  clear hst
  intro w1 hi
  go_loopw [8] (fun i wr => ∃ (j m' c' : Nat) (A' : Option Addr), j ≤ n ∧ i = .int .i64 j ∧ WiI w most L A n c (withL k r 0 (L.take j)) A' m' c' wr) (fun i _ => n - (intOf i).toNat)
  case atStart => exact ⟨0, 0, 0, none, Nat.zero_le _, rfl, hi⟩
  case round =>
    clear hi
    obtain ⟨j, m', c', A', hj, rfl, hi⟩ := hrel
    have c1 : wr.cell? ⟨w.heap.size, 1, none⟩ = some (.slice A n c) := hi.s.cell 1
    by_cases hlt : j < n
    · have hlt' : (j : Int) < n := by omega
      have hjl : j < L.length := by have := hlen.out; omega
      obtain ⟨g, o, rfl, hg, hr⟩ := hi.r.row j hjl
      have hdl := hi.r.ds _ (List.getElem_mem hjl)
      have hO := Lib.hid (fun cs => wiO_stored hi L[j] cs)
      replace hi := Lib.hid hi
      replace hr := Lib.hid hr
      have hsz := oneArr_size hdl
      by_cases hjk : j = k
      · subst hjk
        go_upto_region 8 with (first
          | (refine wpList_mid_g (by rfl) 59 _ rfl g (o + j * 34) rfl (oneRow L[j]) _ hr.out Try.underlying59 rfl (by rw [oneRow_length hdl]; exact info_one1) ?_)
          | (refine wpList_store_row rfl 59 _ _ rfl wr.heap.size (oneArr L[j]) rfl rfl _ _ (Blk.new wr _ _) (by rw [hsz]; exact info_one1) (by rw [hsz]; rfl) (oneArr_one _) ?_; refine ops_at _ (hO.out _) ?_; intro w2 hq; have g33 := oneRow_num hq.y.rangeOf hdl; rw [Nat.zero_add] at g33; have f33 := hq.y.frozen 33; replace hq := Lib.hid hq)
          | fail)
        refine code_at (WiO w most L (some ⟨g, o, none⟩) n c (withL j r 0 (L.take j)) A' m' c' wr.heap.size { L[j] with n := r }) (hq.out.set_ hdl r) ?_
        clear hq g33 f33 hO hi hr
        intro w3 hq
        have g33 : w3.cell? ⟨wr.heap.size, 33, none⟩ = some (.int .i64 r) := by have := oneRow_num hq.y.rangeOf hdl; rwa [Nat.zero_add] at this
        have gt : w3.cell? ⟨w.heap.size + 2, 1, none⟩ = some (.slice A' m' c') := hq.wi.t.cell 1
        have hml := Lib.hid (show m' ≤ j by have h1 := hq.wi.o.len; have h2 := withL_length j r (L.take j) 0; rw [List.length_take] at h2; omega)
        have hqy := hq.y
        replace hq := Lib.hid hq
        by_cases hp : 0 < r
        · have hOn := Lib.hid (hq.out.wi.o.below ((Below.refl w3.heap.size w3).alloc (Nat.le_refl _) (.cells (oneArr { L[j] with n := r }) 59)))
          have hRo := Lib.hid (ref_one w3 { L[j] with n := r } hdl)
          have hsz3 := Lib.hid hq.out.wi.sz
          replace hqy := Lib.hid hqy
          go_wp2_with (first
            | (refine wpList_load_row rfl 59 _ rfl wr.heap.size rfl _ (oneArr { L[j] with n := r }) _ _ hqy.out Try.underlying59 rfl (by rw [oneArr_size (o := { L[j] with n := r }) hdl]; exact info_one1) ?_)
            | (refine wpList_build_one rfl _ rfl { L[j] with n := r } hdl rfl ?_)
            | (at_builtin; refine wpList_append_ones rfl _ _ rfl hOn.out (by have := hsz3.out; simp; omega) rfl rfl hRo.out (by have := hml.out; have := hlim.out; omega) ?_; intro A5 c5 w5 hL5 hg5 _; have hT5 := wi_t5 hq.out hg5; have c5t : w5.cell? ⟨w.heap.size + 2, 1, none⟩ = some (.slice A' m' c') := hT5.cell 1; have f5t := hT5.frozen 1; have hN := Lib.hid (wi_next hq.out _ hL5 hg5); clear hL5 hg5 hT5)
            | fail)
          refine ⟨⟨j + 1, m' + 1, c5, A5, by omega, by go_num, by rw [withL_take hjl, keep_yes (if_pos rfl) hp]; exact hN.out⟩, by simp [intOf]; omega⟩
        · clear hqy
          go_wp2_with fail
          refine ⟨⟨j + 1, m', c', A', by omega, by go_num, by rw [withL_take hjl, keep_no (if_pos rfl) hp, List.append_nil]; exact hq.out.wi⟩, by simp [intOf]; omega⟩
      · have hjk1 : ((j : Int) == (k : Int)) = false := by simp; omega
        have hjk2 : ¬ (j : Int) = (k : Int) := by omega
        go_upto_region 8 with (first
          | (refine wpList_mid_g (by rfl) 59 _ rfl g (o + j * 34) rfl (oneRow L[j]) _ hr.out Try.underlying59 rfl (by rw [oneRow_length hdl]; exact info_one1) ?_)
          | (refine wpList_store_row rfl 59 _ _ rfl wr.heap.size (oneArr L[j]) rfl rfl _ _ (Blk.new wr _ _) (by rw [hsz]; exact info_one1) (by rw [hsz]; rfl) (oneArr_one _) ?_; refine ops_at _ (hO.out _) ?_; intro w2 hq; have g33 := oneRow_num hq.y.rangeOf hdl; rw [Nat.zero_add] at g33; have f33 := hq.y.frozen 33; replace hq := Lib.hid hq)
          | fail)
        refine code_at (WiO w most L (some ⟨g, o, none⟩) n c (withL k r 0 (L.take j)) A' m' c' wr.heap.size { L[j] with n := L[j].n }) hq.out ?_
        clear hq g33 f33 hO hi hr
        intro w3 hq
        have g33 : w3.cell? ⟨wr.heap.size, 33, none⟩ = some (.int .i64 L[j].n) := by have := oneRow_num hq.y.rangeOf hdl; rwa [Nat.zero_add] at this
        have gt : w3.cell? ⟨w.heap.size + 2, 1, none⟩ = some (.slice A' m' c') := hq.wi.t.cell 1
        have hml := Lib.hid (show m' ≤ j by have h1 := hq.wi.o.len; have h2 := withL_length k r (L.take j) 0; rw [List.length_take] at h2; omega)
        have hqy := hq.y
        replace hq := Lib.hid hq
        by_cases hp : 0 < L[j].n
        · have hOn := Lib.hid (hq.out.wi.o.below ((Below.refl w3.heap.size w3).alloc (Nat.le_refl _) (.cells (oneArr { L[j] with n := L[j].n }) 59)))
          have hRo := Lib.hid (ref_one w3 { L[j] with n := L[j].n } hdl)
          have hsz3 := Lib.hid hq.out.wi.sz
          replace hqy := Lib.hid hqy
          go_wp2_with (first
            | (refine wpList_load_row rfl 59 _ rfl wr.heap.size rfl _ (oneArr { L[j] with n := L[j].n }) _ _ hqy.out Try.underlying59 rfl (by rw [oneArr_size (o := { L[j] with n := L[j].n }) hdl]; exact info_one1) ?_)
            | (refine wpList_build_one rfl _ rfl { L[j] with n := L[j].n } hdl rfl ?_)
            | (at_builtin; refine wpList_append_ones rfl _ _ rfl hOn.out (by have := hsz3.out; simp; omega) rfl rfl hRo.out (by have := hml.out; have := hlim.out; omega) ?_; intro A5 c5 w5 hL5 hg5 _; have hT5 := wi_t5 hq.out hg5; have c5t : w5.cell? ⟨w.heap.size + 2, 1, none⟩ = some (.slice A' m' c') := hT5.cell 1; have f5t := hT5.frozen 1; have hN := Lib.hid (wi_next hq.out _ hL5 hg5); clear hL5 hg5 hT5)
            | fail)
          refine ⟨⟨j + 1, m' + 1, c5, A5, by omega, by go_num, by rw [withL_take hjl, keep_yes (if_neg hjk) hp]; exact hN.out⟩, by simp [intOf]; omega⟩
        · clear hqy
          go_wp2_with fail
          refine ⟨⟨j + 1, m', c', A', by omega, by go_num, by rw [withL_take hjl, keep_no (if_neg hjk) hp, List.append_nil]; exact hq.out.wi⟩, by simp [intOf]; omega⟩
    · obtain rfl : j = n := by omega
      have hlt' : ¬ (j : Int) < j := by omega
      have ht : L.take j = L := List.take_of_length_le (by have := hlen.out; omega)
      rw [ht] at hi
      have gt := hi.t
      replace hi := Lib.hid hi
      go_wp2_with (first
        | (refine wpList_load_row rfl 45 _ rfl (w.heap.size + 2) rfl _ #[.int .i64 most, .slice A' m' c'] _ _ gt Try.underlying45 rfl info_sto ?_)
        | (refine wpList_store_row rfl 45 _ _ rfl (w.heap.size + 1) #[.int .i64 most, .slice A' m' c'] rfl rfl _ _ hi.out.z info_sto rfl (sto_one _ _ _ _) ?_)
        | fail)
      have hb := below_row (Below.refl w.heap.size wr) (show w.heap.size ≤ w.heap.size + 1 by omega) #[.int .i64 most, .slice A' m' c']
      have hg : wr.grownBy (wr.setRow (w.heap.size + 1) #[.int .i64 most, .slice A' m' c']) (some (w.heap.size + 1)) := ⟨rfl, rfl, rfl, by simp, fun q _ hne => setRow_other wr _ q _ (fun e => hne (by rw [e]))⟩
      (try simp only [Exit.inBlock, Exit.then])
      refine bodyPost_ret (v := .agg #[.int .i64 most, .slice A' m' c']) (results_cell_row rfl _ _ (w.heap.size + 1) _ #[.int .i64 most, .slice A' m' c'] _ _ rfl (hi.out.z.row _) Try.underlying45 rfl info_sto) rfl ?_
      exact ⟨A', m', c', rfl, (hi.out.o.far hg (fun e => by have := (hi.out.o.own.lt _ e).1; omega)).ref, hi.out.bel.trans hb⟩
end Go.Proofs.Ytioanppnkhiokaa

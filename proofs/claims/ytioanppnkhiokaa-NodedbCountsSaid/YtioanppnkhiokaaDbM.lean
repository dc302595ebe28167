/-
  Maps whose keys are digests, as lists of what they hold.
-/
import Derived.Test.YtioanppnkhiokaaRDig3
import Derived.Maps.Keyed
import Derived.Maps.Own
import Derived.DeepKeys4
namespace Go.Proofs.Ytioanppnkhiokaa
open Go.RowKit

theorem dig_law : Maps.Keyed Try.prog 30 := Maps.Keyed.of_law (deep_law_laid (by kernel_rfl) (m := 2) (by omega) (of_decide_eq_true (by kernel_rfl)) (by kernel_rfl) (by kernel_rfl))
theorem mapM_some {α β : Type} (f : α → Option β) : ∀ l : List α, (∀ x ∈ l, ∃ y, f x = some y) → ∃ ys, l.mapM f = some ys
  | [], _ => ⟨[], rfl⟩
  | x :: r, h => by
    obtain ⟨y, hy⟩ := h x (List.mem_cons_self ..)
    obtain ⟨ys, hys⟩ := mapM_some f r (fun z hz => h z (List.mem_cons_of_mem _ hz))
    exact ⟨y :: ys, by simp [List.mapM_cons, hy, hys]⟩
theorem bv_inj : ∀ {a b : List UInt8}, bv a = bv b → a = b
  | [], [], _ => rfl
  | [], _ :: _, h => by simp [bv] at h
  | _ :: _, [], h => by simp [bv] at h
  | x :: a, y :: b, h => by
    simp only [bv, List.map_cons, List.cons.injEq, Value.int.injEq, true_and] at h
    have hx : x = y := UInt8.toNat_inj.1 (by omega)
    rw [hx, bv_inj (a := a) (b := b) h.2]
theorem digV_inj {a b : List UInt8} (h : digV a = digV b) : a = b := by
  simp only [digV, row32, Value.agg.injEq] at h
  exact bv_inj (by simpa using h)
theorem dig_key (l : List UInt8) (h : l.length = 32) : ∃ k, keyOf Try.prog 30 (digV l) = some k := by
  have hu : Try.prog.underlying 30 = some (.array 32 5) := Try.underlying30
  have he : Try.prog.underlying 5 = some (.int .u8) := Try.underlying5
  have hk : Try.prog.keyType 30 = true := by kernel_rfl
  have hc : Try.prog.cellsOf 30 = 32 := by kernel_rfl
  have hc1 : Try.prog.cellsOf 5 = 1 := by kernel_rfl
  obtain ⟨s, hs⟩ : ∃ s, Try.prog.types.size = s + 1 := ⟨Try.prog.types.size - 1, by kernel_rfl⟩
  have hf : (digV l).formed Try.prog 30 = true := by simp [digV, Value.formed, hu, hc, row32_size h]
  unfold keyOf
  simp only [hu, hk, hf, Bool.and_self, if_true]
  have hl : ∃ ls, Try.prog.keyLits (Try.prog.types.size + 1) 30 (digV l).cells.toList = some ls := by
    have hz : (digV l).cells.toList = bv l := by simp [digV, Value.cells, row32]
    rw [hz]
    unfold Program.keyLits
    simp only [hu, bv_length, h, hc, if_true]
    have := mapM_some (fun i => Try.prog.keyLits Try.prog.types.size 5 (((bv l).drop (i * Try.prog.cellsOf 5)).take (Try.prog.cellsOf 5))) (List.range 32) (fun i hi => by
      have hi := List.mem_range.1 hi
      rw [hs, hc1, Nat.mul_one]
      have hd : ((bv l).drop i).take 1 = [.int .u8 (l[i].toNat : Int)] := by
        rw [List.drop_eq_getElem_cons (by rw [bv_length]; omega)]
        simp [bv]
      rw [hd]
      unfold Program.keyLits
      simp only [he]
      have := l[i].toNat_lt
      exact ⟨_, if_pos ⟨trivial, by simp [Lit.wf, IntKind.min, IntKind.max, IntKind.signed, IntKind.bits]; omega⟩⟩)
    obtain ⟨ys, hys⟩ := this
    exact ⟨ys.flatten, by rw [hys]; rfl⟩
  obtain ⟨ls, hls⟩ := hl
  exact ⟨_, by rw [hls]; rfl⟩

/-- an association of digests and values -/
abbrev Assoc := List (List UInt8 × Value)
def Assoc.get (m : Assoc) (d : List UInt8) : Option Value := (m.find? (·.1 == d)).map (·.2)
def Assoc.put (m : Assoc) (d : List UInt8) (v : Value) : Assoc := if (m.get d).isSome then m.map (fun p => if p.1 == d then (d, v) else p) else m ++ [(d, v)]
def Assoc.del (m : Assoc) (d : List UInt8) : Assoc := m.filter (fun p => !(p.1 == d))
def ents (m : Assoc) : List (Value × Value) := m.map fun p => (digV p.1, p.2)
/-- block b is a map that holds just this -/
structure MapIs (w : World) (b : Nat) (m : Assoc) : Prop where
  ex : ∃ es clock, w.heap[b]? = some (.map es clock) ∧ es.toList.map (fun e => (e.key, e.val)) = ents m
  len : ∀ p ∈ m, p.1.length = 32
  one : m.Pairwise (fun p q => p.1 ≠ q.1)
section
variable {w w' : World} {b : Nat} {m : Assoc}
theorem MapIs.lt (h : MapIs w b m) : b < w.heap.size := by
  obtain ⟨es, clock, hb, _⟩ := h.ex
  exact (Array.getElem?_eq_some_iff.1 hb).1
theorem MapIs.new (w : World) : MapIs (w.alloc (.map #[] 0)) w.heap.size [] :=
  ⟨⟨#[], 0, (MapKept.heap_alloc w _).1, rfl⟩, by simp, by simp⟩
theorem MapIs.of_block (h : MapIs w b m) (hb : w'.heap[b]? = w.heap[b]?) : MapIs w' b m := by
  obtain ⟨⟨es, clock, he, r⟩, r2, r3⟩ := h
  exact ⟨⟨es, clock, hb.trans he, r⟩, r2, r3⟩
theorem MapIs.below {B : Nat} (h : MapIs w b m) (hb : Below B w w') (hB : b < B) : MapIs w' b m := h.of_block (hb.block b hB)
theorem MapIs.alloc (h : MapIs w b m) (o : Obj) : MapIs (w.alloc o) b m := h.of_block (Below.heap_alloc w o b h.lt)
theorem MapIs.drew (h : MapIs w b m) : MapIs w.drew b m := h.of_block rfl
theorem MapIs.drewN (h : MapIs w b m) (n : Nat) : MapIs (w.drewN n) b m := h.of_block rfl
theorem MapIs.far (h : MapIs w b m) {p : Addr} (hp : b ≠ p.block) (u : Value) : MapIs (w.setCell p u) b m := h.of_block (Below.heap_setCell w p u b hp)
theorem MapIs.grown {g : Nat} (h : MapIs w b m) (hg : w.grownBy w' (some g)) (hne : b ≠ g) : MapIs w' b m := h.of_block (hg.block b h.lt (by simp; omega))
/-- the model's search finds what is there -/
theorem MapIs.find (h : MapIs w b m) {es : Array MapEntry} (he : es.toList.map (fun e => (e.key, e.val)) = ents m) (d : List UInt8) (hd : d.length = 32) :
    ((Instr.findKey 30 (digV d) es.toList).run Try.prog w = .ok none w ∧ m.get d = none) ∨
    ∃ j v, (Instr.findKey 30 (digV d) es.toList).run Try.prog w = .ok (some (j, v)) w ∧ m[j]? = some (d, v) ∧ m.get d = some v := by
  obtain ⟨k, hk⟩ := dig_key d hd
  have hkeys : ∀ e ∈ es.toList, ∃ l, keyOf Try.prog 30 e.key = some l := by
    intro e hee
    have : (e.key, e.val) ∈ ents m := by rw [← he]; exact List.mem_map_of_mem hee
    obtain ⟨p, hp, hpe⟩ := List.mem_map.1 this
    have e1 : digV p.1 = e.key := (Prod.ext_iff.1 hpe).1
    rw [← e1]
    exact dig_key p.1 (h.len p hp)
  have hlen : es.toList.length = m.length := by have := congrArg List.length he; simpa [ents] using this
  have hat : ∀ j (hj : j < es.toList.length), es.toList[j].key = digV (m[j]'(by omega)).1 ∧ es.toList[j].val = (m[j]'(by omega)).2 := by
    intro j hj
    have h1 : (es.toList.map (fun e => (e.key, e.val)))[j]? = (ents m)[j]? := by rw [he]
    simp only [ents, List.getElem?_map, List.getElem?_eq_getElem hj, List.getElem?_eq_getElem (show j < m.length by omega), Option.map_some, Option.some.injEq, Prod.mk.injEq] at h1
    exact h1
  rcases dig_law.find w hk es.toList hkeys with ⟨hr, hne⟩ | ⟨j, e, hr, hj, hek⟩
  · refine .inl ⟨hr, ?_⟩
    unfold Assoc.get
    rw [Option.map_eq_none_iff, List.find?_eq_none]
    intro p hp
    obtain ⟨j, hj, rfl⟩ := List.getElem_of_mem hp
    have := hne _ (List.getElem_mem (show j < es.toList.length by omega))
    rw [(hat j (by omega)).1] at this
    simp only [beq_iff_eq]
    intro e
    exact this (by rw [e])
  · have hjl : j < es.toList.length := (List.getElem?_eq_some_iff.1 hj).1
    have hej : es.toList[j] = e := by rw [List.getElem?_eq_getElem hjl] at hj; exact Option.some.inj hj
    have ha := hat j hjl
    rw [hej, hek] at ha
    have hdj := digV_inj ha.1
    have hmj : m[j]? = some (d, e.val) := by
      rw [List.getElem?_eq_getElem (by omega), ha.2, hdj]
    refine .inr ⟨j, e.val, hr, hmj, ?_⟩
    unfold Assoc.get
    have : m.find? (·.1 == d) = some (d, e.val) := by
      rw [List.find?_eq_some_iff_getElem]
      refine ⟨by simp, j, by omega, by rw [List.getElem?_eq_getElem (by omega)] at hmj; exact Option.some.inj hmj, fun i hi => ?_⟩
      have hp := List.pairwise_iff_getElem.1 h.one i j (by omega) (by omega) hi
      rw [← hdj] at hp
      simpa using hp
    rw [this]; rfl
/-- what a search tells -/
def Assoc.told (m : Assoc) (d : List UInt8) (z : Value) : Value := .tuple #[(m.get d).getD z, .bool (m.get d).isSome]
/-- 'v, ok := m[d]' -/
theorem MapIs.lookup {e : TypeId} {t : TypeId} {z : Value} (h : MapIs w b m) (ht : Try.prog.underlying t = some (.map 30 e)) (hz : (zeroValue e).run Try.prog w = .ok z w) (d : List UInt8) (hd : d.length = 32) :
    (Instr.lookup t (.map (some b)) (.agg (row32 d)) true).run Try.prog w = .ok (m.told d z) w := by
  obtain ⟨es, clock, hb, he⟩ := h.ex
  obtain ⟨k, hk⟩ := dig_key d hd
  have hc := fun em => dig_law.check w em hk
  rcases h.find he d hd with ⟨hr, hg⟩ | ⟨j, v, hr, hj, hg⟩
  · unfold digV at hr hc
    simp [Instr.lookup, run_underlying ht, MapKept.run_getObj_map hb, hc, hr, hz, Assoc.told, hg]
  · unfold digV at hr hc
    simp [Instr.lookup, run_underlying ht, MapKept.run_getObj_map hb, hc, hr, Assoc.told, hg]
/-- 'len(m)' -/
theorem MapIs.size (h : MapIs w b m) : ∃ es clock, w.heap[b]? = some (.map es clock) ∧ es.size = m.length := by
  obtain ⟨es, clock, hb, he⟩ := h.ex
  exact ⟨es, clock, hb, by have := congrArg List.length he; simpa [ents] using this⟩
theorem grown_block {es es' : Array MapEntry} {clock clock' : Nat} (hb : w.heap[b]? = some (.map es clock)) : w.grownBy (ChangeMaps.setBlock w b (.map es' clock')) (some b) :=
  ⟨rfl, rfl, rfl, by simp [ChangeMaps.setBlock], fun i _ hi => ChangeMaps.heap_setBlock_other hb _ (fun e => hi (by rw [e]))⟩
theorem one_at (h : MapIs w b m) {j j' : Nat} {d : List UInt8} {v v' : Value} (h1 : m[j]? = some (d, v)) (h2 : m[j']? = some (d, v')) : j = j' := by
  have l1 := (List.getElem?_eq_some_iff.1 h1).1
  have l2 := (List.getElem?_eq_some_iff.1 h2).1
  rw [List.getElem?_eq_getElem l1, Option.some.injEq] at h1
  rw [List.getElem?_eq_getElem l2, Option.some.injEq] at h2
  rcases Nat.lt_trichotomy j j' with hl | hl | hl
  · exact absurd (by rw [h1, h2]) (List.pairwise_iff_getElem.1 h.one j j' l1 l2 hl)
  · exact hl
  · exact absurd (by rw [h1, h2]) (List.pairwise_iff_getElem.1 h.one j' j l2 l1 hl)
/-- 'm[d] = v' -/
theorem MapIs.update {e : TypeId} {t : TypeId} (h : MapIs w b m) (ht : Try.prog.underlying t = some (.map 30 e)) (d : List UInt8) (hd : d.length = 32) (v : Value) :
    ∃ w', (Instr.mapUpdate t (.map (some b)) (.agg (row32 d)) v).run Try.prog w = .ok () w' ∧ MapIs w' b (m.put d v) ∧ w.grownBy w' (some b) := by
  obtain ⟨es, clock, hb, he⟩ := h.ex
  obtain ⟨k, hk⟩ := dig_key d hd
  have hc := dig_law.check w false hk
  have hlen : es.toList.length = m.length := by have := congrArg List.length he; simpa [ents] using this
  have hlen' : (m.put d v).Pairwise (fun p q => p.1 ≠ q.1) ∧ ∀ p ∈ m.put d v, p.1.length = 32 := by
    unfold Assoc.put
    cases hg : m.get d with
    | none =>
      simp only [Option.isSome_none, Bool.false_eq_true, if_false]
      refine ⟨List.pairwise_append.2 ⟨h.one, by simp, fun p hp q hq => ?_⟩, fun p hp => ?_⟩
      · simp only [List.mem_singleton] at hq
        subst hq
        intro e
        unfold Assoc.get at hg
        rw [Option.map_eq_none_iff, List.find?_eq_none] at hg
        exact hg p hp (by simpa using e)
      · rcases List.mem_append.1 hp with hp | hp
        · exact h.len p hp
        · simp only [List.mem_singleton] at hp; subst hp; exact hd
    | some x =>
      simp only [Option.isSome_some, if_true]
      have hkey : ∀ p : List UInt8 × Value, (if p.1 == d then (d, v) else p).1 = p.1 := by
        intro p
        split
        · rename_i h; simpa using (beq_iff_eq.1 h).symm
        · rfl
      refine ⟨List.pairwise_map.2 (h.one.imp (fun {p q} hpq => by rw [hkey, hkey]; exact hpq)), fun p hp => ?_⟩
      obtain ⟨q, hq, rfl⟩ := List.mem_map.1 hp
      rw [hkey]
      exact h.len q hq
  rcases h.find he d hd with ⟨hr, hg⟩ | ⟨j, x, hr, hj, hg⟩
  · unfold digV at hr hc
    refine ⟨ChangeMaps.setBlock w b (.map (es.push ⟨.agg (row32 d), v, clock⟩) (clock + 1)), ?_, ⟨⟨_, _, ChangeMaps.heap_setBlock_same hb _, ?_⟩, hlen'.2, hlen'.1⟩, grown_block hb⟩
    · simp [Instr.mapUpdate, run_underlying ht, MapKept.run_getObj_map hb, hc, hr, MapKept.run_setObj_map _ hb, Result.andThen, ChangeMaps.setBlock]
    · simp only [Assoc.put, hg, Option.isSome_none, Bool.false_eq_true, if_false, Array.toList_push, List.map_append, he, ents, List.map_cons, List.map_nil]
      rfl
  · have hjl : j < m.length := (List.getElem?_eq_some_iff.1 hj).1
    have hmj : m[j] = (d, x) := by rw [List.getElem?_eq_getElem hjl] at hj; exact Option.some.inj hj
    have hjs : j < es.size := by rw [← Array.length_toList]; omega
    have hje : es[j]? = some es[j] := Array.getElem?_eq_getElem hjs
    have hs := dig_law.stays w hk
    have hat : es[j].key = digV d ∧ es[j].val = x := by
      have h1 : (es.toList.map (fun e => (e.key, e.val)))[j]? = (ents m)[j]? := by rw [he]
      simp only [ents, List.getElem?_map, hj, Option.map_some, Array.getElem?_toList, hje, Option.some.injEq, Prod.mk.injEq] at h1
      exact h1
    unfold digV at hr hc hs hat
    refine ⟨ChangeMaps.setBlock w b (.map (es.modify j fun e' => { e' with key := .agg (row32 d), val := v }) clock), ?_, ⟨⟨_, _, ChangeMaps.heap_setBlock_same hb _, ?_⟩, hlen'.2, hlen'.1⟩, grown_block hb⟩
    · simp [Instr.mapUpdate, run_underlying ht, MapKept.run_getObj_map hb, hc, hr, hje, hat.1, hs, MapKept.run_setObj_map _ hb, Result.andThen, ChangeMaps.setBlock]
    · apply List.ext_getElem?
      intro i
      simp only [Assoc.put, hg, Option.isSome_some, if_true, ents, List.getElem?_map, Array.toList_modify, List.map_map]
      by_cases hij : i = j
      · subst hij
        rw [List.getElem?_modify_eq]
        simp [hje, hj, digV]
      · have hmod : ∀ f : MapEntry → MapEntry, (es.toList.modify j f)[i]? = es.toList[i]? := fun f => by rw [List.getElem?_modify]; simp [Ne.symm hij]
        rw [hmod]
        have h1 : (es.toList.map (fun e => (e.key, e.val)))[i]? = (ents m)[i]? := by rw [he]
        simp only [ents, List.getElem?_map] at h1
        rw [h1]
        cases hm : m[i]? with
        | none => simp
        | some p =>
          have hne : (p.1 == d) = false := by
            rw [beq_eq_false_iff_ne]
            intro e
            obtain ⟨p1, p2⟩ := p
            simp only at e
            subst e
            exact hij (one_at h hm hj)
          have hne2 : ¬ p.1 = d := by simpa using hne
          simp [if_neg hne2]
/-- 'delete(m, d)' -/
theorem MapIs.delete {e : TypeId} {t ty : TypeId} (h : MapIs w b m) (ht : Try.prog.underlying t = some (.map 30 e)) (d : List UInt8) (hd : d.length = 32) :
    ∃ w', (Builtin.delete_ #[t, 30] ty #[.map (some b), .agg (row32 d)]).run Try.prog w = .ok (.tuple #[]) w' ∧ MapIs w' b (m.del d) ∧ w.grownBy w' (some b) := by
  obtain ⟨es, clock, hb, he⟩ := h.ex
  obtain ⟨k, hk⟩ := dig_key d hd
  have hc := fun em => dig_law.check w em hk
  have hlen : es.toList.length = m.length := by have := congrArg List.length he; simpa [ents] using this
  have hp : (m.del d).Pairwise (fun p q => p.1 ≠ q.1) := h.one.filter _
  have hl : ∀ p ∈ m.del d, p.1.length = 32 := fun p hp => h.len p (List.mem_filter.1 hp).1
  rcases h.find he d hd with ⟨hr, hg⟩ | ⟨j, x, hr, hj, hg⟩
  · have hm : m.del d = m := by
      unfold Assoc.get at hg
      rw [Option.map_eq_none_iff, List.find?_eq_none] at hg
      exact List.filter_eq_self.2 (fun p hp => by have := hg p hp; simpa using this)
    unfold digV at hr hc
    refine ⟨ChangeMaps.setBlock w b (.map es clock), ?_, ⟨⟨_, _, ChangeMaps.heap_setBlock_same hb _, by rw [he, hm]⟩, hl, hp⟩, grown_block hb⟩
    simp [Builtin.delete_, run_underlying ht, MapKept.run_getObj_map hb, hc, hr, MapKept.run_setObj_map _ hb, Result.andThen, ChangeMaps.setBlock]
  · have hjl : j < m.length := (List.getElem?_eq_some_iff.1 hj).1
    have hjs : j < es.size := by rw [← Array.length_toList]; omega
    have hdel : m.del d = m.eraseIdx j := by
      have : ∀ (l : Assoc) (j : Nat), l.Pairwise (fun p q => p.1 ≠ q.1) → l[j]? = some (d, x) → l.filter (fun p => !(p.1 == d)) = l.eraseIdx j := by
        intro l
        induction l with
        | nil => intro j _ h; simp at h
        | cons a r ih =>
          intro j hp hj
          obtain ⟨h1, h2⟩ := List.pairwise_cons.1 hp
          cases j with
          | zero =>
            simp only [List.getElem?_cons_zero, Option.some.injEq] at hj
            subst hj
            simp only [List.filter_cons, beq_self_eq_true, Bool.not_true, Bool.false_eq_true, if_false, List.eraseIdx_zero, List.tail_cons]
            exact List.filter_eq_self.2 (fun q hq => by have := h1 q hq; simp [Ne.symm this])
          | succ j =>
            simp only [List.getElem?_cons_succ] at hj
            have hne := h1 _ (List.mem_of_getElem? hj)
            simp only [List.filter_cons, List.eraseIdx_cons_succ, ih j h2 hj]
            rw [if_pos (by simpa using hne)]
      exact this m j h.one hj
    unfold digV at hr hc
    refine ⟨ChangeMaps.setBlock w b (.map (es.eraseIdxIfInBounds j) clock), ?_, ⟨⟨_, _, ChangeMaps.heap_setBlock_same hb _, ?_⟩, hl, hp⟩, grown_block hb⟩
    · simp [Builtin.delete_, run_underlying ht, MapKept.run_getObj_map hb, hc, hr, MapKept.run_setObj_map _ hb, Result.andThen, ChangeMaps.setBlock]
    · rw [hdel]
      have e1 : (es.eraseIdxIfInBounds j).toList = es.toList.eraseIdx j := by simp [Array.eraseIdxIfInBounds, hjs]
      rw [e1, ChangeMaps.map_eraseIdx, he]
      unfold ents
      rw [ChangeMaps.map_eraseIdx]
end
end Go.Proofs.Ytioanppnkhiokaa

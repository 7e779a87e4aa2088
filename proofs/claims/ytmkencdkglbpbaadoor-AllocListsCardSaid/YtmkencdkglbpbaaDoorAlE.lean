/- alloc: spill. -/
import Derived.Test.YtmkencdkglbpbaaDoorAlD
import Derived.Deep.CutBlock
import Derived.WideKeyEntry
set_option maxRecDepth 100000
set_option linter.unusedVariables false
namespace Go.Proofs.YtmkencdkglbpbaaDoor
open Go.RowKit Go.Maps

/-- The map says which slot each register has. -/
def SlotSays (D : DataW Unit) (T : List Int) : Prop := IsMap D ∧ ∀ v : Int, 0 ≤ v → v ≤ 65535 → has D (.int .i64 v) = T.contains v ∧ D.atKey (.int .i64 v) (.lit (.int .i64 0)) = .lit (.int .i64 (max (idxV T v 0) 0))

theorem idxV_append : ∀ (T : List Int) (u : Int) (k : Nat), u ≠ -1 → idxV (T ++ [-1]) u k = idxV T u k
  | [], u, k, h => by simp [idxV, h]
  | x :: T, u, k, h => by
    rw [List.cons_append, idxV, idxV, idxV_append T u (k + 1) h]
theorem idxV_set_other : ∀ (T : List Int) (i : Nat) (x u : Int) (k : Nat), u ≠ x → (∀ h : i < T.length, u ≠ T[i]) → idxV (T.set i x) u k = idxV T u k
  | [], _, _, _, _, _, _ => rfl
  | y :: T, 0, x, u, k, h, h2 => by
    have := h2 (by simp)
    simp only [List.getElem_cons_zero] at this
    rw [List.set_cons_zero, idxV, idxV, if_neg h, if_neg this]
  | y :: T, i + 1, x, u, k, h, h2 => by
    rw [List.set_cons_succ, idxV, idxV, idxV_set_other T i x u (k + 1) h (fun hi => by have := h2 (by simpa using hi); simpa using this)]
theorem idxV_set_same : ∀ (T : List Int) (i : Nat) (v : Int) (k : Nat), i < T.length → v ∉ T → idxV (T.set i v) v k = (k : Int) + i
  | y :: T, 0, v, k, _, _ => by rw [List.set_cons_zero, idxV, if_pos rfl]; simp
  | y :: T, i + 1, v, k, h, h2 => by
    have hne : v ≠ y := fun e => h2 (by simp [e])
    rw [List.set_cons_succ, idxV, if_neg hne, idxV_set_same T i v (k + 1) (by simpa using h) (fun hm => h2 (by simp [hm]))]
    push_cast
    omega
theorem SlotSays.grow {D : DataW Unit} {T : List Int} (h : SlotSays D T) : SlotSays D (T ++ [-1]) :=
  ⟨h.1, fun v h0 h1 => by
    obtain ⟨a, b⟩ := h.2 v h0 h1
    refine ⟨?_, by rw [idxV_append T v 0 (by omega)]; exact b⟩
    rw [a, Bool.eq_iff_iff, List.contains_iff_mem, List.contains_iff_mem]
    simp
    omega⟩
theorem SlotSays.put {D : DataW Unit} {T : List Int} (h : SlotSays D T) (v : Int) (i : Nat) (hi : i < T.length) (hT : T[i] = -1) (hv : v ∉ T) (h0 : 0 ≤ v) : SlotSays (D.put (.int .i64 v) (.lit (.int .i64 i))) (T.set i v) := by
  refine ⟨h.1.put _ _, fun u u0 u1 => ?_⟩
  by_cases huv : u = v
  · subst huv
    rw [has_put_same h.1 (by trivial), atKey_put_same h.1 (by trivial), idxV_set_same T i u 0 hi hv]
    refine ⟨?_, ?_⟩
    · rw [eq_comm, List.contains_iff_mem]
      exact List.mem_set hi u
    · congr 3; omega
  · obtain ⟨a, b⟩ := h.2 u u0 u1
    rw [has_put_other (by intro e; injection e with _ e; exact huv e), atKey_put_other (by intro e; injection e with _ e; exact huv e), idxV_set_other T i v u 0 huv (fun _ => by omega)]
    refine ⟨?_, b⟩
    rw [a, Bool.eq_iff_iff, List.contains_iff_mem, List.contains_iff_mem]
    constructor
    · intro hm
      obtain ⟨j, hj, rfl⟩ := List.getElem_of_mem hm
      have hji : i ≠ j := fun e => by subst e; omega
      exact List.mem_iff_getElem.2 ⟨j, by simpa using hj, by rw [List.getElem_set_ne hji]⟩
    · intro hm
      rcases List.mem_or_eq_of_mem_set hm with hm | rfl
      · exact hm
      · exact absurd rfl huv
theorem SlotSays.del {D : DataW Unit} {T : List Int} (h : SlotSays D T) (hO : Once T) (v : Int) (i : Nat) (hi : i < T.length) (hT : T[i] = v) (h0 : 0 ≤ v) : SlotSays (D.del (.int .i64 v)) (T.set i (-1)) := by
  refine ⟨h.1.del _, fun u u0 u1 => ?_⟩
  have hmem : u ∈ T.set i (-1) ↔ u ∈ T ∧ u ≠ v := by
    constructor
    · intro hm
      obtain ⟨j, hj, he⟩ := List.getElem_of_mem hm
      have hj' : j < T.length := by simpa using hj
      by_cases hji : i = j
      · subst hji; rw [List.getElem_set_self] at he; omega
      · rw [List.getElem_set_ne hji] at he
        refine ⟨he ▸ List.getElem_mem hj', fun e => ?_⟩
        rcases Nat.lt_or_gt_of_ne hji with hlt | hlt
        · have := (List.pairwise_iff_getElem.1 hO) i j hi hj' hlt; omega
        · have := (List.pairwise_iff_getElem.1 hO) j i hj' hi hlt; omega
    · rintro ⟨hm, hne⟩
      obtain ⟨j, hj, rfl⟩ := List.getElem_of_mem hm
      have hji : i ≠ j := fun e => by subst e; exact hne hT
      exact List.mem_iff_getElem.2 ⟨j, by simpa using hj, by rw [List.getElem_set_ne hji]⟩
  by_cases huv : u = v
  · subst huv
    have hn : u ∉ T.set i (-1) := fun e => (hmem.1 e).2 rfl
    have hx : ¬ 0 ≤ idxV (T.set i (-1)) u 0 := fun e => hn ((idxV_mem _ _ _).1 e)
    rw [has_del_same, atKey_del_same]
    refine ⟨?_, by congr 3; omega⟩
    rw [Bool.eq_iff_iff, List.contains_iff_mem]
    simp [hn]
  · obtain ⟨a, b⟩ := h.2 u u0 u1
    rw [has_del_other (by intro e; injection e with _ e; exact huv e), atKey_del_other (by intro e; injection e with _ e; exact huv e), idxV_set_other T i (-1) u 0 (by omega) (fun _ => by omega)]
    refine ⟨?_, b⟩
    rw [a, Bool.eq_iff_iff, List.contains_iff_mem, List.contains_iff_mem, hmem]
    exact ⟨fun h => ⟨h, huv⟩, fun h => h.1⟩
/-- An entry of a map of the call's own is made, or found, and then stored into. -/
theorem own_entry {H : Type} {P : Program} {w : World} {t k e : TypeId} {R : Value → Option (DataW H × List MemPlace)} {b n : Nat} {D : DataW H} (h : w.ownsMap P k R b n D) (K : Keyed P k) (ht : P.underlying t = some (.map k e)) {z : Value} (hz : ∀ u : World, (zeroValue e).run P u = .ok z u) (hn : n < maxLen)
    {key : Value} {kl : Lit} (hkey : keyOf P k key = some kl) (val : Value) (d : DataW H) (ps : List MemPlace) (hv : R val = some (d, ps)) :
    ∃ (v0 : Value) (st : Nat) (w4 w5 : World), (Instr.mapEntry t (.map (some b)) key).run P w = .ok (.tuple #[v0, .int .i64 st]) w4 ∧
      (Instr.entryStore t (.map (some b)) (.int .i64 st) val).run P w4 = .ok () w5 ∧ w5.ownsMap P k R b (n + 1) (D.put kl d) ∧ w.grownBy w5 (some b) := by
  obtain ⟨w', hrun, hown, hgr⟩ := h.update K ht hn hkey hv
  obtain ⟨es, clock, hb, F, hs, hD⟩ := h
  obtain ⟨s1, s2, _⟩ := F.stamped
  have hblt : b < w.heap.size := (Array.getElem?_eq_some_iff.1 hb).1
  have hset : ∀ o : Obj, (ChangeMaps.setBlock w b o).heap[b]? = some o := fun o => ChangeMaps.heap_setBlock_same hb _
  rcases K.find w hkey es.toList F.keys with ⟨h1, h2⟩ | ⟨j, e0, h1, h2, h3⟩
  · have hu : (Instr.mapUpdate t (.map (some b)) key val).run P w = .ok () (ChangeMaps.setBlock w b (.map (es.push ⟨key, val, clock⟩) (clock + 1))) := by
      simp [Instr.mapUpdate, run_underlying ht, MapKept.run_getObj_map hb, K.check w false hkey, h1, MapKept.run_setObj_map _ hb, Result.andThen, ChangeMaps.setBlock]
    rw [hu] at hrun
    obtain rfl : ChangeMaps.setBlock w b (.map (es.push ⟨key, val, clock⟩) (clock + 1)) = w' := by simpa using hrun
    refine ⟨z, clock, ChangeMaps.setBlock w b (.map (es.push ⟨key, z, clock⟩) (clock + 1)), _, ?_, ?_, hown, hgr⟩
    · simp [Instr.mapEntry, run_underlying ht, MapKept.run_getObj_map hb, K.check w false hkey, h1, hz, MapKept.run_setObj_map _ hb, Result.andThen, ChangeMaps.setBlock, goInt]
    · have hidx : (es.push ⟨key, z, clock⟩).findIdx? (fun e => ((e.born : Nat) : Int) == ((clock : Nat) : Int)) = some es.size := by
        rw [WideElems.findIdx_arr]
        refine WideElems.findIdx_born (l := (es.push ⟨key, z, clock⟩).toList) (j := es.size) (e0 := ⟨key, z, clock⟩) ?_ (by simp)
        simp only [Array.toList_push, List.map_append, List.map_cons, List.map_nil]
        refine List.nodup_append.2 ⟨s2, by simp, fun a ha c hc e1 => ?_⟩
        simp only [List.mem_singleton] at hc
        obtain ⟨x, hx, rfl⟩ := List.mem_map.1 ha
        have := s1 x hx
        omega
      have hmod : (es.push ⟨key, z, clock⟩).modify es.size (fun e => { e with val := val }) = es.push ⟨key, val, clock⟩ := by
        apply Array.ext'
        rw [Array.toList_modify, Array.toList_push, Array.toList_push, ← Array.length_toList, WideElems.modify_last]
      have key2 : ∀ w2 : World, w2.heap[b]? = some (.map (es.push ⟨key, z, clock⟩) (clock + 1)) → (Instr.entryStore t (.map (some b)) (.int .i64 clock) val).run P w2 = .ok () (ChangeMaps.setBlock w2 b (.map (es.push ⟨key, val, clock⟩) (clock + 1))) := fun w2 hw2 => by
        simp [Instr.entryStore, MapKept.run_getObj_map hw2, asInt, asIntOf, hidx, hmod, MapKept.run_setObj_map _ hw2, Result.andThen, ChangeMaps.setBlock]
      rw [key2 _ (hset _)]
      simp [ChangeMaps.setBlock]
  · have hj : es[j]? = some e0 := by simpa using h2
    have hsame : es.modify j (fun e => { e with key := key }) = es := by
      apply Array.ext'
      rw [Array.toList_modify, ChangeMaps.modify_eq_set _ _ _ _ h2]
      have : ({ e0 with key := key } : MapEntry) = e0 := by rw [← h3]
      rw [this]
      exact WideElems.set_self _ _ _ h2
    have hu : (Instr.mapUpdate t (.map (some b)) key val).run P w = .ok () (ChangeMaps.setBlock w b (.map (es.modify j (fun e' => { e' with key := key, val := val })) clock)) := by
      simp [Instr.mapUpdate, run_underlying ht, MapKept.run_getObj_map hb, K.check w false hkey, h1, hj, h3, K.stays w hkey, MapKept.run_setObj_map _ hb, Result.andThen, ChangeMaps.setBlock]
    rw [hu] at hrun
    obtain rfl : ChangeMaps.setBlock w b (.map (es.modify j (fun e' => { e' with key := key, val := val })) clock) = w' := by simpa using hrun
    refine ⟨e0.val, e0.born, ChangeMaps.setBlock w b (.map es clock), _, ?_, ?_, hown, hgr⟩
    · simp [Instr.mapEntry, run_underlying ht, MapKept.run_getObj_map hb, K.check w false hkey, h1, hj, h3, K.stays w hkey, hsame, MapKept.run_setObj_map _ hb, Result.andThen, ChangeMaps.setBlock, goInt]
    · have hidx : es.findIdx? (fun e => ((e.born : Nat) : Int) == ((e0.born : Nat) : Int)) = some j := by
        rw [WideElems.findIdx_arr]
        exact WideElems.findIdx_born s2 h2
      have hmod : es.modify j (fun e => { e with val := val }) = es.modify j (fun e' => { e' with key := key, val := val }) := by
        apply Array.ext'
        rw [Array.toList_modify, Array.toList_modify, ChangeMaps.modify_eq_set _ _ _ _ h2, ChangeMaps.modify_eq_set _ _ _ _ h2, ← h3]
      have key2 : ∀ w2 : World, w2.heap[b]? = some (.map es clock) → (Instr.entryStore t (.map (some b)) (.int .i64 e0.born) val).run P w2 = .ok () (ChangeMaps.setBlock w2 b (.map (es.modify j (fun e' => { e' with key := key, val := val })) clock)) := fun w2 hw2 => by
        simp [Instr.entryStore, MapKept.run_getObj_map hw2, asInt, asIntOf, hidx, hmod, MapKept.run_setObj_map _ hw2, Result.andThen, ChangeMaps.setBlock]
      rw [key2 _ (hset _)]
      simp [ChangeMaps.setBlock]
theorem slotSays_nil : SlotSays (.map []) [] := ⟨⟨[], rfl⟩, fun v _ _ => ⟨rfl, rfl⟩⟩
end Go.Proofs.YtmkencdkglbpbaaDoor

/- alloc: the map of where registers are read. -/
import Derived.Test.YtmkencdkglbpbaaDoorAlN
import Derived.Maps.GroupsBeside
set_option maxRecDepth 100000
set_option linter.unusedVariables false
namespace Go.Proofs.YtmkencdkglbpbaaDoor
open Go.RowKit Go.Maps Go.MapKept Go.WideElems Go.ChangeMaps Go.ChangeShapes Go.WideShapes

theorem lits_inj {zs us : List Int} (h : lits (H := Unit) .i64 zs = lits .i64 us) : zs = us :=
  (List.map_inj_right (fun a b hab => by cases hab; rfl)).1 h
/-- The map says where each register is read. -/
def GSays (D : DataW Unit) (f : Int → List Int) : Prop := IsMap D ∧ ∀ v : Int, D.atKey (.int .i64 v) .nil = if f v = [] then .nil else .slice (lits .i64 (f v)) []
theorem gSays_nil : GSays (.map []) (fun _ => []) := ⟨⟨[], rfl⟩, fun v => by rw [if_pos rfl]; rfl⟩
theorem GSays.at {D : DataW Unit} {f : Int → List Int} (h : GSays D f) {w : World} {B : Nat} {e : TypeId} {v : Int} {u : Value} {zs : List Int} (hat : D.atKey (.int .i64 v) .nil = rowDatum .i64 u zs) (ho : w.ownsInts B e .i64 u zs) : zs = f v := by
  rw [h.2 v] at hat
  rcases ho.datum (H := Unit) with ⟨h1, h2⟩ | h1
  · rw [h1] at hat
    split at hat
    · rename_i hf; rw [h2, hf]
    · cases hat
  · rw [h1] at hat
    split at hat
    · cases hat
    · injection hat with hat
      exact (lits_inj hat).symm
theorem GSays.put {D : DataW Unit} {f : Int → List Int} (h : GSays D f) {w : World} {B : Nat} {e : TypeId} (v i : Int) {u : Value} (ho : w.ownsInts B e .i64 u (f v ++ [i])) : GSays (D.put (.int .i64 v) (rowDatum .i64 u (f v ++ [i]))) (fun x => if x = v then f v ++ [i] else f x) := by
  refine ⟨h.1.put _ _, fun x => ?_⟩
  by_cases hx : x = v
  · subst hx
    rw [atKey_put_same h.1 (by trivial), ho.datum_pos (by simp)]
    simp
  · rw [atKey_put_other (by intro e; injection e with _ e; exact hx e), h.2 x]
    simp [hx]

theorem lookup_all {P : Program} {t k E : TypeId} {q : IntKind} (hk : P.underlying k = some (.int q)) (ht : P.underlying t = some (.map k E)) (hz : ∀ w : World, (zeroValue E).run P w = .ok (.slice none 0 0) w) {es : Array MapEntry} {clock : Nat} (hkeys : ∀ x ∈ es.toList, ∃ l, keyOf P k x.key = some l) {key : Value} {kl : Lit} (hkey : keyOf P k key = some kl) (b : Nat) :
    ∃ v, ∀ w : World, w.heap[b]? = some (.map es clock) → (Instr.lookup t (.map (some b)) key false).run P w = .ok v w := by
  have K : Keyed P k := int_keyed hk
  have isK : ∀ {v : Value} {l : Lit}, keyOf P k v = some l → IsKey (.int q) v := fun {v l} h => by
    rw [show keyOf P k v = mapKey P k v by simp [keyOf, hk]] at h
    obtain ⟨d', hd', h1, h2⟩ := mapKey_isKey h
    rw [hk] at hd'
    cases hd'
    exact h1
  rcases findNow_spec (isK hkey) es.toList 0 (fun y hy => by obtain ⟨l, hl⟩ := hkeys y hy; exact isK hl) with ⟨h1, h2⟩ | ⟨j, e0, h1, h2, h3⟩
  · refine ⟨.slice none 0 0, fun w hb => ?_⟩
    have h4 := run_findKey (w := w) hk h1
    simp [Instr.lookup, run_underlying ht, MapKept.run_getObj_map hb, K.check w _ hkey, h4, hz, Result.andThen]
  · refine ⟨e0.val, fun w hb => ?_⟩
    have h4 := run_findKey (w := w) hk h1
    simp [Instr.lookup, run_underlying ht, MapKept.run_getObj_map hb, K.check w _ hkey, h4, Result.andThen]

/-- A round: look up, append, store. -/
theorem groups_round {P : Program} {t k E e : TypeId} {q : IntKind} (hk : P.underlying k = some (.int q)) (ht : P.underlying t = some (.map k E)) (hz : ∀ w : World, (zeroValue E).run P w = .ok (.slice none 0 0) w) {w : World} {base b n : Nat} {D : DataW Unit} (h : w.ownsGroups P k base e .i64 b n D) (hn : n < maxLen) {key : Value} {kl : Lit} (hkey : keyOf P k key = some kl) :
    ∃ u zs, D.atKey kl .nil = rowDatum .i64 u zs ∧ w.ownsInts base e .i64 u zs ∧ zs.length ≤ n ∧ (∀ w' : World, w'.heap[b]? = w.heap[b]? → (Instr.lookup t (.map (some b)) key false).run P w' = .ok u w') ∧
      (∀ No : Nat → Prop, w.Shuns b No → ∀ g, u.ownBlock = some g → ¬ No g) ∧
      ∀ (w1 : World) (v' : Value) (zs' : List Int), w.grownBy w1 u.ownBlock → w1.ownsInts base e .i64 v' zs' → zs'.length ≤ n + 1 → (v'.ownBlock = u.ownBlock ∨ ∃ g, v'.ownBlock = some g ∧ w.heap.size ≤ g) →
        ∃ w2, (Instr.mapUpdate t (.map (some b)) key v').run P w1 = .ok () w2 ∧ w2.ownsGroups P k base e .i64 b (n + 1) (D.put kl (rowDatum .i64 v' zs')) ∧ w1.grownBy w2 (some b) ∧
          ∀ No : Nat → Prop, w.Shuns b No → (∀ g, v'.ownBlock = some g → ¬ No g) → w2.Shuns b No := by
  have K : Keyed P k := int_keyed hk
  obtain ⟨v, zs, hrun, hat, hoi, hzl, hback⟩ := h.at K ht (hz w) hn hkey
  have h0 := h
  obtain ⟨es, clock, hb, F, hs, hD, hbb, _⟩ := h
  obtain ⟨v2, hall⟩ := lookup_all hk ht hz F.keys hkey b (clock := clock)
  have hv2 : v2 = v := by
    have := (hall w hb).symm.trans hrun
    simpa using this
  subst hv2
  refine ⟨v2, zs, hat, hoi, hzl, fun w' hw' => hall w' (hw'.trans hb), ?_, fun w1 v' zs' hg hown' hl' hloc => ?_⟩
  · subst hD
    rcases Maps.fit_look false K ht (hz w) hb F hkey with ⟨hrun', _, _⟩ | ⟨e0, y, hm0, _, hrun', _, _, _⟩
    · rw [hrun] at hrun'
      obtain rfl : v2 = .slice none 0 0 := by simpa using hrun'
      intro _ _ g hg'
      cases hg'
    · rw [hrun] at hrun'
      obtain rfl : v2 = e0.val := by simpa using hrun'
      exact fun No hs g hg' => hs es clock hb e0 hm0 g hg'
  · obtain ⟨w2, hrun2, r1, r2⟩ := hback w1 v' zs' hg hown' hl' hloc
    refine ⟨w2, hrun2, r1, r2, fun No hsh hno => ?_⟩
    have hblt : b < w.heap.size := (Array.getElem?_eq_some_iff.1 hb).1
    have hb1 : w1.heap[b]? = some (.map es clock) := (hg.block b hblt (fun e1 => by have := (hoi.1.lt b e1.symm).1; omega)).trans hb
    obtain ⟨es', clock', hb2, hwho⟩ := stored_who K ht hb1 F (Nat.lt_of_le_of_lt hs hn) hkey hrun2
    intro es2 clock2 hb2' y hy g hyg
    obtain ⟨rfl, rfl⟩ : es' = es2 ∧ clock' = clock2 := by rw [hb2] at hb2'; simpa using hb2'
    rcases hwho y hy with ⟨hy0, _⟩ | ⟨_, hval⟩
    · exact hsh es clock hb y hy0 g hyg
    · exact hno g (hval ▸ hyg)

theorem zeroSl (w : World) : (zeroValue 41).run Tryd.prog w = .ok (.slice none 0 0) w := by kernel_rfl
/-- What the allocator finds in the map. -/
theorem groups_slice {w0 : World} {base b n : Nat} {D : DataW Unit} {f : Int → List Int} (h : w0.ownsGroups Tryd.prog 3 base 3 .i64 b n D) (hs : GSays D f) (hn : n ≤ 1000) (v : Int) (hv : -1 ≤ v ∧ v ≤ 65535) {w : World} (hsz : w0.heap.size ≤ w.heap.size) (hb : w.heap[b]? = w0.heap[b]?) (hrow : ∀ g, base ≤ g → g < w0.heap.size → w.heap[g]? = w0.heap[g]?) :
    ∃ x n cc, (Instr.lookup 79 (.map (some b)) (.int .i64 v) false).run Tryd.prog w = .ok (.slice x n cc) w ∧ LSl w x (f v) ∧ (f v).length = n ∧ n ≤ 1000 := by
  have hkey : keyOf Tryd.prog 3 (.int .i64 v) = some (.int .i64 v) := keyOf_int_mk Tryd.underlying3 (WalkArith.wf_i64 (by omega))
  obtain ⟨u, zs, hat, hoi, hzl, hl, _, _⟩ := groups_round Tryd.underlying3 Tryd.underlying79 zeroSl h (by unfold maxLen; omega) hkey
  have hz := hs.at hat hoi
  subst hz
  obtain ⟨x, cc, rfl, hcc, hL, hg⟩ := own_LSl hoi.1 rfl
  refine ⟨x, (f v).length, cc, hl w hb, hL.same (fun g e => ?_), rfl, by omega⟩
  obtain ⟨l, ho⟩ := hg g e
  have := hoi.1.lt g ho
  exact ⟨by omega, hrow g this.1 this.2⟩
theorem lastF_append : ∀ (l : List Op8) (o : Op8) (k : Nat) (v : Int), lastF (l ++ [o]) k v = lastF l k v ++ ((regsOf [o.f0, o.f1, o.f2, o.f3]).filter (fun x => x == v)).map (fun _ => ((k + l.length : Nat) : Int))
  | [], o, k, v => by simp [lastF]
  | a :: l, o, k, v => by
    rw [List.cons_append, lastF, lastF, lastF_append l o (k + 1) v, List.append_assoc]
    congr 3
    funext _
    simp only [List.length_cons]
    congr 1; omega
theorem lastF_length : ∀ (l : List Op8) (k : Nat) (v : Int), (lastF l k v).length ≤ 4 * l.length
  | [], _, _ => by simp [lastF]
  | o :: l, k, v => by
    have h1 := lastF_length l (k + 1) v
    have h2 := List.length_filter_le (fun x => x == v) (regsOf [o.f0, o.f1, o.f2, o.f3])
    have h3 := regsOf_le4 o.f0 o.f1 o.f2 o.f3
    rw [lastF]
    simp only [List.length_append, List.length_map, List.length_cons]
    omega

section
open Go.RowKit Go.Maps Go.WideElems Go.MapKept Go.ChangeMaps

def acOf (w5 : World) (ab kb mb : Nat) (x : Option Addr) (n cc : Nat) (base : Int) (f : Int → List Int) : AC := ⟨w5, w5.heap.size, ab, kb, mb, x, n, cc, base, f, fun _ => False, w5⟩
theorem groups_empty {w : World} {b B : Nat} (h : w.heap[b]? = some (.map #[] 0)) (hb : b < B) : w.ownsGroups Tryd.prog 3 B 3 .i64 b 0 (DataW.map [] : DataW Unit) :=
  ⟨#[], 0, h, ⟨by simp, stamped_empty 0, by simp⟩, Nat.le_refl _, rfl, hb, by simp, by simp⟩
theorem acOf_ok {w5 : World} {ab kb mb : Nat} {x : Option Addr} {n cc : Nat} {base : Int} {f : Int → List Int} {BS N : Nat} {D : DataW Unit} (hab : ab < w5.heap.size) (hmb : mb < w5.heap.size) (ham : ab ≠ mb) (hka : kb ≠ ab) (hkm : kb ≠ mb) (hln : n ≤ 100) (hbase : 0 ≤ base ∧ base ≤ 1020)
    (hg : w5.ownsGroups Tryd.prog 3 BS 3 .i64 kb N D) (hs : GSays D f) (hN : N ≤ 1000) (hB1 : ab < BS) (hB2 : mb < BS) : ACok (acOf w5 ab kb mb x n cc base f) := by
  refine ⟨hab, hmb, ham, hln, hbase, fun w hf v h0 h1 => ?_⟩
  have hk : kb < w5.heap.size := by obtain ⟨es, cl, h, _⟩ := hg; exact (Array.getElem?_eq_some_iff.1 h).1
  exact groups_slice hg hs hN v ⟨h0, h1⟩ hf.size (hf.block kb hk hka hkm) (fun g h2 h3 => hf.block g h3 (by show g ≠ ab; omega) (by show g ≠ mb; omega))
theorem books_of {w5 : World} {ab kb mb : Nat} {x : Option Addr} {n cc : Nat} {base : Int} {f : Int → List Int} {G : List Int} (hblk : w5.heap[ab]? = some (.cells (alC (acOf w5 ab kb mb x n cc base f) (.slice none 0 0) (.slice none 0 0) (.slice none 0 0) ⟨0, G, [], [], 0, 0⟩).toArray 83 (0, 0)))
    (hm : w5.ownsMap Tryd.prog 3 (plainElem Tryd.prog 3) mb 0 (DataW.map [] : DataW Unit)) (hG : G.length = 8) (hgb : ∀ y ∈ G, -1 ≤ y ∧ y ≤ 65535) : AlIn (acOf w5 ab kb mb x n cc base f) w5 (.slice none 0 0) (.slice none 0 0) (.slice none 0 0) [] 0 (.map []) 1 ⟨0, G, [], [], 0, 0⟩ where
  fr := ⟨rfl, rfl, rfl, Nat.le_refl _, fun _ _ _ _ => rfl⟩
  blk := hblk
  g8 := hG
  map := hm
  rt := World.ownsRow_nil _ _ _ _
  rp := World.ownsRow_nil _ _ _ _
  ro := World.ownsRow_nil _ _ _ _
  tp := .inl rfl
  tob := .inl rfl
  po := .inl rfl
  gb := hgb
  tb := by simp
  pn := by simp
  tn := by simp
  on := by simp
  qn := by simp
  n := by simp
  sl := by simp
  pos := by simp
  kf := fun g h => h.elim
/-- The registers, when some are freed. -/
def regK (k : Nat) : List Int := List.replicate k (-1) ++ List.replicate (8 - k) 0
theorem regK_len (k : Nat) (hk : k ≤ 8) : (regK k).length = 8 := by simp [regK]; omega
theorem regK_set (k : Nat) (hk : k < 8) : (regK k).set k (-1) = regK (k + 1) := by
  match k, hk with
  | 0, _ => rfl
  | 1, _ => rfl
  | 2, _ => rfl
  | 3, _ => rfl
  | 4, _ => rfl
  | 5, _ => rfl
  | 6, _ => rfl
  | 7, _ => rfl
theorem regK_bd (k : Nat) : ∀ y ∈ regK k, -1 ≤ y ∧ y ≤ 65535 := by
  intro y hy
  simp only [regK, List.mem_append, List.mem_replicate] at hy
  omega
/-- Only one map's block has turned, of the old ones. -/
structure MapOnly (w w' : World) (kb : Nat) : Prop where
  os : w'.os = w.os
  tape : w'.tape = w.tape
  output : w'.output = w.output
  size : w.heap.size ≤ w'.heap.size
  block : ∀ j, j < w.heap.size → j ≠ kb → w'.heap[j]? = w.heap[j]?
theorem MapOnly.refl (w : World) (kb : Nat) : MapOnly w w kb := ⟨rfl, rfl, rfl, Nat.le_refl _, fun _ _ _ => rfl⟩
theorem MapOnly.grown {w w1 w2 : World} {kb : Nat} (h : MapOnly w w1 kb) {row : Option Nat} (hg : w1.grownBy w2 row) (hr : ∀ j, row = some j → j = kb ∨ w.heap.size ≤ j) : MapOnly w w2 kb :=
  ⟨hg.os.trans h.os, hg.tape.trans h.tape, hg.output.trans h.output, Nat.le_trans h.size hg.size, fun j hj hk => (hg.block j (Nat.lt_of_lt_of_le hj h.size) (fun e => by rcases hr j e.symm with h | h <;> omega)).trans (h.block j hj hk)⟩
theorem MapOnly.below {w w1 w2 : World} {kb : Nat} (h : MapOnly w w1 kb) (hb : Below w1.heap.size w1 w2) : MapOnly w w2 kb :=
  h.grown (row := none) ⟨hb.os, hb.tape, hb.output, hb.size, fun k hk _ => hb.block k hk⟩ (by simp)
theorem OpsSl.map {w w' : World} {kb : Nat} {x : Option Addr} {L : List Op8} (h : OpsSl w x L) (hm : MapOnly w w' kb) (hk : ∀ b o, x = some ⟨b, o, none⟩ → b ≠ kb) : OpsSl w' x L := h.kept hm.size fun b o e hl => hm.block b hl (hk b o e)
theorem fresh3 (w : World) (C : Array Value) (t : TypeId) : Below w.heap.size w (((w.alloc (.map #[] 0)).alloc (.map #[] 0)).alloc (.cells C t)) ∧
    (((w.alloc (.map #[] 0)).alloc (.map #[] 0)).alloc (.cells C t)).heap[w.heap.size]? = some (.map #[] 0) ∧
    (((w.alloc (.map #[] 0)).alloc (.map #[] 0)).alloc (.cells C t)).ownsMap Tryd.prog 3 (plainElem Tryd.prog 3) (w.heap.size + 1) 0 (DataW.map [] : DataW Unit) ∧
    (((w.alloc (.map #[] 0)).alloc (.map #[] 0)).alloc (.cells C t)).heap[w.heap.size + 1 + 1]? = some (.cells C t (0, 0)) ∧
    (((w.alloc (.map #[] 0)).alloc (.map #[] 0)).alloc (.cells C t)).heap.size = w.heap.size + 1 + 1 + 1 := by
  obtain ⟨wa, hwa⟩ : ∃ wa, wa = w.alloc (.map #[] 0) := ⟨_, rfl⟩
  obtain ⟨wb, hwb⟩ : ∃ wb, wb = wa.alloc (.map #[] 0) := ⟨_, rfl⟩
  have s1 : wa.heap.size = w.heap.size + 1 := by rw [hwa]; simp
  have s2 : wb.heap.size = w.heap.size + 1 + 1 := by rw [hwb]; simp [s1]
  rw [← hwa, ← hwb]
  have h1 := MapKept.heap_alloc w (.map #[] 0)
  have h2 := MapKept.heap_alloc wa (.map #[] 0)
  have h3 := MapKept.heap_alloc wb (.cells C t)
  rw [← hwa] at h1
  rw [← hwb] at h2
  have b1 : Below w.heap.size w wa := by rw [hwa]; exact (Below.refl _ _).alloc (Nat.le_refl _) _
  have b2 : Below wa.heap.size wa wb := by rw [hwb]; exact (Below.refl _ _).alloc (Nat.le_refl _) _
  have b3 : Below wb.heap.size wb (wb.alloc (.cells C t)) := (Below.refl _ _).alloc (Nat.le_refl _) _
  refine ⟨(b1.trans (b2.mono b1.size)).trans (b3.mono (b1.trans (b2.mono b1.size)).size), ?_, ?_, ?_, by simp [s2]⟩
  · rw [h3.2 _ (by omega), h2.2 _ (by omega)]; exact h1.1
  · have := World.ownsMap_made (H := Unit) wa Tryd.prog 3 (plainElem Tryd.prog 3)
    rw [← hwb, s1] at this
    exact ownsMap_below this b3
  · have := h3.1
    rw [s2] at this; exact this
theorem listV_all {o : Op8} : ∀ {l : List Op8} {S : List Int}, listV S l = true → o ∈ l → rightV o.K o.t0 o.t1 o.f0 o.f1 o.f2 o.f3 o.N = true
  | a :: l, S, h, ho => by
    obtain ⟨h1, h2⟩ := listV_cons h
    rcases List.mem_cons.1 ho with rfl | ho
    · exact h1.ok
    · exact listV_all h2 ho
end
end Go.Proofs.YtmkencdkglbpbaaDoor

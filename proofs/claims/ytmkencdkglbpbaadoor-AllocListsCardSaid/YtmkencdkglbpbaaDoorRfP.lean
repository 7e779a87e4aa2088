/- The document's step, in plain terms: loop by loop it does what the allocator's step does. -/
import Derived.Test.YtmkencdkglbpbaaDoorRfA
import Derived.Test.YtmkencdkglbpbaaDoorAlQ
import Derived.Test.YtmkencdkglbpbaaDoorVopQ
set_option maxRecDepth 100000
namespace Go.Proofs.YtmkencdkglbpbaaDoor
open Go.RowKit Go.Maps

theorem readF_append {nx : Int → Int} {base : Int} {pins : List Int} : ∀ (A B : List Int) (s : AS), readF nx base pins (A ++ B) s = readF nx base pins B (readF nx base pins A s)
  | [], B, s => rfl
  | v :: A, B, s => by
    rw [List.cons_append, readF, readF]
    split
    · exact readF_append A B _
    · exact readF_append A B _
theorem setF_append {nx : Int → Int} {base : Int} {pins : List Int} : ∀ (A B : List Int) (s : AS) (tt : List Int), setF nx base pins (A ++ B) s tt = setF nx base pins B (setF nx base pins A s tt).1 (setF nx base pins A s tt).2
  | [], B, s, tt => rfl
  | v :: A, B, s, tt => by
    rw [List.cons_append, setF, setF]
    exact setF_append A B _ _
theorem regsOf_succ (l : List Int) (k : Nat) (hk : k < l.length) : regsOf (l.take (k + 1)) = regsOf (l.take k) ++ (if l[k] = -1 then [] else [l[k]]) := by
  rw [List.take_succ_eq_append_getElem hk]
  unfold regsOf
  rw [List.filter_append]
  congr 1
  by_cases h : l[k] = -1
  · rw [if_pos h, h]; rfl
  · rw [if_neg h]
    simp [h]
theorem takeF_slots_le (nx : Int → Int) (base : Int) (pins : List Int) (s : AS) (v : Int) : (takeF nx base pins s v).slots ≤ max s.slots (s.T.length + 1) := by
  unfold takeF
  simp only
  split
  · unfold spillF
    split
    · omega
    · simp only
      have h1 := idxV_bd s.T (-1) 0
      have : slotOf s ≤ s.T.length := by unfold slotOf; split <;> omega
      omega
  · omega
theorem pins_no (o : Op8) : pinsOf o false = regsOf [o.f0, o.f1, o.f2, o.f3] := by simp [pinsOf]
theorem pins_yes (o : Op8) : pinsOf o true = regsOf [o.f0, o.f1, o.f2, o.f3] ++ regsOf [o.t0, o.t1] := by simp [pinsOf]

/-- Reading the first k. -/
def readS (nx : Int → Int) (base : Int) (o : Op8) (s : AS) (k : Nat) : AS := readF nx base (pinsOf o false) (regsOf ([o.f0, o.f1, o.f2, o.f3].take k)) s
theorem readS_four (nx : Int → Int) (base : Int) (o : Op8) (s : AS) : readS nx base o s 4 = readF nx base (regsOf [o.f0, o.f1, o.f2, o.f3]) (regsOf [o.f0, o.f1, o.f2, o.f3]) s := by rw [readS, pins_no]; rfl
theorem take_regs {l : List Int} {k : Nat} {x : Int} (h : x ∈ regsOf (l.take k)) : x ∈ regsOf l := by
  unfold regsOf at *
  obtain ⟨h1, h2⟩ := List.mem_filter.1 h
  exact List.mem_filter.2 ⟨List.mem_of_mem_take h1, h2⟩
/-- One of them. -/
theorem readS_at {nx : Int → Int} {base : Int} {last : Int → List Int} {n : Int} {S : List Int} {L : List Op8} {o : Op8} {s : AS} (hf : Fine s) (h : InvO last n base S L s) (ho : OpIn S o) (hnow : ∀ v ∈ regsOf [o.f0, o.f1, o.f2, o.f3], nextF n s.pos (last v) < n) (k : Nat) (hk : k < [o.f0, o.f1, o.f2, o.f3].length) :
    Fine (readS nx base o s k) ∧ (readS nx base o s k).pos = s.pos ∧ (([o.f0, o.f1, o.f2, o.f3][k] = -1 ∧ readS nx base o s (k + 1) = readS nx base o s k) ∨
      (0 ≤ [o.f0, o.f1, o.f2, o.f3][k] ∧ [o.f0, o.f1, o.f2, o.f3][k] ≤ 65535 ∧ 0 ≤ idxV (readS nx base o s k).G [o.f0, o.f1, o.f2, o.f3][k] 0 ∧ readS nx base o s (k + 1) = readS nx base o s k) ∨
      (0 ≤ [o.f0, o.f1, o.f2, o.f3][k] ∧ [o.f0, o.f1, o.f2, o.f3][k] ≤ 65535 ∧ idxV (readS nx base o s k).G [o.f0, o.f1, o.f2, o.f3][k] 0 < 0 ∧
        0 ≤ idxV (takeF nx base (pinsOf o false) (readS nx base o s k) [o.f0, o.f1, o.f2, o.f3][k]).T [o.f0, o.f1, o.f2, o.f3][k] 0 ∧
        readS nx base o s (k + 1) = { takeF nx base (pinsOf o false) (readS nx base o s k) [o.f0, o.f1, o.f2, o.f3][k] with out := (takeF nx base (pinsOf o false) (readS nx base o s k) [o.f0, o.f1, o.f2, o.f3][k]).out ++ [⟨2, pickF nx (pinsOf o false) (readS nx base o s k), -1, -1, -1, -1, -1, base + 4 * idxV (takeF nx base (pinsOf o false) (readS nx base o s k) [o.f0, o.f1, o.f2, o.f3][k]).T [o.f0, o.f1, o.f2, o.f3][k] 0⟩] })) := by
  obtain ⟨r1, _⟩ := Tryd.opOk_regs ho.ok
  have l4 := regsOf_le4 o.f0 o.f1 o.f2 o.f3
  have hp : (pinsOf o false).length ≤ 6 := by rw [pins_no]; omega
  have hf1 : Fine (readS nx base o s k) := readF_fine _ hf (fun x hx => r1 x (take_regs hx))
  obtain ⟨i1, m1, _⟩ := readF_inv (nx := nx) (last := last) (n := n) (S := S) (L := L) (base := base) hp (regsOf ([o.f0, o.f1, o.f2, o.f3].take k)) hf h (fun v hv => ⟨ho.u v (take_regs hv), by rw [pins_no]; exact take_regs hv, hnow v (take_regs hv), r1 v (take_regs hv)⟩)
  have p1 : (readS nx base o s k).pos = s.pos := readF_pos _ _
  refine ⟨hf1, p1, ?_⟩
  have hs : readS nx base o s (k + 1) = readF nx base (pinsOf o false) (if [o.f0, o.f1, o.f2, o.f3][k] = -1 then [] else [[o.f0, o.f1, o.f2, o.f3][k]]) (readS nx base o s k) := by
    unfold readS
    rw [regsOf_succ _ k hk, readF_append]
  have hmem : [o.f0, o.f1, o.f2, o.f3][k] ∈ [o.f0, o.f1, o.f2, o.f3] := List.getElem_mem hk
  have hi1 : InvO last n base S L (readS nx base o s k) := i1
  generalize readS nx base o s k = sk at hf1 p1 hs hi1 ⊢
  generalize [o.f0, o.f1, o.f2, o.f3][k]'hk = X at hs hmem ⊢
  by_cases hX : X = -1
  · exact .inl ⟨hX, by rw [hs, if_pos hX]; rfl⟩
  · have hXm : X ∈ regsOf [o.f0, o.f1, o.f2, o.f3] := by
      unfold regsOf
      exact List.mem_filter.2 ⟨hmem, by simpa using hX⟩
    have hb := r1 X hXm
    rw [if_neg hX] at hs
    by_cases hJ : idxV sk.G X 0 < 0
    · refine .inr (.inr ⟨hb.1, hb.2, hJ, ?_⟩)
      have hm : X ∉ sk.G := fun e => by have := (idxV_mem sk.G X 0).2 e; omega
      have hT : X ∈ sk.T := (hi1.live X (ho.u X hXm) hX (by rw [p1]; exact hnow X hXm)).resolve_left hm
      have hT1 := takeF_T (nx := nx) (base := base) (pins := pinsOf o false) (v := X) hT hX
      have hi := (idxV_mem _ X 0).2 hT1
      refine ⟨hi, ?_⟩
      rw [hs, readF, if_pos hJ]
      simp only [readF]
      rw [Int.max_eq_left hi]
    · refine .inr (.inl ⟨hb.1, hb.2, by omega, ?_⟩)
      rw [hs, readF, if_neg hJ, readF]

/-- Where what is read lies. -/
def fromAt (G : List Int) (f : Int) : Int := if f = -1 then -1 else idxV G f 0
def qF (o : Op8) (G : List Int) (k : Nat) : Op8 := { o with f0 := if 0 < k then fromAt G o.f0 else o.f0, f1 := if 1 < k then fromAt G o.f1 else o.f1, f2 := if 2 < k then fromAt G o.f2 else o.f2, f3 := if 3 < k then fromAt G o.f3 else o.f3 }
theorem qF_zero (o : Op8) (G : List Int) : qF o G 0 = o := by simp [qF]
def cellsO (q : Op8) : Array Value := #[.int .i64 q.K, .int .i64 q.t0, .int .i64 q.t1, .int .i64 q.f0, .int .i64 q.f1, .int .i64 q.f2, .int .i64 q.f3, .int .u32 q.N]
theorem qF_skip (o : Op8) (G : List Int) (k : Nat) (hk : k < [o.f0, o.f1, o.f2, o.f3].length) (h : [o.f0, o.f1, o.f2, o.f3][k] = -1) : qF o G (k + 1) = qF o G k := by
  match k, hk with
  | 0, _ => have h : o.f0 = -1 := h; simp [qF, fromAt, h]
  | 1, _ => have h : o.f1 = -1 := h; simp [qF, fromAt, h]
  | 2, _ => have h : o.f2 = -1 := h; simp [qF, fromAt, h]
  | 3, _ => have h : o.f3 = -1 := h; simp [qF, fromAt, h]
theorem qF_next (o : Op8) (G : List Int) (k : Nat) (hk : k < [o.f0, o.f1, o.f2, o.f3].length) (h : [o.f0, o.f1, o.f2, o.f3][k] ≠ -1) : (cellsO (qF o G k)).setIfInBounds (3 + k) (.int .i64 (idxV G [o.f0, o.f1, o.f2, o.f3][k] 0)) = cellsO (qF o G (k + 1)) := by
  match k, hk with
  | 0, _ => have h : o.f0 ≠ -1 := h; simp [qF, fromAt, h, cellsO]
  | 1, _ => have h : o.f1 ≠ -1 := h; simp [qF, fromAt, h, cellsO]
  | 2, _ => have h : o.f2 ≠ -1 := h; simp [qF, fromAt, h, cellsO]
  | 3, _ => have h : o.f3 ≠ -1 := h; simp [qF, fromAt, h, cellsO]
theorem padV_map (f : Int → Int) (L : List Int) (j : Nat) (h : ∀ x ∈ L, x ≠ -1) : padV (L.map f) j = if padV L j = -1 then -1 else f (padV L j) := by
  unfold padV
  by_cases hj : j < L.length
  · rw [List.getD_eq_getElem?_getD, List.getD_eq_getElem?_getD, List.getElem?_map, List.getElem?_eq_getElem hj]
    simp only [Option.map_some, Option.getD_some]
    rw [if_neg (h _ (List.getElem_mem hj))]
  · rw [List.getD_eq_getElem?_getD, List.getD_eq_getElem?_getD, List.getElem?_eq_none (by simpa using hj), List.getElem?_eq_none (by simpa using hj)]
    simp
theorem qF_four {o : Op8} (ho : rightV o.K o.t0 o.t1 o.f0 o.f1 o.f2 o.f3 o.N = true) (G : List Int) :
    qF o G 4 = { o with f0 := padV ((regsOf [o.f0, o.f1, o.f2, o.f3]).map fun v => idxV G v 0) 0, f1 := padV ((regsOf [o.f0, o.f1, o.f2, o.f3]).map fun v => idxV G v 0) 1, f2 := padV ((regsOf [o.f0, o.f1, o.f2, o.f3]).map fun v => idxV G v 0) 2, f3 := padV ((regsOf [o.f0, o.f1, o.f2, o.f3]).map fun v => idxV G v 0) 3 } := by
  obtain ⟨k, _, r⟩ := rightOp_of ho
  obtain ⟨_, e0, e1, e2, e3⟩ := regs_four r.pf0 r.pf1 r.pf2 r.pf3 (fromL_bd4 k)
  have hne : ∀ x ∈ regsOf [o.f0, o.f1, o.f2, o.f3], x ≠ -1 := fun x hx => by unfold regsOf at hx; have := (List.mem_filter.1 hx).2; simpa using this
  rw [padV_map _ _ 0 hne, padV_map _ _ 1 hne, padV_map _ _ 2 hne, padV_map _ _ 3 hne, e0, e1, e2, e3]
  rfl

/-- Setting the first k. -/
def setS (nx : Int → Int) (base : Int) (o : Op8) (s : AS) (k : Nat) : AS × List Int := setF nx base (pinsOf o true) (regsOf ([o.t0, o.t1].take k)) s []
def qT (q : Op8) (o : Op8) (k : Nat) (l : List Int) : Op8 := { q with t0 := if 0 < k then padV l 0 else o.t0, t1 := if 1 < k then padV l 1 else o.t1 }
theorem qT_zero (o : Op8) (G : List Int) (l : List Int) : qT (qF o G 4) o 0 l = qF o G 4 := by simp [qT, qF]
theorem setS_at {nx : Int → Int} {base : Int} {S : List Int} {o : Op8} {s : AS} (hf : Fine s) (hg : InG S s) (ho : OpIn S o) (k : Nat) (hk : k < [o.t0, o.t1].length) :
    Fine (setS nx base o s k).1 ∧ (setS nx base o s k).1.pos = s.pos ∧ (([o.t0, o.t1][k] = -1 ∧ setS nx base o s (k + 1) = setS nx base o s k ∧ ∀ q : Op8, qT q o (k + 1) (setS nx base o s k).2 = qT q o k (setS nx base o s k).2) ∨
      (0 ≤ [o.t0, o.t1][k] ∧ [o.t0, o.t1][k] ≤ 65535 ∧ setS nx base o s (k + 1) = (takeF nx base (pinsOf o true) (setS nx base o s k).1 [o.t0, o.t1][k], (setS nx base o s k).2 ++ [pickF nx (pinsOf o true) (setS nx base o s k).1]) ∧
        ∀ q : Op8, (cellsO (qT q o k (setS nx base o s k).2)).setIfInBounds (1 + k) (.int .i64 (pickF nx (pinsOf o true) (setS nx base o s k).1)) = cellsO (qT q o (k + 1) ((setS nx base o s k).2 ++ [pickF nx (pinsOf o true) (setS nx base o s k).1])))) := by
  obtain ⟨_, r2⟩ := Tryd.opOk_regs ho.ok
  obtain ⟨kk, _, r⟩ := rightOp_of ho.ok
  have hn := toL_bd kk
  obtain ⟨a1, a2⟩ := setF_fine (nx := nx) (base := base) (pins := pinsOf o true) (regsOf ([o.t0, o.t1].take k)) (S := S) [] hf hg (fun x hx => r2 x (take_regs hx)) (ho.n.sublist ((List.take_sublist k [o.t0, o.t1]).filter _)) (fun x hx => ho.w x (take_regs hx))
  have hlen := setF_to (nx := nx) (base := base) (pins := pinsOf o true) (regsOf ([o.t0, o.t1].take k)) s []
  have hs : setS nx base o s (k + 1) = setF nx base (pinsOf o true) (if [o.t0, o.t1][k] = -1 then [] else [[o.t0, o.t1][k]]) (setS nx base o s k).1 (setS nx base o s k).2 := by
    unfold setS
    rw [regsOf_succ _ k hk, setF_append]
  have hl2 : (setS nx base o s k).2.length = (regsOf ([o.t0, o.t1].take k)).length := by simpa [setS] using hlen
  refine ⟨a1, a2.2, ?_⟩
  have b0 := (okAt_iff _ 0 o.t0).1 r.pt0
  have b1 := (okAt_iff _ 1 o.t1).1 r.pt1
  generalize setS nx base o s k = P at hs hl2 ⊢
  by_cases hX : [o.t0, o.t1][k] = -1
  · refine .inl ⟨hX, by rw [hs, if_pos hX]; rfl, fun q => ?_⟩
    match k, hk with
    | 0, _ =>
      have hX : o.t0 = -1 := hX
      have : P.2 = [] := List.eq_nil_of_length_eq_zero (by rw [hl2]; rfl)
      simp [qT, this, padV, hX]
    | 1, _ =>
      have hX : o.t1 = -1 := hX
      have : P.2.length ≤ 1 := by rw [hl2]; have := List.length_filter_le (fun x : Int => x != -1) [o.t0]; simpa [regsOf] using this
      have : padV P.2 1 = -1 := by unfold padV; rw [List.getD_eq_getElem?_getD, List.getElem?_eq_none (by omega)]; rfl
      simp [qT, this, hX]
  · have hXm : [o.t0, o.t1][k] ∈ regsOf [o.t0, o.t1] := by
      unfold regsOf
      exact List.mem_filter.2 ⟨List.getElem_mem hk, by simpa using hX⟩
    have hb := r2 _ hXm
    refine .inr ⟨hb.1, hb.2, by rw [hs, if_neg hX]; rfl, fun q => ?_⟩
    match k, hk with
    | 0, _ =>
      have : P.2 = [] := List.eq_nil_of_length_eq_zero (by rw [hl2]; rfl)
      simp [qT, this, padV, cellsO]
    | 1, _ =>
      have hX : o.t1 ≠ -1 := hX
      have h0 : o.t0 ≠ -1 := by omega
      have : P.2.length = 1 := by rw [hl2]; simp [regsOf, h0]
      obtain ⟨p, hp⟩ : ∃ p, P.2 = [p] := List.length_eq_one_iff.1 this
      simp [qT, hp, padV, cellsO]

/-- What is freed, one by one. -/
def frV (nx : Int → Int) (n v : Int) : Int := if v ≠ -1 ∧ nx v = n then -1 else v
theorem freeF_map (nx : Int → Int) (n : Int) (L : List Int) : freeF nx n L = L.map (frV nx n) := rfl
def partF (f : Int → Int) (L : List Int) (j : Nat) : List Int := (L.take j).map f ++ L.drop j
theorem partF_zero (f : Int → Int) (L : List Int) : partF f L 0 = L := by simp [partF]
theorem partF_all (f : Int → Int) (L : List Int) : partF f L L.length = L.map f := by simp [partF]
theorem partF_len (f : Int → Int) (L : List Int) (j : Nat) : (partF f L j).length = L.length := by simp [partF]; omega
theorem partF_at (f : Int → Int) (L : List Int) (j : Nat) (hj : j < L.length) : (partF f L j)[j]? = some L[j] := by
  unfold partF
  rw [List.getElem?_append_right (by simp; omega)]
  simp [List.length_take, Nat.min_eq_left (Nat.le_of_lt hj)]
theorem partF_set (f : Int → Int) (L : List Int) (j : Nat) (hj : j < L.length) : (partF f L j).set j (f L[j]) = partF f L (j + 1) := by
  unfold partF
  have hl : ((L.take j).map f).length = j := by simp; omega
  rw [List.set_append_right _ _ (by omega), hl, Nat.sub_self, List.drop_eq_getElem_cons hj, List.set_cons_zero, List.take_succ_eq_append_getElem hj, List.map_append]
  simp
theorem partF_keep (f : Int → Int) (L : List Int) (j : Nat) (hj : j < L.length) (h : f L[j] = L[j]) : partF f L j = partF f L (j + 1) := by
  rw [← partF_set f L j hj, h]
  refine (List.ext_getElem? fun i => ?_)
  by_cases hi : i = j
  · subst hi
    rw [List.getElem?_set_self (by rw [partF_len]; exact hj), partF_at f L i hj]
  · rw [List.getElem?_set_ne (Ne.symm hi)]
/-- The step, put together. -/
theorem stepF_parts {last : Int → List Int} {n base : Int} {s : AS} {o : Op8} (ho : rightV o.K o.t0 o.t1 o.f0 o.f1 o.f2 o.f3 o.N = true) :
    stepF last n base s o = endF last n { (setS (fun v => nextF n s.pos (last v)) base o (readS (fun v => nextF n s.pos (last v)) base o s 4) 2).1 with out := (setS (fun v => nextF n s.pos (last v)) base o (readS (fun v => nextF n s.pos (last v)) base o s 4) 2).1.out ++ [qT (qF o (readS (fun v => nextF n s.pos (last v)) base o s 4).G 4) o 2 (setS (fun v => nextF n s.pos (last v)) base o (readS (fun v => nextF n s.pos (last v)) base o s 4) 2).2] } := by
  rw [qF_four ho, readS_four, setS, pins_yes]
  rfl
end Go.Proofs.YtmkencdkglbpbaaDoor

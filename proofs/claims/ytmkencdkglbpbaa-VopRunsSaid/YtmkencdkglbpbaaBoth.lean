/- A region that draws its order: operations, calls among them, that leave the world as it is are taken first, beside others that make memory. -/
import Derived.Test.YtmkencdkglbpbaaShiftX
import Derived.Deep.RegionHeld3
import Derived.Deep.QuietTactic
import Derived.Deep.DeepCutAuto
import Derived.StillTail
set_option maxRecDepth 100000
namespace Go.Proofs.Ytmkencdkglbpbaa
open Go.RowKit

section
variable {P : Program} {ops : Array Oper} {Q : Exit → Act → World → Prop} {S : World → Prop} {md : Region.Mode}
/-- In every world that meets S the operation leaves v in its temporary, and the world as it was. -/
def YieldsW (P : Program) (ops : Array Oper) (S : World → Prop) (o : Oper) (v : Value) (a : Act) : Prop :=
  (Region.wanted o (yielded ops a.tmps) = true ∧ ∀ w, S w → o.quietAt P a (fun w' => w' = w) w v) ∨ (Region.wanted o (yielded ops a.tmps) = false ∧ v = undef)
theorem YieldsW.same {o : Oper} {v : Value} {a b : Act} (h : YieldsW P ops S o v a) (he : execOp b.eval o = execOp a.eval o) (hw : Region.wanted o (yielded ops b.tmps) = Region.wanted o (yielded ops a.tmps)) : YieldsW P ops S o v b := by
  unfold YieldsW Oper.quietAt at *
  rw [he, hw]
  exact h
theorem YieldsW.run {i : Nat} {o : Oper} {v : Value} {a : Act} {w : World} {K : Act → World → Prop} (hi : ops[i]? = some o) (h : YieldsW P ops S o v a) (hS : S w) (hK : K (a.put o.dst v) w) : wpOp P ops Q i K a w := by
  unfold wpOp
  simp only [hi]
  rcases h with ⟨hw, hv⟩ | ⟨hw, rfl⟩
  · simp only [hw, if_true]
    refine .inl (Oper.wp_of_quiet (C := fun w' => w' = w) (K := fun b => K b w) rfl (fun b w' e hb => by rw [e]; exact hb) ⟨v, fun w' e => ?_, hK⟩)
    rw [e]
    exact hv w hS
  · simp only [hw]
    exact hK
/-- Another operation, apart from it, does not mind whether its value is there already. -/
theorem YieldsW.past {j : Nat} {oi oj : Oper} {v : Value} {a : Act} {w : World} {K : Act → World → Prop} (hj : ops[j]? = some oj) (hap : oi.apart ops oj = true) (hsi : ∀ cs b, oi.op ≠ .select cs b) (hsj : ∀ cs b, oj.op ≠ .select cs b)
    (hQ : ∀ c a w, Q (.panic c) (a.put oi.dst v) w → Q (.panic c) a w) (hy : YieldsW P ops S oi v a) (h : wpOp P ops Q j K (a.put oi.dst v) w) : wpOp P ops Q j (fun b w' => YieldsW P ops S oi v b ∧ K (b.put oi.dst v) w') a w := by
  obtain ⟨p1, p2, p3⟩ := Oper.apart_spec hap
  have stay : ∀ b : Act, YieldsW P ops S oi v b → ∀ u, YieldsW P ops S oi v (b.put oj.dst u) := fun b hb u => hb.same (execOp_put oi hsi b oj.dst u p3) (wanted_put oi b oj.dst u p3)
  have swap : ∀ (b : Act) (u : Value) (w' : World), K ((b.put oi.dst v).put oj.dst u) w' → K ((b.put oj.dst u).put oi.dst v) w' := fun b u w' hk => by rw [← Act.put_comm b v u p2]; exact hk
  unfold wpOp at h ⊢
  simp only [hj, wanted_put oj a oi.dst v p1] at h ⊢
  by_cases hw : Region.wanted oj (yielded ops a.tmps) = true
  · rw [if_pos hw] at h ⊢
    rcases h with h | ⟨h1, h2⟩
    · refine .inl ?_
      unfold Oper.wp at h ⊢
      rw [execOp_put oj hsj a oi.dst v p1] at h
      cases hr : (execOp a.eval oj).run P w with
      | halt x w' =>
        rw [hr] at h
        cases x <;> simp only [Oper.upon] at h ⊢
        exact hQ _ _ _ h
      | ok nx w' =>
        rw [hr] at h
        cases nx with
        | value u => exact ⟨stay a hy u, swap a u w' h⟩
        | skip => exact ⟨stay a hy undef, swap a undef w' h⟩
        | defer d =>
          have hd : YieldsW P ops S oi v { a with defers := d :: a.defers } := hy.same rfl rfl
          refine ⟨stay _ hd undef, swap _ undef w' ?_⟩
          rw [← Act.put_defers]
          exact h
        | enter f args =>
          refine Calls.mono h fun e w2 he => ?_
          cases e with
          | returned u => exact ⟨stay a hy u, swap a u w2 he⟩
          | panicked c => exact hQ _ _ _ he
          | outgrown => exact he
        | row rw2 args => exact Rows.mono h fun u w2 he => ⟨stay a hy u, swap a u w2 he⟩
        | _ => first | exact h | (simp only [Oper.upon] at h ⊢; exact h) | (simp only [Oper.upon] at h)
    · refine .inr ⟨?_, h2⟩
      unfold Oper.asks at h1 ⊢
      rw [execOp_put oj hsj a oi.dst v p1] at h1
      exact h1
  · rw [if_neg hw] at h ⊢
    exact ⟨stay a hy undef, swap a undef w h⟩
/-- It may be taken first. -/
theorem YieldsW.first {i : Nat} {oi : Oper} {v : Value} (hi : ops[i]? = some oi) (hsel : ∀ (j : Nat) (o : Oper) cs b, ops[j]? = some o → o.op ≠ .select cs b) (hQ : ∀ c a w, Q (.panic c) (a.put oi.dst v) w → Q (.panic c) a w) :
    ∀ (fuel : Nat) (listed : Array Bool) (a : Act) (w : World), (∀ j oj, ops[j]? = some oj → j ≠ i → listed.getD j true = false → (∀ e ∈ oj.after, Region.binds md e = true → e.on ≠ i) → oi.apart ops oj = true) →
      i ∈ Region.ready md ops listed → YieldsW P ops S oi v a → S w → wpAnyH P md ops Q S fuel (listed.setIfInBounds i true) (a.put oi.dst v) w → wpAnyH P md ops Q S (fuel + 1) listed a w
  | fuel, listed, a, w, hfree, hr, hy, hS, H => by
    refine ⟨fun h0 => absurd hr (by rw [h0]; exact List.not_mem_nil), fun j hj => ?_⟩
    by_cases hji : j = i
    · subst hji
      exact hy.run hi hS ⟨hS, H⟩
    · have hj2 := ready_mono hj hji
      cases fuel with
      | zero => rw [H.1] at hj2; cases hj2
      | succ fuel =>
        obtain ⟨hun, oj, hoj, hwait⟩ := mem_ready.1 hj
        have hfi : listed.getD i true = false := by
          obtain ⟨h0, _⟩ := mem_ready.1 hr
          exact h0
        have hno : ∀ e ∈ oj.after, Region.binds md e = true → e.on ≠ i := fun e he hb heq => by
          have h1 := hwait e he hb
          rw [heq, getD_both hfi] at h1
          cases h1
        refine wpOp_mono (fun b w' hb => ⟨hb.2.1, ?_⟩) (hy.past hoj (hfree j oj hoj hji hun hno) (fun cs b => hsel i oi cs b hi) (fun cs b => hsel j oj cs b hoj) hQ (H.2 j hj2))
        refine YieldsW.first hi hsel hQ fuel (listed.setIfInBounds j true) b w' (fun k ok hk hki hku hkn => ?_) (ready_mono hr (Ne.symm hji)) hb.1 hb.2.1 ?_
        · by_cases hjk : j = k
          · subst hjk; exact hfree j ok hk hki hun hkn
          · rw [getD_set_ne true hjk] at hku
            exact hfree k ok hk hki hku hkn
        · rw [Array.setIfInBounds_comm _ _ hji]
          exact hb.2.2
/-- The operations ahead, in the order of the text. -/
def wpBoth (P : Program) (ops : Array Oper) (S : World → Prop) (Lq : Act → Prop) : List Oper → Act → Prop
  | [], a => Lq a
  | o :: l, a => if Region.wanted o (yielded ops a.tmps) = true then ∃ v, (∀ w, S w → o.quietAt P a (fun w' => w' = w) w v) ∧ wpBoth P ops S Lq l (a.put o.dst v) else wpBoth P ops S Lq l (a.put o.dst undef)
theorem wpBoth_nil {Lq : Act → Prop} {a : Act} (h : Lq a) : wpBoth P ops S Lq [] a := h
theorem wpBoth_step {Lq : Act → Prop} {a : Act} {o : Oper} {l : List Oper}
    (h : ∀ K : Act → Prop, (∀ b, wpBoth P ops S Lq l b → K b) → if Region.wanted o (yielded ops a.tmps) = true then ∃ v, (∀ w, S w → o.quietAt P a (fun w' => w' = w) w v) ∧ K (a.put o.dst v) else K (a.put o.dst undef)) : wpBoth P ops S Lq (o :: l) a := h _ fun _ h => h
theorem wpAnyH_both {g : Nat} {w : World} (hs : Region.noSelect ops = true) (hQ : ∀ c (o : Oper) (v : Value) a w, Q (.panic c) (a.put o.dst v) w → Q (.panic c) a w) (hS : S w) : ∀ (l : List Oper) (k : Nat) (listed : Array Bool) (a : Act), (∀ j, j < l.length → l[j]? = ops[k + j]?) →
    Region.lexHead md ops g l.length k listed = true → wpBoth P ops S (fun b => ∀ listed', Region.seqB md ops g (k + l.length) listed' = true → wpAnyH P md ops Q S g listed' b w) l a → wpAnyH P md ops Q S (l.length + g) listed a w
  | [], k, listed, a, _, hB, h => by
    rw [List.length_nil, Nat.zero_add]
    exact h listed hB
  | o :: l, k, listed, a, hl, hB, h => by
    have h0 : ops[k]? = some o := by simpa using (hl 0 (by simp)).symm
    simp only [List.length_cons, Region.lexHead, Bool.and_eq_true] at hB
    obtain ⟨⟨hr, hf⟩, hB'⟩ := hB
    have hrest : ∀ v, wpBoth P ops S (fun b => ∀ listed', Region.seqB md ops g (k + (o :: l).length) listed' = true → wpAnyH P md ops Q S g listed' b w) l (a.put o.dst v) → wpAnyH P md ops Q S (l.length + g) (listed.setIfInBounds k true) (a.put o.dst v) w := fun v hv =>
      wpAnyH_both hs hQ hS l (k + 1) _ _ (fun j hj => by have := hl (j + 1) (by simp; omega); simpa [Nat.add_assoc, Nat.add_comm 1 j] using this) hB' (by
        have e : k + (o :: l).length = k + 1 + l.length := by simp; omega
        rw [e] at hv; exact hv)
    have hgo : ∀ v, YieldsW P ops S o v a → wpAnyH P md ops Q S (l.length + g) (listed.setIfInBounds k true) (a.put o.dst v) w → wpAnyH P md ops Q S (l.length + 1 + g) listed a w := fun v hy hw => by
      rw [show l.length + 1 + g = l.length + g + 1 by omega]
      exact YieldsW.first h0 (Region.noSelect_spec hs) (fun c a w => hQ c o v a w) _ listed a w (Region.free_spec h0 hf) (by simpa using hr) hy hS hw
    unfold wpBoth at h
    by_cases hw : Region.wanted o (yielded ops a.tmps) = true
    · rw [if_pos hw] at h
      obtain ⟨v, hv, hK⟩ := h
      exact hgo v (.inl ⟨hw, hv⟩) (hrest v hK)
    · rw [if_neg hw] at h
      exact hgo undef (.inr ⟨by simpa using hw, rfl⟩) (hrest undef h)
theorem wp_region_both {id : Nat} {a : Act} {w : World} {l : List Oper} (n g : Nat) (hl : l.length = n + g) (hm : P.follows .mixedOrders = true) (hs : Region.noSelect l.toArray = true) (hB : Region.lexHead .any l.toArray g n 0 (Array.replicate (n + g) false) = true)
    (hQ : ∀ c (o : Oper) (v : Value) a w, Q (.panic c) (a.put o.dst v) w → Q (.panic c) a w) (hS : S w.drew)
    (h : wpBoth P l.toArray S (fun b => ∀ listed', Region.seqB .any l.toArray g n listed' = true → wpAnyH P .any l.toArray Q S g listed' b w.drew) (l.take n) a) : (Code.region id l.toArray true).wp P Q a w := by
  refine wp_region_held (S := S) hm ?_
  have hlt : (l.take n).length = n := by simp; omega
  have := wpAnyH_both (md := .any) (g := g) hs hQ hS (l.take n) 0 (Array.replicate (n + g) false) a (fun j hj => by
    have : j < n := by omega
    simp [this]) (by rw [hlt]; exact hB) (by rw [hlt, Nat.zero_add]; exact h)
  rw [hlt] at this
  have e : l.toArray.size = n + g := by simp [hl]
  rw [e]
  exact this
end
end Go.Proofs.Ytmkencdkglbpbaa

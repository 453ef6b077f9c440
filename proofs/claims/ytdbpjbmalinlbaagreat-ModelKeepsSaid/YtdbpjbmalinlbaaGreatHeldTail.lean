/- A region that draws its order: all that only reads is taken first, then one call, then what is forced behind it (a store that may hit what was read). -/
import Derived.Test.YtdbpjbmalinlbaaGreatProg
import Derived.OrdersHeld
import Derived.StillTail
import Derived.Deep.RegionHeld
namespace Go.Proofs.YtdbpjbmalinlbaaGreat
open Go


section
variable {P : Program} {ops : Array Oper} {Q : Exit → Act → World → Prop} {md : Region.Mode} {S : World → Prop}

/-- Whatever order is picked of what lies ahead of number n, and S holds behind each operation that is carried out. -/
def wpHL (P : Program) (md : Region.Mode) (ops : Array Oper) (Q : Exit → Act → World → Prop) (S : World → Prop) (n : Nat) (L : Array Bool → Act → World → Prop) : Nat → Array Bool → Act → World → Prop
  | 0, listed, a, w => L listed a w
  | f + 1, listed, a, w => Region.ready md ops listed ≠ [] ∧ ∀ i ∈ Region.ready md ops listed, i < n ∧ wpOp P ops Q i (fun a' w' => S w' ∧ wpHL P md ops Q S n L f (listed.setIfInBounds i true) a' w') a w

theorem wpAny_of_HL {n g : Nat} {L : Array Bool → Act → World → Prop} (hL : ∀ listed a w, L listed a w → wpAny P md ops Q g listed a w) :
    ∀ (f : Nat) (listed : Array Bool) (a : Act) (w : World), wpHL P md ops Q S n L f listed a w → wpAny P md ops Q (f + g) listed a w
  | 0, listed, a, w, h => by rw [Nat.zero_add]; exact hL _ _ _ h
  | f + 1, listed, a, w, h => by
    rw [show f + 1 + g = (f + g) + 1 by omega]
    exact ⟨fun h0 => absurd h0 h.1, fun i hi => wpOp_mono (fun a' w' h' => wpAny_of_HL hL f _ a' w' h'.2) (h.2 i hi).2⟩

theorem wpHL_first {n i : Nat} {oi : Oper} {v : Value} {L : Array Bool → Act → World → Prop} (hi : ops[i]? = some oi) (hsel : ∀ (j : Nat) (o : Oper) cs b, ops[j]? = some o → o.op ≠ .select cs b)
    (hQ : ∀ c a w, Q (.panic c) (a.put oi.dst v) w → Q (.panic c) a w)
    (hs : Region.sinkB md ops n = true) (hc : Region.chainB md ops n = true) (hn : n < ops.size) (hin : i < n)
    (hdone : ∀ listed a w, L listed a w → ∀ j ∈ Region.ready md ops listed, n ≤ j) :
    ∀ (f : Nat) (listed : Array Bool) (a : Act) (w : World), HeadInv md ops n listed →
      (∀ j oj, ops[j]? = some oj → j ≠ i → listed.getD j true = false → (∀ e ∈ oj.after, Region.binds md e = true → e.on ≠ i) → oi.apart ops oj = true) →
      i ∈ Region.ready md ops listed → YieldsIf P ops S oi v a → S w →
      wpHL P md ops Q S n L f (listed.setIfInBounds i true) (a.put oi.dst v) w → wpHL P md ops Q S n L (f + 1) listed a w := by
  intro f
  induction f with
  | zero =>
    intro listed a w inv _ hr hy hS H
    have hun := (mem_ready.1 hr).1
    refine ⟨fun h => (by rw [h] at hr; cases hr), fun j hj => ?_⟩
    have hjn : j < n := by
      rcases Nat.lt_or_ge j n with h | h
      · exact h
      · exact absurd hj (tail_waits hs hc hn inv _ i rfl hin hun j h)
    refine ⟨hjn, ?_⟩
    by_cases hji : j = i
    · subst hji; exact hy.wpOp hi hS ⟨hS, H⟩
    · have := hdone _ _ _ H j (ready_mono hj hji)
      omega
  | succ f ih =>
    intro listed a w inv hfree hr hy hS H
    have hun := (mem_ready.1 hr).1
    refine ⟨fun h => (by rw [h] at hr; cases hr), fun j hj => ?_⟩
    have hjn : j < n := by
      rcases Nat.lt_or_ge j n with h | h
      · exact h
      · exact absurd hj (tail_waits hs hc hn inv _ i rfl hin hun j h)
    refine ⟨hjn, ?_⟩
    by_cases hji : j = i
    · subst hji; exact hy.wpOp hi hS ⟨hS, H⟩
    · have h1 := (H.2 j (ready_mono hj hji)).2
      obtain ⟨hjun, oj, hoj, hall⟩ := mem_ready.1 hj
      have hnot : ∀ e ∈ oj.after, Region.binds md e = true → e.on ≠ i := fun e he hb heq => by
        have h1 := hall e he hb
        rw [heq, getD_both hun] at h1
        cases h1
      have h2 := wpOp_putIf hoj (hfree j oj hoj hji hjun hnot) (fun cs b => hsel i oi cs b hi) (fun cs b => hsel j oj cs b hoj) hQ hy h1
      have hfree' : ∀ k ok, ops[k]? = some ok → k ≠ i → (listed.setIfInBounds j true).getD k true = false →
          (∀ e ∈ ok.after, Region.binds md e = true → e.on ≠ i) → oi.apart ops ok = true := fun k ok hk hki hun hno => by
        refine hfree k ok hk hki ?_ hno
        by_cases hjk : j = k
        · subst hjk; exact hjun
        · rw [getD_set_ne true hjk] at hun; exact hun
      refine wpOp_mono (fun a' w' h3 => ⟨h3.2.1, ih (listed.setIfInBounds j true) a' w' (inv.set hj hjn) hfree' (ready_mono hr (Ne.symm hji)) h3.1 h3.2.1 ?_⟩) h2
      rw [Array.setIfInBounds_comm _ _ hji]
      exact h3.2.2

/-- Operations that are taken one by one: each yields its value in every world that meets S. -/
def wpTake (P : Program) (ops : Array Oper) (S : World → Prop) (L : Act → Prop) : List Oper → Act → Prop
  | [], a => L a
  | o :: l, a => ∃ v, YieldsIf P ops S o v a ∧ wpTake P ops S L l (a.put o.dst v)
theorem wpTake_nil {L : Act → Prop} {a : Act} (h : L a) : wpTake P ops S L [] a := h
theorem wpTake_step {L : Act → Prop} {a : Act} {o : Oper} {l : List Oper} {v : Value} (h : Region.wanted o (yielded ops a.tmps) = true) (hv : ∀ w, S w → (execOp a.eval o).run P w = .ok (.value v) w)
    (hK : wpTake P ops S L l (a.put o.dst v)) : wpTake P ops S L (o :: l) a := ⟨v, .inl ⟨h, hv⟩, hK⟩

def markAll : Nat → Nat → Array Bool → Array Bool
  | 0, _, listed => listed
  | f + 1, k, listed => markAll f (k + 1) (listed.setIfInBounds k true)
def segB (md : Region.Mode) (ops : Array Oper) : Nat → Nat → Array Bool → Bool
  | 0, _, _ => true
  | f + 1, k, listed => (Region.ready md ops listed).contains k && Region.free md ops listed k && segB md ops f (k + 1) (listed.setIfInBounds k true)

theorem wpHL_seg {n : Nat} {L : Array Bool → Act → World → Prop} (hsel : Region.noSelect ops = true) (hQ : ∀ d v c a w, Q (.panic c) (a.put d v) w → Q (.panic c) a w)
    (hs : Region.sinkB md ops n = true) (hc : Region.chainB md ops n = true) (hn : n < ops.size) (hdone : ∀ listed a w, L listed a w → ∀ j ∈ Region.ready md ops listed, n ≤ j) {w : World} (hS : S w) {La : Act → Prop} {f : Nat} :
    ∀ (l : List Oper) (k : Nat) (listed : Array Bool) (a : Act), (∀ j, j < l.length → l[j]? = ops[k + j]?) → k + l.length ≤ n → HeadInv md ops n listed → segB md ops l.length k listed = true →
      (∀ a, HeadInv md ops n (markAll l.length k listed) → La a → wpHL P md ops Q S n L f (markAll l.length k listed) a w) → wpTake P ops S La l a → wpHL P md ops Q S n L (l.length + f) listed a w
  | [], k, listed, a, _, _, inv, _, hL, h => by
    rw [List.length_nil, Nat.zero_add]
    exact hL a inv h
  | o :: l, k, listed, a, hl, hk, inv, hB, hL, h => by
    have h0 : ops[k]? = some o := by simpa using (hl 0 (by simp)).symm
    simp only [List.length_cons, segB, Bool.and_eq_true] at hB
    obtain ⟨⟨hr, hf⟩, hB'⟩ := hB
    have hkn : k < n := by simp only [List.length_cons] at hk; omega
    have hr' : k ∈ Region.ready md ops listed := by simpa using hr
    obtain ⟨v, hy, hK⟩ := h
    have := wpHL_seg hsel hQ hs hc hn hdone hS l (k + 1) (listed.setIfInBounds k true) (a.put o.dst v) (fun j hj => by have := hl (j + 1) (by simp; omega); simpa [Nat.add_assoc, Nat.add_comm 1 j] using this)
      (by simp only [List.length_cons] at hk; omega) (inv.set hr' hkn) hB' hL hK
    rw [List.length_cons, show l.length + 1 + f = (l.length + f) + 1 by omega]
    exact wpHL_first h0 (Region.noSelect_spec hsel) (hQ o.dst v) hs hc hn hkn hdone (l.length + f) listed a w inv (Region.free_spec h0 hf) hr' hy hS this

/-- m operations that read, the call, the rest forced. -/
def lineB (md : Region.Mode) (ops : Array Oper) (m : Nat) : Bool :=
  Region.noSelect ops && decide (m + 1 < ops.size) && Region.sinkB md ops (m + 1) && Region.chainB md ops (m + 1) &&
  segB md ops m 0 (Array.replicate ops.size false) && decide (Region.ready md ops (markAll m 0 (Array.replicate ops.size false)) = [m]) &&
  Region.seqB md ops (ops.size - (m + 1)) (m + 1) ((markAll m 0 (Array.replicate ops.size false)).setIfInBounds m true)

theorem wp_region_line {id : Nat} {a : Act} {w : World} {l : List Oper} (m : Nat) (S : World → Prop) (hm : P.follows .mixedOrders = true) (hB : lineB .any l.toArray m = true)
    (hQ : ∀ d v c a w, Q (.panic c) (a.put d v) w → Q (.panic c) a w) (hS : S w.drew)
    (h : wpTake P l.toArray S (fun a => wpOp P l.toArray Q m (fun a' w' => S w' ∧ wpList P l.toArray Q (l.drop (m + 1)) a' w') a w.drew) (l.take m) a) :
    (Code.region id l.toArray true).wp P Q a w := by
  simp only [lineB, Bool.and_eq_true, decide_eq_true_eq] at hB
  obtain ⟨⟨⟨⟨⟨⟨hsel, hn⟩, hs⟩, hc⟩, hs1⟩, hr⟩, hq⟩ := hB
  have hn' : m + 1 < l.length := by simpa using hn
  have e1 : (l.take m).length = m := by simp; omega
  have inv0 : HeadInv .any l.toArray (m + 1) (Array.replicate l.toArray.size false) :=
    ⟨by simp, fun j oj _ hl => (by rw [getD_replicate_false] at hl; cases hl), fun t _ ht => getD_in (by simpa using ht) (getD_replicate_false _ _)⟩
  have hdone : ∀ (listed : Array Bool) (a : Act) (w : World), (Region.seqB .any l.toArray (l.toArray.size - (m + 1)) (m + 1) listed = true ∧ wpList P l.toArray Q (l.drop (m + 1)) a w) → ∀ j ∈ Region.ready .any l.toArray listed, m + 1 ≤ j :=
    fun listed a w hL => seqB_ready hL.1
  have last : ∀ (a : Act), wpOp P l.toArray Q m (fun a' w' => S w' ∧ wpList P l.toArray Q (l.drop (m + 1)) a' w') a w.drew →
      wpHL P .any l.toArray Q S (m + 1) (fun listed a w => Region.seqB .any l.toArray (l.toArray.size - (m + 1)) (m + 1) listed = true ∧ wpList P l.toArray Q (l.drop (m + 1)) a w) 1
        (markAll m 0 (Array.replicate l.toArray.size false)) a w.drew := fun a h => by
    refine ⟨by rw [hr]; simp, fun i hi => ?_⟩
    rw [hr] at hi
    have hi' : i = m := by simpa using hi
    subst hi'
    exact ⟨by omega, wpOp_mono (fun a' w' h' => ⟨h'.1, hq, h'.2⟩) h⟩
  have H := wpHL_seg (md := .any) (Q := Q) (S := S) (f := 1) hsel hQ hs hc hn hdone hS (l.take m) 0 _ a (fun j hj => by
    have hj' : j < m := by rw [e1] at hj; exact hj
    simp [hj']) (by rw [e1]; omega) inv0 (by rw [e1]; exact hs1) (fun a _ hL => by
      rw [e1]
      exact last a hL) h
  rw [e1] at H
  refine wp_region_any hm ?_
  have := wpAny_of_HL (Q := Q) (g := l.toArray.size - (m + 1)) (fun listed a' w' hL => by
    have := wpAny_of_seq (md := .any) (Q' := Q) (l.drop (m + 1)) (m + 1) listed a' w' (fun j => by simp [List.getElem?_drop]) (by rw [List.length_drop, ← List.size_toArray]; exact hL.1) hL.2
    rwa [List.length_drop, ← List.size_toArray] at this) _ _ _ _ H
  rw [show m + 1 + (l.toArray.size - (m + 1)) = l.toArray.size by omega] at this
  exact this
/-- The call, behind a letter. -/
theorem line_call {m : Nat} {o : Oper} {a : Act} {w : World} {K : Act → World → Prop} (ho : ops[m]? = some o)
    (h : ∀ K' : Act → World → Prop, Shut (∀ a w, K a w → K' a w) → if Region.wanted o (yielded ops a.tmps) = true then Oper.wp P o a w K' Q else K' (a.put o.dst undef) w) : wpOp P ops Q m K a w :=
  wpOp_step ho (fun K' hK => h K' hK)
end
end Go.Proofs.YtdbpjbmalinlbaaGreat

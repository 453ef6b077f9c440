/- What is there, added up: each operation leaves the coins and the items as many as they were, but for what it makes and takes; Each operation keeps the sums of coins and of items, but for what it makes and takes (printed by modt.py); Trades, offers and crafts keep the sums of coins and of items; so does every operation (printed by modu.py). -/
import Derived.Test.YtdbpjbmalinlbaaGreatModL
import Derived.Laws.BitsAllLaws
namespace Go.Proofs.YtdbpjbmalinlbaaGreat
open Go.RowKit
set_option linter.unusedSimpArgs false

abbrev Wt := Ky → Vl → Int
def totL (W : Wt) : List Cel → Int
  | [] => 0
  | c :: l => W c.k c.v + totL W l
def wO (W : Wt) (k : Ky) : Option Vl → Int
  | none => 0
  | some v => W k v
/-- The list holds all that is there, each once. -/
structure Lists (f : Mp) (l : List Cel) : Prop where
  apart : l.Pairwise fun a b => a.k ≠ b.k
  there : ∀ c ∈ l, c.is = true ∧ f c.k = some c.v
  all : ∀ k v, f k = some v → ∃ c ∈ l, c.k = k
def Tot (W : Wt) (f : Mp) (s : Int) : Prop := ∃ l, Lists f l ∧ totL W l = s
section
variable {W : Wt} {f g : Mp} {l l' : List Cel} {s s' : Int}
theorem totL_perm (h : l.Perm l') : totL W l = totL W l' := by
  induction h with
  | nil => rfl
  | cons x _ ih => simp only [totL]; omega
  | swap x y l => simp only [totL]; omega
  | trans _ _ h1 h2 => exact h1.trans h2
theorem IsAll.lists (h : IsAll f l) : Lists f l := ⟨h.apart, fun c hc => ⟨(h.there c hc).1, (h.there c hc).2.2⟩, h.all⟩
theorem Lists.nodup (h : Lists f l) : l.Nodup := h.apart.imp fun h e => h (by rw [e])
theorem Lists.sub (h : Lists f l) (h' : Lists f l') : ∀ a ∈ l, a ∈ l' := fun a ha => by
  obtain ⟨a1, a2⟩ := h.there a ha
  obtain ⟨b, hb, e⟩ := h'.all _ _ a2
  obtain ⟨b1, b2⟩ := h'.there b hb
  rw [e, a2] at b2
  cases a with | mk ak av ai => cases b with | mk bk bv bi =>
  simp at a1 b1 b2 e
  subst a1; subst b1; subst b2; subst e
  exact hb
theorem Lists.perm (h : Lists f l) (h' : Lists f l') : l.Perm l' := (List.perm_ext_iff_of_nodup h.nodup h'.nodup).2 fun a => ⟨h.sub h' a, h'.sub h a⟩
theorem Tot.all (h : Tot W f s) (hl : IsAll f l) : totL W l = s := by
  obtain ⟨m, hm, e⟩ := h
  rw [← e]
  exact totL_perm (hl.lists.perm hm)
theorem tot_none (W : Wt) : Tot W (fun _ => none) 0 := ⟨[], ⟨List.Pairwise.nil, fun _ h => (by cases h), fun _ _ h => (by cases h)⟩, rfl⟩
theorem filter_all {k : Ky} (h : ∀ c ∈ l, c.k ≠ k) : (l.filter fun a => decide (a.k ≠ k)) = l := by
  rw [List.filter_eq_self]
  intro a ha
  exact decide_eq_true (h a ha)
theorem tot_hit : ∀ {l : List Cel} {c : Cel}, l.Pairwise (fun a b => a.k ≠ b.k) → c ∈ l → totL W l = totL W (l.filter fun a => decide (a.k ≠ c.k)) + W c.k c.v
  | [], _, _, h => by cases h
  | a :: l, c, hp, h => by
    obtain ⟨h1, h2⟩ := List.pairwise_cons.1 hp
    rcases List.mem_cons.1 h with rfl | hc
    · rw [List.filter_cons, if_neg (by simp), filter_all (fun b hb => Ne.symm (h1 b hb))]
      simp only [totL]; omega
    · rw [List.filter_cons, if_pos (by simpa using h1 c hc)]
      simp only [totL]
      rw [tot_hit h2 hc]; omega
theorem Tot.upd (h : Tot W f s) (k : Ky) (hg : ∀ k', k' ≠ k → g k' = f k') : Tot W g (s - wO W k (f k) + wO W k (g k)) := by
  obtain ⟨l, hl, rfl⟩ := h
  have e1 : totL W (l.filter fun a => decide (a.k ≠ k)) = totL W l - wO W k (f k) := by
    cases hf : f k with
    | none =>
      rw [filter_all]
      · simp [wO]
      · intro c hc e
        have := (hl.there c hc).2
        rw [e, hf] at this; cases this
    | some v =>
      obtain ⟨c, hc, e⟩ := hl.all k v hf
      have h2 := (hl.there c hc).2
      have := tot_hit (W := W) hl.apart hc
      rw [e, hf] at h2
      cases h2
      rw [e] at this
      simp only [wO]; omega
  have ap : (l.filter fun a => decide (a.k ≠ k)).Pairwise fun a b => a.k ≠ b.k := hl.apart.filter _
  cases hgk : g k with
  | none =>
    refine ⟨_, ⟨ap, fun c hc => ?_, fun k' v hv => ?_⟩, by rw [e1]; simp [wO]⟩
    · obtain ⟨h1, h2⟩ := List.mem_filter.1 hc
      have h3 := hl.there c h1
      exact ⟨h3.1, (hg _ (of_decide_eq_true h2)).trans h3.2⟩
    · have hk : k' ≠ k := fun e => by rw [e, hgk] at hv; cases hv
      rw [hg _ hk] at hv
      obtain ⟨c, hc, e⟩ := hl.all _ _ hv
      exact ⟨c, List.mem_filter.2 ⟨hc, decide_eq_true (by rw [e]; exact hk)⟩, e⟩
  | some u =>
    refine ⟨⟨k, u, true⟩ :: _, ⟨List.pairwise_cons.2 ⟨fun c hc => Ne.symm (of_decide_eq_true (List.mem_filter.1 hc).2), ap⟩, fun c hc => ?_, fun k' v hv => ?_⟩, by simp only [totL]; rw [e1]; simp only [wO]; omega⟩
    · rcases List.mem_cons.1 hc with rfl | hc
      · exact ⟨rfl, hgk⟩
      · obtain ⟨h1, h2⟩ := List.mem_filter.1 hc
        have h3 := hl.there c h1
        exact ⟨h3.1, (hg _ (of_decide_eq_true h2)).trans h3.2⟩
    · by_cases hk : k' = k
      · exact ⟨_, List.mem_cons_self, hk.symm⟩
      · rw [hg _ hk] at hv
        obtain ⟨c, hc, e⟩ := hl.all _ _ hv
        exact ⟨c, List.mem_cons_of_mem _ (List.mem_filter.2 ⟨hc, decide_eq_true (by rw [e]; exact hk)⟩), e⟩

def wQ (W : Wt) (q : Pt) : Int := if q.gone = true then 0 else W q.k q.v
/-- How much more there is behind some puts. -/
def dL (W : Wt) (f : Mp) : List Pt → Int
  | [] => 0
  | q :: l => wQ W q - wO W q.k (f q.k) + dL W f l
theorem putP_off (f : Mp) (q : Pt) {k : Ky} (h : k ≠ q.k) : f.putP q k = f k := by
  unfold Mp.putP
  split
  · unfold Mp.del; rw [if_neg h]
  · unfold Mp.put; rw [if_neg h]
theorem putP_at (W : Wt) (f : Mp) (q : Pt) : wO W q.k (f.putP q q.k) = wQ W q := by
  unfold Mp.putP wQ
  split
  · unfold Mp.del; simp [wO]
  · unfold Mp.put; simp [wO]
theorem dL_off {q : Pt} : ∀ {l : List Pt}, (∀ p ∈ l, q.k ≠ p.k) → dL W (f.putP q) l = dL W f l
  | [], _ => rfl
  | p :: l, h => by
    simp only [dL]
    rw [dL_off fun r hr => h r (by simp [hr]), putP_off f q (Ne.symm (h p (by simp)))]
theorem Tot.puts : ∀ {ps : List Pt} {f : Mp} {s : Int}, Tot W f s → ps.Pairwise (fun a b => a.k ≠ b.k) → Tot W (putsL f ps) (s + dL W f ps)
  | [], f, s, h, _ => by simpa [dL, putsL] using h
  | q :: l, f, s, h, hp => by
    obtain ⟨h1, h2⟩ := List.pairwise_cons.1 hp
    have := (h.upd q.k (g := f.putP q) fun k' hk => putP_off f q hk).puts h2
    rw [dL_off h1, putP_at] at this
    have e : s + dL W f (q :: l) = s - wO W q.k (f q.k) + wQ W q + dL W f l := by simp only [dL]; omega
    rw [e]; exact this
theorem dL_app (l m : List Pt) : dL W f (l ++ m) = dL W f l + dL W f m := by
  induction l with
  | nil => simp [dL]
  | cons q l ih => simp only [List.cons_append, dL]; rw [ih]; omega
end

/-! ### The weights -/
def Wc (k : Ky) (v : Vl) : Int := if k.1 = 1 ∨ k.1 = 2 ∨ (k.1 = 7 ∧ k.2.2 = 0) ∨ (k.1 = 5 ∧ v.2 = 0) then v.1 else 0
def Wi (it : Int) (k : Ky) (v : Vl) : Int := if (k.1 = 3 ∧ k.2.2 = it) ∨ (k.1 = 5 ∧ v.2 = it) then v.1 else if k.1 = 6 ∧ lo32 v.1 = it then v.2 else 0
theorem wq_gone (W : Wt) (k : Ky) : wQ W (goneP k) = 0 := rfl
theorem wq_set (W : Wt) (k : Ky) (v : Vl) : wQ W ⟨k, v, false⟩ = W k v := rfl
theorem wqc_put (k : Ky) (a : Int) : wQ Wc (putP k a) = Wc k (a, 0) := by
  unfold putP
  split
  · rename_i h
    rw [wq_gone, h.2]; simp [Wc]
  · rfl
theorem wqi_put (it : Int) (k : Ky) (a : Int) : wQ (Wi it) (putP k a) = Wi it k (a, 0) := by
  unfold putP
  split
  · rename_i h
    rw [wq_gone, h.2]; simp [Wi]
  · rfl
theorem putP_k (k : Ky) (a : Int) : (putP k a).k = k := by unfold putP; split <;> rfl
theorem goneP_k (k : Ky) : (goneP k).k = k := rfl
def amt (x : Option Vl) : Int := (x.getD (0, 0)).1
theorem wOc_1 (a b : Int) (x : Option Vl) : wO Wc (1, a, b) x = amt x := by cases x <;> rfl
theorem wOc_2 (a b : Int) (x : Option Vl) : wO Wc (2, a, b) x = amt x := by cases x <;> rfl
theorem wOc_3 (a b : Int) (x : Option Vl) : wO Wc (3, a, b) x = 0 := by cases x <;> rfl
theorem wOc_4 (a b : Int) (x : Option Vl) : wO Wc (4, a, b) x = 0 := by cases x <;> rfl
theorem wOc_6 (a b : Int) (x : Option Vl) : wO Wc (6, a, b) x = 0 := by cases x <;> rfl
theorem wOc_70 (a : Int) (x : Option Vl) : wO Wc (7, a, 0) x = amt x := by cases x <;> rfl
theorem wOc_71 (a : Int) (x : Option Vl) : wO Wc (7, a, 1) x = 0 := by cases x <;> rfl
theorem wOc_8 (a b : Int) (x : Option Vl) : wO Wc (8, a, b) x = 0 := by cases x <;> rfl
section
variable (it : Int)
theorem wOi_1 (a b : Int) (x : Option Vl) : wO (Wi it) (1, a, b) x = 0 := by cases x <;> simp [wO, Wi]
theorem wOi_2 (a b : Int) (x : Option Vl) : wO (Wi it) (2, a, b) x = 0 := by cases x <;> simp [wO, Wi]
theorem wOi_3 (a b : Int) (x : Option Vl) : wO (Wi it) (3, a, b) x = if b = it then amt x else 0 := by cases x <;> simp [wO, Wi, amt]
theorem wOi_4 (a b : Int) (x : Option Vl) : wO (Wi it) (4, a, b) x = 0 := by cases x <;> simp [wO, Wi]
theorem wOi_7 (a b : Int) (x : Option Vl) : wO (Wi it) (7, a, b) x = 0 := by cases x <;> simp [wO, Wi]
theorem wOi_8 (a b : Int) (x : Option Vl) : wO (Wi it) (8, a, b) x = 0 := by cases x <;> simp [wO, Wi]
end
theorem coins_tot (l : List Cel) : sumL (coinsL l) = totL Wc l := by
  induction l with
  | nil => rfl
  | cons c l ih =>
    have e : coinsL (c :: l) = coinC c ++ coinsL l := rfl
    rw [e, sumL_app, ih]
    simp only [totL]
    unfold coinC Wc
    split <;> simp [sumL]

/-! ### What always holds of what is there -/
def cntA (f : Mp) : Int := amt (f (8, 6, 0))
def LocOk (C : Int) (k : Ky) (v : Vl) : Prop := (k.1 = 4 → v.1 / 4294967296 % 4294967296 ≠ v.1 % 4294967296) ∧ (k.1 = 5 → v.2 ≤ 1000) ∧ (k.1 = 6 → k.2.1 ≤ C)
def Inv (f : Mp) : Prop := ∀ k v, f k = some v → LocOk (cntA f) k v
theorem inv_none : Inv (fun _ => none) := fun _ _ h => by cases h
theorem putsL_some : ∀ {ps : List Pt} {f : Mp} {k : Ky} {v : Vl}, putsL f ps k = some v → f k = some v ∨ ∃ q ∈ ps, q.gone = false ∧ q.k = k ∧ q.v = v
  | [], _, _, _, h => .inl h
  | q :: l, f, k, v, h => by
    rcases putsL_some (ps := l) (f := f.putP q) h with h | ⟨p, hp, h1, h2⟩
    · unfold Mp.putP at h
      split at h
      · unfold Mp.del at h
        split at h
        · cases h
        · exact .inl h
      · rename_i hg
        unfold Mp.put at h
        split at h
        · rename_i e
          exact .inr ⟨q, by simp, by simpa using hg, e.symm, by simpa using h⟩
        · exact .inl h
    · exact .inr ⟨p, by simp [hp], h1, h2⟩
theorem putsL_off : ∀ {ps : List Pt} {f : Mp} {k : Ky}, (∀ q ∈ ps, q.k ≠ k) → putsL f ps k = f k
  | [], _, _, _ => rfl
  | q :: l, f, k, h => (putsL_off (ps := l) (f := f.putP q) fun p hp => h p (by simp [hp])).trans (putP_off f q (Ne.symm (h q (by simp))))
theorem LocOk.mono {C C' : Int} {k : Ky} {v : Vl} (h : LocOk C k v) (hc : C ≤ C') : LocOk C' k v := ⟨h.1, h.2.1, fun e => Int.le_trans (h.2.2 e) hc⟩
theorem Inv.puts {f : Mp} {ps : List Pt} (h : Inv f) (hc : cntA f ≤ cntA (putsL f ps)) (hq : ∀ q ∈ ps, q.gone = false → LocOk (cntA (putsL f ps)) q.k q.v) : Inv (putsL f ps) := fun k v e => by
  rcases putsL_some e with e | ⟨q, h1, h2, h3, h4⟩
  · exact (h k v e).mono hc
  · rw [← h3, ← h4]; exact hq q h1 h2
/-- A put that leaves the count of auctions, and makes none. -/
def PlainP (q : Pt) : Prop := q.k ≠ (8, 6, 0) ∧ (q.gone = false → q.k.1 ≠ 6 ∧ (q.k.1 = 4 → q.v.1 / 4294967296 % 4294967296 ≠ q.v.1 % 4294967296) ∧ (q.k.1 = 5 → q.v.2 ≤ 1000))
theorem Inv.plain {f : Mp} {ps : List Pt} (h : Inv f) (hp : ∀ q ∈ ps, PlainP q) : Inv (putsL f ps) := by
  have e : cntA (putsL f ps) = cntA f := by unfold cntA; rw [putsL_off fun q hq => (hp q hq).1]
  refine h.puts (by rw [e]; exact Int.le_refl _) fun q hq hg => ?_
  obtain ⟨h1, h2, h3⟩ := (hp q hq).2 hg
  exact ⟨h2, h3, fun e => absurd e h1⟩
theorem plain_put {k : Ky} (a : Int) (h : k.1 = 1 ∨ k.1 = 2 ∨ k.1 = 3 ∨ k.1 = 7) : PlainP (putP k a) := by
  refine ⟨by rw [putP_k]; rintro rfl; simp at h, ?_⟩
  rw [putP_k]
  intro _
  exact ⟨by omega, by omega, by omega⟩
theorem plain_gone {k : Ky} (h : k.1 ≠ 8) : PlainP (goneP k) := ⟨by rintro e; rw [goneP_k] at e; rw [e] at h; exact h rfl, fun h => by cases h⟩
theorem pair_is {a b : Int} (a0 : 0 ≤ a) (a1 : a ≤ 4294967295) (b0 : 0 ≤ b) (b1 : b ≤ 4294967295) : pairV a b = a * 4294967296 + b := by
  obtain ⟨x, rfl⟩ := Int.eq_ofNat_of_zero_le a0
  obtain ⟨y, rfl⟩ := Int.eq_ofNat_of_zero_le b0
  unfold pairV
  have e : ((x : Int) * 4294967296) = ((x * 4294967296 : Nat) : Int) := by omega
  rw [e, u64_or_nat (x * 4294967296) y (by omega) (by omega)]
  have e2 : x * 4294967296 ||| y = x * 4294967296 + y := by
    have : x * 4294967296 = x <<< 32 := by rw [Nat.shiftLeft_eq]
    rw [this, Nat.shiftLeft_add_eq_or_of_lt (by omega)]
  rw [e2]
  omega

/-! ### What comes of the trees -/
def coinD (o : OpV) : Int := if o.kind = 2 then o.n else if o.kind = 3 then -o.n else 0
def itemD (o : OpV) (it : Int) : Int :=
  if o.kind = 4 then (if o.what = it then o.n else 0) else if o.kind = 5 then (if o.what = it then -o.n else 0) else
  if o.kind = 10 then cnt (needsO o.what o.n) it - cnt (needsI o.what o.n) it else 0
structure Good (o : OpV) (f : Mp) (ps : List Pt) : Prop where
  apart : ps.Pairwise fun a b => a.k ≠ b.k
  coins : dL Wc f ps = coinD o
  items : ∀ it, 0 < it → it ≤ 4294967295 → dL (Wi it) f ps = itemD o it
  inv : Inv (putsL f ps)
def Evs (f : Mp) (P : List Pt → Prop) (t : T (List Pt × Rp)) : Prop := (ev f t).2.err = 0 → P (ev f t).1
section
variable {f : Mp} {P : List Pt → Prop} {k : Ky}
theorem Evs.done {ps : List Pt} {r : Rp} (h : P ps) : Evs f P (.done (ps, r)) := fun _ => h
theorem Evs.over {c : Int} (h : c ≠ 0) : Evs f P (.over c) := fun e => absurd e h
theorem Evs.must {g : Vl → T (List Pt × Rp)} (h : ∀ v, f k = some v → Evs f P (g v)) : Evs f P ((mustT k).bind g) := by
  unfold Evs
  show (ev f ((match f k with | some v => T.done v | none => T.over 211 : T Vl).bind g)).2.err = 0 → _
  show _ → P (ev f ((match f k with | some v => T.done v | none => T.over 211 : T Vl).bind g)).1
  cases e : f k with
  | none => intro h; cases h
  | some v => exact h v e
theorem Evs.amount {g : Int → T (List Pt × Rp)} (h : Evs f P (g (amt (f k)))) : Evs f P ((amountT k).bind g) := h
theorem Evs.see {g : Option Vl → T (List Pt × Rp)} (h : Evs f P (g (f k))) : Evs f P ((seeT k).bind g) := h
theorem Evs.check {b : Bool} {c : Int} {g : Unit → T (List Pt × Rp)} (hc : c ≠ 0) (h : b = true → Evs f P (g ())) : Evs f P ((checkT b c).bind g) := by
  cases b with
  | false => exact Evs.over hc
  | true => exact h rfl
theorem Evs.more {a c : Int} {g : Int → T (List Pt × Rp)} (h : Evs f P (g (a + c))) : Evs f P ((moreT a c).bind g) := by
  unfold moreT
  split
  · rename_i h0
    have : addV a c = a + c := by
      unfold addE at h0; unfold addV
      split at h0
      · cases h0
      · rename_i hn; rw [if_neg hn]
    rw [← this] at h; exact h
  · rename_i h0; exact Evs.over h0
theorem Evs.less {a c : Int} {g : Int → T (List Pt × Rp)} (h : c ≤ a → Evs f P (g (a - c))) : Evs f P ((lessT a c).bind g) := by
  unfold lessT
  split
  · rename_i h0
    have h1 : subV a c = a - c ∧ c ≤ a := by unfold subE at h0; unfold subV; split at h0 <;> (try split at h0) <;> first | (cases h0; done) | (rw [if_neg (by omega)]; omega)
    have h2 := h h1.2
    rw [← h1.1] at h2; exact h2
  · rename_i h0
    refine Evs.over ?_
    unfold lessE
    split <;> omega
theorem Evs.num {kind : Int} {g : Int → T (List Pt × Rp)} (h : Evs f P (g (amt (f (countK kind)) + 1))) : Evs f P ((numT kind).bind g) := by
  unfold numT
  rw [T.bind_assoc]
  refine Evs.amount ?_
  rw [T.bind_assoc]
  exact Evs.check (by decide) fun _ => h
theorem Evs.party {o : OpV} {g : Vl × Int → T (List Pt × Rp)} (h : ∀ v sd, f (tradeK o.id) = some v → Evs f P (g (v, sd))) : Evs f P ((partyT o).bind g) := by
  unfold partyT
  rw [T.bind_assoc]
  refine Evs.must fun v hv => ?_
  split <;> (rw [T.bind_assoc]; exact Evs.check (by decide) fun _ => h _ _ hv)
end
end Go.Proofs.YtdbpjbmalinlbaaGreat

namespace Go.Proofs.YtdbpjbmalinlbaaGreat
open Go.RowKit
set_option linter.unusedSimpArgs false


theorem good_mk {f : Mp} {o : OpV} {ps : List Pt} (hi : Inv f) (ap : ps.Pairwise fun a b => a.k ≠ b.k) (c : dL Wc f ps = coinD o) (i : ∀ it, 0 < it → it ≤ 4294967295 → dL (Wi it) f ps = itemD o it) (pl : ∀ q ∈ ps, PlainP q) : Good o f ps := ⟨ap, c, i, hi.plain pl⟩
theorem wO_some (W : Wt) (k : Ky) (v : Vl) : wO W k (some v) = W k v := rfl
theorem wO_none (W : Wt) (k : Ky) : wO W k none = 0 := rfl
theorem pl_nil : ∀ q ∈ ([] : List Pt), PlainP q := fun _ h => by cases h
theorem pl_cons {q : Pt} {l : List Pt} (h : PlainP q) (hl : ∀ q ∈ l, PlainP q) : ∀ p ∈ q :: l, PlainP p := fun p hp => by
  rcases List.mem_cons.1 hp with rfl | hp
  · exact h
  · exact hl p hp
theorem pl_app {m l : List Pt} (h : ∀ q ∈ m, PlainP q) (hl : ∀ q ∈ l, PlainP q) : ∀ p ∈ m ++ l, PlainP p := fun p hp => by
  rcases List.mem_append.1 hp with hp | hp
  · exact h p hp
  · exact hl p hp
section
variable {f : Mp} {o : OpV} (hi : Inv f)
include hi
theorem e_open (hk : o.kind = 1) : Evs f (Good o f) (openT o) := by
  unfold openT
  refine Evs.see (Evs.check (by decide) fun h => Evs.done ?_)
  have e : f (1, o.who, 0) = none := by simpa [purseK] using h
  refine good_mk hi (by simp) ?_ (fun it h0 h1 => ?_) (pl_cons (plain_put _ (.inl rfl)) pl_nil)
  · simp [dL, wqc_put, wqi_put, wq_gone, wq_set, putP_k, goneP_k, purseK, bankK, stackK, tradeK, offerK, auctionK, bidK, priceK, countK, thingK, wOc_1, wOc_2, wOc_3, wOc_4, wOc_6, wOc_70, wOc_71, wOc_8, wOi_1, wOi_2, wOi_3, wOi_4, wOi_7, wOi_8, Wc, Wi, coinD, hk, e, amt]
  · simp [dL, wqc_put, wqi_put, wq_gone, wq_set, putP_k, goneP_k, purseK, bankK, stackK, tradeK, offerK, auctionK, bidK, priceK, countK, thingK, wOc_1, wOc_2, wOc_3, wOc_4, wOc_6, wOc_70, wOc_71, wOc_8, wOi_1, wOi_2, wOi_3, wOi_4, wOi_7, wOi_8, Wc, Wi, itemD, hk]
theorem e_look (hk : o.kind = 18) : Evs f (Good o f) (lookT o) := by
  unfold lookT
  refine Evs.must fun _ _ => Evs.amount (Evs.amount (Evs.done ?_))
  exact good_mk hi (by simp) (by simp [dL, coinD, hk]) (fun it h0 h1 => by simp [dL, itemD, hk]) pl_nil
theorem e_deposit (hk : o.kind = 6) : Evs f (Good o f) (depositT o) := by
  unfold depositT
  refine Evs.must fun v hv => Evs.amount (Evs.less fun hl => Evs.more (Evs.done ?_))
  have e : amt (f (1, o.who, 0)) = v.1 := by rw [show (1, o.who, 0) = purseK o.who from rfl, hv]; rfl
  refine good_mk hi (by simp [putP_k, purseK, bankK]) ?_ (fun it h0 h1 => ?_) (pl_cons (plain_put _ (.inl rfl)) (pl_cons (plain_put _ (.inr (.inl rfl))) pl_nil))
  · simp [dL, wqc_put, wqi_put, wq_gone, wq_set, putP_k, goneP_k, purseK, bankK, stackK, tradeK, offerK, auctionK, bidK, priceK, countK, thingK, wOc_1, wOc_2, wOc_3, wOc_4, wOc_6, wOc_70, wOc_71, wOc_8, wOi_1, wOi_2, wOi_3, wOi_4, wOi_7, wOi_8, Wc, Wi, coinD, hk, e]; omega
  · simp [dL, wqc_put, wqi_put, wq_gone, wq_set, putP_k, goneP_k, purseK, bankK, stackK, tradeK, offerK, auctionK, bidK, priceK, countK, thingK, wOc_1, wOc_2, wOc_3, wOc_4, wOc_6, wOc_70, wOc_71, wOc_8, wOi_1, wOi_2, wOi_3, wOi_4, wOi_7, wOi_8, Wc, Wi, itemD, hk]
theorem e_draw (hk : o.kind = 7) : Evs f (Good o f) (drawT o) := by
  unfold drawT
  refine Evs.must fun v hv => Evs.amount (Evs.less fun hl => Evs.more (Evs.done ?_))
  have e : amt (f (1, o.who, 0)) = v.1 := by rw [show (1, o.who, 0) = purseK o.who from rfl, hv]; rfl
  refine good_mk hi (by simp [putP_k, purseK, bankK]) ?_ (fun it h0 h1 => ?_) (pl_cons (plain_put _ (.inl rfl)) (pl_cons (plain_put _ (.inr (.inl rfl))) pl_nil))
  · simp [dL, wqc_put, wqi_put, wq_gone, wq_set, putP_k, goneP_k, purseK, bankK, stackK, tradeK, offerK, auctionK, bidK, priceK, countK, thingK, wOc_1, wOc_2, wOc_3, wOc_4, wOc_6, wOc_70, wOc_71, wOc_8, wOi_1, wOi_2, wOi_3, wOi_4, wOi_7, wOi_8, Wc, Wi, coinD, hk, e]; omega
  · simp [dL, wqc_put, wqi_put, wq_gone, wq_set, putP_k, goneP_k, purseK, bankK, stackK, tradeK, offerK, auctionK, bidK, priceK, countK, thingK, wOc_1, wOc_2, wOc_3, wOc_4, wOc_6, wOc_70, wOc_71, wOc_8, wOi_1, wOi_2, wOi_3, wOi_4, wOi_7, wOi_8, Wc, Wi, itemD, hk]
theorem e_pay (hk : o.kind = 8) (hne : o.who ≠ o.whom) : Evs f (Good o f) (payT o) := by
  unfold payT moveT
  refine Evs.must fun _ _ => Evs.amount (Evs.less fun hl => Evs.amount (Evs.more (Evs.done ?_)))
  refine good_mk hi (by simp [putP_k, bankK, hne]) ?_ (fun it h0 h1 => ?_) (pl_cons (plain_put _ (.inr (.inl rfl))) (pl_cons (plain_put _ (.inr (.inl rfl))) pl_nil))
  · simp [dL, wqc_put, wqi_put, wq_gone, wq_set, putP_k, goneP_k, purseK, bankK, stackK, tradeK, offerK, auctionK, bidK, priceK, countK, thingK, wOc_1, wOc_2, wOc_3, wOc_4, wOc_6, wOc_70, wOc_71, wOc_8, wOi_1, wOi_2, wOi_3, wOi_4, wOi_7, wOi_8, Wc, Wi, coinD, hk]; omega
  · simp [dL, wqc_put, wqi_put, wq_gone, wq_set, putP_k, goneP_k, purseK, bankK, stackK, tradeK, offerK, auctionK, bidK, priceK, countK, thingK, wOc_1, wOc_2, wOc_3, wOc_4, wOc_6, wOc_70, wOc_71, wOc_8, wOi_1, wOi_2, wOi_3, wOi_4, wOi_7, wOi_8, Wc, Wi, itemD, hk]
theorem e_give (hk : o.kind = 9) (hne : o.who ≠ o.whom) : Evs f (Good o f) (giveT o) := by
  unfold giveT moveT
  refine Evs.must fun _ _ => Evs.must fun _ _ => Evs.amount (Evs.less fun hl => Evs.amount (Evs.more (Evs.done ?_)))
  refine good_mk hi (by simp [putP_k, stackK, hne]) ?_ (fun it h0 h1 => ?_) (pl_cons (plain_put _ (.inr (.inr (.inl rfl)))) (pl_cons (plain_put _ (.inr (.inr (.inl rfl)))) pl_nil))
  · simp [dL, wqc_put, wqi_put, wq_gone, wq_set, putP_k, goneP_k, purseK, bankK, stackK, tradeK, offerK, auctionK, bidK, priceK, countK, thingK, wOc_1, wOc_2, wOc_3, wOc_4, wOc_6, wOc_70, wOc_71, wOc_8, wOi_1, wOi_2, wOi_3, wOi_4, wOi_7, wOi_8, Wc, Wi, coinD, hk]
  · simp [dL, wqc_put, wqi_put, wq_gone, wq_set, putP_k, goneP_k, purseK, bankK, stackK, tradeK, offerK, auctionK, bidK, priceK, countK, thingK, wOc_1, wOc_2, wOc_3, wOc_4, wOc_6, wOc_70, wOc_71, wOc_8, wOi_1, wOi_2, wOi_3, wOi_4, wOi_7, wOi_8, Wc, Wi, itemD, hk]; split <;> omega
theorem e_start (ho : OpOk o) (hk : o.kind = 11) (hne : o.who ≠ o.whom) : Evs f (Good o f) (startT o) := by
  unfold startT
  refine Evs.must fun _ _ => Evs.must fun _ _ => Evs.num (Evs.done ?_)
  obtain ⟨_, ⟨a0, a1⟩, ⟨b0, b1⟩, _⟩ := ho
  have hp := pair_is a0 a1 b0 b1
  refine ⟨by simp [putP_k, countK, tradeK], ?_, fun it h0 h1 => ?_, hi.plain (pl_cons ⟨by simp [putP_k, countK], fun _ => by simp [putP_k, countK]⟩ (pl_cons ⟨by simp [tradeK], fun _ => ?_⟩ pl_nil))⟩
  · simp [dL, wqc_put, wqi_put, wq_gone, wq_set, putP_k, goneP_k, purseK, bankK, stackK, tradeK, offerK, auctionK, bidK, priceK, countK, thingK, wOc_1, wOc_2, wOc_3, wOc_4, wOc_6, wOc_70, wOc_71, wOc_8, wOi_1, wOi_2, wOi_3, wOi_4, wOi_7, wOi_8, Wc, Wi, coinD, hk]
  · simp [dL, wqc_put, wqi_put, wq_gone, wq_set, putP_k, goneP_k, purseK, bankK, stackK, tradeK, offerK, auctionK, bidK, priceK, countK, thingK, wOc_1, wOc_2, wOc_3, wOc_4, wOc_6, wOc_70, wOc_71, wOc_8, wOi_1, wOi_2, wOi_3, wOi_4, wOi_7, wOi_8, Wc, Wi, itemD, hk]
  · have d1 : (o.who * 4294967296 + o.whom) / 4294967296 % 4294967296 = o.who := by omega
    have d2 : (o.who * 4294967296 + o.whom) % 4294967296 = o.whom := by omega
    simp only [tradeK, hp, d1, d2]
    exact ⟨by omega, fun _ => hne, by omega⟩
theorem e_items (ho : OpOk o) (hk : o.kind = 2 ∨ o.kind = 3 ∨ o.kind = 4 ∨ o.kind = 5) : Evs f (Good o f) (itemsT o [] rp0) := by
  unfold itemsT
  refine Evs.must fun v hv => ?_
  have e : amt (f (1, o.who, 0)) = v.1 := by rw [show (1, o.who, 0) = purseK o.who from rfl, hv]; rfl
  have on := ho.2.2.2.2.2.1.1
  unfold changeT
  rcases hk with hk | hk | hk | hk
  · rw [if_pos hk]
    refine Evs.more (Evs.done ?_)
    refine good_mk hi (by simp) ?_ (fun it h0 h1 => ?_) (pl_cons (plain_put _ (.inl rfl)) pl_nil)
    · simp [dL, wqc_put, wqi_put, wq_gone, wq_set, putP_k, goneP_k, purseK, bankK, stackK, tradeK, offerK, auctionK, bidK, priceK, countK, thingK, wOc_1, wOc_2, wOc_3, wOc_4, wOc_6, wOc_70, wOc_71, wOc_8, wOi_1, wOi_2, wOi_3, wOi_4, wOi_7, wOi_8, Wc, Wi, coinD, hk, e]; omega
    · simp [dL, wqc_put, wqi_put, wq_gone, wq_set, putP_k, goneP_k, purseK, bankK, stackK, tradeK, offerK, auctionK, bidK, priceK, countK, thingK, wOc_1, wOc_2, wOc_3, wOc_4, wOc_6, wOc_70, wOc_71, wOc_8, wOi_1, wOi_2, wOi_3, wOi_4, wOi_7, wOi_8, Wc, Wi, itemD, hk]
  · rw [if_neg (by omega), if_pos hk]
    refine Evs.less fun hl => (Evs.done ?_)
    refine good_mk hi (by simp) ?_ (fun it h0 h1 => ?_) (pl_cons (plain_put _ (.inl rfl)) pl_nil)
    · simp [dL, wqc_put, wqi_put, wq_gone, wq_set, putP_k, goneP_k, purseK, bankK, stackK, tradeK, offerK, auctionK, bidK, priceK, countK, thingK, wOc_1, wOc_2, wOc_3, wOc_4, wOc_6, wOc_70, wOc_71, wOc_8, wOi_1, wOi_2, wOi_3, wOi_4, wOi_7, wOi_8, Wc, Wi, coinD, hk, e]; omega
    · simp [dL, wqc_put, wqi_put, wq_gone, wq_set, putP_k, goneP_k, purseK, bankK, stackK, tradeK, offerK, auctionK, bidK, priceK, countK, thingK, wOc_1, wOc_2, wOc_3, wOc_4, wOc_6, wOc_70, wOc_71, wOc_8, wOi_1, wOi_2, wOi_3, wOi_4, wOi_7, wOi_8, Wc, Wi, itemD, hk]
  · rw [if_neg (by omega), if_neg (by omega)]
    refine Evs.amount ?_
    rw [if_pos hk]
    refine Evs.more (Evs.done ?_)
    refine good_mk hi (by simp) ?_ (fun it h0 h1 => ?_) (pl_cons (plain_put _ (.inr (.inr (.inl rfl)))) pl_nil)
    · simp [dL, wqc_put, wqi_put, wq_gone, wq_set, putP_k, goneP_k, purseK, bankK, stackK, tradeK, offerK, auctionK, bidK, priceK, countK, thingK, wOc_1, wOc_2, wOc_3, wOc_4, wOc_6, wOc_70, wOc_71, wOc_8, wOi_1, wOi_2, wOi_3, wOi_4, wOi_7, wOi_8, Wc, Wi, coinD, hk]
    · simp [dL, wqc_put, wqi_put, wq_gone, wq_set, putP_k, goneP_k, purseK, bankK, stackK, tradeK, offerK, auctionK, bidK, priceK, countK, thingK, wOc_1, wOc_2, wOc_3, wOc_4, wOc_6, wOc_70, wOc_71, wOc_8, wOi_1, wOi_2, wOi_3, wOi_4, wOi_7, wOi_8, Wc, Wi, itemD, hk]; split <;> omega
  · rw [if_neg (by omega), if_neg (by omega)]
    refine Evs.amount ?_
    rw [if_neg (by omega)]
    refine Evs.less fun hl => Evs.done ?_
    refine good_mk hi (by simp) ?_ (fun it h0 h1 => ?_) (pl_cons (plain_put _ (.inr (.inr (.inl rfl)))) pl_nil)
    · simp [dL, wqc_put, wqi_put, wq_gone, wq_set, putP_k, goneP_k, purseK, bankK, stackK, tradeK, offerK, auctionK, bidK, priceK, countK, thingK, wOc_1, wOc_2, wOc_3, wOc_4, wOc_6, wOc_70, wOc_71, wOc_8, wOi_1, wOi_2, wOi_3, wOi_4, wOi_7, wOi_8, Wc, Wi, coinD, hk]
    · simp [dL, wqc_put, wqi_put, wq_gone, wq_set, putP_k, goneP_k, purseK, bankK, stackK, tradeK, offerK, auctionK, bidK, priceK, countK, thingK, wOc_1, wOc_2, wOc_3, wOc_4, wOc_6, wOc_70, wOc_71, wOc_8, wOi_1, wOi_2, wOi_3, wOi_4, wOi_7, wOi_8, Wc, Wi, itemD, hk]; split <;> omega
theorem e_sell (ho : OpOk o) (hk : o.kind = 15) : Evs f (Good o f) (sellT o) := by
  unfold sellT
  refine Evs.must fun _ _ => Evs.amount (Evs.less fun hl => Evs.num (Evs.done ?_))
  obtain ⟨_, ⟨a0, a1⟩, _, ⟨b0, b1⟩, _⟩ := ho
  have hp := pair_is a0 a1 b0 b1
  have hlo : lo32 (o.who * 4294967296 + o.what) = o.what := by rw [show lo32 (o.who * 4294967296 + o.what) = (o.who * 4294967296 + o.what) % 4294967296 from IntKind.wrap_u32 _]; omega
  have hnone : f (6, amt (f (8, 6, 0)) + 1, 0) = none := by
    cases e : f (6, amt (f (8, 6, 0)) + 1, 0) with
    | none => rfl
    | some v =>
      have := (hi _ _ e).2.2 rfl
      simp only [cntA] at this
      omega
  have ap : List.Pairwise (fun a b : Pt => a.k ≠ b.k) [putP (stackK o.who o.what) (amt (f (stackK o.who o.what)) - o.n), putP (countK 6) (amt (f (countK 6)) + 1), ⟨auctionK (amt (f (countK 6)) + 1), (pairV o.who o.what, o.n), false⟩, ⟨priceK (amt (f (countK 6)) + 1), (o.price, 0), false⟩] := by simp [putP_k, stackK, countK, auctionK, priceK]
  refine ⟨ap, ?_, fun it h0 h1 => ?_, ?_⟩
  · simp [dL, wqc_put, wqi_put, wq_gone, wq_set, putP_k, goneP_k, purseK, bankK, stackK, tradeK, offerK, auctionK, bidK, priceK, countK, thingK, wOc_1, wOc_2, wOc_3, wOc_4, wOc_6, wOc_70, wOc_71, wOc_8, wOi_1, wOi_2, wOi_3, wOi_4, wOi_7, wOi_8, Wc, Wi, coinD, hk, hnone]
  · simp [dL, wqc_put, wqi_put, wq_gone, wq_set, putP_k, goneP_k, purseK, bankK, stackK, tradeK, offerK, auctionK, bidK, priceK, countK, thingK, wOc_1, wOc_2, wOc_3, wOc_4, wOc_6, wOc_70, wOc_71, wOc_8, wOi_1, wOi_2, wOi_3, wOi_4, wOi_7, wOi_8, Wc, Wi, itemD, hk, hnone, hp, hlo, wO_none]; split <;> omega
  · have hc : cntA (putsL f [putP (stackK o.who o.what) (amt (f (stackK o.who o.what)) - o.n), putP (countK 6) (amt (f (countK 6)) + 1), ⟨auctionK (amt (f (countK 6)) + 1), (pairV o.who o.what, o.n), false⟩, ⟨priceK (amt (f (countK 6)) + 1), (o.price, 0), false⟩]) = cntA f + 1 := by
      simp [cntA, putsL, Mp.putP, Mp.put, putP, countK, auctionK, priceK, stackK, goneP, Mp.del, amt]
    refine hi.puts (by rw [hc]; omega) ?_
    rw [hc]
    intro q hq hg
    simp only [List.mem_cons, List.not_mem_nil, or_false] at hq
    rcases hq with rfl | rfl | rfl | rfl
    · rw [putP_k]; exact ⟨fun h => by simp [stackK] at h, fun h => by simp [stackK] at h, fun h => by simp [stackK] at h⟩
    · rw [putP_k]; exact ⟨fun h => by simp [countK] at h, fun h => by simp [countK] at h, fun h => by simp [countK] at h⟩
    · exact ⟨fun h => by simp [auctionK] at h, fun h => by simp [auctionK] at h, fun h => by simp [auctionK, countK, cntA]⟩
    · exact ⟨fun h => by simp [priceK] at h, fun h => by simp [priceK] at h, fun h => by simp [priceK] at h⟩
theorem e_close (hk : o.kind = 17) : Evs f (Good o f) (closeT o) := by
  unfold closeT
  refine Evs.must fun xv hx => Evs.check (by decide) fun hw => Evs.see ?_
  have ex : f (6, o.id, 0) = some xv := hx
  cases hb : f (bidK o.id) with
  | none =>
    have eb : f (7, o.id, 0) = none := hb
    dsimp only
    refine Evs.amount (Evs.more (Evs.done ?_))
    refine good_mk hi (by simp [putP_k, goneP_k, stackK, auctionK, priceK]) ?_ (fun it h0 h1 => ?_) (pl_cons (plain_put _ (.inr (.inr (.inl rfl)))) (pl_cons (plain_gone (by simp [auctionK])) (pl_cons (plain_gone (by simp [priceK])) pl_nil)))
    · simp [dL, wqc_put, wqi_put, wq_gone, wq_set, putP_k, goneP_k, purseK, bankK, stackK, tradeK, offerK, auctionK, bidK, priceK, countK, thingK, wOc_1, wOc_2, wOc_3, wOc_4, wOc_6, wOc_70, wOc_71, wOc_8, wOi_1, wOi_2, wOi_3, wOi_4, wOi_7, wOi_8, Wc, Wi, coinD, hk]
    · simp [dL, wqc_put, wqi_put, wq_gone, wq_set, putP_k, goneP_k, purseK, bankK, stackK, tradeK, offerK, auctionK, bidK, priceK, countK, thingK, wOc_1, wOc_2, wOc_3, wOc_4, wOc_6, wOc_70, wOc_71, wOc_8, wOi_1, wOi_2, wOi_3, wOi_4, wOi_7, wOi_8, Wc, Wi, itemD, hk, ex, wO_some, wO_none]; split <;> omega
  | some bv =>
    have eb : f (7, o.id, 0) = some bv := hb
    have eb1 : amt (some bv) = bv.1 := rfl
    dsimp only
    refine Evs.amount (Evs.more (Evs.amount (Evs.more (Evs.done ?_))))
    refine good_mk hi (by simp [putP_k, goneP_k, stackK, auctionK, priceK, purseK, bidK]) ?_ (fun it h0 h1 => ?_) (pl_cons (plain_put _ (.inl rfl)) (pl_cons (plain_put _ (.inr (.inr (.inl rfl)))) (pl_cons (plain_gone (by simp [auctionK])) (pl_cons (plain_gone (by simp [priceK])) (pl_cons (plain_gone (by simp [bidK])) pl_nil)))))
    · simp [dL, wqc_put, wqi_put, wq_gone, wq_set, putP_k, goneP_k, purseK, bankK, stackK, tradeK, offerK, auctionK, bidK, priceK, countK, thingK, wOc_1, wOc_2, wOc_3, wOc_4, wOc_6, wOc_70, wOc_71, wOc_8, wOi_1, wOi_2, wOi_3, wOi_4, wOi_7, wOi_8, Wc, Wi, coinD, hk, eb, eb1]; omega
    · simp [dL, wqc_put, wqi_put, wq_gone, wq_set, putP_k, goneP_k, purseK, bankK, stackK, tradeK, offerK, auctionK, bidK, priceK, countK, thingK, wOc_1, wOc_2, wOc_3, wOc_4, wOc_6, wOc_70, wOc_71, wOc_8, wOi_1, wOi_2, wOi_3, wOi_4, wOi_7, wOi_8, Wc, Wi, itemD, hk, ex, wO_some, wO_none]; split <;> omega
theorem e_bid (hk : o.kind = 16) : Evs f (Good o f) (bidT o) := by
  unfold bidT
  refine Evs.must fun xv hx => Evs.check (by decide) fun hw => Evs.amount (Evs.see (Evs.check (by decide) fun hok => Evs.must fun pv hp => ?_))
  have ep : amt (f (1, o.who, 0)) = pv.1 := by rw [show (1, o.who, 0) = purseK o.who from rfl, hp]; rfl
  unfold bidE
  cases hb : f (bidK o.id) with
  | none =>
    have eb : amt (f (7, o.id, 0)) = 0 := by rw [show (7, o.id, 0) = bidK o.id from rfl, hb]; rfl
    dsimp only
    refine Evs.less fun hl => Evs.done ?_
    refine good_mk hi (by simp [zipPut, putP_k, purseK, bidK]) ?_ (fun it h0 h1 => ?_) (pl_app (pl_cons (plain_put _ (.inl rfl)) pl_nil) (pl_cons ⟨by simp [bidK], fun _ => by simp [bidK]⟩ pl_nil))
    · simp [zipPut, dL, wqc_put, wqi_put, wq_gone, wq_set, putP_k, goneP_k, purseK, bankK, stackK, tradeK, offerK, auctionK, bidK, priceK, countK, thingK, wOc_1, wOc_2, wOc_3, wOc_4, wOc_6, wOc_70, wOc_71, wOc_8, wOi_1, wOi_2, wOi_3, wOi_4, wOi_7, wOi_8, Wc, Wi, coinD, hk, eb, ep]; omega
    · simp [zipPut, dL, wqc_put, wqi_put, wq_gone, wq_set, putP_k, goneP_k, purseK, bankK, stackK, tradeK, offerK, auctionK, bidK, priceK, countK, thingK, wOc_1, wOc_2, wOc_3, wOc_4, wOc_6, wOc_70, wOc_71, wOc_8, wOi_1, wOi_2, wOi_3, wOi_4, wOi_7, wOi_8, Wc, Wi, itemD, hk]
  | some bv =>
    have eb : amt (f (7, o.id, 0)) = bv.1 := by rw [show (7, o.id, 0) = bidK o.id from rfl, hb]; rfl
    dsimp only
    split
    · rename_i hne
      have hne' : o.who ≠ lo32 bv.2 := fun e => by rw [e] at hne; simp at hne
      refine Evs.amount (Evs.more (Evs.less fun hl => Evs.done ?_))
      refine good_mk hi (by simp [zipPut, putP_k, purseK, bidK]; exact hne') ?_ (fun it h0 h1 => ?_) (pl_app (pl_cons (plain_put _ (.inl rfl)) (pl_cons (plain_put _ (.inl rfl)) pl_nil)) (pl_cons ⟨by simp [bidK], fun _ => by simp [bidK]⟩ pl_nil))
      · simp [zipPut, dL, wqc_put, wqi_put, wq_gone, wq_set, putP_k, goneP_k, purseK, bankK, stackK, tradeK, offerK, auctionK, bidK, priceK, countK, thingK, wOc_1, wOc_2, wOc_3, wOc_4, wOc_6, wOc_70, wOc_71, wOc_8, wOi_1, wOi_2, wOi_3, wOi_4, wOi_7, wOi_8, Wc, Wi, coinD, hk, eb, ep]; omega
      · simp [zipPut, dL, wqc_put, wqi_put, wq_gone, wq_set, putP_k, goneP_k, purseK, bankK, stackK, tradeK, offerK, auctionK, bidK, priceK, countK, thingK, wOc_1, wOc_2, wOc_3, wOc_4, wOc_6, wOc_70, wOc_71, wOc_8, wOi_1, wOi_2, wOi_3, wOi_4, wOi_7, wOi_8, Wc, Wi, itemD, hk]
    · refine Evs.more (Evs.less fun hl => Evs.done ?_)
      refine good_mk hi (by simp [zipPut, putP_k, purseK, bidK]) ?_ (fun it h0 h1 => ?_) (pl_app (pl_cons (plain_put _ (.inl rfl)) pl_nil) (pl_cons ⟨by simp [bidK], fun _ => by simp [bidK]⟩ pl_nil))
      · simp [zipPut, dL, wqc_put, wqi_put, wq_gone, wq_set, putP_k, goneP_k, purseK, bankK, stackK, tradeK, offerK, auctionK, bidK, priceK, countK, thingK, wOc_1, wOc_2, wOc_3, wOc_4, wOc_6, wOc_70, wOc_71, wOc_8, wOi_1, wOi_2, wOi_3, wOi_4, wOi_7, wOi_8, Wc, Wi, coinD, hk, eb, ep]; omega
      · simp [zipPut, dL, wqc_put, wqi_put, wq_gone, wq_set, putP_k, goneP_k, purseK, bankK, stackK, tradeK, offerK, auctionK, bidK, priceK, countK, thingK, wOc_1, wOc_2, wOc_3, wOc_4, wOc_6, wOc_70, wOc_71, wOc_8, wOi_1, wOi_2, wOi_3, wOi_4, wOi_7, wOi_8, Wc, Wi, itemD, hk]
end
end Go.Proofs.YtdbpjbmalinlbaaGreat

namespace Go.Proofs.YtdbpjbmalinlbaaGreat
open Go.RowKit
set_option linter.unusedSimpArgs false


theorem thing_who (a x : Int) : (thingK a x).2.1 = a := by unfold thingK; split <;> rfl
theorem thing_kind (a x : Int) : (thingK a x).1 = 1 ∨ (thingK a x).1 = 3 := by unfold thingK; split <;> simp
theorem thing_ne {a b : Int} (h : a ≠ b) (x y : Int) : thingK a x ≠ thingK b y := fun e => h (by rw [← thing_who a x, e, thing_who])
theorem thing_key {a x : Int} {k : Ky} (h : k.1 ≠ 1 ∧ k.1 ≠ 3) : thingK a x ≠ k := fun e => by
  have := thing_kind a x
  rw [e] at this
  omega
theorem wc_thing (a x n : Int) : Wc (thingK a x) (n, 0) = if x = 0 then n else 0 := by unfold thingK; split <;> simp [Wc]
theorem wOc_thing (a x : Int) (y : Option Vl) : wO Wc (thingK a x) y = if x = 0 then amt y else 0 := by
  unfold thingK; split
  · exact wOc_1 _ _ _
  · exact wOc_3 _ _ _
theorem wi_thing {it : Int} (h0 : 0 < it) (a x n : Int) (hx : 0 ≤ x ∧ x ≤ 1000) : Wi it (thingK a x) (n, 0) = if x = it then n else 0 := by
  unfold thingK; split
  · rename_i h
    rw [if_neg (by omega)]; simp [Wi]
  · have : x % 4294967296 = x := by omega
    rw [this]; simp [Wi]
theorem wOi_thing {it : Int} (h0 : 0 < it) (a x : Int) (y : Option Vl) (hx : 0 ≤ x ∧ x ≤ 1000) : wO (Wi it) (thingK a x) y = if x = it then amt y else 0 := by
  unfold thingK; split
  · rename_i h
    rw [if_neg (by omega)]; exact wOi_1 _ _ _ _
  · have : x % 4294967296 = x := by omega
    rw [this]; exact wOi_3 _ _ _ _
theorem wOc_5 (a b : Int) (v : Vl) : wO Wc (5, a, b) (some v) = if v.2 = 0 then v.1 else 0 := by simp [wO, Wc]
theorem wOi_5 (it a b : Int) (v : Vl) : wO (Wi it) (5, a, b) (some v) = if v.2 = it then v.1 else 0 := by simp [wO, Wi]
theorem plain_thing (a x n : Int) : PlainP (putP (thingK a x) n) := plain_put _ (by have := thing_kind a x; omega)

section
variable {f : Mp} {o : OpV} (hi : Inv f)
theorem Evs.part_none {P : List Pt → Prop} {q : List Pt} {who : Int} {g : List Pt → T (List Pt × Rp)} (h : Evs f P (g q)) : Evs f P ((partT q none who).bind g) := h
theorem Evs.part_some {P : List Pt → Prop} {q : List Pt} {who : Int} {v : Vl} {g : List Pt → T (List Pt × Rp)} (h : Evs f P (g (q ++ [putP (thingK who v.2) (amt (f (thingK who v.2)) + v.1)]))) : Evs f P ((partT q (some v) who).bind g) := by
  unfold partT
  dsimp only
  rw [T.bind_assoc]
  refine Evs.amount ?_
  rw [T.bind_assoc]
  exact Evs.more h
include hi
theorem offer_b (hm : MpOk f) {id sd : Int} {v : Vl} (h : f (offerK id sd) = some v) : 0 ≤ v.2 ∧ v.2 ≤ 1000 := ⟨(hm _ _ h).2.2.1, (hi _ _ h).2.1 rfl⟩
theorem e_end (hm : MpOk f) {a b : Int} (hab : a ≠ b) (hc : coinD o = 0) (hI : ∀ it, itemD o it = 0) : Evs f (Good o f) (endT o a b) := by
  unfold endT
  refine Evs.see ?_
  unfold endT1
  refine Evs.see ?_
  unfold endT2
  have n1 : ∀ (z x i s : Int), thingK z x ≠ (5, i, s) := fun z x i s => thing_key ⟨by simp, by simp⟩
  have n2 : ∀ (z x i s : Int), thingK z x ≠ (4, i, s) := fun z x i s => thing_key ⟨by simp, by simp⟩
  cases e0 : f (offerK o.id 0) with
  | none =>
    refine Evs.part_none ?_
    unfold endT3
    cases e1 : f (offerK o.id 1) with
    | none =>
      refine Evs.part_none (Evs.done ?_)
      refine good_mk hi (by simp [goneL]) ?_ (fun it h0 h1 => ?_) ?_
      · simp [goneL, dL, wqc_put, wqi_put, wq_gone, wq_set, putP_k, goneP_k, purseK, bankK, stackK, tradeK, offerK, auctionK, bidK, priceK, countK, wO_some, wO_none, wOc_1, wOc_2, wOc_3, wOc_4, wOc_6, wOc_70, wOc_71, wOc_8, wOi_1, wOi_2, wOi_3, wOi_4, wOi_7, wOi_8, Wc, Wi, hc]
      · simp [goneL, dL, wqc_put, wqi_put, wq_gone, wq_set, putP_k, goneP_k, purseK, bankK, stackK, tradeK, offerK, auctionK, bidK, priceK, countK, wO_some, wO_none, wOc_1, wOc_2, wOc_3, wOc_4, wOc_6, wOc_70, wOc_71, wOc_8, wOi_1, wOi_2, wOi_3, wOi_4, wOi_7, wOi_8, Wc, Wi, hI]
      · exact pl_cons (plain_gone (by simp [tradeK])) pl_nil
    | some v1 =>
      have g1 : f (5, o.id, 1) = some v1 := e1
      have b1 := offer_b hi hm e1
      refine Evs.part_some (Evs.done ?_)
      refine good_mk hi (by simp [goneL, putP_k, goneP_k, offerK, tradeK, n1, n2]) ?_ (fun it h0 h1 => ?_) ?_
      · simp [goneL, dL, wqc_put, wqi_put, wq_gone, wq_set, putP_k, goneP_k, purseK, bankK, stackK, tradeK, offerK, auctionK, bidK, priceK, countK, wO_none, wOc_1, wOc_2, wOc_3, wOc_4, wOc_6, wOc_70, wOc_71, wOc_8, wOi_1, wOi_2, wOi_3, wOi_4, wOi_7, wOi_8, hc, g1, wOc_5, wOc_thing, wc_thing]; split <;> omega
      · simp [goneL, dL, wqc_put, wqi_put, wq_gone, wq_set, putP_k, goneP_k, purseK, bankK, stackK, tradeK, offerK, auctionK, bidK, priceK, countK, wO_none, wOc_1, wOc_2, wOc_3, wOc_4, wOc_6, wOc_70, wOc_71, wOc_8, wOi_1, wOi_2, wOi_3, wOi_4, wOi_7, wOi_8, hI, g1, wOi_5, wOi_thing h0 _ _ _ b1, wi_thing h0 _ _ _ b1]; split <;> omega
      · exact pl_cons (plain_thing _ _ _) (pl_cons (plain_gone (by simp [offerK])) (pl_cons (plain_gone (by simp [tradeK])) pl_nil))
  | some v0 =>
    have g0 : f (5, o.id, 0) = some v0 := e0
    have b0 := offer_b hi hm e0
    refine Evs.part_some ?_
    unfold endT3
    cases e1 : f (offerK o.id 1) with
    | none =>
      refine Evs.part_none (Evs.done ?_)
      refine good_mk hi (by simp [goneL, putP_k, goneP_k, offerK, tradeK, n1, n2]) ?_ (fun it h0 h1 => ?_) ?_
      · simp [goneL, dL, wqc_put, wqi_put, wq_gone, wq_set, putP_k, goneP_k, purseK, bankK, stackK, tradeK, offerK, auctionK, bidK, priceK, countK, wO_none, wOc_1, wOc_2, wOc_3, wOc_4, wOc_6, wOc_70, wOc_71, wOc_8, wOi_1, wOi_2, wOi_3, wOi_4, wOi_7, wOi_8, hc, g0, wOc_5, wOc_thing, wc_thing]; split <;> omega
      · simp [goneL, dL, wqc_put, wqi_put, wq_gone, wq_set, putP_k, goneP_k, purseK, bankK, stackK, tradeK, offerK, auctionK, bidK, priceK, countK, wO_none, wOc_1, wOc_2, wOc_3, wOc_4, wOc_6, wOc_70, wOc_71, wOc_8, wOi_1, wOi_2, wOi_3, wOi_4, wOi_7, wOi_8, hI, g0, wOi_5, wOi_thing h0 _ _ _ b0, wi_thing h0 _ _ _ b0]; split <;> omega
      · exact pl_cons (plain_thing _ _ _) (pl_cons (plain_gone (by simp [offerK])) (pl_cons (plain_gone (by simp [tradeK])) pl_nil))
    | some v1 =>
      have g1 : f (5, o.id, 1) = some v1 := e1
      have b1 := offer_b hi hm e1
      refine Evs.part_some (Evs.done ?_)
      refine good_mk hi (by simp [goneL, putP_k, goneP_k, offerK, tradeK, n1, n2, thing_ne hab]) ?_ (fun it h0 h1 => ?_) ?_
      · simp [goneL, dL, wqc_put, wqi_put, wq_gone, wq_set, putP_k, goneP_k, purseK, bankK, stackK, tradeK, offerK, auctionK, bidK, priceK, countK, wO_none, wOc_1, wOc_2, wOc_3, wOc_4, wOc_6, wOc_70, wOc_71, wOc_8, wOi_1, wOi_2, wOi_3, wOi_4, wOi_7, wOi_8, hc, g0, g1, wOc_5, wOc_thing, wc_thing]; (repeat' split) <;> omega
      · simp [goneL, dL, wqc_put, wqi_put, wq_gone, wq_set, putP_k, goneP_k, purseK, bankK, stackK, tradeK, offerK, auctionK, bidK, priceK, countK, wO_none, wOc_1, wOc_2, wOc_3, wOc_4, wOc_6, wOc_70, wOc_71, wOc_8, wOi_1, wOi_2, wOi_3, wOi_4, wOi_7, wOi_8, hI, g0, g1, wOi_5, wOi_thing h0 _ _ _ b0, wi_thing h0 _ _ _ b0, wOi_thing h0 _ _ _ b1, wi_thing h0 _ _ _ b1]; (repeat' split) <;> omega
      · exact pl_cons (plain_thing _ _ _) (pl_cons (plain_thing _ _ _) (pl_cons (plain_gone (by simp [offerK])) (pl_cons (plain_gone (by simp [offerK])) (pl_cons (plain_gone (by simp [tradeK])) pl_nil))))
theorem e_break (hm : MpOk f) (hk : o.kind = 14) : Evs f (Good o f) (breakT o) := by
  unfold breakT
  refine Evs.party fun v sd hv => ?_
  exact e_end hi hm ((hi _ _ hv).1 rfl) (by simp [coinD, hk]) (fun it => by simp [itemD, hk])
theorem e_agree (hm : MpOk f) (hk : o.kind = 13) : Evs f (Good o f) (agreeT o) := by
  unfold agreeT
  refine Evs.party fun v sd hv => ?_
  have hne := (hi _ _ hv).1 rfl
  have ho (a b : Int) : Good o f [⟨tradeK o.id, (v.1, b), false⟩] := by
    refine good_mk hi (by simp) ?_ (fun it h0 h1 => ?_) (pl_cons ⟨by simp [tradeK], fun _ => ⟨by simp [tradeK], fun _ => hne, by simp [tradeK]⟩⟩ pl_nil)
    · simp [dL, wqc_put, wqi_put, wq_gone, wq_set, putP_k, goneP_k, purseK, bankK, stackK, tradeK, offerK, auctionK, bidK, priceK, countK, wO_some, wO_none, wOc_1, wOc_2, wOc_3, wOc_4, wOc_6, wOc_70, wOc_71, wOc_8, wOi_1, wOi_2, wOi_3, wOi_4, wOi_7, wOi_8, Wc, Wi, coinD, hk]
    · simp [dL, wqc_put, wqi_put, wq_gone, wq_set, putP_k, goneP_k, purseK, bankK, stackK, tradeK, offerK, auctionK, bidK, priceK, countK, wO_some, wO_none, wOc_1, wOc_2, wOc_3, wOc_4, wOc_6, wOc_70, wOc_71, wOc_8, wOi_1, wOi_2, wOi_3, wOi_4, wOi_7, wOi_8, Wc, Wi, itemD, hk]
  have he := e_end hi hm (Ne.symm hne) (o := o) (by simp [coinD, hk]) (fun it => by simp [itemD, hk])
  split <;> split
  all_goals first
    | exact Evs.done (ho 0 _)
    | exact he
theorem e_offer (hm : MpOk f) (ho : OpOk o) (hk : o.kind = 12) (hw : o.what ≤ 1000) : Evs f (Good o f) (offerT o) := by
  unfold offerT
  refine Evs.party fun v sd hv => Evs.see (Evs.amount ?_)
  obtain ⟨_, _, _, ⟨w0, _⟩, _, ⟨n0, _⟩, _⟩ := ho
  have hT : PlainP ⟨tradeK o.id, (v.1, 0), false⟩ := ⟨by simp [tradeK], fun _ => ⟨by simp [tradeK], fun _ => (hi _ _ hv).1 rfl, by simp [tradeK]⟩⟩
  cases eb : f (offerK o.id sd) with
  | none =>
    have gb : f (5, o.id, sd) = none := eb
    rw [offA_no rfl]
    by_cases hn : o.n = 0
    · rw [offB_zero (.inl hn)]
      unfold offC
      dsimp only
      unfold offD offE
      rw [if_neg (by omega)]
      refine Evs.done ?_
      rw [if_neg (by omega : ¬ 0 < o.n)]
      refine good_mk hi (by simp [offE, zipPut, putP_k, goneP_k, purseK, stackK, offerK, tradeK]) ?_ (fun it h0 h1 => ?_) ?_
      · simp [zipPut, dL, wqc_put, wqi_put, wq_gone, wq_set, putP_k, goneP_k, purseK, bankK, stackK, tradeK, offerK, auctionK, bidK, priceK, countK, wO_some, wO_none, wOc_1, wOc_2, wOc_3, wOc_4, wOc_6, wOc_70, wOc_71, wOc_8, wOi_1, wOi_2, wOi_3, wOi_4, wOi_7, wOi_8, Wc, Wi, coinD, hk, gb, hn] <;> omega
      · simp [zipPut, dL, wqc_put, wqi_put, wq_gone, wq_set, putP_k, goneP_k, purseK, bankK, stackK, tradeK, offerK, auctionK, bidK, priceK, countK, wO_some, wO_none, wOc_1, wOc_2, wOc_3, wOc_4, wOc_6, wOc_70, wOc_71, wOc_8, wOi_1, wOi_2, wOi_3, wOi_4, wOi_7, wOi_8, Wc, Wi, itemD, hk, gb, hn] <;> (repeat' split) <;> omega
      · exact pl_app (pl_cons (plain_put _ (.inl rfl)) pl_nil) (pl_cons (plain_gone (by simp [offerK])) (pl_cons hT pl_nil))
    · by_cases hz : o.what = 0
      · rw [offB_zero (.inr hz)]
        unfold offC
        dsimp only
        unfold offD offE
        rw [if_pos (by omega : 0 < o.n)]
        refine Evs.less fun hl => Evs.done ?_
        rw [if_pos (by omega : 0 < o.n)]
        refine good_mk hi (by simp [offE, zipPut, putP_k, goneP_k, purseK, stackK, offerK, tradeK]) ?_ (fun it h0 h1 => ?_) ?_
        · simp [zipPut, dL, wqc_put, wqi_put, wq_gone, wq_set, putP_k, goneP_k, purseK, bankK, stackK, tradeK, offerK, auctionK, bidK, priceK, countK, wO_some, wO_none, wOc_1, wOc_2, wOc_3, wOc_4, wOc_6, wOc_70, wOc_71, wOc_8, wOi_1, wOi_2, wOi_3, wOi_4, wOi_7, wOi_8, Wc, Wi, coinD, hk, gb, hz] <;> omega
        · simp [zipPut, dL, wqc_put, wqi_put, wq_gone, wq_set, putP_k, goneP_k, purseK, bankK, stackK, tradeK, offerK, auctionK, bidK, priceK, countK, wO_some, wO_none, wOc_1, wOc_2, wOc_3, wOc_4, wOc_6, wOc_70, wOc_71, wOc_8, wOi_1, wOi_2, wOi_3, wOi_4, wOi_7, wOi_8, Wc, Wi, itemD, hk, gb, hz] <;> (repeat' split) <;> omega
        · exact pl_app (pl_cons (plain_put _ (.inl rfl)) pl_nil) (pl_cons ⟨by simp [offerK], fun _ => ⟨by simp [offerK], by simp [offerK], fun _ => hw⟩⟩ (pl_cons hT pl_nil))
      · rw [offB_else hn hz (by simp)]
        refine Evs.amount ?_
        unfold offC
        dsimp only
        unfold offD offE
        rw [if_pos (by omega : 0 < o.n)]
        refine Evs.less fun hl => Evs.done ?_
        rw [if_pos (by omega : 0 < o.n)]
        refine good_mk hi (by simp [offE, zipPut, putP_k, goneP_k, purseK, stackK, offerK, tradeK]) ?_ (fun it h0 h1 => ?_) ?_
        · simp [zipPut, dL, wqc_put, wqi_put, wq_gone, wq_set, putP_k, goneP_k, purseK, bankK, stackK, tradeK, offerK, auctionK, bidK, priceK, countK, wO_some, wO_none, wOc_1, wOc_2, wOc_3, wOc_4, wOc_6, wOc_70, wOc_71, wOc_8, wOi_1, wOi_2, wOi_3, wOi_4, wOi_7, wOi_8, Wc, Wi, coinD, hk, gb, hz] <;> omega
        · simp [zipPut, dL, wqc_put, wqi_put, wq_gone, wq_set, putP_k, goneP_k, purseK, bankK, stackK, tradeK, offerK, auctionK, bidK, priceK, countK, wO_some, wO_none, wOc_1, wOc_2, wOc_3, wOc_4, wOc_6, wOc_70, wOc_71, wOc_8, wOi_1, wOi_2, wOi_3, wOi_4, wOi_7, wOi_8, Wc, Wi, itemD, hk, gb, hz] <;> (repeat' split) <;> omega
        · exact pl_app (pl_cons (plain_put _ (.inl rfl)) (pl_cons (plain_put _ (.inr (.inr (.inl rfl)))) pl_nil)) (pl_cons ⟨by simp [offerK], fun _ => ⟨by simp [offerK], by simp [offerK], fun _ => hw⟩⟩ (pl_cons hT pl_nil))
  | some bv =>
    have gb : f (5, o.id, sd) = some bv := eb
    obtain ⟨b0, b1⟩ := offer_b hi hm eb
    by_cases h2 : bv.2 = 0
    · rw [offA_no (by simp [backB, h2])]
      by_cases hn : o.n = 0
      · rw [offB_zero (.inl hn)]
        unfold offC
        dsimp only
        refine Evs.more ?_
        unfold offD offE
        rw [if_neg (by omega)]
        refine Evs.done ?_
        rw [if_neg (by omega : ¬ 0 < o.n)]
        refine good_mk hi (by simp [offE, zipPut, putP_k, goneP_k, purseK, stackK, offerK, tradeK]) ?_ (fun it h0 h1 => ?_) ?_
        · simp [zipPut, dL, wqc_put, wqi_put, wq_gone, wq_set, putP_k, goneP_k, purseK, bankK, stackK, tradeK, offerK, auctionK, bidK, priceK, countK, wO_some, wO_none, wOc_1, wOc_2, wOc_3, wOc_4, wOc_6, wOc_70, wOc_71, wOc_8, wOi_1, wOi_2, wOi_3, wOi_4, wOi_7, wOi_8, Wc, Wi, coinD, hk, gb, hn, h2] <;> omega
        · simp [zipPut, dL, wqc_put, wqi_put, wq_gone, wq_set, putP_k, goneP_k, purseK, bankK, stackK, tradeK, offerK, auctionK, bidK, priceK, countK, wO_some, wO_none, wOc_1, wOc_2, wOc_3, wOc_4, wOc_6, wOc_70, wOc_71, wOc_8, wOi_1, wOi_2, wOi_3, wOi_4, wOi_7, wOi_8, Wc, Wi, itemD, hk, gb, hn, h2] <;> (repeat' split) <;> omega
        · exact pl_app (pl_cons (plain_put _ (.inl rfl)) pl_nil) (pl_cons (plain_gone (by simp [offerK])) (pl_cons hT pl_nil))
      · by_cases hz : o.what = 0
        · rw [offB_zero (.inr hz)]
          unfold offC
          dsimp only
          refine Evs.more ?_
          unfold offD offE
          rw [if_pos (by omega : 0 < o.n)]
          refine Evs.less fun hl => Evs.done ?_
          rw [if_pos (by omega : 0 < o.n)]
          refine good_mk hi (by simp [offE, zipPut, putP_k, goneP_k, purseK, stackK, offerK, tradeK]) ?_ (fun it h0 h1 => ?_) ?_
          · simp [zipPut, dL, wqc_put, wqi_put, wq_gone, wq_set, putP_k, goneP_k, purseK, bankK, stackK, tradeK, offerK, auctionK, bidK, priceK, countK, wO_some, wO_none, wOc_1, wOc_2, wOc_3, wOc_4, wOc_6, wOc_70, wOc_71, wOc_8, wOi_1, wOi_2, wOi_3, wOi_4, wOi_7, wOi_8, Wc, Wi, coinD, hk, gb, hz, h2] <;> omega
          · simp [zipPut, dL, wqc_put, wqi_put, wq_gone, wq_set, putP_k, goneP_k, purseK, bankK, stackK, tradeK, offerK, auctionK, bidK, priceK, countK, wO_some, wO_none, wOc_1, wOc_2, wOc_3, wOc_4, wOc_6, wOc_70, wOc_71, wOc_8, wOi_1, wOi_2, wOi_3, wOi_4, wOi_7, wOi_8, Wc, Wi, itemD, hk, gb, hz, h2] <;> (repeat' split) <;> omega
          · exact pl_app (pl_cons (plain_put _ (.inl rfl)) pl_nil) (pl_cons ⟨by simp [offerK], fun _ => ⟨by simp [offerK], by simp [offerK], fun _ => hw⟩⟩ (pl_cons hT pl_nil))
        · rw [offB_else hn hz (by simp)]
          refine Evs.amount ?_
          unfold offC
          dsimp only
          refine Evs.more ?_
          unfold offD offE
          rw [if_pos (by omega : 0 < o.n)]
          refine Evs.less fun hl => Evs.done ?_
          rw [if_pos (by omega : 0 < o.n)]
          refine good_mk hi (by simp [offE, zipPut, putP_k, goneP_k, purseK, stackK, offerK, tradeK]) ?_ (fun it h0 h1 => ?_) ?_
          · simp [zipPut, dL, wqc_put, wqi_put, wq_gone, wq_set, putP_k, goneP_k, purseK, bankK, stackK, tradeK, offerK, auctionK, bidK, priceK, countK, wO_some, wO_none, wOc_1, wOc_2, wOc_3, wOc_4, wOc_6, wOc_70, wOc_71, wOc_8, wOi_1, wOi_2, wOi_3, wOi_4, wOi_7, wOi_8, Wc, Wi, coinD, hk, gb, hz, h2] <;> omega
          · simp [zipPut, dL, wqc_put, wqi_put, wq_gone, wq_set, putP_k, goneP_k, purseK, bankK, stackK, tradeK, offerK, auctionK, bidK, priceK, countK, wO_some, wO_none, wOc_1, wOc_2, wOc_3, wOc_4, wOc_6, wOc_70, wOc_71, wOc_8, wOi_1, wOi_2, wOi_3, wOi_4, wOi_7, wOi_8, Wc, Wi, itemD, hk, gb, hz, h2] <;> (repeat' split) <;> omega
          · exact pl_app (pl_cons (plain_put _ (.inl rfl)) (pl_cons (plain_put _ (.inr (.inr (.inl rfl)))) pl_nil)) (pl_cons ⟨by simp [offerK], fun _ => ⟨by simp [offerK], by simp [offerK], fun _ => hw⟩⟩ (pl_cons hT pl_nil))
    · rw [offA_yes (by simp [backB, h2])]
      unfold offA2
      have hlo : lo32 bv.2 = bv.2 := by rw [show lo32 bv.2 = bv.2 % 4294967296 from IntKind.wrap_u32 _]; omega
      rw [show lo32 ((some bv).getD (0, 0)).2 = bv.2 from hlo]
      refine Evs.amount ?_
      by_cases hn : o.n = 0
      · rw [offB_zero (.inl hn)]
        unfold offC
        dsimp only
        refine Evs.more ?_
        unfold offD offE
        rw [if_neg (by omega)]
        refine Evs.done ?_
        rw [if_neg (by omega : ¬ 0 < o.n)]
        refine good_mk hi (by simp [offE, zipPut, putP_k, goneP_k, purseK, stackK, offerK, tradeK]) ?_ (fun it h0 h1 => ?_) ?_
        · simp [zipPut, dL, wqc_put, wqi_put, wq_gone, wq_set, putP_k, goneP_k, purseK, bankK, stackK, tradeK, offerK, auctionK, bidK, priceK, countK, wO_some, wO_none, wOc_1, wOc_2, wOc_3, wOc_4, wOc_6, wOc_70, wOc_71, wOc_8, wOi_1, wOi_2, wOi_3, wOi_4, wOi_7, wOi_8, Wc, Wi, coinD, hk, gb, hn, h2] <;> omega
        · simp [zipPut, dL, wqc_put, wqi_put, wq_gone, wq_set, putP_k, goneP_k, purseK, bankK, stackK, tradeK, offerK, auctionK, bidK, priceK, countK, wO_some, wO_none, wOc_1, wOc_2, wOc_3, wOc_4, wOc_6, wOc_70, wOc_71, wOc_8, wOi_1, wOi_2, wOi_3, wOi_4, wOi_7, wOi_8, Wc, Wi, itemD, hk, gb, hn, h2] <;> (repeat' split) <;> omega
        · exact pl_app (pl_cons (plain_put _ (.inl rfl)) (pl_cons (plain_put _ (.inr (.inr (.inl rfl)))) pl_nil)) (pl_cons (plain_gone (by simp [offerK])) (pl_cons hT pl_nil))
      · by_cases hz : o.what = 0
        · rw [offB_zero (.inr hz)]
          unfold offC
          dsimp only
          refine Evs.more ?_
          unfold offD offE
          rw [if_pos (by omega : 0 < o.n)]
          refine Evs.less fun hl => Evs.done ?_
          rw [if_pos (by omega : 0 < o.n)]
          refine good_mk hi (by simp [offE, zipPut, putP_k, goneP_k, purseK, stackK, offerK, tradeK]) ?_ (fun it h0 h1 => ?_) ?_
          · simp [zipPut, dL, wqc_put, wqi_put, wq_gone, wq_set, putP_k, goneP_k, purseK, bankK, stackK, tradeK, offerK, auctionK, bidK, priceK, countK, wO_some, wO_none, wOc_1, wOc_2, wOc_3, wOc_4, wOc_6, wOc_70, wOc_71, wOc_8, wOi_1, wOi_2, wOi_3, wOi_4, wOi_7, wOi_8, Wc, Wi, coinD, hk, gb, hz, h2] <;> omega
          · simp [zipPut, dL, wqc_put, wqi_put, wq_gone, wq_set, putP_k, goneP_k, purseK, bankK, stackK, tradeK, offerK, auctionK, bidK, priceK, countK, wO_some, wO_none, wOc_1, wOc_2, wOc_3, wOc_4, wOc_6, wOc_70, wOc_71, wOc_8, wOi_1, wOi_2, wOi_3, wOi_4, wOi_7, wOi_8, Wc, Wi, itemD, hk, gb, hz, h2] <;> (repeat' split) <;> omega
          · exact pl_app (pl_cons (plain_put _ (.inl rfl)) (pl_cons (plain_put _ (.inr (.inr (.inl rfl)))) pl_nil)) (pl_cons ⟨by simp [offerK], fun _ => ⟨by simp [offerK], by simp [offerK], fun _ => hw⟩⟩ (pl_cons hT pl_nil))
        · by_cases hs : o.what = bv.2
          · rw [offB_one (b := some bv) hn hz hs]
            unfold offC
            dsimp only
            refine Evs.more ?_
            unfold offD offE
            rw [if_pos (by omega : 0 < o.n)]
            refine Evs.less fun hl => Evs.done ?_
            rw [if_pos (by omega : 0 < o.n)]
            refine good_mk hi (by simp [offE, zipPut, putP_k, goneP_k, purseK, stackK, offerK, tradeK]) ?_ (fun it h0 h1 => ?_) ?_
            · simp [zipPut, dL, wqc_put, wqi_put, wq_gone, wq_set, putP_k, goneP_k, purseK, bankK, stackK, tradeK, offerK, auctionK, bidK, priceK, countK, wO_some, wO_none, wOc_1, wOc_2, wOc_3, wOc_4, wOc_6, wOc_70, wOc_71, wOc_8, wOi_1, wOi_2, wOi_3, wOi_4, wOi_7, wOi_8, Wc, Wi, coinD, hk, gb, h2, ← hs, hz] <;> omega
            · simp [zipPut, dL, wqc_put, wqi_put, wq_gone, wq_set, putP_k, goneP_k, purseK, bankK, stackK, tradeK, offerK, auctionK, bidK, priceK, countK, wO_some, wO_none, wOc_1, wOc_2, wOc_3, wOc_4, wOc_6, wOc_70, wOc_71, wOc_8, wOi_1, wOi_2, wOi_3, wOi_4, wOi_7, wOi_8, Wc, Wi, itemD, hk, gb, h2, ← hs, hz] <;> (repeat' split) <;> omega
            · exact pl_app (pl_cons (plain_put _ (.inl rfl)) (pl_cons (plain_put _ (.inr (.inr (.inl rfl)))) pl_nil)) (pl_cons ⟨by simp [offerK], fun _ => ⟨by simp [offerK], by simp [offerK], fun _ => hw⟩⟩ (pl_cons hT pl_nil))
          · rw [offB_else hn hz (by simp [hs])]
            refine Evs.amount ?_
            unfold offC
            dsimp only
            refine Evs.more ?_
            unfold offD offE
            rw [if_pos (by omega : 0 < o.n)]
            refine Evs.less fun hl => Evs.done ?_
            rw [if_pos (by omega : 0 < o.n)]
            refine good_mk hi (by simp [offE, zipPut, putP_k, goneP_k, purseK, stackK, offerK, tradeK, Ne.symm hs]) ?_ (fun it h0 h1 => ?_) ?_
            · simp [zipPut, dL, wqc_put, wqi_put, wq_gone, wq_set, putP_k, goneP_k, purseK, bankK, stackK, tradeK, offerK, auctionK, bidK, priceK, countK, wO_some, wO_none, wOc_1, wOc_2, wOc_3, wOc_4, wOc_6, wOc_70, wOc_71, wOc_8, wOi_1, wOi_2, wOi_3, wOi_4, wOi_7, wOi_8, Wc, Wi, coinD, hk, gb, h2, hz] <;> omega
            · simp [zipPut, dL, wqc_put, wqi_put, wq_gone, wq_set, putP_k, goneP_k, purseK, bankK, stackK, tradeK, offerK, auctionK, bidK, priceK, countK, wO_some, wO_none, wOc_1, wOc_2, wOc_3, wOc_4, wOc_6, wOc_70, wOc_71, wOc_8, wOi_1, wOi_2, wOi_3, wOi_4, wOi_7, wOi_8, Wc, Wi, itemD, hk, gb, h2, hz] <;> (repeat' split) <;> omega
            · exact pl_app (pl_cons (plain_put _ (.inl rfl)) (pl_cons (plain_put _ (.inr (.inr (.inl rfl)))) (pl_cons (plain_put _ (.inr (.inr (.inl rfl)))) pl_nil))) (pl_cons ⟨by simp [offerK], fun _ => ⟨by simp [offerK], by simp [offerK], fun _ => hw⟩⟩ (pl_cons hT pl_nil))

/-! ### Craft -/
omit hi in
theorem Evs.moreAll {P : List Pt → Prop} : ∀ {m : List Bt} {p : List Pt}, P (p ++ m.map fun b => putP (stackK o.who b.item) (b.hv + b.got)) → Evs f P (moreAll o p m)
  | [], p, h => Evs.done (by simpa using h)
  | b :: m, p, h => Evs.more (Evs.moreAll (by simpa using h))
omit hi in
theorem Evs.lessAll {P : List Pt → Prop} {g : List Bt → T (List Pt × Rp)} : ∀ {m l : List Bt}, Evs f P (g (l ++ m.map fun b => { b with hv := b.hv - b.lost })) → Evs f P (lessAll g l m)
  | [], l, h => by simpa [Go.Proofs.YtdbpjbmalinlbaaGreat.lessAll] using h
  | b :: m, l, h => Evs.less fun _ => Evs.lessAll (by simpa using h)
/-- The batches that a craft looks up. -/
def bts (f : Mp) (o : OpV) : Nat → List Bt
  | 0 => []
  | m + 1 => if cnt (needsI o.what o.n) (7 - m) = 0 ∧ cnt (needsO o.what o.n) (7 - m) = 0 then bts f o m
    else ⟨7 - m, cnt (needsI o.what o.n) (7 - m), cnt (needsO o.what o.n) (7 - m), amt (f (stackK o.who (7 - m)))⟩ :: bts f o m
omit hi in
theorem Evs.askAll {P : List Pt → Prop} {g : List Bt → T (List Pt × Rp)} : ∀ {m : Nat} {l : List Bt}, Evs f P (g (l ++ bts f o m)) → Evs f P (askT o g m l)
  | 0, l, h => by simpa [bts, askT] using h
  | m + 1, l, h => by
    unfold askT
    unfold bts at h
    split
    · rename_i hz
      rw [if_pos hz] at h
      exact Evs.askAll h
    · rename_i hz
      rw [if_neg hz] at h
      exact Evs.amount (Evs.askAll (by simpa using h))
omit hi in
theorem bts_item : ∀ {m : Nat} {b : Bt}, b ∈ bts f o m → 7 - (m : Int) < b.item ∧ b.hv = amt (f (stackK o.who b.item))
  | 0, _, h => by cases h
  | m + 1, b, h => by
    unfold bts at h
    split at h
    · obtain ⟨h1, h2⟩ := bts_item h
      exact ⟨by omega, h2⟩
    · rcases List.mem_cons.1 h with rfl | h
      · exact ⟨by show 7 - ((m + 1 : Nat) : Int) < 7 - (m : Int); omega, rfl⟩
      · obtain ⟨h1, h2⟩ := bts_item h
        exact ⟨by omega, h2⟩
def btsP (o : OpV) (l : List Bt) : List Pt := l.map fun b => putP (stackK o.who b.item) (b.hv - b.lost + b.got)
omit hi in
theorem bts_apart : ∀ (m : Nat), (btsP o (bts f o m)).Pairwise fun a b => a.k ≠ b.k
  | 0 => List.Pairwise.nil
  | m + 1 => by
    unfold bts
    split
    · exact bts_apart m
    · refine List.pairwise_cons.2 ⟨fun q hq => ?_, bts_apart m⟩
      obtain ⟨b, hb, rfl⟩ := List.mem_map.1 hq
      have := (bts_item hb).1
      simp only [putP_k, stackK]
      intro e
      simp at e
      omega
omit hi in
theorem bts_coins : ∀ (m : Nat), dL Wc f (btsP o (bts f o m)) = 0
  | 0 => rfl
  | m + 1 => by
    unfold bts
    split
    · exact bts_coins m
    · show dL Wc f (_ :: btsP o (bts f o m)) = 0
      simp only [dL, bts_coins m, wqc_put, putP_k, stackK, wOc_3]
      simp [Wc]
omit hi in
theorem bts_items (it : Int) : ∀ (m : Nat), dL (Wi it) f (btsP o (bts f o m)) = if 7 - (m : Int) < it ∧ it ≤ 7 then cnt (needsO o.what o.n) it - cnt (needsI o.what o.n) it else 0
  | 0 => by rw [if_neg (by omega)]; rfl
  | m + 1 => by
    unfold bts
    have hcast : ((m + 1 : Nat) : Int) = (m : Int) + 1 := by omega
    rw [hcast]
    split
    · rename_i hz
      rw [bts_items it m]
      by_cases e : it = 7 - (m : Int)
      · subst e
        rw [if_neg (by omega), if_pos (by omega)]; omega
      · by_cases h : 7 - (m : Int) < it ∧ it ≤ 7
        · rw [if_pos h, if_pos (by omega)]
        · rw [if_neg h, if_neg (by omega)]
    · show dL (Wi it) f (_ :: btsP o (bts f o m)) = _
      simp only [dL, bts_items it m, wqi_put, putP_k, stackK, wOi_3]
      by_cases e : it = 7 - (m : Int)
      · subst e
        rw [if_pos rfl, if_neg (by omega), if_pos (by omega)]
        simp only [Wi]
        rw [if_pos (.inl ⟨trivial, trivial⟩)]
        omega
      · have e' : ¬ 7 - (m : Int) = it := fun h => e h.symm
        have z : ∀ a : Int, Wi it (3, o.who, 7 - (m : Int)) (a, 0) = 0 := fun a => by simp [Wi, e']
        rw [if_neg e', z]
        by_cases h : 7 - (m : Int) < it ∧ it ≤ 7
        · rw [if_pos h, if_pos (by omega)]; omega
        · rw [if_neg h, if_neg (by omega)]; rfl
omit hi in
theorem cnt_far {it : Int} (h : ¬ (0 < it ∧ it ≤ 7)) : cnt (needsI o.what o.n) it = 0 ∧ cnt (needsO o.what o.n) it = 0 := by
  unfold needsI needsO
  split
  · exact ⟨rfl, rfl⟩
  · unfold inL outL mulL
    constructor
    all_goals (
      (repeat' split) <;> simp only [List.map_cons, List.map_nil, cnt] <;> (repeat' split) <;> first | rfl | omega)
theorem e_craft (hk : o.kind = 10) : Evs f (Good o f) (craftT o) := by
  unfold craftT
  refine Evs.must fun _ _ => Evs.askAll (Evs.lessAll (Evs.moreAll ?_))
  have e : ([] : List Pt) ++ List.map (fun b : Bt => putP (stackK o.who b.item) (b.hv + b.got)) ([] ++ List.map (fun b : Bt => { b with hv := b.hv - b.lost }) ([] ++ bts f o 7)) = btsP o (bts f o 7) := by
    simp [btsP, List.map_map, Function.comp_def]
  rw [e]
  refine good_mk hi (bts_apart 7) ?_ (fun it h0 h1 => ?_) (fun q hq => ?_)
  · rw [bts_coins]; simp [coinD, hk]
  · rw [bts_items]
    simp only [itemD, hk]
    by_cases h : 0 < it ∧ it ≤ 7
    · rw [if_pos (by omega)]; simp
    · rw [if_neg (by omega)]
      have := cnt_far (o := o) h
      simp [this]
  · obtain ⟨b, _, rfl⟩ := List.mem_map.1 hq
    exact plain_put _ (.inr (.inr (.inl rfl)))
theorem e_run (hm : MpOk f) (ho : OpOk o) : Evs f (Good o f) (runT o) := by
  unfold runT
  split
  · rename_i hb
    have hs : soundB o = true := by
      unfold beginE at hb
      by_cases hs : soundB o = false
      · rw [if_pos hs] at hb; cases hb
      · simpa using hs
    have hne : o.kind = 8 ∨ o.kind = 9 ∨ o.kind = 11 → o.who ≠ o.whom := fun h e => by
      unfold beginE at hb
      rw [if_neg (by rw [hs]; decide), if_pos h, if_pos e] at hb
      cases hb
    unfold opT
    rcases kind_of hb with (h | h | h | h | h | h) | (h | h | h | h | h | h) | (h | h | h | h | h | h) <;> simp only [h]
    · exact e_open hi h
    · exact e_items hi ho (by omega)
    · exact e_items hi ho (by omega)
    · exact e_items hi ho (by omega)
    · exact e_items hi ho (by omega)
    · exact e_deposit hi h
    · exact e_draw hi h
    · exact e_pay hi h (hne (by omega))
    · exact e_give hi h (hne (by omega))
    · exact e_craft hi h
    · exact e_start hi ho h (hne (by omega))
    · refine e_offer hi hm ho h (of_decide_eq_true ?_)
      unfold soundB at hs
      rw [if_neg (by omega), if_neg (by omega), if_neg (by omega), if_neg (by omega), if_neg (by omega), if_neg (by omega), if_pos (by omega), Bool.and_eq_true] at hs
      exact hs.2
    · exact e_agree hi hm h
    · exact e_break hi hm h
    · exact e_sell hi ho h
    · exact e_bid hi h
    · exact e_close hi h
    · exact e_look hi h
  · rename_i hb
    exact Evs.over hb
end
theorem Fine.quiet {f : Mp} {t : T (List Pt × Rp)} {n : Nat} (h : Fine (Vb False) (Lf False) t n) : (ev f t).2.err ≠ 0 → (ev f t).1 = [] := by
  induction t generalizing n with
  | done a => exact fun e => absurd h.1 e
  | over c => exact fun _ => rfl
  | ask k g ih =>
    obtain ⟨m, _, h1⟩ := h
    exact ih (f k) (h1 (f k) fun _ _ hB => hB.elim)
/-- An operation with an error changes nothing; another one makes and takes what it says. -/
theorem step_err {f : Mp} {o : OpV} (ho : OpOk o) (he : (ev f (runT o)).2.err ≠ 0) : stepM f o = f := by
  unfold stepM
  rw [Fine.quiet (fine_run ho) he]; rfl
theorem step_keeps {f : Mp} {o : OpV} (hi : Inv f) (hm : MpOk f) (ho : OpOk o) (he : (ev f (runT o)).2.err = 0) {c : Int} (hc : Tot Wc f c) {it i : Int} (h0 : 0 < it) (h1 : it ≤ 4294967295) (hI : Tot (Wi it) f i) :
    Inv (stepM f o) ∧ Tot Wc (stepM f o) (c + coinD o) ∧ Tot (Wi it) (stepM f o) (i + itemD o it) := by
  have G := e_run hi hm ho he
  refine ⟨G.inv, ?_, ?_⟩
  · have := hc.puts G.apart
    rwa [G.coins] at this
  · have := hI.puts G.apart
    rwa [G.items it h0 h1] at this
theorem step_inv {f : Mp} {o : OpV} (hi : Inv f) (hm : MpOk f) (ho : OpOk o) : Inv (stepM f o) := by
  by_cases he : (ev f (runT o)).2.err = 0
  · exact (e_run hi hm ho he).inv
  · rw [step_err ho he]; exact hi
end Go.Proofs.YtdbpjbmalinlbaaGreat

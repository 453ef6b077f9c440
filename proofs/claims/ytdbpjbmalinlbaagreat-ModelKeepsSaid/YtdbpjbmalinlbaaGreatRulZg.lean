/- What every operation's tree is: how deep, and what its leaves put. -/
import Derived.Test.YtdbpjbmalinlbaaGreatRulZf
namespace Go.Proofs.YtdbpjbmalinlbaaGreat
open Go.RowKit

/-! ### run, of any kind -/
section
variable {o : OpV}

set_option maxRecDepth 100000 in
set_option maxHeartbeats 1000000 in
theorem run_sink (hb : beginE o = 0) (hk : o.kind = 3) : RunsTo o (itemsT o [] rp0) := by
  intro x s w h
  have hx := h.lt
  have h' := Lib.hid h
  clear h
  go_enter Tryz.func43, Tryz.ntmps43
  go_wp2_with fail
  refine (begin_any h'.out).mono ?_
  rintro e w1 ⟨⟨h0, rfl⟩ | ⟨h0, rfl⟩, B⟩
  · have H := Lib.hid (h'.out.below B)
    have S := Step.ofBelow hx B
    obtain ⟨c0, _⟩ := H.out.op
    rw [hk] at c0
    go_wp2_with fail
    refine (items_any H.out (by simp) (.inr (.inl hk))).mono ?_
    rintro e w2 M
    have F := Met.from S M
    obtain ⟨-, ⟨_, _, -, rfl, -⟩ | ⟨_, -, rfl, -⟩ | ⟨_, -, rfl, -⟩⟩ := M.split
    · go_wp2_with fail
      go_end0
      exact F
    · go_wp2_with fail
      exact ⟨rfl, F⟩
    · go_wp2_with fail
      exact ⟨rfl, F⟩
  · exact absurd hb h0.out

set_option maxRecDepth 100000 in
set_option maxHeartbeats 1000000 in
theorem run_make (hb : beginE o = 0) (hk : o.kind = 4) : RunsTo o (itemsT o [] rp0) := by
  intro x s w h
  have hx := h.lt
  have h' := Lib.hid h
  clear h
  go_enter Tryz.func43, Tryz.ntmps43
  go_wp2_with fail
  refine (begin_any h'.out).mono ?_
  rintro e w1 ⟨⟨h0, rfl⟩ | ⟨h0, rfl⟩, B⟩
  · have H := Lib.hid (h'.out.below B)
    have S := Step.ofBelow hx B
    obtain ⟨c0, _⟩ := H.out.op
    rw [hk] at c0
    go_wp2_with fail
    refine (items_any H.out (by simp) (.inr (.inr (.inl hk)))).mono ?_
    rintro e w2 M
    have F := Met.from S M
    obtain ⟨-, ⟨_, _, -, rfl, -⟩ | ⟨_, -, rfl, -⟩ | ⟨_, -, rfl, -⟩⟩ := M.split
    · go_wp2_with fail
      go_end0
      exact F
    · go_wp2_with fail
      exact ⟨rfl, F⟩
    · go_wp2_with fail
      exact ⟨rfl, F⟩
  · exact absurd hb h0.out

set_option maxRecDepth 100000 in
set_option maxHeartbeats 1000000 in
theorem run_use (hb : beginE o = 0) (hk : o.kind = 5) : RunsTo o (itemsT o [] rp0) := by
  intro x s w h
  have hx := h.lt
  have h' := Lib.hid h
  clear h
  go_enter Tryz.func43, Tryz.ntmps43
  go_wp2_with fail
  refine (begin_any h'.out).mono ?_
  rintro e w1 ⟨⟨h0, rfl⟩ | ⟨h0, rfl⟩, B⟩
  · have H := Lib.hid (h'.out.below B)
    have S := Step.ofBelow hx B
    obtain ⟨c0, _⟩ := H.out.op
    rw [hk] at c0
    go_wp2_with fail
    refine (items_any H.out (by simp) (.inr (.inr (.inr hk)))).mono ?_
    rintro e w2 M
    have F := Met.from S M
    obtain ⟨-, ⟨_, _, -, rfl, -⟩ | ⟨_, -, rfl, -⟩ | ⟨_, -, rfl, -⟩⟩ := M.split
    · go_wp2_with fail
      go_end0
      exact F
    · go_wp2_with fail
      exact ⟨rfl, F⟩
    · go_wp2_with fail
      exact ⟨rfl, F⟩
  · exact absurd hb h0.out
end

def opT (o : OpV) : T (List Pt × Rp) :=
  if o.kind = 1 then openT o else if o.kind = 6 then depositT o else if o.kind = 7 then drawT o else if o.kind = 8 then payT o else if o.kind = 9 then giveT o else if o.kind = 10 then craftT o else if o.kind = 11 then startT o else
  if o.kind = 12 then offerT o else if o.kind = 13 then agreeT o else if o.kind = 14 then breakT o else if o.kind = 15 then sellT o else if o.kind = 16 then bidT o else if o.kind = 17 then closeT o else if o.kind = 18 then lookT o else itemsT o [] rp0
def runT (o : OpV) : T (List Pt × Rp) := if beginE o = 0 then opT o else .over (beginE o)
theorem kind_of {o : OpV} (h : beginE o = 0) : (o.kind = 1 ∨ o.kind = 2 ∨ o.kind = 3 ∨ o.kind = 4 ∨ o.kind = 5 ∨ o.kind = 6) ∨ (o.kind = 7 ∨ o.kind = 8 ∨ o.kind = 9 ∨ o.kind = 10 ∨ o.kind = 11 ∨ o.kind = 12) ∨ (o.kind = 13 ∨ o.kind = 14 ∨ o.kind = 15 ∨ o.kind = 16 ∨ o.kind = 17 ∨ o.kind = 18) := by
  have hs : soundB o = true := by
    unfold beginE at h
    by_cases hs : soundB o = false
    · rw [if_pos hs] at h; cases h
    · simpa using hs
  unfold soundB at hs
  repeat' split at hs
  all_goals first | omega | cases hs
theorem run_any (o : OpV) : RunsTo o (runT o) := by
  unfold runT
  by_cases hb : beginE o = 0
  · rw [if_pos hb]
    unfold opT
    rcases kind_of hb with (h | h | h | h | h | h) | (h | h | h | h | h | h) | (h | h | h | h | h | h) <;> simp only [h]
    · exact run_open hb h
    · exact run_mint hb h
    · exact run_sink hb h
    · exact run_make hb h
    · exact run_use hb h
    · exact run_deposit hb h
    · exact run_draw hb h
    · exact run_pay hb h
    · exact run_give hb h
    · exact run_craft hb h
    · exact run_start hb h
    · exact run_offer hb h
    · exact run_agree hb h
    · exact run_break hb h
    · exact run_sell hb h
    · exact run_bid hb h
    · exact run_close hb h
    · exact run_look hb h
  · rw [if_neg hb]; exact run_stop hb

/-! ### Plain law -/
/-- Depth at most n; each leaf meets P, where all that is looked up meets V. -/
def Fine {α : Type} (V : Vl → Prop) (P : α → Prop) : T α → Nat → Prop
  | .done a, _ => P a
  | .over _, _ => True
  | .ask _ f, n => ∃ m, n = m + 1 ∧ ∀ v : Option Vl, (∀ a, v = some a → V a) → Fine V P (f v) m
section
variable {α β : Type} {V : Vl → Prop} {P : β → Prop} {Q : α → Prop}
theorem Fine.up {t : T α} {n m : Nat} (h : Fine V Q t n) (hnm : n ≤ m) : Fine V Q t m := by
  induction t generalizing n m with
  | done a => exact h
  | over c => trivial
  | ask k f ih =>
    obtain ⟨n', rfl, h1⟩ := h
    obtain ⟨m', rfl⟩ : ∃ m', m = m' + 1 := ⟨m - 1, by omega⟩
    exact ⟨m', rfl, fun v hv => ih v (h1 v hv) (by omega)⟩
theorem Fine.bind {t : T α} {g : α → T β} {n m : Nat} (h : Fine V Q t n) (hg : ∀ a, Q a → Fine V P (g a) m) : Fine V P (t.bind g) (m + n) := by
  induction t generalizing n with
  | done a => exact (hg a h).up (by omega)
  | over c => trivial
  | ask k f ih =>
    obtain ⟨n', rfl, h1⟩ := h
    exact ⟨m + n', rfl, fun v hv => ih v (h1 v hv)⟩
theorem ans_v {c : Cel} (h : V c.v) : ∀ a, c.ans = some a → V a := by
  intro a ha
  unfold Cel.ans at ha
  split at ha
  · cases ha; exact h
  · cases ha
theorem Fine.need {t : T α} {n : Nat} {s : List Cel} {k : Ky} (h : Fine V Q t n) (hs : ∀ c ∈ s, V c.v) (hr : t.run s = .need k) : s.length < n := by
  induction t generalizing n s with
  | done a => cases hr
  | over c => cases hr
  | ask k' f ih =>
    obtain ⟨m, rfl, h1⟩ := h
    cases s with
    | nil => simp
    | cons c s =>
      have := ih c.ans (h1 _ (ans_v (hs c (by simp)))) (fun d hd => hs d (by simp [hd])) hr
      simp; omega
theorem Fine.ok {t : T α} {n : Nat} {s s' : List Cel} {a : α} (h : Fine V Q t n) (hs : ∀ c ∈ s, V c.v) (hr : t.run s = .ok a s') : Q a := by
  induction t generalizing n s with
  | done b => cases hr; exact h
  | over c => cases hr
  | ask k' f ih =>
    obtain ⟨m, rfl, h1⟩ := h
    cases s with
    | nil => cases hr
    | cons c s => exact ih c.ans (h1 _ (ans_v (hs c (by simp)))) (fun d hd => hs d (by simp [hd])) hr
/-- More to be seen makes no difference. -/
theorem run_app (t : T α) (s m : List Cel) (h : ∀ k, t.run s ≠ .need k) : t.run (s ++ m) = match t.run s with | .ok a s' => .ok a (s' ++ m) | .over c => .over c | .need k => .need k := by
  induction t generalizing s with
  | done a => rfl
  | over c => rfl
  | ask k f ih =>
    cases s with
    | nil => exact absurd rfl (h k)
    | cons c s => exact ih c.ans s h
end
theorem do_app (t : T (List Pt × Rp)) (s m : List Cel) (h : ∀ k, t.run s ≠ .need k) : doR (t.run (s ++ m)) = doR (t.run s) := by
  rw [run_app t s m h]
  cases t.run s <;> rfl

def goodP (q : Pt) : Prop := if q.gone = true then q.v = (0, 0) else (q.k.1 ≠ 6 → q.k.1 ≠ 4 → q.v.1 ≤ 4611686018427387904) ∧ (q.k.1 = 3 → q.v.1 ≠ 0)
def goodL (l : List Pt) : Prop := ∀ q ∈ l, goodP q
theorem goodL_nil : goodL [] := fun _ h => by cases h
theorem goodL_cons {q : Pt} {l : List Pt} (h : goodP q) (hl : goodL l) : goodL (q :: l) := fun p hp => by
  rcases List.mem_cons.1 hp with rfl | hp
  · exact h
  · exact hl p hp
theorem goodL_app {l m : List Pt} (h : goodL l) (hm : goodL m) : goodL (l ++ m) := fun p hp => (List.mem_append.1 hp).elim (h p) (hm p)
theorem good_gone (k : Ky) : goodP (goneP k) := by simp [goodP, goneP]
theorem good_put {k : Ky} {a : Int} (h : a ≤ 4611686018427387904) : goodP (putP k a) := by
  unfold putP
  split
  · exact good_gone k
  · rename_i hn
    simp only [goodP, Bool.false_eq_true, if_false]
    exact ⟨fun _ _ => h, fun h3 h0 => hn ⟨h3, h0⟩⟩
theorem good_trade (id a b : Int) : goodP ⟨tradeK id, (a, b), false⟩ := by simp [goodP, tradeK]
theorem good_auction (id a b : Int) : goodP ⟨auctionK id, (a, b), false⟩ := by simp [goodP, auctionK]
theorem good_other {k : Ky} {a b : Int} (hk : k.1 ≠ 3) (h : a ≤ 4611686018427387904) : goodP ⟨k, (a, b), false⟩ := by
  simp only [goodP, Bool.false_eq_true, if_false]
  exact ⟨fun _ _ => h, fun h3 => absurd h3 hk⟩

section
variable {B : Prop} {β : Type} {P : β → Prop} {n : Nat} {k : Ky}
/-- What is looked up is in bounds, where B holds. -/
def Vb (B : Prop) (v : Vl) : Prop := B → v.1 ≤ 4611686018427387904
def Lf (B : Prop) (a : List Pt × Rp) : Prop := a.2.err = 0 ∧ (B → goodL a.1)
theorem Fine.must {g : Vl → T β} (h : ∀ v, Vb B v → Fine (Vb B) P (g v) n) : Fine (Vb B) P ((mustT k).bind g) (n + 1) :=
  ⟨n, rfl, fun v hv => by cases v with | none => trivial | some v => exact h v (hv v rfl)⟩
theorem Fine.amount {g : Int → T β} (h : ∀ a, (B → a ≤ 4611686018427387904) → Fine (Vb B) P (g a) n) : Fine (Vb B) P ((amountT k).bind g) (n + 1) :=
  ⟨n, rfl, fun v hv => by cases v with | none => exact h 0 (fun _ => by decide) | some v => exact h v.1 (hv v rfl)⟩
theorem Fine.see {g : Option Vl → T β} (h : ∀ v : Option Vl, (∀ a, v = some a → Vb B a) → Fine (Vb B) P (g v) n) : Fine (Vb B) P ((seeT k).bind g) (n + 1) :=
  ⟨n, rfl, fun v hv => h v hv⟩
theorem Fine.check {b : Bool} {c : Int} {g : Unit → T β} (h : b = true → Fine (Vb B) P (g ()) n) : Fine (Vb B) P ((checkT b c).bind g) n := by
  cases b with
  | false => trivial
  | true => exact h rfl
theorem Fine.more {a c : Int} {g : Int → T β} (h : ∀ v, v ≤ 4611686018427387904 → Fine (Vb B) P (g v) n) : Fine (Vb B) P ((moreT a c).bind g) n := by
  unfold moreT
  split
  · refine h _ ?_
    unfold addV
    split <;> omega
  · trivial
theorem Fine.less {a c : Int} {g : Int → T β} (hc : 0 ≤ c) (h : ∀ v, v ≤ 4611686018427387904 → c ≤ 4611686018427387904 → Fine (Vb B) P (g v) n) : Fine (Vb B) P ((lessT a c).bind g) n := by
  unfold lessT
  split
  · rename_i h0
    unfold subE at h0
    split at h0
    · cases h0
    · refine h _ ?_ (by omega)
      unfold subV
      split <;> omega
  · trivial
theorem Fine.num {kind : Int} {g : Int → T β} (h : ∀ v, v ≤ 4294967295 → Fine (Vb B) P (g v) n) : Fine (Vb B) P ((numT kind).bind g) (n + 1) := by
  unfold numT
  rw [T.bind_assoc]
  refine Fine.amount fun a _ => ?_
  rw [T.bind_assoc]
  refine Fine.check fun hd => ?_
  have := of_decide_eq_true hd
  exact h _ (by omega)
theorem Fine.party {o : OpV} {g : Vl × Int → T β} (h : ∀ d, Fine (Vb B) P (g d) n) : Fine (Vb B) P ((partyT o).bind g) (n + 1) := by
  unfold partyT
  rw [T.bind_assoc]
  refine Fine.must fun v _ => ?_
  split <;> (rw [T.bind_assoc]; exact Fine.check fun _ => h _)
end

section
variable {B : Prop} {o : OpV}
theorem fine_open : Fine (Vb B) (Lf B) (openT o) 12 := by
  unfold openT
  exact Fine.see fun _ _ => Fine.check fun _ => ⟨rfl, fun _ => goodL_cons (good_put (by decide)) goodL_nil⟩
theorem fine_look : Fine (Vb B) (Lf B) (lookT o) 12 := by
  unfold lookT
  exact Fine.must fun _ _ => Fine.amount fun _ _ => Fine.amount fun _ _ => ⟨rfl, fun _ => goodL_nil⟩
theorem fine_deposit (on : 0 ≤ o.n) : Fine (Vb B) (Lf B) (depositT o) 12 := by
  unfold depositT
  exact Fine.must fun _ _ => Fine.amount fun _ _ => Fine.less on fun _ h1 _ => Fine.more fun _ h2 => ⟨rfl, fun _ => goodL_cons (good_put h1) (goodL_cons (good_put h2) goodL_nil)⟩
theorem fine_draw (on : 0 ≤ o.n) : Fine (Vb B) (Lf B) (drawT o) 12 := by
  unfold drawT
  exact Fine.must fun _ _ => Fine.amount fun _ _ => Fine.less on fun _ h1 _ => Fine.more fun _ h2 => ⟨rfl, fun _ => goodL_cons (good_put h2) (goodL_cons (good_put h1) goodL_nil)⟩
theorem fine_move (on : 0 ≤ o.n) (f t : Ky) : Fine (Vb B) (Lf B) (moveT o f t) 10 := by
  unfold moveT
  exact Fine.amount fun _ _ => Fine.less on fun _ h1 _ => Fine.amount fun _ _ => Fine.more fun _ h2 => ⟨rfl, fun _ => goodL_cons (good_put h1) (goodL_cons (good_put h2) goodL_nil)⟩
theorem fine_pay (on : 0 ≤ o.n) : Fine (Vb B) (Lf B) (payT o) 12 := by
  unfold payT
  exact Fine.must fun _ _ => (fine_move on _ _).up (by decide)
theorem fine_give (on : 0 ≤ o.n) : Fine (Vb B) (Lf B) (giveT o) 12 := by
  unfold giveT
  exact Fine.must fun _ _ => Fine.must fun _ _ => fine_move on _ _
theorem fine_start : Fine (Vb B) (Lf B) (startT o) 12 := by
  unfold startT
  exact Fine.must fun _ _ => Fine.must fun _ _ => Fine.num fun _ h => ⟨rfl, fun _ => goodL_cons (good_put (by omega)) (goodL_cons (good_trade _ _ _) goodL_nil)⟩
theorem fine_sell (on : 0 ≤ o.n) (hp : o.price ≤ 4611686018427387904) : Fine (Vb B) (Lf B) (sellT o) 12 := by
  unfold sellT
  exact Fine.must fun _ _ => Fine.amount fun _ _ => Fine.less on fun _ h1 _ => Fine.num fun _ h => ⟨rfl, fun _ => goodL_cons (good_put h1) (goodL_cons (good_put (by omega)) (goodL_cons (good_auction _ _ _) (goodL_cons (good_other (show (7 : Int) ≠ 3 by decide) hp) goodL_nil)))⟩
theorem fine_close : Fine (Vb B) (Lf B) (closeT o) 12 := by
  unfold closeT
  refine Fine.must fun _ _ => Fine.check fun _ => Fine.see fun b _ => ?_
  cases b with
  | none => exact Fine.amount fun _ _ => Fine.more fun _ h => ⟨rfl, fun _ => goodL_cons (good_put h) (goodL_cons (good_gone _) (goodL_cons (good_gone _) goodL_nil))⟩
  | some bv => exact Fine.amount fun _ _ => Fine.more fun _ h1 => Fine.amount fun _ _ => Fine.more fun _ h2 => ⟨rfl, fun _ => goodL_cons (good_put h1) (goodL_cons (good_put h2) (goodL_cons (good_gone _) (goodL_cons (good_gone _) (goodL_cons (good_gone _) goodL_nil))))⟩
theorem fine_part {β : Type} {P : β → Prop} {n : Nat} {q : List Pt} {v : Option Vl} {who : Int} {g : List Pt → T β} (hq : goodL q) (h : ∀ q, goodL q → Fine (Vb B) P (g q) n) : Fine (Vb B) P ((partT q v who).bind g) (n + 1) := by
  cases v with
  | none => exact (h q hq).up (by omega)
  | some v =>
    unfold partT
    dsimp only
    rw [T.bind_assoc]
    refine Fine.amount fun _ _ => ?_
    rw [T.bind_assoc]
    exact Fine.more fun _ hm => h _ (goodL_app hq (goodL_cons (good_put hm) goodL_nil))
theorem good_goneL {q : List Pt} {v : Option Vl} {k : Ky} (h : goodL q) : goodL (goneL q v k) := by
  unfold goneL
  split
  · exact goodL_app h (goodL_cons (good_gone _) goodL_nil)
  · exact h
theorem fine_end (a b : Int) : Fine (Vb B) (Lf B) (endT o a b) 10 := by
  unfold endT
  refine Fine.see fun v0 _ => ?_
  unfold endT1
  refine Fine.see fun v1 _ => ?_
  unfold endT2
  refine fine_part goodL_nil fun q0 h0 => ?_
  unfold endT3
  refine fine_part h0 fun q1 h1 => ?_
  exact ⟨rfl, fun _ => goodL_app (good_goneL (good_goneL h1)) (goodL_cons (good_gone _) goodL_nil)⟩
theorem fine_agree : Fine (Vb B) (Lf B) (agreeT o) 12 := by
  unfold agreeT
  refine Fine.party fun d => ?_
  split <;> split
  all_goals first
    | exact ⟨rfl, fun _ => goodL_cons (good_trade _ _ _) goodL_nil⟩
    | exact (fine_end _ _).up (show 10 ≤ 11 by decide)
theorem fine_break : Fine (Vb B) (Lf B) (breakT o) 12 := by
  unfold breakT
  exact Fine.party fun d => (fine_end _ _).up (by decide)
theorem good_zip {ks : List Ky} {am : List Int} (h : ∀ a ∈ am, a ≤ 4611686018427387904) : goodL (zipPut ks am) := by
  unfold zipPut
  induction ks generalizing am with
  | nil => intro q hq; simp at hq
  | cons k ks ih =>
    cases am with
    | nil => intro q hq; simp at hq
    | cons a am => exact goodL_cons (good_put (h a (by simp))) (ih fun b hb => h b (by simp [hb]))
theorem fine_bidD {n : Nat} {ks : List Ky} {am : List Int} (hn : o.n ≤ 4611686018427387904) (h : ∀ a ∈ am, a ≤ 4611686018427387904) : Fine (Vb B) (Lf B) (bidD o ks am) n :=
  ⟨rfl, fun _ => goodL_app (good_zip h) (goodL_cons (good_other (show (7 : Int) ≠ 3 by decide) hn) goodL_nil)⟩
theorem fine_bid (on : 0 ≤ o.n) (hn : o.n ≤ 4611686018427387904) : Fine (Vb B) (Lf B) (bidT o) 12 := by
  unfold bidT
  refine Fine.must fun _ _ => Fine.check fun _ => Fine.amount fun _ _ => Fine.see fun b _ => Fine.check fun _ => Fine.must fun pv _ => ?_
  unfold bidE
  cases b with
  | none => exact Fine.less on fun l hl _ => fine_bidD hn (by simpa using hl)
  | some bv =>
    dsimp only
    split
    · exact Fine.amount fun _ _ => Fine.more fun m hm => Fine.less on fun l hl _ => fine_bidD hn (by simpa using ⟨hl, hm⟩)
    · exact Fine.more fun m hm => Fine.less on fun l hl _ => fine_bidD hn (by simpa using hl)
theorem fine_offE {n : Nat} {d : Vl × Int} {ks : List Ky} {am : List Int} (hn : 0 < o.n → o.n ≤ 4611686018427387904) (h : B → ∀ a ∈ am, a ≤ 4611686018427387904) : Fine (Vb B) (Lf B) (offE o d ks am) n := by
  refine ⟨rfl, fun hB => goodL_app (good_zip (h hB)) (goodL_cons ?_ (goodL_cons (good_trade _ _ _) goodL_nil))⟩
  split
  · rename_i h0
    exact good_other (show (5 : Int) ≠ 3 by decide) (hn h0)
  · exact good_gone _
theorem set_le {am : List Int} {j : Nat} {l : Int} (h : B → ∀ a ∈ am, a ≤ 4611686018427387904) (hl : l ≤ 4611686018427387904) : B → ∀ a ∈ am.set j l, a ≤ 4611686018427387904 := fun hB a ha => by
  rcases List.mem_or_eq_of_mem_set ha with ha | rfl
  · exact h hB a ha
  · exact hl
theorem fine_offD {n : Nat} {d : Vl × Int} {tt : Nat} {ks : List Ky} {am : List Int} (on : 0 ≤ o.n) (h : B → ∀ a ∈ am, a ≤ 4611686018427387904) : Fine (Vb B) (Lf B) (offD o d tt ks am) n := by
  unfold offD
  split
  · exact Fine.less on fun l hl hn => fine_offE (fun _ => hn) (set_le h hl)
  · rename_i h0
    exact fine_offE (fun h1 => absurd h1 h0) h
theorem fine_offC {n : Nat} {d : Vl × Int} {b : Option Vl} {bk tt : Nat} {ks : List Ky} {am : List Int} (on : 0 ≤ o.n) (h : B → ∀ a ∈ am, a ≤ 4611686018427387904) : Fine (Vb B) (Lf B) (offC o d b bk tt ks am) n := by
  unfold offC
  cases b with
  | none => exact fine_offD on h
  | some bv => exact Fine.more fun m hm => fine_offD on (set_le h hm)
theorem fine_offB {n : Nat} {d : Vl × Int} {b : Option Vl} {bk : Nat} {ks : List Ky} {am : List Int} (on : 0 ≤ o.n) (h : B → ∀ a ∈ am, a ≤ 4611686018427387904) : Fine (Vb B) (Lf B) (offB o d b bk ks am) (n + 1) := by
  unfold offB
  split
  · exact fine_offC on h
  · split
    · exact fine_offC on h
    · refine Fine.amount fun q hq => fine_offC on fun hB a ha => ?_
      rcases List.mem_append.1 ha with ha | ha
      · exact h hB a ha
      · obtain rfl := List.mem_singleton.1 ha
        exact hq hB
theorem fine_offer (on : 0 ≤ o.n) : Fine (Vb B) (Lf B) (offerT o) 12 := by
  unfold offerT
  refine Fine.party fun d => Fine.see fun b _ => Fine.amount fun c hc => ?_
  unfold offA
  split
  · exact Fine.amount fun q hq => fine_offB on fun hB => by simpa using ⟨hc hB, hq hB⟩
  · exact fine_offB on fun hB => by simpa using hc hB
theorem fine_moreAll {n : Nat} : ∀ (m : List Bt) (p : List Pt), goodL p → Fine (Vb B) (Lf B) (moreAll o p m) n
  | [], _, hp => ⟨rfl, fun _ => hp⟩
  | _ :: m, _, hp => Fine.more fun _ h => fine_moreAll m _ (goodL_app hp (goodL_cons (good_put h) goodL_nil))
theorem fine_lessAll {n : Nat} {f : List Bt → T (List Pt × Rp)} (hf : ∀ l, Fine (Vb B) (Lf B) (f l) n) : ∀ (m l : List Bt), (∀ b ∈ m, 0 ≤ b.lost) → Fine (Vb B) (Lf B) (lessAll f l m) n
  | [], l, _ => hf l
  | b :: m, l, hm => Fine.less (hm b (by simp)) fun _ _ _ => fine_lessAll hf m _ fun c hc => hm c (by simp [hc])
theorem fine_ask {f : List Bt → T (List Pt × Rp)} (hf : ∀ l : List Bt, (∀ b ∈ l, 0 ≤ b.lost) → Fine (Vb B) (Lf B) (f l) 0) : ∀ (m : Nat) (l : List Bt), (∀ b ∈ l, 0 ≤ b.lost) → Fine (Vb B) (Lf B) (askT o f m l) m
  | 0, l, hl => hf l hl
  | m + 1, l, hl => by
    unfold askT
    split
    · exact (fine_ask hf m l hl).up (by omega)
    · refine Fine.amount fun a _ => fine_ask hf m _ fun b hb => ?_
      rcases List.mem_append.1 hb with hb | hb
      · exact hl b hb
      · obtain rfl := List.mem_singleton.1 hb
        exact (cnt_u (needs_u o.what o.n).1 _).1
theorem fine_craft : Fine (Vb B) (Lf B) (craftT o) 12 := by
  unfold craftT
  exact Fine.must fun _ _ => (fine_ask (fun l hl => fine_lessAll (fun l => fine_moreAll l [] goodL_nil) l [] hl) 7 [] (by simp)).up (by decide)
theorem fine_change {n : Nat} {k : Ky} {f : T Int} {p : List Pt} {r : Rp} (hf : Fine (Vb B) (fun a => a ≤ 4611686018427387904) f 0) (hp : goodL p) (hr : r.err = 0) : Fine (Vb B) (Lf B) (changeT k f p r) n := by
  unfold changeT
  exact (Fine.bind (P := Lf B) (g := fun a => .done (p ++ [putP k a], { r with a := a })) (m := n) hf fun a ha => ⟨hr, fun _ => goodL_app hp (goodL_cons (good_put ha) goodL_nil)⟩).up (by omega)
theorem fine_more (a c : Int) : Fine (Vb B) (fun a => a ≤ 4611686018427387904) (moreT a c) 0 := by
  unfold moreT
  split
  · show addV a c ≤ _
    unfold addV
    split <;> omega
  · trivial
theorem fine_less (a : Int) {c : Int} (hc : 0 ≤ c) : Fine (Vb B) (fun a => a ≤ 4611686018427387904) (lessT a c) 0 := by
  unfold lessT
  split
  · show subV a c ≤ _
    unfold subV
    split <;> omega
  · trivial
theorem fine_items (on : 0 ≤ o.n) : Fine (Vb B) (Lf B) (itemsT o [] rp0) 12 := by
  unfold itemsT
  refine Fine.must fun v _ => ?_
  split
  · exact fine_change (fine_more _ _) goodL_nil rfl
  · split
    · exact fine_change (fine_less _ on) goodL_nil rfl
    · refine Fine.amount fun b _ => fine_change ?_ goodL_nil rfl
      split
      · exact fine_more _ _
      · exact fine_less _ on
theorem fine_run (ho : OpOk o) : Fine (Vb B) (Lf B) (runT o) 12 := by
  have on := ho.2.2.2.2.2.1.1
  unfold runT
  split
  · rename_i hb
    have hs : soundB o = true := by
      unfold beginE at hb
      by_cases hs : soundB o = false
      · rw [if_pos hs] at hb; cases hb
      · simpa using hs
    unfold opT
    rcases kind_of hb with (h | h | h | h | h | h) | (h | h | h | h | h | h) | (h | h | h | h | h | h) <;> simp only [h]
    · exact fine_open
    · exact fine_items on
    · exact fine_items on
    · exact fine_items on
    · exact fine_items on
    · exact fine_deposit on
    · exact fine_draw on
    · exact fine_pay on
    · exact fine_give on
    · exact fine_craft
    · exact fine_start
    · exact fine_offer on
    · exact fine_agree
    · exact fine_break
    · refine fine_sell on (of_decide_eq_true ?_)
      unfold soundB at hs
      rw [if_neg (by omega), if_neg (by omega), if_neg (by omega), if_neg (by omega), if_neg (by omega), if_neg (by omega), if_neg (by omega), if_pos h, Bool.and_eq_true] at hs
      exact hs.2
    · refine fine_bid on (of_decide_eq_true ?_)
      unfold soundB at hs
      rw [if_neg (by omega), if_neg (by omega), if_neg (by omega), if_neg (by omega), if_neg (by omega), if_neg (by omega), if_neg (by omega), if_neg (by omega), if_pos h, Bool.and_eq_true] at hs
      exact hs.2
    · exact fine_close
    · exact fine_look
  · trivial
end
end Go.Proofs.YtdbpjbmalinlbaaGreat

/- Plain law: what is asked and what is put lies in its types; at most a hundred puts; Plain law: a tree asked of a world at hand. -/
import Derived.Test.YtdbpjbmalinlbaaGreatModA
import Derived.Laws.Closers25b
namespace Go.Proofs.YtdbpjbmalinlbaaGreat
open Go.RowKit

def U32 (a : Int) : Prop := 0 ≤ a ∧ a ≤ 4294967295
def QOk (q : Pt) : Prop := KyOk q.k ∧ VlOk q.v
def PL (p : List Pt) (n : Nat) : Prop := p.length ≤ n ∧ ∀ q ∈ p, QOk q
def PutsOk (a : List Pt × Rp) : Prop := PL a.1 100
def Neat {α : Type} (P : α → Prop) : T α → Prop
  | .done a => P a
  | .over _ => True
  | .ask k g => KyOk k ∧ ∀ v : Option Vl, (∀ a, v = some a → VlOk a) → Neat P (g v)
theorem lo32_u (a : Int) : U32 (lo32 a) := wrap_within .u32 a
theorem hi32_u (a : Int) : U32 (hi32 a) := wrap_within .u32 _
theorem bits_u64 (op : BinOp) (a b : Int) : U64 (bits op .u64 a b) := bits_within op .u64 a b
theorem ky1 {k a b : Int} (h0 : 0 ≤ k := by decide) (h1 : k ≤ 255 := by decide) (ha : U32 a) (hb : U32 b) : KyOk (k, a, b) := ⟨⟨h0, h1⟩, ha, hb⟩
theorem u32_0 : U32 0 := by unfold U32; omega
theorem u32_1 : U32 1 := by unfold U32; omega
theorem u32_64 {a : Int} (h : U32 a) : U64 a := by unfold U32 at h; unfold U64; omega
theorem u64_0 : U64 0 := by unfold U64; omega
theorem q_put {k : Ky} {a : Int} (hk : KyOk k) (ha : U64 a) : QOk (putP k a) := by
  unfold putP
  split
  · exact ⟨hk, u64_0, u64_0⟩
  · exact ⟨hk, ha, u64_0⟩
theorem q_gone {k : Ky} (hk : KyOk k) : QOk (goneP k) := ⟨hk, u64_0, u64_0⟩
theorem q_mk {k : Ky} {a b : Int} {g : Bool} (hk : KyOk k) (ha : U64 a) (hb : U64 b) : QOk ⟨k, (a, b), g⟩ := ⟨hk, ha, hb⟩
theorem p_nil {n : Nat} : PL [] n := ⟨Nat.zero_le _, fun _ h => by cases h⟩
theorem p_cons {q : Pt} {l : List Pt} {n : Nat} (h : QOk q) (hl : PL l n) : PL (q :: l) (n + 1) := ⟨Nat.succ_le_succ hl.1, fun p hp => by
  rcases List.mem_cons.1 hp with rfl | hp
  · exact h
  · exact hl.2 p hp⟩
theorem p_app {l m : List Pt} {a b : Nat} (h : PL l a) (hm : PL m b) : PL (l ++ m) (a + b) := ⟨by rw [List.length_append]; exact Nat.add_le_add h.1 hm.1, fun p hp => (List.mem_append.1 hp).elim (h.2 p) (hm.2 p)⟩
theorem p_up {l : List Pt} {a b : Nat} (h : PL l a) (hab : a ≤ b) : PL l b := ⟨Nat.le_trans h.1 hab, h.2⟩

section
variable {α β : Type} {P : β → Prop} {Q : α → Prop} {k : Ky}
theorem Neat.bind {t : T α} {g : α → T β} (h : Neat Q t) (hg : ∀ a, Q a → Neat P (g a)) : Neat P (t.bind g) := by
  induction t with
  | done a => exact hg a h
  | over c => trivial
  | ask k f ih => exact ⟨h.1, fun v hv => ih v (h.2 v hv)⟩
theorem Neat.must {g : Vl → T β} (hk : KyOk k) (h : ∀ v, VlOk v → Neat P (g v)) : Neat P ((mustT k).bind g) :=
  ⟨hk, fun v hv => by cases v with | none => trivial | some v => exact h v (hv v rfl)⟩
theorem Neat.amount {g : Int → T β} (hk : KyOk k) (h : ∀ a, U64 a → Neat P (g a)) : Neat P ((amountT k).bind g) :=
  ⟨hk, fun v hv => by cases v with | none => exact h 0 u64_0 | some v => exact h v.1 (hv v rfl).1⟩
theorem Neat.see {g : Option Vl → T β} (hk : KyOk k) (h : ∀ v : Option Vl, (∀ a, v = some a → VlOk a) → Neat P (g v)) : Neat P ((seeT k).bind g) :=
  ⟨hk, fun v hv => h v hv⟩
theorem Neat.check {b : Bool} {c : Int} {g : Unit → T β} (h : Neat P (g ())) : Neat P ((checkT b c).bind g) := by
  cases b with
  | false => trivial
  | true => exact h
theorem Neat.check' {b : Bool} {c : Int} {g : Unit → T β} (h : b = true → Neat P (g ())) : Neat P ((checkT b c).bind g) := by
  cases b with
  | false => trivial
  | true => exact h rfl
theorem up_u64 {a : Int} (h : 0 ≤ a ∧ a ≤ 4611686018427387904) : U64 a := ⟨h.1, by omega⟩
theorem Neat.more {a c : Int} {g : Int → T β} (ha : U64 a) (hc : U64 c) (h : ∀ v, U64 v → Neat P (g v)) : Neat P ((moreT a c).bind g) := by
  unfold moreT
  split
  · exact h _ (up_u64 (addV_u ha.1 hc.1))
  · trivial
theorem Neat.less {a c : Int} {g : Int → T β} (hc : U64 c) (h : ∀ v, U64 v → Neat P (g v)) : Neat P ((lessT a c).bind g) := by
  unfold lessT
  split
  · exact h _ (up_u64 (subV_u hc.1))
  · trivial
theorem Neat.num {kind : Int} {g : Int → T β} (h0 : 0 ≤ kind) (h1 : kind ≤ 255) (h : ∀ v, U32 v → Neat P (g v)) : Neat P ((numT kind).bind g) := by
  unfold numT
  rw [T.bind_assoc]
  refine Neat.amount (ky1 (ha := ⟨h0, by omega⟩) (hb := u32_0)) fun a ha => ?_
  rw [T.bind_assoc]
  refine Neat.check' fun hd => ?_
  have := of_decide_eq_true hd
  unfold U64 at ha
  exact h _ (by unfold U32; omega)
theorem Neat.party {o : OpV} {g : Vl × Int → T β} (hk : KyOk (tradeK o.id)) (h : ∀ d : Vl × Int, VlOk d.1 → U32 d.2 → Neat P (g d)) : Neat P ((partyT o).bind g) := by
  unfold partyT
  rw [T.bind_assoc]
  refine Neat.must hk fun v hv => ?_
  split
  · rw [T.bind_assoc]; exact Neat.check (h (v, 1) hv u32_1)
  · rw [T.bind_assoc]; exact Neat.check (h (v, 0) hv u32_0)
end

section
variable {o : OpV} (ho : OpOk o)
include ho
theorem k_purse : KyOk (purseK o.who) := ky1 (ha := ho.2.1) (hb := u32_0)
theorem k_purse2 : KyOk (purseK o.whom) := ky1 (ha := ho.2.2.1) (hb := u32_0)
theorem k_bank : KyOk (bankK o.who) := ky1 (ha := ho.2.1) (hb := u32_0)
theorem k_bank2 : KyOk (bankK o.whom) := ky1 (ha := ho.2.2.1) (hb := u32_0)
theorem k_stack : KyOk (stackK o.who o.what) := ky1 (ha := ho.2.1) (hb := ho.2.2.2.1)
theorem k_stack2 : KyOk (stackK o.whom o.what) := ky1 (ha := ho.2.2.1) (hb := ho.2.2.2.1)
theorem k_trade : KyOk (tradeK o.id) := ky1 (ha := ho.2.2.2.2.1) (hb := u32_0)
theorem k_auction : KyOk (auctionK o.id) := ky1 (ha := ho.2.2.2.2.1) (hb := u32_0)
theorem k_bid : KyOk (bidK o.id) := ky1 (ha := ho.2.2.2.2.1) (hb := u32_0)
theorem k_price : KyOk (priceK o.id) := ky1 (ha := ho.2.2.2.2.1) (hb := u32_1)
theorem k_offer {s : Int} (hs : U32 s) : KyOk (offerK o.id s) := ky1 (ha := ho.2.2.2.2.1) (hb := hs)
theorem u_n : U64 o.n := ho.2.2.2.2.2.1
theorem u_price : U64 o.price := ho.2.2.2.2.2.2
theorem neat_open : Neat PutsOk (openT o) := by
  unfold openT
  exact Neat.see (k_purse ho) fun _ _ => Neat.check (p_up (p_cons (q_put (k_purse ho) u64_0) (p_nil (n := 0))) (by decide))
theorem neat_look : Neat PutsOk (lookT o) := by
  unfold lookT
  exact Neat.must (k_purse ho) fun _ _ => Neat.amount (k_bank ho) fun _ _ => Neat.amount (k_stack ho) fun _ _ => p_nil
omit ho in
theorem p_two {a b : Pt} (ha : QOk a) (hb : QOk b) : PL [a, b] 100 := p_up (p_cons ha (p_cons hb (p_nil (n := 0)))) (by decide)
theorem neat_deposit : Neat PutsOk (depositT o) := by
  unfold depositT
  exact Neat.must (k_purse ho) fun v hv => Neat.amount (k_bank ho) fun b hb => Neat.less (u_n ho) fun l hl => Neat.more hb (u_n ho) fun m hm => p_two (q_put (k_purse ho) hl) (q_put (k_bank ho) hm)
theorem neat_draw : Neat PutsOk (drawT o) := by
  unfold drawT
  exact Neat.must (k_purse ho) fun v hv => Neat.amount (k_bank ho) fun b hb => Neat.less (u_n ho) fun l hl => Neat.more hv.1 (u_n ho) fun m hm => p_two (q_put (k_purse ho) hm) (q_put (k_bank ho) hl)
theorem neat_move {f t : Ky} (hf : KyOk f) (ht : KyOk t) : Neat PutsOk (moveT o f t) := by
  unfold moveT
  exact Neat.amount hf fun a ha => Neat.less (u_n ho) fun l hl => Neat.amount ht fun b hb => Neat.more hb (u_n ho) fun m hm => p_two (q_put hf hl) (q_put ht hm)
theorem neat_pay : Neat PutsOk (payT o) := by
  unfold payT
  exact Neat.must (k_purse2 ho) fun _ _ => neat_move ho (k_bank ho) (k_bank2 ho)
theorem neat_give : Neat PutsOk (giveT o) := by
  unfold giveT
  exact Neat.must (k_purse ho) fun _ _ => Neat.must (k_purse2 ho) fun _ _ => neat_move ho (k_stack ho) (k_stack2 ho)
theorem neat_start : Neat PutsOk (startT o) := by
  unfold startT
  exact Neat.must (k_purse ho) fun _ _ => Neat.must (k_purse2 ho) fun _ _ => Neat.num (by decide) (by decide) fun id hid => p_two (q_put (ky1 (ha := by unfold U32; omega) (hb := u32_0)) (u32_64 hid)) (q_mk (ky1 (ha := hid) (hb := u32_0)) (bits_u64 _ _ _) u64_0)
theorem neat_sell : Neat PutsOk (sellT o) := by
  unfold sellT
  exact Neat.must (k_purse ho) fun _ _ => Neat.amount (k_stack ho) fun a ha => Neat.less (u_n ho) fun l hl => Neat.num (by decide) (by decide) fun id hid =>
    p_up (p_cons (q_put (k_stack ho) hl) (p_cons (q_put (ky1 (ha := by unfold U32; omega) (hb := u32_0)) (u32_64 hid)) (p_cons (q_mk (ky1 (ha := hid) (hb := u32_0)) (bits_u64 _ _ _) (u_n ho)) (p_cons (q_mk (ky1 (ha := hid) (hb := u32_1)) (u_price ho) u64_0) (p_nil (n := 0)))))) (by decide)
theorem neat_close : Neat PutsOk (closeT o) := by
  unfold closeT
  refine Neat.must (k_auction ho) fun xv hx => Neat.check (Neat.see (k_bid ho) fun b hb => ?_)
  have ks : ∀ {w x : Int}, U32 w → KyOk (stackK w (lo32 x)) := fun h => ky1 (ha := h) (hb := lo32_u _)
  cases b with
  | none => exact Neat.amount (ks ho.2.1) fun a ha => Neat.more ha hx.2 fun m hm => p_up (p_cons (q_put (ks ho.2.1) hm) (p_cons (q_gone (k_auction ho)) (p_cons (q_gone (k_price ho)) (p_nil (n := 0))))) (by decide)
  | some bv => exact Neat.amount (k_purse ho) fun c hc => Neat.more hc (hb bv rfl).1 fun pc hpc => Neat.amount (ks (lo32_u _)) fun a ha => Neat.more ha hx.2 fun m hm => p_up (p_cons (q_put (k_purse ho) hpc) (p_cons (q_put (ks (lo32_u _)) hm) (p_cons (q_gone (k_auction ho)) (p_cons (q_gone (k_price ho)) (p_cons (q_gone (k_bid ho)) (p_nil (n := 0))))))) (by decide)
omit ho in
theorem k_thing {w x : Int} (hw : U32 w) : KyOk (thingK w x) := by
  unfold thingK
  split
  · exact ky1 (ha := hw) (hb := u32_0)
  · exact ky1 (ha := hw) (hb := by unfold U32; omega)
omit ho in
theorem neat_part {β : Type} {P : β → Prop} {q : List Pt} {n : Nat} {v : Option Vl} {who : Int} {g : List Pt → T β} (hq : PL q n) (hv : ∀ a, v = some a → VlOk a) (hw : U32 who) (h : ∀ q, PL q (n + 1) → Neat P (g q)) : Neat P ((partT q v who).bind g) := by
  cases v with
  | none => exact h q (p_up hq (Nat.le_succ n))
  | some v =>
    unfold partT
    dsimp only
    rw [T.bind_assoc]
    refine Neat.amount (k_thing hw) fun c hc => ?_
    rw [T.bind_assoc]
    exact Neat.more hc (hv v rfl).1 fun m hm => h _ (p_app hq (p_cons (q_put (k_thing hw) hm) (p_nil (n := 0))))
omit ho in
theorem p_goneL {q : List Pt} {n : Nat} {v : Option Vl} {k : Ky} (h : PL q n) (hk : KyOk k) : PL (goneL q v k) (n + 1) := by
  unfold goneL
  split
  · exact p_app h (p_cons (q_gone hk) (p_nil (n := 0)))
  · exact p_up h (Nat.le_succ n)
theorem neat_end {a b : Int} (ha : U32 a) (hb : U32 b) : Neat PutsOk (endT o a b) := by
  unfold endT
  refine Neat.see (k_offer ho u32_0) fun v0 h0 => ?_
  unfold endT1
  refine Neat.see (k_offer ho u32_1) fun v1 h1 => ?_
  unfold endT2
  refine neat_part (p_nil (n := 0)) h0 ha fun q0 hq0 => ?_
  unfold endT3
  refine neat_part hq0 h1 hb fun q1 hq1 => ?_
  exact p_up (p_app (p_goneL (p_goneL hq1 (k_offer ho u32_0)) (k_offer ho u32_1)) (p_cons (q_gone (k_trade ho)) (p_nil (n := 0)))) (by decide)
omit ho in
theorem m32_u (a : Int) : U32 (a % 4294967296) := by unfold U32; omega
theorem neat_agree : Neat PutsOk (agreeT o) := by
  unfold agreeT
  refine Neat.party (k_trade ho) fun d hd hs => ?_
  split <;> split
  all_goals first
    | exact p_up (p_cons (q_mk (k_trade ho) hd.1 (bits_u64 _ _ _)) (p_nil (n := 0))) (show 0 + 1 ≤ 100 by decide)
    | exact neat_end ho (m32_u _) (m32_u _)
theorem neat_break : Neat PutsOk (breakT o) := by
  unfold breakT
  exact Neat.party (k_trade ho) fun d hd hs => neat_end ho (m32_u _) (m32_u _)
omit ho in
theorem p_zip {ks : List Ky} {am : List Int} (hk : ∀ k ∈ ks, KyOk k) (h : ∀ a ∈ am, U64 a) : PL (zipPut ks am) ks.length := by
  refine ⟨zipPut_len ks am, ?_⟩
  unfold zipPut
  induction ks generalizing am with
  | nil => intro q hq; simp at hq
  | cons k ks ih =>
    cases am with
    | nil => intro q hq; simp at hq
    | cons a am =>
      intro q hq
      simp only [List.zipWith_cons_cons, List.mem_cons] at hq
      rcases hq with rfl | hq
      · exact q_put (hk k (by simp)) (h a (by simp))
      · exact ih (fun k hk' => hk k (by simp [hk'])) (fun b hb => h b (by simp [hb])) q hq
theorem neat_bidD {ks : List Ky} {am : List Int} (hl : ks.length ≤ 50) (hk : ∀ k ∈ ks, KyOk k) (h : ∀ a ∈ am, U64 a) : Neat PutsOk (bidD o ks am) :=
  p_up (p_app (p_zip hk h) (p_cons (q_mk (k_bid ho) (u_n ho) (u32_64 ho.2.1)) (p_nil (n := 0)))) (by omega)
theorem neat_bid : Neat PutsOk (bidT o) := by
  unfold bidT
  refine Neat.must (k_auction ho) fun _ _ => Neat.check (Neat.amount (k_price ho) fun _ _ => Neat.see (k_bid ho) fun b hb => Neat.check (Neat.must (k_purse ho) fun pv hp => ?_))
  have k1 := k_purse ho
  unfold bidE
  cases b with
  | none => exact Neat.less (u_n ho) fun l hl => neat_bidD ho (by simp) (by simpa using k1) (by simpa using hl)
  | some bv =>
    have k2 : KyOk (purseK (lo32 bv.2)) := ky1 (ha := lo32_u _) (hb := u32_0)
    dsimp only
    split
    · exact Neat.amount k2 fun q hq => Neat.more hq (hb bv rfl).1 fun m hm => Neat.less (u_n ho) fun l hl => neat_bidD ho (by simp) (by simpa using ⟨k1, k2⟩) (by simpa using ⟨hl, hm⟩)
    · exact Neat.more hp.1 (hb bv rfl).1 fun m hm => Neat.less (u_n ho) fun l hl => neat_bidD ho (by simp) (by simpa using k1) (by simpa using hl)
theorem neat_offE {d : Vl × Int} {ks : List Ky} {am : List Int} (hd : VlOk d.1) (hs : U32 d.2) (hl : ks.length ≤ 50) (hk : ∀ k ∈ ks, KyOk k) (h : ∀ a ∈ am, U64 a) : Neat PutsOk (offE o d ks am) := by
  refine p_up (p_app (p_zip hk h) (p_cons ?_ (p_cons (q_mk (k_trade ho) hd.1 u64_0) (p_nil (n := 0))))) (by omega)
  split
  · exact q_mk (k_offer ho hs) (u_n ho) (u32_64 ho.2.2.2.1)
  · exact q_gone (k_offer ho hs)
omit ho in
theorem set_u {am : List Int} {j : Nat} {l : Int} (h : ∀ a ∈ am, U64 a) (hl : U64 l) : ∀ a ∈ am.set j l, U64 a := fun a ha => by
  rcases List.mem_or_eq_of_mem_set ha with ha | rfl
  · exact h a ha
  · exact hl
omit ho in
theorem getD_u {am : List Int} (h : ∀ a ∈ am, U64 a) (j : Nat) : U64 (am.getD j 0) := by
  rw [List.getD_eq_getElem?_getD]
  cases e : am[j]? with
  | none => exact u64_0
  | some a => exact h a (List.mem_of_getElem? e)
theorem neat_offD {d : Vl × Int} {tt : Nat} {ks : List Ky} {am : List Int} (hd : VlOk d.1) (hs : U32 d.2) (hl : ks.length ≤ 50) (hk : ∀ k ∈ ks, KyOk k) (h : ∀ a ∈ am, U64 a) : Neat PutsOk (offD o d tt ks am) := by
  unfold offD
  split
  · exact Neat.less (u_n ho) fun l hl' => neat_offE ho hd hs hl hk (set_u h hl')
  · exact neat_offE ho hd hs hl hk h
theorem neat_offC {d : Vl × Int} {b : Option Vl} {bk tt : Nat} {ks : List Ky} {am : List Int} (hb : ∀ a, b = some a → VlOk a) (hd : VlOk d.1) (hs : U32 d.2) (hl : ks.length ≤ 50) (hk : ∀ k ∈ ks, KyOk k) (h : ∀ a ∈ am, U64 a) : Neat PutsOk (offC o d b bk tt ks am) := by
  unfold offC
  cases b with
  | none => exact neat_offD ho hd hs hl hk h
  | some bv => exact Neat.more (getD_u h _) (hb bv rfl).1 fun m hm => neat_offD ho hd hs hl hk (set_u h hm)
theorem neat_offB {d : Vl × Int} {b : Option Vl} {bk : Nat} {ks : List Ky} {am : List Int} (hb : ∀ a, b = some a → VlOk a) (hd : VlOk d.1) (hs : U32 d.2) (hl : ks.length ≤ 40) (hk : ∀ k ∈ ks, KyOk k) (h : ∀ a ∈ am, U64 a) : Neat PutsOk (offB o d b bk ks am) := by
  unfold offB
  split
  · exact neat_offC ho hb hd hs (by omega) hk h
  · split
    · exact neat_offC ho hb hd hs (by omega) hk h
    · refine Neat.amount (k_stack ho) fun q hq => neat_offC ho hb hd hs (by simp; omega) (fun k hk' => ?_) fun a ha => ?_
      · rcases List.mem_append.1 hk' with hk' | hk'
        · exact hk k hk'
        · obtain rfl := List.mem_singleton.1 hk'
          exact k_stack ho
      · rcases List.mem_append.1 ha with ha | ha
        · exact h a ha
        · obtain rfl := List.mem_singleton.1 ha
          exact hq
theorem neat_offer : Neat PutsOk (offerT o) := by
  unfold offerT
  refine Neat.party (k_trade ho) fun d hd hs => Neat.see (k_offer ho hs) fun b hb => Neat.amount (k_purse ho) fun c hc => ?_
  have k1 := k_purse ho
  have k2 : KyOk (stackK o.who (lo32 (b.getD (0, 0)).2)) := ky1 (ha := ho.2.1) (hb := lo32_u _)
  unfold offA
  split
  · exact Neat.amount k2 fun q hq => neat_offB ho hb hd hs (by simp) (by simpa using ⟨k1, k2⟩) (by simpa using ⟨hc, hq⟩)
  · exact neat_offB ho hb hd hs (by simp) (by simpa using k1) (by simpa using hc)
def BtK (b : Bt) : Prop := U32 b.item ∧ U64 b.lost ∧ U64 b.got ∧ U64 b.hv
theorem neat_moreAll : ∀ (m : List Bt) (p : List Pt) (n : Nat), PL p n → (∀ b ∈ m, BtK b) → n + m.length ≤ 100 → Neat PutsOk (moreAll o p m)
  | [], _, _, hp, _, hn => p_up hp (by simpa using hn)
  | b :: m, p, n, hp, hm, hn => by
    have hb := hm b (by simp)
    refine Neat.more hb.2.2.2 hb.2.2.1 fun a ha => neat_moreAll m _ (n + 1) (p_app hp (p_cons (q_put (ky1 (ha := ho.2.1) (hb := hb.1)) ha) (p_nil (n := 0)))) (fun c hc => hm c (by simp [hc])) (by simp at hn; omega)
omit ho in
theorem neat_lessAll {f : List Bt → T (List Pt × Rp)} {N : Nat} (hf : ∀ l : List Bt, l.length ≤ N → (∀ b ∈ l, BtK b) → Neat PutsOk (f l)) : ∀ (m l : List Bt), (∀ b ∈ l, BtK b) → (∀ b ∈ m, BtK b) → l.length + m.length ≤ N → Neat PutsOk (lessAll f l m)
  | [], l, hl, _, hn => hf l (by simpa using hn) hl
  | b :: m, l, hl, hm, hn => by
    have hb := hm b (by simp)
    refine Neat.less hb.2.1 fun a ha => neat_lessAll hf m _ (fun c hc => ?_) (fun c hc => hm c (by simp [hc])) (by simp at hn ⊢; omega)
    rcases List.mem_append.1 hc with hc | hc
    · exact hl c hc
    · obtain rfl := List.mem_singleton.1 hc
      exact ⟨hb.1, hb.2.1, hb.2.2.1, ha⟩
theorem neat_ask {f : List Bt → T (List Pt × Rp)} (hf : ∀ l : List Bt, l.length ≤ 7 → (∀ b ∈ l, BtK b) → Neat PutsOk (f l)) : ∀ (m : Nat) (l : List Bt), (∀ b ∈ l, BtK b) → l.length + m ≤ 7 → Neat PutsOk (askT o f m l)
  | 0, l, hl, hn => hf l (by simpa using hn) hl
  | m + 1, l, hl, hn => by
    unfold askT
    split
    · exact neat_ask hf m l hl (by omega)
    · have h7 : U32 (7 - (m : Int)) := by unfold U32; omega
      refine Neat.amount (ky1 (ha := ho.2.1) (hb := h7)) fun a ha => neat_ask hf m _ (fun b hb => ?_) (by simp; omega)
      rcases List.mem_append.1 hb with hb | hb
      · exact hl b hb
      · obtain rfl := List.mem_singleton.1 hb
        exact ⟨h7, cnt_u (needs_u o.what o.n).1 _, cnt_u (needs_u o.what o.n).2 _, ha⟩
theorem neat_craft : Neat PutsOk (craftT o) := by
  unfold craftT
  exact Neat.must (k_purse ho) fun _ _ => neat_ask ho (fun l hn hl => neat_lessAll (N := 7) (fun l' hn' hl' => neat_moreAll ho l' [] 0 p_nil hl' (by omega)) l [] (by simp) hl (by simpa using hn)) 7 [] (by simp) (by simp)
omit ho in
theorem neat_change {k : Ky} {f : T Int} {p : List Pt} {r : Rp} (hk : KyOk k) (hf : Neat U64 f) (hp : PL p 50) : Neat PutsOk (changeT k f p r) := by
  unfold changeT
  exact Neat.bind hf fun a ha => p_up (p_app hp (p_cons (q_put hk ha) (p_nil (n := 0)))) (by decide)
omit ho in
theorem neat_more {a c : Int} (ha : U64 a) (hc : U64 c) : Neat U64 (moreT a c) := by
  unfold moreT
  split
  · exact up_u64 (addV_u ha.1 hc.1)
  · trivial
omit ho in
theorem neat_less {a c : Int} (hc : U64 c) : Neat U64 (lessT a c) := by
  unfold lessT
  split
  · exact up_u64 (subV_u hc.1)
  · trivial
theorem neat_items : Neat PutsOk (itemsT o [] rp0) := by
  unfold itemsT
  refine Neat.must (k_purse ho) fun v hv => ?_
  split
  · exact neat_change (k_purse ho) (neat_more hv.1 (u_n ho)) p_nil
  · split
    · exact neat_change (k_purse ho) (neat_less (u_n ho)) p_nil
    · refine Neat.amount (k_stack ho) fun b hb => neat_change (k_stack ho) ?_ p_nil
      split
      · exact neat_more hb (u_n ho)
      · exact neat_less (u_n ho)
theorem neat_run : Neat PutsOk (runT o) := by
  unfold runT
  split
  · rename_i hb
    unfold opT
    rcases kind_of hb with (h | h | h | h | h | h) | (h | h | h | h | h | h) | (h | h | h | h | h | h) <;> simp only [h]
    · exact neat_open ho
    · exact neat_items ho
    · exact neat_items ho
    · exact neat_items ho
    · exact neat_items ho
    · exact neat_deposit ho
    · exact neat_draw ho
    · exact neat_pay ho
    · exact neat_give ho
    · exact neat_craft ho
    · exact neat_start ho
    · exact neat_offer ho
    · exact neat_agree ho
    · exact neat_break ho
    · exact neat_sell ho
    · exact neat_bid ho
    · exact neat_close ho
    · exact neat_look ho
  · trivial
end
end Go.Proofs.YtdbpjbmalinlbaaGreat

namespace Go.Proofs.YtdbpjbmalinlbaaGreat
open Go.RowKit

/-- What comes of an operation's tree where f is there. -/
def ev (f : Mp) : T (List Pt × Rp) → List Pt × Rp
  | .done a => a
  | .over c => ([], ⟨c, 0, 0, 0⟩)
  | .ask k g => ev f (g (f k))
/-- The cell that Get makes of a key. -/
def celAt (f : Mp) (k : Ky) : Cel := ⟨k, (f k).getD (0, 0), (f k).isSome⟩
theorem celAt_ans (f : Mp) (k : Ky) : (celAt f k).ans = f k := by
  unfold celAt Cel.ans
  cases f k <;> rfl
/-- The cells are what f tells of what the tree asks. -/
def Follows (f : Mp) : T (List Pt × Rp) → List Cel → Prop
  | _, [] => True
  | .ask k g, c :: s => c.ans = f k ∧ Follows f (g (f k)) s
  | _, _ :: _ => False
theorem Follows.snoc {f : Mp} {t : T (List Pt × Rp)} {cs : List Cel} {k : Ky} (h : Follows f t cs) (hr : t.run cs = .need k) : Follows f t (cs ++ [celAt f k]) := by
  induction cs generalizing t with
  | nil =>
    cases t with
    | done a => cases hr
    | over c => cases hr
    | ask k' g => cases hr; exact ⟨celAt_ans f k, by unfold Follows; trivial⟩
  | cons c s ih =>
    cases t with
    | done a => exact h.elim
    | over c => exact h.elim
    | ask k' g =>
      refine ⟨h.1, ih h.2 ?_⟩
      have : ((g c.ans).run s) = .need k := hr
      rwa [h.1] at this
theorem Follows.ev {f : Mp} {t : T (List Pt × Rp)} {cs : List Cel} (h : Follows f t cs) (hr : ∀ k, t.run cs ≠ .need k) : doR (t.run cs) = ev f t := by
  induction cs generalizing t with
  | nil =>
    cases t with
    | done a => rfl
    | over c => rfl
    | ask k' g => exact absurd rfl (hr k')
  | cons c s ih =>
    cases t with
    | done a => exact h.elim
    | over c => exact h.elim
    | ask k' g =>
      have e : (T.ask k' g).run (c :: s) = (g (f k')).run s := by show (g c.ans).run s = _; rw [h.1]
      rw [e]
      exact ih h.2 (fun k hk => hr k (e.trans hk))
/-- Whatever is there lies in its types. -/
def MpOk (f : Mp) : Prop := ∀ k v, f k = some v → KyOk k ∧ VlOk v
theorem MpOk.ans {f : Mp} (h : MpOk f) (k : Ky) : ∀ a, f k = some a → VlOk a := fun a ha => (h k a ha).2
theorem celAt_ok {f : Mp} (h : MpOk f) (k : Ky) : VlOk (celAt f k).v := by
  unfold celAt
  cases e : f k with
  | none => exact (show VlOk (0, 0) from ⟨u64_0, u64_0⟩)
  | some v => exact h.ans k v e
theorem Neat.asks {f : Mp} (hf : MpOk f) {P : List Pt × Rp → Prop} {t : T (List Pt × Rp)} {cs : List Cel} {k : Ky} (h : Neat P t) (hc : Follows f t cs) (hr : t.run cs = .need k) : KyOk k := by
  induction cs generalizing t with
  | nil =>
    cases t with
    | done a => cases hr
    | over c => cases hr
    | ask k' g => cases hr; exact h.1
  | cons c s ih =>
    cases t with
    | done a => exact hc.elim
    | over c => exact hc.elim
    | ask k' g =>
      have e : (T.ask k' g).run (c :: s) = (g (f k')).run s := by show (g c.ans).run s = _; rw [hc.1]
      exact ih (h.2 (f k') (hf.ans k')) hc.2 (e ▸ hr)
theorem Neat.ev {f : Mp} (hf : MpOk f) {t : T (List Pt × Rp)} (h : Neat PutsOk t) : PutsOk (ev f t) := by
  induction t with
  | done a => exact h
  | over c => exact p_nil
  | ask k g ih => exact ih (f k) (h.2 (f k) (hf.ans k))
theorem MpOk.putP {f : Mp} (h : MpOk f) {q : Pt} (hq : QOk q) : MpOk (f.putP q) := by
  intro k v e
  unfold Mp.putP at e
  split at e
  · unfold Mp.del at e
    split at e
    · cases e
    · exact h k v e
  · unfold Mp.put at e
    split at e
    · rename_i hk
      cases e
      exact ⟨hk ▸ hq.1, hq.2⟩
    · exact h k v e
/-- The world behind some puts. -/
def putsL (f : Mp) (l : List Pt) : Mp := l.foldl Mp.putP f
theorem putsL_take {f : Mp} {l : List Pt} {j : Nat} {q : Pt} (h : l[j]? = some q) : putsL f (l.take (j + 1)) = (putsL f (l.take j)).putP q := by
  rw [List.take_add_one, h]; simp [putsL, List.foldl_append]
theorem MpOk.puts {l : List Pt} : ∀ {f : Mp}, MpOk f → (∀ q ∈ l, QOk q) → MpOk (putsL f l) := by
  induction l with
  | nil => exact fun h _ => h
  | cons q l ih => exact fun h hl => ih (h.putP (hl q (by simp))) fun p hp => hl p (by simp [hp])
/-- An operation, done. -/
def stepM (f : Mp) (o : OpV) : Mp := putsL f (ev f (runT o)).1
theorem MpOk.step {f : Mp} (h : MpOk f) {o : OpV} (ho : OpOk o) : MpOk (stepM f o) := h.puts (Neat.ev h (neat_run ho)).2
theorem follows_short {o : OpV} (ho : OpOk o) {cs : List Cel} {k : Ky} (hr : (runT o).run cs = .need k) : cs.length < 12 :=
  Fine.need (V := Vb False) (Q := Lf False) (fine_run ho) (fun _ _ hB => hB.elim) hr
end Go.Proofs.YtdbpjbmalinlbaaGreat

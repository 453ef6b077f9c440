/- Contracts of offer (printed by rulgen.py). -/
import Derived.Test.YtdbpjbmalinlbaaGreatRulZ0
import Derived.Deep.CutBlock
namespace Go.Proofs.YtdbpjbmalinlbaaGreat
open Go.RowKit

section
variable {x : Nat} {o : OpV} {w0 w : World} {R : Res (List Pt × Rp)} {s : List Cel}

theorem Box.world {B : Nat} {ob : Obj} (_ : Box x B ob w) : ∃ v, v = w := ⟨w, rfl⟩
theorem St.fill2K {p : List Pt} {r : Rp} {t : T (List Pt × Rp)} {B B' : Nat} {a b : Value} {ty : TypeId} {ob : Obj} (h : St x o w0 R p r t s w) (k : Box x B (.cells #[a, b] ty) w) (kb : Box x B' ob w) (hx : x < w0.heap.size) (hB : w0.heap.size ≤ B) (hne : B' < B) (a' b' : Value) :
    St x o w0 R p r t s ((w.setCell ⟨B, 0, none⟩ a').setCell ⟨B, 1, none⟩ b') ∧ Box x B (.cells #[a', b'] ty) ((w.setCell ⟨B, 0, none⟩ a').setCell ⟨B, 1, none⟩ b') ∧ Box x B' ob ((w.setCell ⟨B, 0, none⟩ a').setCell ⟨B, 1, none⟩ b') := by
  obtain ⟨H, K⟩ := h.fill2 k hx hB a' b'
  exact ⟨H, K, (kb.other (q := ⟨B, 0, none⟩) (by show B ≠ B'; omega) (by show B ≠ x; omega) a').other (q := ⟨B, 1, none⟩) (by show B ≠ B'; omega) (by show B ≠ x; omega) b'⟩
def offE (o : OpV) (d : Vl × Int) (ks : List Ky) (am : List Int) : T (List Pt × Rp) :=
  .done (zipPut ks am ++ [if 0 < o.n then ⟨offerK o.id d.2, (o.n, o.what), false⟩ else goneP (offerK o.id d.2), ⟨tradeK o.id, (d.1.1, 0), false⟩], ⟨0, o.n, 0, 0⟩)
def offD (o : OpV) (d : Vl × Int) (tt : Nat) (ks : List Ky) (am : List Int) : T (List Pt × Rp) :=
  if 0 < o.n then (lessT (am.getD tt 0) o.n).bind fun l => offE o d ks (am.set tt l) else offE o d ks am
def offC (o : OpV) (d : Vl × Int) (b : Option Vl) (bk tt : Nat) (ks : List Ky) (am : List Int) : T (List Pt × Rp) :=
  match b with
  | none => offD o d tt ks am
  | some bv => (moreT (am.getD bk 0) bv.1).bind fun m => offD o d tt ks (am.set bk m)
def offB (o : OpV) (d : Vl × Int) (b : Option Vl) (bk : Nat) (ks : List Ky) (am : List Int) : T (List Pt × Rp) :=
  if o.n = 0 ∨ o.what = 0 then offC o d b bk 0 ks am
  else if bk = 1 ∧ o.what = (b.getD (0, 0)).2 then offC o d b bk 1 ks am
  else (amountT (stackK o.who o.what)).bind fun q => offC o d b bk ks.length (ks ++ [stackK o.who o.what]) (am ++ [q])
def backB (b : Option Vl) : Bool := b.isSome && ((b.getD (0, 0)).2 != 0)
def offA (o : OpV) (d : Vl × Int) (b : Option Vl) (c : Int) : T (List Pt × Rp) :=
  if backB b = true then (amountT (stackK o.who (lo32 (b.getD (0, 0)).2))).bind fun q => offB o d b 1 [purseK o.who, stackK o.who (lo32 (b.getD (0, 0)).2)] [c, q]
  else offB o d b 0 [purseK o.who] [c]
def offA2 (o : OpV) (d : Vl × Int) (b : Option Vl) (c lo : Int) : T (List Pt × Rp) :=
  (amountT (stackK o.who lo)).bind fun q => offB o d b 1 [purseK o.who, stackK o.who lo] [c, q]
theorem offA_no {d : Vl × Int} {b : Option Vl} {c : Int} (h : backB b = false) : offA o d b c = offB o d b 0 [purseK o.who] [c] := by
  unfold offA; rw [h]; rfl
theorem offA_yes {d : Vl × Int} {b : Option Vl} {c : Int} (h : backB b = true) : offA o d b c = offA2 o d b c (lo32 (b.getD (0, 0)).2) := by
  unfold offA offA2; rw [if_pos h]
theorem offB_zero {d : Vl × Int} {b : Option Vl} {bk : Nat} {ks : List Ky} {am : List Int} (h : o.n = 0 ∨ o.what = 0) : offB o d b bk ks am = offC o d b bk 0 ks am := by
  unfold offB; rw [if_pos h]
theorem offB_one {d : Vl × Int} {b : Option Vl} {ks : List Ky} {am : List Int} (h0 : ¬ o.n = 0) (h1 : ¬ o.what = 0) (h : o.what = (b.getD (0, 0)).2) : offB o d b 1 ks am = offC o d b 1 1 ks am := by
  unfold offB; rw [if_neg (by simp [h0, h1]), if_pos ⟨rfl, h⟩]
theorem offB_else {d : Vl × Int} {b : Option Vl} {bk : Nat} {ks : List Ky} {am : List Int} (h0 : ¬ o.n = 0) (h1 : ¬ o.what = 0) (h : ¬ (bk = 1 ∧ o.what = (b.getD (0, 0)).2)) :
    offB o d b bk ks am = (amountT (stackK o.who o.what)).bind fun q => offC o d b bk ks.length (ks ++ [stackK o.who o.what]) (am ++ [q]) := by
  unfold offB; rw [if_neg (by simp [h0, h1]), if_neg h]
def U64s (am : List Int) : Prop := ∀ i, U64 (am.getD i 0)
theorem U64s.one {c : Int} (h : U64 c) : U64s [c] := by
  intro i
  rcases i with _ | i
  · exact h
  · exact ⟨by simp, by simp⟩
theorem U64s.snoc {am : List Int} {c : Int} (h : U64s am) (hc : U64 c) : U64s (am ++ [c]) := by
  intro i
  have := h i
  rcases Nat.lt_trichotomy i am.length with hi | hi | hi
  · simpa [List.getD, List.getElem?_append, hi] using this
  · subst hi; simpa [List.getD] using hc
  · have e : (am ++ [c])[i]? = none := List.getElem?_eq_none (by simp; omega)
    simp only [List.getD, e]
    exact ⟨by decide, by decide⟩
theorem U64s.set {am : List Int} {c : Int} (h : U64s am) (hc : U64 c) (j : Nat) : U64s (am.set j c) := by
  intro i
  have := h i
  by_cases hij : j = i
  · subst hij
    by_cases hl : j < am.length
    · simpa [List.getD, hl] using hc
    · have e : (am.set j c)[j]? = none := List.getElem?_eq_none (by simp; omega)
      simp only [List.getD, e]
      exact ⟨by decide, by decide⟩
  · simpa [List.getD, List.getElem?_set_ne hij] using this
theorem Box.alloc4 {B : Nat} {a b c d e : Value} {ty : TypeId} {ob : Obj} (h : Box x B (.cells #[a, b, c, d, e] ty) w) (hx : x < w.heap.size) : (w.alloc ob).cell? ⟨B, 4, none⟩ = some e := (h.alloc (ob' := ob) hx).cell 4
theorem U64s.at {am : List Int} {j : Nat} (h : j < am.length) : am[j]? = some (am.getD j 0) := by
  simp [List.getD, h]
theorem ShelfF.shelf {SB gk ck ga ca n : Nat} {ks : List Ky} {am : List Int} (A : ShelfF x SB gk ck ga ca n ks am w) : Shelf x SB ks am w := by
  obtain ⟨a1, a2, h, f1, f2, f3⟩ := A
  exact ⟨_, _, h, f1, fun b hb => by simp [Value.ownBlock] at hb; subst hb; exact f2, fun b hb => by simp [Value.ownBlock] at hb; subst hb; exact f3⟩
theorem Shelf.lt {SB : Nat} {ks : List Ky} {am : List Int} (h : Shelf x SB ks am w) : SB < w.heap.size := by
  obtain ⟨_, _, _, h, _⟩ := h; exact h.1
def offerT (o : OpV) : T (List Pt × Rp) := (partyT o).bind fun d => (seeT (offerK o.id d.2)).bind fun b => (amountT (purseK o.who)).bind fun c => offA o d b c

set_option maxRecDepth 100000 in
set_option maxHeartbeats 16000000 in
theorem offer_st (hx0 : x < w0.heap.size) (H : St x o w0 R [] rp0 (offerT o) s w) :
    Calls Tryz.prog 58 #[.pointer (some ⟨x, 0, none⟩)] w (Mets' x o w0 R) := by
  obtain ⟨o0, o1, o2, o3, o4, on, op⟩ := H.opOk
  obtain ⟨c0, c1, c2, c3, c4, c5, c6⟩ := H.op
  have hx := H.lt
  unfold offerT at H
  go_enter Tryz.func58, Tryz.ntmps58
  go_upto_region 1 with (first
    | (go_at_call 61; refine (party_st hx0 H).mono ?_; rintro e w1 (⟨v, sd, s1, rfl, hv, hsd, H1, Q⟩ | ⟨ch, rfl, P⟩); rotate_left; (focus (go_wp2_with fail; exact ⟨rfl, P.met⟩)); replace H := H1; clear H1; (try clear c0 c1 c2 c3 c4 c5 c6 hx); obtain ⟨c0, c1, c2, c3, c4, c5, c6⟩ := H.op; have hx := H.lt))
  have lBB := H.step.size
  have KB := Box.newS H (.cells #[.int .u64 v.1, .int .u64 v.2, .int .u32 (v.1 / 4294967296 % 4294967296), .int .u32 (v.1 % 4294967296), .int .u32 sd] 119)
  replace H := H.alloc (.cells #[.int .u64 v.1, .int .u64 v.2, .int .u32 (v.1 / 4294967296 % 4294967296), .int .u32 (v.1 % 4294967296), .int .u32 sd] 119)
  obtain ⟨BB, hBB⟩ := KB.name
  rw [← hBB] at KB lBB ⊢
  clear hBB
  obtain ⟨w2, hw2⟩ := KB.world
  rw [← hw2] at H KB ⊢
  clear hw2
  have H0 := H
  have KB0 := KB
  replace H := H.drew
  replace KB := KB.drew
  have m4 := KB.cell 4
  try clear c0 c1 c2 c3 c4 c5 c6 hx
  obtain ⟨c0, c1, c2, c3, c4, c5, c6⟩ := H.op
  have hx := H.lt
  go_cut [3, 4] (fun s3 s4 wx => ∃ (b : Option Vl) (B3 : Nat) (s1 : List Cel), s3 = .pointer (some ⟨B3, 0, none⟩) ∧ s4 = .bool b.isSome ∧ VlOk (b.getD (0, 0)) ∧ BB < B3 ∧ St x o w0 R [] rp0 ((amountT (purseK o.who)).bind fun c => offA o (v, sd) b c) s1 wx ∧ Box x B3 (.cells #[.int .u64 (b.getD (0, 0)).1, .int .u64 (b.getD (0, 0)).2] 48) wx ∧ Box x BB (.cells #[.int .u64 v.1, .int .u64 v.2, .int .u32 (v.1 / 4294967296 % 4294967296), .int .u32 (v.1 % 4294967296), .int .u32 sd] 119) wx)
  case first =>
    as_aux_lemma =>
    go_region_held2 (fun w' => w'.cell? ⟨x, 4, none⟩ = some (.int .u32 o.id) ∧ w'.cell? ⟨BB, 4, none⟩ = some (.int .u32 sd))
      (first | with_reducible exact ⟨c4, m4⟩ | with_reducible exact ⟨cell_past (by omega) (cell_past (by omega) (c4)), cell_past (by omega) (cell_past (by omega) (m4))⟩ | (refine ⟨(H.alloc _).op.2.2.2.2.1, ?_⟩; have := (KB.alloc (ob' := (.cells #[.int .u64 0, .int .u64 0] 48)) hx).cell 4; exact this) | (refine ⟨(H0.alloc _).drew.op.2.2.2.2.1, ?_⟩; have := (KB0.alloc (ob' := (.cells #[.int .u64 0, .int .u64 0] 48)) H0.lt).drew.cell 4; exact this) | (refine ⟨(H.alloc _).op.2.2.2.2.1, ?_⟩; have := (KB.alloc (ob' := (.cells #[.int .u64 (b.getD (0, 0)).1, .int .u64 (b.getD (0, 0)).2] 48)) hx).cell 4; exact this) | go_keep)
      (first
        | (go_at_call 88; refine (St.key (offerk_any _ _) H).mono ?_; rintro e w1 ⟨rfl, H1, Q⟩; replace H := H1; clear H1; (try clear c0 c1 c2 c3 c4 c5 c6 hx); obtain ⟨c0, c1, c2, c3, c4, c5, c6⟩ := H.op; have hx := H.lt; replace KB := KB.step Q; have m4 : w1.cell? ⟨BB, 4, none⟩ = some (.int .u32 sd) := KB.cell 4; (try replace K3 := K3.step Q; obtain ⟨d0, d1, ld⟩ := K3.two; have fd0 := K3.froz 0; have fd1 := K3.froz 1))
        | (have l3 : BB < w2.heap.size := KB0.lt; have l3x : w0.heap.size ≤ w2.heap.size := H0.step.size; have K3 := (Box.newS H0 (.cells #[.int .u64 0, .int .u64 0] 48)).drew; replace H := (H0.alloc (.cells #[.int .u64 0, .int .u64 0] 48)).drew; replace KB := (KB0.alloc (ob' := (.cells #[.int .u64 0, .int .u64 0] 48)) H0.lt).drew; go_at_call 88; refine (St.key (offerk_any _ _) H).mono ?_; rintro e w1 ⟨rfl, H1, Q⟩; replace H := H1; clear H1; (try clear c0 c1 c2 c3 c4 c5 c6 hx); obtain ⟨c0, c1, c2, c3, c4, c5, c6⟩ := H.op; have hx := H.lt; replace KB := KB.step Q; have m4 : w1.cell? ⟨BB, 4, none⟩ = some (.int .u32 sd) := KB.cell 4; (try replace K3 := K3.step Q; obtain ⟨d0, d1, ld⟩ := K3.two; have fd0 := K3.froz 0; have fd1 := K3.froz 1))
        | (go_at_call 72; refine (St.see H).mono ?_; rintro e w1 (⟨b, s1, rfl, hb, H1, Q⟩ | ⟨ch, rfl, P⟩); rotate_left; (focus (go_wp2_with fail; exact ⟨rfl, P.met⟩)); replace H := H1; clear H1; (try clear c0 c1 c2 c3 c4 c5 c6 hx); obtain ⟨c0, c1, c2, c3, c4, c5, c6⟩ := H.op; have hx := H.lt; replace KB := KB.step Q; have m4 : w1.cell? ⟨BB, 4, none⟩ = some (.int .u32 sd) := KB.cell 4; (try replace K3 := K3.step Q; obtain ⟨d0, d1, ld⟩ := K3.two; have fd0 := K3.froz 0; have fd1 := K3.froz 1))
        | (have l3 : BB < w1.heap.size := KB.lt; have l3x : w0.heap.size ≤ w1.heap.size := H.step.size; have K3 := Box.newS H (.cells #[.int .u64 0, .int .u64 0] 48); replace H := H.alloc (.cells #[.int .u64 0, .int .u64 0] 48); replace KB := KB.alloc (ob' := (.cells #[.int .u64 0, .int .u64 0] 48)) hx; go_at_call 72; refine (St.see H).mono ?_; rintro e w1 (⟨b, s1, rfl, hb, H1, Q⟩ | ⟨ch, rfl, P⟩); rotate_left; (focus (go_wp2_with fail; exact ⟨rfl, P.met⟩)); replace H := H1; clear H1; (try clear c0 c1 c2 c3 c4 c5 c6 hx); obtain ⟨c0, c1, c2, c3, c4, c5, c6⟩ := H.op; have hx := H.lt; replace KB := KB.step Q; have m4 : w1.cell? ⟨BB, 4, none⟩ = some (.int .u32 sd) := KB.cell 4; (try replace K3 := K3.step Q; obtain ⟨d0, d1, ld⟩ := K3.two; have fd0 := K3.froz 0; have fd1 := K3.froz 1)))
    all_goals (first
      | (obtain ⟨H2, K2, KB2⟩ := H.fill2K K3 KB hx0 l3x l3 (.int .u64 (b.getD (0, 0)).1) (.int .u64 (b.getD (0, 0)).2); go_wp2_with fail; go_meet; exact ⟨b, _, _, rfl, rfl, hb, l3, H2, K2, KB2⟩)
      | (have l3 := KB.lt; have K3 := Box.newS H (.cells #[.int .u64 (b.getD (0, 0)).1, .int .u64 (b.getD (0, 0)).2] 48); replace H := H.alloc (.cells #[.int .u64 (b.getD (0, 0)).1, .int .u64 (b.getD (0, 0)).2] 48); replace KB := KB.alloc (ob' := (.cells #[.int .u64 (b.getD (0, 0)).1, .int .u64 (b.getD (0, 0)).2] 48)) hx; go_wp2_with fail; go_meet; exact ⟨b, _, _, rfl, rfl, hb, l3, H, K3, KB⟩))
  case rest =>
  obtain ⟨b, B3, s1, rfl, rfl, hb, l3, H, K3, KB⟩ := hcut
  clear H0 KB0
  go_upto_region 3 with fail
  have lSB := H.step.size
  have lB4 := K3.lt
  replace KB := KB.alloc (ob' := (.cells #[.slice none 0 0, .slice none 0 0] 145)) H.lt
  replace K3 := K3.alloc (ob' := (.cells #[.slice none 0 0, .slice none 0 0] 145)) H.lt
  have A := Shelf.new H
  replace H := H.alloc (.cells #[.slice none 0 0, .slice none 0 0] 145)
  obtain ⟨SB, hSB⟩ := A.name
  rw [← hSB] at A lSB lB4 ⊢
  clear hSB
  obtain ⟨w3, hw3⟩ := KB.world
  rw [← hw3] at H A KB K3 ⊢
  clear hw3
  replace H := H.drew
  replace A := A.step (Step.refl x _).drew
  replace KB := KB.drew
  replace K3 := K3.drew
  try clear c0 c1 c2 c3 c4 c5 c6 hx
  obtain ⟨c0, c1, c2, c3, c4, c5, c6⟩ := H.op
  have hx := H.lt
  go_region_held2 (fun w' => w'.cell? ⟨x, 1, none⟩ = some (.int .u32 o.who))
    (first | exact H.op.2.1 | go_keep)
    (first
      | (go_at_call 73; refine (St.key (purse_a _) H).mono ?_; rintro e w1 ⟨rfl, H1, Q⟩; replace H := H1; clear H1; (try clear c0 c1 c2 c3 c4 c5 c6 hx); obtain ⟨c0, c1, c2, c3, c4, c5, c6⟩ := H.op; have hx := H.lt; replace A := A.step Q; replace KB := KB.step Q; replace K3 := K3.step Q)
      | (go_at_call 80; refine (St.amount H).mono ?_; rintro e w1 (⟨c, s1, rfl, hc0, H1, Q⟩ | ⟨ch, rfl, P⟩); rotate_left; (focus (go_wp2_with fail; exact ⟨rfl, P.met⟩)); replace H := H1; clear H1; (try clear c0 c1 c2 c3 c4 c5 c6 hx); obtain ⟨c0, c1, c2, c3, c4, c5, c6⟩ := H.op; have hx := H.lt; replace A := A.step Q; replace KB := KB.step Q; replace K3 := K3.step Q)
      | (go_at_call 89; refine (St.add (k := purseK o.who) H A hx0 lSB (by simp) (by simp)).mono ?_; rintro e w1 ⟨rfl, H1, A1, oth⟩; replace H := H1; clear H1; (try clear c0 c1 c2 c3 c4 c5 c6 hx); obtain ⟨c0, c1, c2, c3, c4, c5, c6⟩ := H.op; have hx := H.lt; replace A := A1; clear A1; replace KB := oth _ _ (by omega) KB; replace K3 := oth _ _ lB4 K3))
  all_goals (
    go_upto_region 5 with fail
    obtain ⟨w4, hw4⟩ := A.world
    rw [← hw4] at H A KB K3 ⊢
    clear hw4
    obtain ⟨d0, d1, ld⟩ := K3.two
    try clear c0 c1 c2 c3 c4 c5 c6 hx
    obtain ⟨c0, c1, c2, c3, c4, c5, c6⟩ := H.op
    have hx := H.lt
    go_cut [50] (fun s50 wx => s50 = .bool (backB b) ∧ wx = w4)
    case first =>
      as_aux_lemma =>
      rcases b with _ | bv
      · go_wp2_with fail
        go_meet
        exact ⟨rfl, rfl⟩
      · dsimp only [Option.getD, Option.isSome] at d0 d1 ⊢
        go_wp2_with fail
        go_meet
        exact ⟨by simp [backB], rfl⟩
    case rest =>
    obtain ⟨rfl, rfl⟩ := hcut
    go_upto_if 50 with fail
    go_cut [6] (fun s6 wx => ∃ (bk : Nat) (ks : List Ky) (am : List Int) (s1 : List Cel), s6 = .int .i64 (bk : Int) ∧ (bk = 0 ∨ bk = 1) ∧ am.length = ks.length ∧ bk < ks.length ∧ ks.length ≤ 2 ∧ Hid (U64s am) ∧ St x o w0 R [] rp0 (offB o (v, sd) b bk ks am) s1 wx ∧ Shelf x SB ks am wx ∧ Box x B3 (.cells #[.int .u64 (b.getD (0, 0)).1, .int .u64 (b.getD (0, 0)).2] 48) wx ∧ Box x BB (.cells #[.int .u64 v.1, .int .u64 v.2, .int .u32 (v.1 / 4294967296 % 4294967296), .int .u32 (v.1 % 4294967296), .int .u32 sd] 119) wx)
    case first =>
      as_aux_lemma =>
      cases hc : backB b
      · replace H := H.tree (offA_no hc)
        go_wp2_with fail
        go_meet
        exact ⟨0, _, _, _, rfl, .inl rfl, rfl, by simp, by simp, Lib.hid (U64s.one hc0), H, A, K3, KB⟩
      · replace H := H.tree (offA_yes hc)
        obtain ⟨lo, hlo⟩ : ∃ l, l = lo32 (b.getD (0, 0)).2 := ⟨_, rfl⟩
        rw [← hlo] at H
        go_upto_region 6 with fail
        obtain ⟨w5, hw5⟩ := A.world
        rw [← hw5] at H A KB K3 ⊢
        clear hw5
        have H0 := H
        replace H := H.drew
        have Z := (Step.refl x w5).drew
        obtain ⟨d0, d1, ld⟩ := (K3.step Z).two
        try clear c0 c1 c2 c3 c4 c5 c6 hx
        obtain ⟨c0, c1, c2, c3, c4, c5, c6⟩ := H.op
        have hx := H.lt
        go_cut [8] (fun sk wx => ∃ (B8 : Nat) (s1 : List Cel), sk = .pointer (some ⟨B8, 0, none⟩) ∧ SB < B8 ∧ St x o w0 R [] rp0 (offA2 o (v, sd) b c lo) s1 wx ∧ Step x w5 wx ∧ Box x B8 (.cells #[.int .u8 3, .int .u32 o.who, .int .u32 lo] 52) wx)
        case first =>
          as_aux_lemma =>
          subst hlo
          have l8 : w0.heap.size ≤ w5.heap.size := H.step.size
          have lx8 : x < w5.heap.size := H.lt
          have lS8 : SB < w5.heap.size := A.lt
          have lB8 : B3 < w5.heap.size := K3.lt
          go_region_held2 (fun w' => w'.cell? ⟨x, 1, none⟩ = some (.int .u32 o.who) ∧ w'.cell? ⟨B3, 1, none⟩ = some (.int .u64 (b.getD (0, 0)).2))
            (first | with_reducible exact ⟨c1, d1⟩ | with_reducible exact ⟨cell_past (by omega) (cell_past (by omega) (cell_past (by omega) (c1))), cell_past (by omega) (cell_past (by omega) (cell_past (by omega) (d1)))⟩ | exact ⟨(H.alloc _).op.2.1, (K3.step (Z.alloc hx _)).two.2.1⟩ | exact ⟨(H0.alloc _).drew.op.2.1, (K3.step ((Step.refl x _).alloc H0.lt _).drew).two.2.1⟩ | go_keep)
            (first
              | (go_at_call 79; refine (St.key (stack_any _ _) H).mono ?_; rintro e w1 ⟨rfl, H1, Q⟩; replace H := H1; clear H1; (try clear c0 c1 c2 c3 c4 c5 c6 hx); obtain ⟨c0, c1, c2, c3, c4, c5, c6⟩ := H.op; have hx := H.lt; replace Z := Z.trans Q; obtain ⟨d0, d1, ld⟩ := (K3.step Z).two; (try replace K8 := K8.step Q; obtain ⟨k0, k1, k2, lk8⟩ := K8.three; have fk0 := K8.froz 0; have fk1 := K8.froz 1; have fk2 := K8.froz 2))
              | (have K8 := (Box.newS H0 (.cells #[.int .u8 0, .int .u32 0, .int .u32 0] 52)).drew; replace H := (H0.alloc (.cells #[.int .u8 0, .int .u32 0, .int .u32 0] 52)).drew; replace Z := ((Step.refl x _).alloc H0.lt (.cells #[.int .u8 0, .int .u32 0, .int .u32 0] 52)).drew; go_at_call 79; refine (St.key (stack_any _ _) H).mono ?_; rintro e w1 ⟨rfl, H1, Q⟩; replace H := H1; clear H1; (try clear c0 c1 c2 c3 c4 c5 c6 hx); obtain ⟨c0, c1, c2, c3, c4, c5, c6⟩ := H.op; have hx := H.lt; replace Z := Z.trans Q; obtain ⟨d0, d1, ld⟩ := (K3.step Z).two; (try replace K8 := K8.step Q; obtain ⟨k0, k1, k2, lk8⟩ := K8.three; have fk0 := K8.froz 0; have fk1 := K8.froz 1; have fk2 := K8.froz 2)))
          all_goals (first
            | (obtain ⟨H2, K2⟩ := H.fill3 K8 hx0 l8 (.int .u8 3) (.int .u32 o.who) (.int .u32 (lo32 (b.getD (0, 0)).2)); have Z2 := ((Z.setNew (p := ⟨w5.heap.size, 0, none⟩) lx8 (Nat.le_refl _) (.int .u8 3)).setNew (p := ⟨w5.heap.size, 1, none⟩) lx8 (Nat.le_refl _) (.int .u32 o.who)).setNew (p := ⟨w5.heap.size, 2, none⟩) lx8 (Nat.le_refl _) (.int .u32 (lo32 (b.getD (0, 0)).2)); go_wp2_with fail; go_meet; exact ⟨_, _, rfl, lS8, H2, Z2, K2⟩)
            | (have lS9 : SB < _ := (A.step Z).lt; have K8 := Box.newS H (.cells #[.int .u8 3, .int .u32 o.who, .int .u32 (lo32 (b.getD (0, 0)).2)] 52); replace Z := Z.alloc hx (.cells #[.int .u8 3, .int .u32 o.who, .int .u32 (lo32 (b.getD (0, 0)).2)] 52); replace H := H.alloc (.cells #[.int .u8 3, .int .u32 o.who, .int .u32 (lo32 (b.getD (0, 0)).2)] 52); go_wp2_with fail; go_meet; exact ⟨_, _, rfl, lS9, H, Z, K8⟩))
        case rest =>
        obtain ⟨B8, s1, rfl, l8, H, Z, K8⟩ := hcut
        replace A := A.step Z
        replace KB := KB.step Z
        replace K3 := K3.step Z
        clear Z d0 d1 ld H0
        clear hlo
        unfold offA2 at H
        go_upto_region 7 with fail
        replace H := H.drew
        replace A := A.step (Step.refl x _).drew
        replace KB := KB.drew
        replace K3 := K3.drew
        replace K8 := K8.drew
        obtain ⟨k0, k1, k2, lk8⟩ := K8.three
        try clear c0 c1 c2 c3 c4 c5 c6 hx
        obtain ⟨c0, c1, c2, c3, c4, c5, c6⟩ := H.op
        have hx := H.lt
        refine wp_region_line (m := 4) (fun w' => w'.cell? ⟨B8, 0, none⟩ = some (.int .u8 3) ∧ w'.cell? ⟨B8, 1, none⟩ = some (.int .u32 o.who) ∧ w'.cell? ⟨B8, 2, none⟩ = some (.int .u32 lo)) (by kernel_rfl) (by kernel_rfl) (fun d _ _ _ _ h => by cases d <;> exact h) ⟨k0, k1, k2⟩ ?_
        simp only [List.take_succ_cons, List.take_zero, List.drop_succ_cons, List.drop_zero]
        repeat (refine wpTake_step (v := ?_) (by rfl) ?_ ?_; rotate_left; (focus (intro w hSw; (try dsimp only at hSw); go_simp; try with_reducible rfl)); simp only [Act.put, List.setIfInBounds_toArray, List.set_cons_zero, List.set_cons_succ])
        refine wpTake_nil ?_
        refine line_call rfl (fun K hK => ?_)
        rw [if_pos (by rfl)]
        go_simp
        refine (St.amount H).mono ?_; rintro e w1 (⟨qa, s1, rfl, hqa, H1, Q⟩ | ⟨ch, rfl, P⟩); rotate_left; (focus (go_wp2_with fail; exact ⟨rfl, P.met⟩)); replace H := H1; clear H1; (try clear c0 c1 c2 c3 c4 c5 c6 hx); obtain ⟨c0, c1, c2, c3, c4, c5, c6⟩ := H.op; have hx := H.lt; replace A := A.step Q; replace KB := KB.step Q; replace K3 := K3.step Q; replace K8 := K8.step Q
        refine hK.out _ _ ⟨⟨K8.three.1, K8.three.2.1, K8.three.2.2.1⟩, ?_⟩
        clear hK K
        obtain ⟨k0, k1, k2, lk8⟩ := K8.three
        go_wp2_with (go_at_call 89; refine (St.add (k := stackK o.who lo) H A hx0 lSB (by simp) (by simp)).mono ?_; rintro e w1 ⟨rfl, H1, A1, oth⟩; replace H := H1; clear H1; (try clear c0 c1 c2 c3 c4 c5 c6 hx); obtain ⟨c0, c1, c2, c3, c4, c5, c6⟩ := H.op; have hx := H.lt; replace A := A1; clear A1; replace KB := oth _ _ (by omega) KB; replace K3 := oth _ _ lB4 K3)
        go_meet
        exact ⟨1, _, _, _, rfl, .inr rfl, by simp, by simp, by simp, Lib.hid (U64s.snoc (U64s.one hc0) hqa), H, A, K3, KB⟩
    case rest =>
    obtain ⟨bk, ks, am, s1, rfl, hbk, hal, hbl, hks, hU, H, A, K3, KB⟩ := hcut
    go_upto_block 0 with fail
    obtain ⟨w6, hw6⟩ := A.world
    rw [← hw6] at H A KB K3 ⊢
    clear hw6
    try clear c0 c1 c2 c3 c4 c5 c6 hx
    obtain ⟨c0, c1, c2, c3, c4, c5, c6⟩ := H.op
    have hx := H.lt
    obtain ⟨d0, d1, ld⟩ := K3.two
    go_cut [7] (fun s7 wx => ∃ (tt : Nat) (ks : List Ky) (am : List Int) (s1 : List Cel), s7 = .int .i64 (tt : Int) ∧ tt < ks.length ∧ bk < ks.length ∧ am.length = ks.length ∧ ks.length ≤ 3 ∧ Hid (U64s am) ∧ St x o w0 R [] rp0 (offC o (v, sd) b bk tt ks am) s1 wx ∧ Shelf x SB ks am wx ∧ Box x B3 (.cells #[.int .u64 (b.getD (0, 0)).1, .int .u64 (b.getD (0, 0)).2] 48) wx ∧ Box x BB (.cells #[.int .u64 v.1, .int .u64 v.2, .int .u32 (v.1 / 4294967296 % 4294967296), .int .u32 (v.1 % 4294967296), .int .u32 sd] 119) wx)
    case first =>
      as_aux_lemma =>
      by_cases h0 : o.n = 0
      · replace H := H.tree (offB_zero (.inl h0))
        go_wp2_with fail
        go_meet
        exact ⟨0, _, _, _, rfl, by omega, hbl, hal, by omega, hU, H, A, K3, KB⟩
      · by_cases h1 : o.what = 0
        · replace H := H.tree (offB_zero (.inr h1))
          go_wp2_with fail
          go_meet
          exact ⟨0, _, _, _, rfl, by omega, hbl, hal, by omega, hU, H, A, K3, KB⟩
        · have sw : IntKind.u64.wrap o.what = o.what := IntWalk.u64_in _ (by omega)
          have hn0 : (o.n == 0) = false := by simp [h0]
          have hw0 : (o.what == 0) = false := by simp [h1]
          go_upto_region 14 with fail
          by_cases h2 : bk = 1 ∧ o.what = (b.getD (0, 0)).2
          · obtain ⟨rfl, h2⟩ := h2
            replace H := H.tree (offB_one h0 h1 h2)
            have h3 : (o.what == (b.getD (0, 0)).2) = true := by simp [h2]
            go_quiet (fail)
            go_wp2_with fail
            go_meet
            exact ⟨1, _, _, _, rfl, hbl, hbl, hal, by omega, hU, H.drewN nq, A.step (Step.drewN _ nq), K3.drewN nq, KB.drewN nq⟩
          · rcases hbk with hb0 | hb0
            · as_aux_lemma =>
                have hbb : ((bk : Int) == 1) = false := by simp [hb0]
                replace H := H.tree (offB_else h0 h1 h2)
                replace hb0 := Lib.hid hb0
                replace h2 := Lib.hid h2
                go_quiet (fail)
                replace H := H.drewN nq
                replace A := A.step (Step.drewN _ nq)
                replace K3 := K3.drewN nq
                replace KB := KB.drewN nq
                try clear c0 c1 c2 c3 c4 c5 c6 hx
                obtain ⟨c0, c1, c2, c3, c4, c5, c6⟩ := H.op
                have hx := H.lt
                go_upto_region 9 with fail
                clear hbb hb0 h0 h1 h2
                try clear h3
                obtain ⟨w7, hw7⟩ := A.world
                rw [← hw7] at H A KB K3 ⊢
                clear hw7
                have H0 := H
                replace H := H.drew
                have Z := (Step.refl x w7).drew
                obtain ⟨d0, d1, ld⟩ := (K3.step Z).two
                try clear c0 c1 c2 c3 c4 c5 c6 hx
                obtain ⟨c0, c1, c2, c3, c4, c5, c6⟩ := H.op
                have hx := H.lt
                go_cut [9] (fun sk wx => ∃ (B8 : Nat) (s1 : List Cel), sk = .pointer (some ⟨B8, 0, none⟩) ∧ SB < B8 ∧ St x o w0 R [] rp0 ((amountT (stackK o.who o.what)).bind fun q => offC o (v, sd) b bk ks.length (ks ++ [stackK o.who o.what]) (am ++ [q])) s1 wx ∧ Step x w7 wx ∧ Box x B8 (.cells #[.int .u8 3, .int .u32 o.who, .int .u32 o.what] 52) wx)
                case first =>
                  as_aux_lemma =>
                  have l8 : w0.heap.size ≤ w7.heap.size := H.step.size
                  have lx8 : x < w7.heap.size := H.lt
                  have lS8 : SB < w7.heap.size := A.lt
                  have lB8 : B3 < w7.heap.size := K3.lt
                  go_region_held2 (fun w' => w'.cell? ⟨x, 1, none⟩ = some (.int .u32 o.who) ∧ w'.cell? ⟨x, 3, none⟩ = some (.int .u32 o.what))
                    (first | with_reducible exact ⟨c1, c3⟩ | with_reducible exact ⟨cell_past (by omega) (cell_past (by omega) (cell_past (by omega) (c1))), cell_past (by omega) (cell_past (by omega) (cell_past (by omega) (c3)))⟩ | exact ⟨(H.alloc _).op.2.1, (H.alloc _).op.2.2.2.1⟩ | exact ⟨(H0.alloc _).drew.op.2.1, (H0.alloc _).drew.op.2.2.2.1⟩ | go_keep)
                    (first
                      | (go_at_call 79; refine (St.key (stack_any _ _) H).mono ?_; rintro e w1 ⟨rfl, H1, Q⟩; replace H := H1; clear H1; (try clear c0 c1 c2 c3 c4 c5 c6 hx); obtain ⟨c0, c1, c2, c3, c4, c5, c6⟩ := H.op; have hx := H.lt; replace Z := Z.trans Q; obtain ⟨d0, d1, ld⟩ := (K3.step Z).two; (try replace K8 := K8.step Q; obtain ⟨k0, k1, k2, lk8⟩ := K8.three; have fk0 := K8.froz 0; have fk1 := K8.froz 1; have fk2 := K8.froz 2))
                      | (have K8 := (Box.newS H0 (.cells #[.int .u8 0, .int .u32 0, .int .u32 0] 52)).drew; replace H := (H0.alloc (.cells #[.int .u8 0, .int .u32 0, .int .u32 0] 52)).drew; replace Z := ((Step.refl x _).alloc H0.lt (.cells #[.int .u8 0, .int .u32 0, .int .u32 0] 52)).drew; go_at_call 79; refine (St.key (stack_any _ _) H).mono ?_; rintro e w1 ⟨rfl, H1, Q⟩; replace H := H1; clear H1; (try clear c0 c1 c2 c3 c4 c5 c6 hx); obtain ⟨c0, c1, c2, c3, c4, c5, c6⟩ := H.op; have hx := H.lt; replace Z := Z.trans Q; obtain ⟨d0, d1, ld⟩ := (K3.step Z).two; (try replace K8 := K8.step Q; obtain ⟨k0, k1, k2, lk8⟩ := K8.three; have fk0 := K8.froz 0; have fk1 := K8.froz 1; have fk2 := K8.froz 2)))
                  all_goals (first
                    | (obtain ⟨H2, K2⟩ := H.fill3 K8 hx0 l8 (.int .u8 3) (.int .u32 o.who) (.int .u32 o.what); have Z2 := ((Z.setNew (p := ⟨w7.heap.size, 0, none⟩) lx8 (Nat.le_refl _) (.int .u8 3)).setNew (p := ⟨w7.heap.size, 1, none⟩) lx8 (Nat.le_refl _) (.int .u32 o.who)).setNew (p := ⟨w7.heap.size, 2, none⟩) lx8 (Nat.le_refl _) (.int .u32 o.what); go_wp2_with fail; go_meet; exact ⟨_, _, rfl, lS8, H2, Z2, K2⟩)
                    | (have lS9 : SB < _ := (A.step Z).lt; have K8 := Box.newS H (.cells #[.int .u8 3, .int .u32 o.who, .int .u32 o.what] 52); replace Z := Z.alloc hx (.cells #[.int .u8 3, .int .u32 o.who, .int .u32 o.what] 52); replace H := H.alloc (.cells #[.int .u8 3, .int .u32 o.who, .int .u32 o.what] 52); go_wp2_with fail; go_meet; exact ⟨_, _, rfl, lS9, H, Z, K8⟩))
                case rest =>
                obtain ⟨B8, s1, rfl, l8, H, Z, K8⟩ := hcut
                replace A := A.step Z
                replace KB := KB.step Z
                replace K3 := K3.step Z
                clear Z d0 d1 ld H0
                go_upto_region 10 with fail
                replace H := H.drew
                replace A := A.step (Step.refl x _).drew
                replace KB := KB.drew
                replace K3 := K3.drew
                replace K8 := K8.drew
                obtain ⟨k0, k1, k2, lk8⟩ := K8.three
                try clear c0 c1 c2 c3 c4 c5 c6 hx
                obtain ⟨c0, c1, c2, c3, c4, c5, c6⟩ := H.op
                have hx := H.lt
                refine wp_region_line (m := 4) (fun w' => w'.cell? ⟨B8, 0, none⟩ = some (.int .u8 3) ∧ w'.cell? ⟨B8, 1, none⟩ = some (.int .u32 o.who) ∧ w'.cell? ⟨B8, 2, none⟩ = some (.int .u32 o.what)) (by kernel_rfl) (by kernel_rfl) (fun d _ _ _ _ h => by cases d <;> exact h) ⟨k0, k1, k2⟩ ?_
                simp only [List.take_succ_cons, List.take_zero, List.drop_succ_cons, List.drop_zero]
                repeat (refine wpTake_step (v := ?_) (by rfl) ?_ ?_; rotate_left; (focus (intro w hSw; (try dsimp only at hSw); go_simp; try with_reducible rfl)); simp only [Act.put, List.setIfInBounds_toArray, List.set_cons_zero, List.set_cons_succ])
                refine wpTake_nil ?_
                refine line_call rfl (fun K hK => ?_)
                rw [if_pos (by rfl)]
                go_simp
                refine (St.amount H).mono ?_; rintro e w1 (⟨qa, s1, rfl, hqa, H1, Q⟩ | ⟨ch, rfl, P⟩); rotate_left; (focus (go_wp2_with fail; exact ⟨rfl, P.met⟩)); replace H := H1; clear H1; (try clear c0 c1 c2 c3 c4 c5 c6 hx); obtain ⟨c0, c1, c2, c3, c4, c5, c6⟩ := H.op; have hx := H.lt; replace A := A.step Q; replace KB := KB.step Q; replace K3 := K3.step Q; replace K8 := K8.step Q
                refine hK.out _ _ ⟨⟨K8.three.1, K8.three.2.1, K8.three.2.2.1⟩, ?_⟩
                clear hK K
                obtain ⟨k0, k1, k2, lk8⟩ := K8.three
                go_upto_region 11 with (go_at_call 89; refine (St.add (k := stackK o.who o.what) H A hx0 lSB (by omega) (by omega)).mono ?_; rintro e w1 ⟨rfl, H1, A1, oth⟩; replace H := H1; clear H1; (try clear c0 c1 c2 c3 c4 c5 c6 hx); obtain ⟨c0, c1, c2, c3, c4, c5, c6⟩ := H.op; have hx := H.lt; replace A := A1; clear A1; replace KB := oth _ _ (by omega) KB; replace K3 := oth _ _ lB4 K3)
                obtain ⟨gk, ck, ga, ca, F⟩ := A.fix (n := ks.length + 1) (by simp) (by simp [hal]) (by omega)
                obtain ⟨s0, s2, lS, lk, lg, fg, lSg, hxg⟩ := F.facts
                have sl : IntKind.i64.wrap (((ks.length + 1 : Nat) : Int) - 1) = (ks.length : Int) := by rw [IntWalk.i64_in _ (by omega)]; omega
                have sl2 : (((ks.length + 1 : Nat) : Int) - 1) = (ks.length : Int) := by omega
                go_wp2_with fail
                go_meet
                exact ⟨ks.length, _, _, _, by go_num, by simp, by simp; omega, by simp [hal], by simp; omega, Lib.hid (hU.out.snoc hqa), H, A, K3, KB⟩
            · as_aux_lemma =>
                have h3 : (o.what == (b.getD (0, 0)).2) = false := by have := fun e => h2 ⟨hb0, e⟩; simpa using this
                have hbb : ((bk : Int) == 1) = true := by simp [hb0]
                replace H := H.tree (offB_else h0 h1 h2)
                replace hb0 := Lib.hid hb0
                replace h2 := Lib.hid h2
                go_quiet (fail)
                replace H := H.drewN nq
                replace A := A.step (Step.drewN _ nq)
                replace K3 := K3.drewN nq
                replace KB := KB.drewN nq
                try clear c0 c1 c2 c3 c4 c5 c6 hx
                obtain ⟨c0, c1, c2, c3, c4, c5, c6⟩ := H.op
                have hx := H.lt
                go_upto_region 9 with fail
                clear hbb hb0 h0 h1 h2
                try clear h3
                obtain ⟨w7, hw7⟩ := A.world
                rw [← hw7] at H A KB K3 ⊢
                clear hw7
                have H0 := H
                replace H := H.drew
                have Z := (Step.refl x w7).drew
                obtain ⟨d0, d1, ld⟩ := (K3.step Z).two
                try clear c0 c1 c2 c3 c4 c5 c6 hx
                obtain ⟨c0, c1, c2, c3, c4, c5, c6⟩ := H.op
                have hx := H.lt
                go_cut [9] (fun sk wx => ∃ (B8 : Nat) (s1 : List Cel), sk = .pointer (some ⟨B8, 0, none⟩) ∧ SB < B8 ∧ St x o w0 R [] rp0 ((amountT (stackK o.who o.what)).bind fun q => offC o (v, sd) b bk ks.length (ks ++ [stackK o.who o.what]) (am ++ [q])) s1 wx ∧ Step x w7 wx ∧ Box x B8 (.cells #[.int .u8 3, .int .u32 o.who, .int .u32 o.what] 52) wx)
                case first =>
                  as_aux_lemma =>
                  have l8 : w0.heap.size ≤ w7.heap.size := H.step.size
                  have lx8 : x < w7.heap.size := H.lt
                  have lS8 : SB < w7.heap.size := A.lt
                  have lB8 : B3 < w7.heap.size := K3.lt
                  go_region_held2 (fun w' => w'.cell? ⟨x, 1, none⟩ = some (.int .u32 o.who) ∧ w'.cell? ⟨x, 3, none⟩ = some (.int .u32 o.what))
                    (first | with_reducible exact ⟨c1, c3⟩ | with_reducible exact ⟨cell_past (by omega) (cell_past (by omega) (cell_past (by omega) (c1))), cell_past (by omega) (cell_past (by omega) (cell_past (by omega) (c3)))⟩ | exact ⟨(H.alloc _).op.2.1, (H.alloc _).op.2.2.2.1⟩ | exact ⟨(H0.alloc _).drew.op.2.1, (H0.alloc _).drew.op.2.2.2.1⟩ | go_keep)
                    (first
                      | (go_at_call 79; refine (St.key (stack_any _ _) H).mono ?_; rintro e w1 ⟨rfl, H1, Q⟩; replace H := H1; clear H1; (try clear c0 c1 c2 c3 c4 c5 c6 hx); obtain ⟨c0, c1, c2, c3, c4, c5, c6⟩ := H.op; have hx := H.lt; replace Z := Z.trans Q; obtain ⟨d0, d1, ld⟩ := (K3.step Z).two; (try replace K8 := K8.step Q; obtain ⟨k0, k1, k2, lk8⟩ := K8.three; have fk0 := K8.froz 0; have fk1 := K8.froz 1; have fk2 := K8.froz 2))
                      | (have K8 := (Box.newS H0 (.cells #[.int .u8 0, .int .u32 0, .int .u32 0] 52)).drew; replace H := (H0.alloc (.cells #[.int .u8 0, .int .u32 0, .int .u32 0] 52)).drew; replace Z := ((Step.refl x _).alloc H0.lt (.cells #[.int .u8 0, .int .u32 0, .int .u32 0] 52)).drew; go_at_call 79; refine (St.key (stack_any _ _) H).mono ?_; rintro e w1 ⟨rfl, H1, Q⟩; replace H := H1; clear H1; (try clear c0 c1 c2 c3 c4 c5 c6 hx); obtain ⟨c0, c1, c2, c3, c4, c5, c6⟩ := H.op; have hx := H.lt; replace Z := Z.trans Q; obtain ⟨d0, d1, ld⟩ := (K3.step Z).two; (try replace K8 := K8.step Q; obtain ⟨k0, k1, k2, lk8⟩ := K8.three; have fk0 := K8.froz 0; have fk1 := K8.froz 1; have fk2 := K8.froz 2)))
                  all_goals (first
                    | (obtain ⟨H2, K2⟩ := H.fill3 K8 hx0 l8 (.int .u8 3) (.int .u32 o.who) (.int .u32 o.what); have Z2 := ((Z.setNew (p := ⟨w7.heap.size, 0, none⟩) lx8 (Nat.le_refl _) (.int .u8 3)).setNew (p := ⟨w7.heap.size, 1, none⟩) lx8 (Nat.le_refl _) (.int .u32 o.who)).setNew (p := ⟨w7.heap.size, 2, none⟩) lx8 (Nat.le_refl _) (.int .u32 o.what); go_wp2_with fail; go_meet; exact ⟨_, _, rfl, lS8, H2, Z2, K2⟩)
                    | (have lS9 : SB < _ := (A.step Z).lt; have K8 := Box.newS H (.cells #[.int .u8 3, .int .u32 o.who, .int .u32 o.what] 52); replace Z := Z.alloc hx (.cells #[.int .u8 3, .int .u32 o.who, .int .u32 o.what] 52); replace H := H.alloc (.cells #[.int .u8 3, .int .u32 o.who, .int .u32 o.what] 52); go_wp2_with fail; go_meet; exact ⟨_, _, rfl, lS9, H, Z, K8⟩))
                case rest =>
                obtain ⟨B8, s1, rfl, l8, H, Z, K8⟩ := hcut
                replace A := A.step Z
                replace KB := KB.step Z
                replace K3 := K3.step Z
                clear Z d0 d1 ld H0
                go_upto_region 10 with fail
                replace H := H.drew
                replace A := A.step (Step.refl x _).drew
                replace KB := KB.drew
                replace K3 := K3.drew
                replace K8 := K8.drew
                obtain ⟨k0, k1, k2, lk8⟩ := K8.three
                try clear c0 c1 c2 c3 c4 c5 c6 hx
                obtain ⟨c0, c1, c2, c3, c4, c5, c6⟩ := H.op
                have hx := H.lt
                refine wp_region_line (m := 4) (fun w' => w'.cell? ⟨B8, 0, none⟩ = some (.int .u8 3) ∧ w'.cell? ⟨B8, 1, none⟩ = some (.int .u32 o.who) ∧ w'.cell? ⟨B8, 2, none⟩ = some (.int .u32 o.what)) (by kernel_rfl) (by kernel_rfl) (fun d _ _ _ _ h => by cases d <;> exact h) ⟨k0, k1, k2⟩ ?_
                simp only [List.take_succ_cons, List.take_zero, List.drop_succ_cons, List.drop_zero]
                repeat (refine wpTake_step (v := ?_) (by rfl) ?_ ?_; rotate_left; (focus (intro w hSw; (try dsimp only at hSw); go_simp; try with_reducible rfl)); simp only [Act.put, List.setIfInBounds_toArray, List.set_cons_zero, List.set_cons_succ])
                refine wpTake_nil ?_
                refine line_call rfl (fun K hK => ?_)
                rw [if_pos (by rfl)]
                go_simp
                refine (St.amount H).mono ?_; rintro e w1 (⟨qa, s1, rfl, hqa, H1, Q⟩ | ⟨ch, rfl, P⟩); rotate_left; (focus (go_wp2_with fail; exact ⟨rfl, P.met⟩)); replace H := H1; clear H1; (try clear c0 c1 c2 c3 c4 c5 c6 hx); obtain ⟨c0, c1, c2, c3, c4, c5, c6⟩ := H.op; have hx := H.lt; replace A := A.step Q; replace KB := KB.step Q; replace K3 := K3.step Q; replace K8 := K8.step Q
                refine hK.out _ _ ⟨⟨K8.three.1, K8.three.2.1, K8.three.2.2.1⟩, ?_⟩
                clear hK K
                obtain ⟨k0, k1, k2, lk8⟩ := K8.three
                go_upto_region 11 with (go_at_call 89; refine (St.add (k := stackK o.who o.what) H A hx0 lSB (by omega) (by omega)).mono ?_; rintro e w1 ⟨rfl, H1, A1, oth⟩; replace H := H1; clear H1; (try clear c0 c1 c2 c3 c4 c5 c6 hx); obtain ⟨c0, c1, c2, c3, c4, c5, c6⟩ := H.op; have hx := H.lt; replace A := A1; clear A1; replace KB := oth _ _ (by omega) KB; replace K3 := oth _ _ lB4 K3)
                obtain ⟨gk, ck, ga, ca, F⟩ := A.fix (n := ks.length + 1) (by simp) (by simp [hal]) (by omega)
                obtain ⟨s0, s2, lS, lk, lg, fg, lSg, hxg⟩ := F.facts
                have sl : IntKind.i64.wrap (((ks.length + 1 : Nat) : Int) - 1) = (ks.length : Int) := by rw [IntWalk.i64_in _ (by omega)]; omega
                have sl2 : (((ks.length + 1 : Nat) : Int) - 1) = (ks.length : Int) := by omega
                go_wp2_with fail
                go_meet
                exact ⟨ks.length, _, _, _, by go_num, by simp, by simp; omega, by simp [hal], by simp; omega, Lib.hid (hU.out.snoc hqa), H, A, K3, KB⟩
    case rest =>
    obtain ⟨tt, ks, am, s1, rfl, htl, hbl, hal, hks, hU, H, A, K3, KB⟩ := hcut
    go_upto_if 116 with fail
    obtain ⟨w8, hw8⟩ := A.world
    rw [← hw8] at H A KB K3 ⊢
    clear hw8
    go_cut [] (fun wx => ∃ (am : List Int) (s1 : List Cel), am.length = ks.length ∧ Hid (U64s am) ∧ St x o w0 R [] rp0 (offD o (v, sd) tt ks am) s1 wx ∧ Shelf x SB ks am wx ∧ Box x BB (.cells #[.int .u64 v.1, .int .u64 v.2, .int .u32 (v.1 / 4294967296 % 4294967296), .int .u32 (v.1 % 4294967296), .int .u32 sd] 119) wx)
    case first =>
      as_aux_lemma =>
      rcases b with _ | bv
      · go_wp2_with fail
        go_meet
        exact ⟨am, s1, hal, hU, H, A, KB⟩
      · dsimp only [Option.getD, Option.isSome] at H K3 ⊢
        replace H := H.tree (show _ = (moreT (am.getD bk 0) bv.1).bind fun m => offD o (v, sd) tt ks (am.set bk m) from rfl)
        have hbv : VlOk bv := hb
        have ub := hU.out bk
        go_upto_region 17 with fail
        obtain ⟨gk, ck, ga, ca, F⟩ := A.fix (n := ks.length) rfl hal (by omega)
        have hat : Hid (am[bk]? = some (am.getD bk 0)) := Lib.hid (U64s.at (by omega))
        obtain ⟨u, hu⟩ : ∃ u, u = am.getD bk 0 := ⟨_, rfl⟩
        rw [← hu] at H ub hat
        clear hu
        replace K3 := K3.drew
        obtain ⟨b0, b1, lb⟩ := K3.two
        replace H := H.drew
        replace F := F.step (Step.refl x _).drew
        replace KB := KB.drew
        have hj1 : (bk : Int) < (ks.length : Int) := by omega
        obtain ⟨s0, s2, lS, lk, lg, fg, lSg, hxg⟩ := F.facts; have fz := fg bk; have g0 := F.amt (j := bk) hat.out
        try clear c0 c1 c2 c3 c4 c5 c6 hx
        obtain ⟨c0, c1, c2, c3, c4, c5, c6⟩ := H.op
        have hx := H.lt
        refine wp_region_line (m := 14) (fun w' => w'.cell? ⟨SB, 1, none⟩ = some (.slice (some ⟨ga, 0, none⟩) ks.length ca) ∧ w'.cell? ⟨ga, bk, none⟩ = some (.int .u64 (u)) ∧ w'.cell? ⟨B3, 0, none⟩ = some (.int .u64 bv.1)) (by kernel_rfl) (by kernel_rfl) (fun d _ _ _ _ h => by cases d <;> exact h) ⟨s2, g0, b0⟩ ?_
        simp only [List.take_succ_cons, List.take_zero, List.drop_succ_cons, List.drop_zero]
        repeat (refine wpTake_step (v := ?_) (by rfl) ?_ ?_; rotate_left; (focus (intro w hSw; (try dsimp only at hSw); go_simp; try with_reducible rfl)); simp only [Act.put, List.setIfInBounds_toArray, List.set_cons_zero, List.set_cons_succ])
        refine wpTake_nil ?_
        refine line_call rfl (fun K hK => ?_)
        rw [if_pos (by rfl)]
        go_simp
        refine (St.more H ub hbv.1).mono ?_; rintro e w1 (⟨m, rfl, hm, H1, Q⟩ | ⟨ch, rfl, P⟩); rotate_left; (focus (go_wp2_with fail; exact ⟨rfl, P.met⟩)); replace H := H1; clear H1; (try clear c0 c1 c2 c3 c4 c5 c6 hx); obtain ⟨c0, c1, c2, c3, c4, c5, c6⟩ := H.op; have hx := H.lt; replace F := F.step Q; replace KB := KB.step Q; obtain ⟨s0, s2, lS, lk, lg, fg, lSg, hxg⟩ := F.facts; have fz := fg bk; have g0 := F.amt (j := bk) hat.out; replace K3 := K3.step Q; obtain ⟨b0, b1, lb⟩ := K3.two
        refine hK.out _ _ ⟨⟨s2, g0, b0⟩, ?_⟩
        clear hK K
        obtain ⟨H2, F2, oth⟩ := F.set H hx0 lSB bk m
        go_wp2_with fail
        go_meet
        exact ⟨_, _, by simpa using hal, Lib.hid (hU.out.set ⟨hm.1, by omega⟩ bk), H2, F2.shelf, oth _ _ (by omega) KB⟩
    case rest =>
    clear hal hU H A K3 KB
    obtain ⟨am, s1, hal, hU, H, A, KB⟩ := hcut
    try clear c0 c1 c2 c3 c4 c5 c6 hx
    obtain ⟨c0, c1, c2, c3, c4, c5, c6⟩ := H.op
    have hx := H.lt
    go_upto_if 138 with fail
    obtain ⟨w9, hw9⟩ := A.world
    rw [← hw9] at H A KB ⊢
    clear hw9
    try clear c0 c1 c2 c3 c4 c5 c6 hx
    obtain ⟨c0, c1, c2, c3, c4, c5, c6⟩ := H.op
    have hx := H.lt
    go_cut [] (fun wx => ∃ (am : List Int) (s1 : List Cel), am.length = ks.length ∧ Hid (U64s am) ∧ St x o w0 R [] rp0 (offE o (v, sd) ks am) s1 wx ∧ Shelf x SB ks am wx ∧ Box x BB (.cells #[.int .u64 v.1, .int .u64 v.2, .int .u32 (v.1 / 4294967296 % 4294967296), .int .u32 (v.1 % 4294967296), .int .u32 sd] 119) wx)
    case first =>
      as_aux_lemma =>
      unfold offD at H
      have ub := hU.out tt
      by_cases hn : 0 < o.n
      · rw [if_pos hn] at H
        go_upto_region 19 with fail
        obtain ⟨gk, ck, ga, ca, F⟩ := A.fix (n := ks.length) rfl hal (by omega)
        have hat : Hid (am[tt]? = some (am.getD tt 0)) := Lib.hid (U64s.at (by omega))
        obtain ⟨u, hu⟩ : ∃ u, u = am.getD tt 0 := ⟨_, rfl⟩
        rw [← hu] at H ub hat
        clear hu
        replace H := H.drew
        replace F := F.step (Step.refl x _).drew
        replace KB := KB.drew
        have hj1 : (tt : Int) < (ks.length : Int) := by omega
        obtain ⟨s0, s2, lS, lk, lg, fg, lSg, hxg⟩ := F.facts; have fz := fg tt; have g0 := F.amt (j := tt) hat.out
        try clear c0 c1 c2 c3 c4 c5 c6 hx
        obtain ⟨c0, c1, c2, c3, c4, c5, c6⟩ := H.op
        have hx := H.lt
        refine wp_region_line (m := 17) (fun w' => w'.cell? ⟨SB, 1, none⟩ = some (.slice (some ⟨ga, 0, none⟩) ks.length ca) ∧ w'.cell? ⟨ga, tt, none⟩ = some (.int .u64 (u)) ∧ w'.cell? ⟨x, 5, none⟩ = some (.int .u64 o.n)) (by kernel_rfl) (by kernel_rfl) (fun d _ _ _ _ h => by cases d <;> exact h) ⟨s2, g0, c5⟩ ?_
        simp only [List.take_succ_cons, List.take_zero, List.drop_succ_cons, List.drop_zero]
        repeat (refine wpTake_step (v := ?_) (by rfl) ?_ ?_; rotate_left; (focus (intro w hSw; (try dsimp only at hSw); go_simp; try with_reducible rfl)); simp only [Act.put, List.setIfInBounds_toArray, List.set_cons_zero, List.set_cons_succ])
        refine wpTake_nil ?_
        refine line_call rfl (fun K hK => ?_)
        rw [if_pos (by rfl)]
        go_simp
        refine (St.less H ub on).mono ?_; rintro e w1 (⟨l, rfl, hl, H1, Q⟩ | ⟨ch, rfl, P⟩); rotate_left; (focus (go_wp2_with fail; exact ⟨rfl, P.met⟩)); replace H := H1; clear H1; (try clear c0 c1 c2 c3 c4 c5 c6 hx); obtain ⟨c0, c1, c2, c3, c4, c5, c6⟩ := H.op; have hx := H.lt; replace F := F.step Q; replace KB := KB.step Q; obtain ⟨s0, s2, lS, lk, lg, fg, lSg, hxg⟩ := F.facts; have fz := fg tt; have g0 := F.amt (j := tt) hat.out
        refine hK.out _ _ ⟨⟨s2, g0, c5⟩, ?_⟩
        clear hK K
        obtain ⟨H2, F2, oth⟩ := F.set H hx0 lSB tt l
        go_wp2_with fail
        go_meet
        exact ⟨_, _, by simpa using hal, Lib.hid (hU.out.set ⟨hl.1, by omega⟩ tt), H2, F2.shelf, oth _ _ (by omega) KB⟩
      · rw [if_neg hn] at H
        go_wp2_with fail
        go_meet
        exact ⟨am, s1, hal, hU, H, A, KB⟩
    case rest =>
    clear hal hU H A KB
    obtain ⟨am, s1, hal, hU, H, A, KB⟩ := hcut
    obtain ⟨n, hn⟩ : ∃ n, n = ks.length := ⟨_, rfl⟩
    have hn0 : 0 < n := by omega
    have hn3 : n ≤ 3 := by omega
    obtain ⟨gk, ck, ga, ca, F⟩ := A.fix (n := n) hn.symm (by omega) hn0
    clear hU hal hks hbl htl hn A
    as_aux_lemma =>
      obtain ⟨s0, s2, lS, lk, lg, fg, lSg, hxg⟩ := F.facts
      try clear c0 c1 c2 c3 c4 c5 c6 hx
      obtain ⟨c0, c1, c2, c3, c4, c5, c6⟩ := H.op
      have hx := H.lt
      have hN : (0 : Int) < (n : Int) := by omega
      go_wp2_with fail
      go_loopw [163] (fun i wr => ∃ j : Nat, j ≤ n ∧ i = .int .i64 (j : Int) ∧ Hid (St x o w0 R (zipPut (ks.take j) (am.take j)) rp0 (offE o (v, sd) ks am) s1 wr) ∧ Hid (ShelfF x SB gk ck ga ca n ks am wr) ∧ Hid (Box x BB (.cells #[.int .u64 v.1, .int .u64 v.2, .int .u32 (v.1 / 4294967296 % 4294967296), .int .u32 (v.1 % 4294967296), .int .u32 sd] 119) wr)) (fun i _ => n - (intOf i).toNat)
      case atStart => exact ⟨0, Nat.zero_le _, rfl, Lib.hid H, Lib.hid F, Lib.hid KB⟩
      case round =>
        clear H F s0 s2 lS lk lg fg KB
        obtain ⟨j, hj, rfl, H, F, KB⟩ := hrel
        replace KB := KB.out
        replace H := H.out
        replace F := F.out
        obtain ⟨s0, s2, lS, lk, lg, fg, lSg, hxg⟩ := F.facts
        try clear c0 c1 c2 c3 c4 c5 c6 hx
        obtain ⟨c0, c1, c2, c3, c4, c5, c6⟩ := H.op
        have hx := H.lt
        by_cases hlt : j < n
        · obtain ⟨k, a, hk, ha⟩ := F.pick hlt
          obtain ⟨e0, e1, e2⟩ := F.key hk
          have ea := F.amt ha
          have hl1 : (j : Int) < (n : Int) := by omega
          have hz := zipPut_snoc hk ha
          have hpl : (zipPut (ks.take j) (am.take j)).length + 1 ≤ 1000 := by have := zipPut_len (ks.take j) (am.take j); have := List.length_take_le j ks; omega
          obtain ⟨pp, hpp⟩ : ∃ pp, zipPut (ks.take j) (am.take j) = pp := ⟨_, rfl⟩
          rw [hpp] at H hpl hz
          replace hz := Lib.hid hz
          replace ha := Lib.hid ha
          clear hk hpp
          go_upto_region 23 with fail
          have KK := Box.newS H (.cells #[.int .u8 k.1, .int .u32 k.2.1, .int .u32 k.2.2] 52)
          replace H := H.alloc (.cells #[.int .u8 k.1, .int .u32 k.2.1, .int .u32 k.2.2] 52)
          replace F := F.step ((Step.refl x wr).alloc hx (.cells #[.int .u8 k.1, .int .u32 k.2.1, .int .u32 k.2.2] 52))
          replace KB := KB.alloc (ob' := .cells #[.int .u8 k.1, .int .u32 k.2.1, .int .u32 k.2.2] 52) hx
          obtain ⟨KX, hKB⟩ := KK.name
          rw [← hKB] at KK ⊢
          clear hKB
          obtain ⟨w5, hw5⟩ := F.world
          rw [← hw5] at H F KK KB ⊢
          clear hw5
          replace H := H.drew
          replace F := F.step (Step.refl x _).drew
          replace KK := KK.drew
          replace KB := KB.drew
          clear s0 s2 lS lk lg fg e0 e1 e2 ea
          obtain ⟨s0, s2, lS, lk, lg, fg, lSg, hxg⟩ := F.facts
          try clear c0 c1 c2 c3 c4 c5 c6 hx
          obtain ⟨c0, c1, c2, c3, c4, c5, c6⟩ := H.op
          have hx := H.lt
          obtain ⟨k0, k1, k2, lK⟩ := KK.three
          have ea := F.amt ha.out
          go_region_held2 (fun w' => w'.cell? ⟨SB, 1, none⟩ = some (.slice (some ⟨ga, 0, none⟩) n ca) ∧ w'.cell? ⟨ga, j, none⟩ = some (.int .u64 a) ∧ w'.cell? ⟨KX, 0, none⟩ = some (.int .u8 k.1) ∧ w'.cell? ⟨KX, 1, none⟩ = some (.int .u32 k.2.1) ∧ w'.cell? ⟨KX, 2, none⟩ = some (.int .u32 k.2.2))
            (first | exact ⟨F.facts.2.1, F.amt ha.out, KK.three.1, KK.three.2.1, KK.three.2.2.1⟩ | go_keep)
            (first
              | (go_at_call_of 74 (Value.agg #[.int .u8 k.1, .int .u32 k.2.1, .int .u32 k.2.2]); refine (St.put H (k) hpl).mono ?_; rintro e w1 ⟨rfl, H1, Q⟩; replace H := H1; clear H1; (try clear c0 c1 c2 c3 c4 c5 c6 hx); obtain ⟨c0, c1, c2, c3, c4, c5, c6⟩ := H.op; have hx := H.lt; obtain ⟨⟨u10, y10⟩, ⟨u11, y11⟩, ⟨u12, y12⟩⟩ := H.rep; have z10 := H.frozen 10; have z11 := H.frozen 11; have z12 := H.frozen 12; replace F := F.step Q; replace KK := KK.step Q; replace KB := KB.step Q))
          all_goals (
            rw [← hz.out] at H
            go_wp2_with fail
            go_roundw
            case rel => exact ⟨j + 1, by omega, by go_num, Lib.hid H, Lib.hid F, Lib.hid KB⟩
            case measure => simp [intOf]; omega)
        · obtain rfl : j = n := by omega
          rw [List.take_of_length_le (Nat.le_of_eq F.1), List.take_of_length_le (Nat.le_of_eq F.2.1)] at H
          have hpl : (zipPut ks am).length + 1 ≤ 1000 := by have := zipPut_len ks am; have := F.1; omega
          go_upto_if 184 with fail
          obtain ⟨w10, hw10⟩ := KB.world
          rw [← hw10] at H KB ⊢
          clear hw10
          try clear c0 c1 c2 c3 c4 c5 c6 hx
          obtain ⟨c0, c1, c2, c3, c4, c5, c6⟩ := H.op
          have hx := H.lt
          go_cut [] (fun wx => ∃ s2, St x o w0 R (zipPut ks am ++ [(if 0 < o.n then ⟨offerK o.id sd, (o.n, o.what), false⟩ else goneP (offerK o.id sd))]) rp0 (offE o (v, sd) ks am) s2 wx ∧ Box x BB (.cells #[.int .u64 v.1, .int .u64 v.2, .int .u32 (v.1 / 4294967296 % 4294967296), .int .u32 (v.1 % 4294967296), .int .u32 sd] 119) wx)
          case first =>
            as_aux_lemma =>
            have sw : IntKind.u64.wrap o.what = o.what := IntWalk.u64_in _ (by omega)
            by_cases hn : 0 < o.n
            · have hnn := Lib.hid hn
              go_upto_region 26 with fail
              replace H := H.drew
              replace KB := KB.drew
              have m4 : w10.drew.cell? ⟨BB, 4, none⟩ = some (.int .u32 sd) := KB.cell 4
              try clear c0 c1 c2 c3 c4 c5 c6 hx
              obtain ⟨c0, c1, c2, c3, c4, c5, c6⟩ := H.op
              have hx := H.lt
              go_region_held2 (fun w' => w'.cell? ⟨x, 4, none⟩ = some (.int .u32 o.id) ∧ w'.cell? ⟨BB, 4, none⟩ = some (.int .u32 sd) ∧ w'.cell? ⟨x, 5, none⟩ = some (.int .u64 o.n) ∧ w'.cell? ⟨x, 3, none⟩ = some (.int .u32 o.what))
                (first | with_reducible exact ⟨c4, m4, c5, c3⟩ | go_keep)
                (first
                  | (go_at_call 88; refine (St.key (offerk_any _ _) H).mono ?_; rintro e w1 ⟨rfl, H1, Q⟩; replace H := H1; clear H1; (try clear c0 c1 c2 c3 c4 c5 c6 hx); obtain ⟨c0, c1, c2, c3, c4, c5, c6⟩ := H.op; have hx := H.lt; replace KB := KB.step Q; have m4 : w1.cell? ⟨BB, 4, none⟩ = some (.int .u32 sd) := KB.cell 4)
                  | (go_at_call 84; refine (St.set H (offerK o.id sd) ((o.n, o.what)) hpl).mono ?_; rintro e w1 ⟨rfl, H1, Q⟩; replace H := H1; clear H1; (try clear c0 c1 c2 c3 c4 c5 c6 hx); obtain ⟨c0, c1, c2, c3, c4, c5, c6⟩ := H.op; have hx := H.lt; obtain ⟨⟨u10, y10⟩, ⟨u11, y11⟩, ⟨u12, y12⟩⟩ := H.rep; have z10 := H.frozen 10; have z11 := H.frozen 11; have z12 := H.frozen 12; replace KB := KB.step Q; have m4 : w1.cell? ⟨BB, 4, none⟩ = some (.int .u32 sd) := KB.cell 4))
              all_goals (
                go_wp2_with fail
                go_meet
                exact ⟨_, by rw [if_pos (by have := hnn.out; omega : 0 < o.n)]; exact H, KB⟩)
            · have hnn := Lib.hid hn
              go_upto_region 27 with fail
              replace H := H.drew
              replace KB := KB.drew
              have m4 : w10.drew.cell? ⟨BB, 4, none⟩ = some (.int .u32 sd) := KB.cell 4
              try clear c0 c1 c2 c3 c4 c5 c6 hx
              obtain ⟨c0, c1, c2, c3, c4, c5, c6⟩ := H.op
              have hx := H.lt
              go_region_held2 (fun w' => w'.cell? ⟨x, 4, none⟩ = some (.int .u32 o.id) ∧ w'.cell? ⟨BB, 4, none⟩ = some (.int .u32 sd))
                (first | with_reducible exact ⟨c4, m4⟩ | with_reducible exact ⟨(H.alloc _).op.2.2.2.2.1, KB.alloc4 hx⟩ | go_keep)
                (first
                  | (go_at_call 88; refine (St.key (offerk_any _ _) H).mono ?_; rintro e w1 ⟨rfl, H1, Q⟩; replace H := H1; clear H1; (try clear c0 c1 c2 c3 c4 c5 c6 hx); obtain ⟨c0, c1, c2, c3, c4, c5, c6⟩ := H.op; have hx := H.lt; replace KB := KB.step Q; have m4 : w1.cell? ⟨BB, 4, none⟩ = some (.int .u32 sd) := KB.cell 4)
                  | (go_at_call 90; refine (St.gone H (offerK o.id sd) hpl _ _ rfl).mono ?_; rintro e w1 ⟨rfl, H1, Q⟩; replace H := H1; clear H1; (try clear c0 c1 c2 c3 c4 c5 c6 hx); obtain ⟨c0, c1, c2, c3, c4, c5, c6⟩ := H.op; have hx := H.lt; obtain ⟨⟨u10, y10⟩, ⟨u11, y11⟩, ⟨u12, y12⟩⟩ := H.rep; have z10 := H.frozen 10; have z11 := H.frozen 11; have z12 := H.frozen 12; replace KB := KB.step Q; have m4 : w1.cell? ⟨BB, 4, none⟩ = some (.int .u32 sd) := KB.cell 4))
              all_goals (
                go_wp2_with fail
                go_meet
                exact ⟨_, by rw [if_neg (by have := hnn.out; omega : ¬ 0 < o.n)]; exact H, KB⟩)
          case rest =>
          clear H KB
          obtain ⟨s2, H, KB⟩ := hcut
          have hp2 : (zipPut ks am ++ [(if 0 < o.n then ⟨offerK o.id sd, (o.n, o.what), false⟩ else goneP (offerK o.id sd))]).length + 1 ≤ 1000 := by have := zipPut_len ks am; have := F.1; rw [List.length_append]; simp only [List.length_cons, List.length_nil]; omega
          go_upto_region 28 with fail
          replace H := H.drew
          replace KB := KB.drew
          have m0 : wc.drew.cell? ⟨BB, 0, none⟩ = some (.int .u64 v.1) := KB.cell 0
          try clear c0 c1 c2 c3 c4 c5 c6 hx
          obtain ⟨c0, c1, c2, c3, c4, c5, c6⟩ := H.op
          have hx := H.lt
          go_region_held2 (fun w' => w'.cell? ⟨x, 4, none⟩ = some (.int .u32 o.id) ∧ w'.cell? ⟨BB, 0, none⟩ = some (.int .u64 v.1))
            (first | with_reducible exact ⟨c4, m0⟩ | go_keep)
            (first
              | (go_at_call 85; refine (St.key (trade_any _) H).mono ?_; rintro e w1 ⟨rfl, H1, Q⟩; replace H := H1; clear H1; (try clear c0 c1 c2 c3 c4 c5 c6 hx); obtain ⟨c0, c1, c2, c3, c4, c5, c6⟩ := H.op; have hx := H.lt; replace KB := KB.step Q; have m0 : w1.cell? ⟨BB, 0, none⟩ = some (.int .u64 v.1) := KB.cell 0)
              | (go_at_call 84; refine (St.set H (tradeK o.id) ((v.1, 0)) hp2).mono ?_; rintro e w1 ⟨rfl, H1, Q⟩; replace H := H1; clear H1; (try clear c0 c1 c2 c3 c4 c5 c6 hx); obtain ⟨c0, c1, c2, c3, c4, c5, c6⟩ := H.op; have hx := H.lt; obtain ⟨⟨u10, y10⟩, ⟨u11, y11⟩, ⟨u12, y12⟩⟩ := H.rep; have z10 := H.frozen 10; have z11 := H.frozen 11; have z12 := H.frozen 12; replace KB := KB.step Q; have m0 : w1.cell? ⟨BB, 0, none⟩ = some (.int .u64 v.1) := KB.cell 0))
          all_goals (
            go_wp2_with fail
            go_end0
            exact (H.setA _).met (by simp [offE, rp0])))
end
end Go.Proofs.YtdbpjbmalinlbaaGreat

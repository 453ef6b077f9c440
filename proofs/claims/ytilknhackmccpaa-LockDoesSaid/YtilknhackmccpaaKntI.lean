/- What the ring is: plain facts; What the laws on rings are handed: edges, numbers; the fixed example; The fixed example of the laws on rings; are words alike, is there an edge; SameWords, edge; The law KnotRings: its walk; The law KnotNone: who is reached from there; its walk. -/
import Derived.Test.YtilknhackmccpaaKntH
import Derived.ProofKit
import Derived.OpenShut
import Derived.Deep.Slices
set_option linter.unusedVariables false
set_option linter.unusedSimpArgs false
namespace Go.Proofs.Ytilknhackmccpaa

theorem Rch.again {f : Int → List Int} {tg m : Int} {S : List Int} {n : Int} (h : Rch f tg S n) : Rch f tg (m :: S) n ∨ Rch f tg (m :: S) m := by
  induction h with
  | here h => exact .inl (.here h)
  | @step n k h1 h2 _ ih =>
    rcases ih with ih | ih
    · by_cases hk : k = m
      · subst hk; exact .inr ih
      · exact .inl (.step h1 (by simp [hk, h2]) ih)
    · exact .inr ih
theorem Rch.self {f : Int → List Int} {tg m : Int} {S : List Int} (h : Rch f tg S m) : Rch f tg (m :: S) m := by
  rcases h.again (m := m) with h | h <;> exact h
theorem Rch.more {f g : Int → List Int} {tg n : Int} {S : List Int} (hfg : ∀ x z, z ∈ f x → z ∈ g x) (h : Rch f tg S n) : Rch g tg S n := by
  induction h with
  | here h => exact .here (hfg _ _ h)
  | step h1 h2 _ ih => exact .step (hfg _ _ h1) h2 ih

/-- A ring is found if there is one. -/
theorem go_some {f : Int → List Int} {tg : Int} {V : List Int} (hV : ∀ x z, z ∈ f x → z ∈ V) : ∀ (n : Nat) (ws : List Int) (last : Int), ws ≠ [] → unseen V ws < n → Rch f tg ws last → cycGo f tg n ws last ≠ []
  | 0, _, _, _, h, _ => absurd h (Nat.not_lt_zero _)
  | n + 1, ws, last, hne, hu, hr => by
    by_cases ht : tg ∈ f last
    · rw [cyc_here ht]; exact hne
    · cases hr with
      | here h => exact absurd h ht
      | @step _ m h1 h2 h3 =>
        have hg : Good f tg ws m := ⟨h2, h3.self⟩
        have hsome : (nextOf f tg ws (f last)).isSome = true := by
          unfold nextOf
          rw [List.find?_isSome]
          exact ⟨m, h1, by simpa using hg⟩
        obtain ⟨z, hz⟩ := Option.isSome_iff_exists.1 hsome
        have hgz : Good f tg ws z ∧ z ∈ f last := by
          unfold nextOf at hz
          exact ⟨by simpa using List.find?_some hz, List.mem_of_find?_eq_some hz⟩
        have e : cycGo f tg (n + 1) ws last = cycGo f tg n (ws ++ [z]) z := by simp [cycGo, ht, hz]
        rw [e]
        have hul := unseen_lt (hV _ _ hgz.2) hgz.1.1
        have hul2 : unseen V (ws ++ [z]) ≤ unseen V (z :: ws) := unseen_mono fun x hx => by
          rcases List.mem_cons.1 hx with e | e <;> simp [e]
        exact go_some hV n (ws ++ [z]) z (by simp) (by omega) (hgz.1.2.mono fun x hx => by
          rcases List.mem_append.1 hx with e | e
          · simp [e]
          · have := List.mem_singleton.1 e; simp [this])

/-- A list each of which is followed by one it waits for. -/
def Links (f : Int → List Int) (ws : List Int) : Prop := ∀ i a b, ws[i]? = some a → ws[i + 1]? = some b → b ∈ f a
/-- A ring that begins with tg. -/
structure Ring (f : Int → List Int) (tg : Int) (r : List Int) : Prop where
  head : r[0]? = some tg
  nodup : r.Nodup
  links : Links f r
  back : ∃ last, r[r.length - 1]? = some last ∧ tg ∈ f last
theorem go_ring {f : Int → List Int} {tg : Int} : ∀ (n : Nat) (ws : List Int) (last : Int), ws[0]? = some tg → ws.Nodup → Links f ws → ws[ws.length - 1]? = some last → cycGo f tg n ws last ≠ [] → Ring f tg (cycGo f tg n ws last)
  | 0, _, _, _, _, _, _, h => absurd rfl h
  | n + 1, ws, last, h0, hn, hl, hlast, hne => by
    by_cases ht : tg ∈ f last
    · rw [cyc_here ht]
      exact ⟨h0, hn, hl, last, hlast, ht⟩
    · have hwl : 0 < ws.length := (List.getElem?_eq_some_iff.1 h0).1
      cases hz : nextOf f tg ws (f last) with
      | none =>
        have e : cycGo f tg (n + 1) ws last = [] := by simp [cycGo, ht, hz]
        exact absurd e hne
      | some z =>
        have hgz : Good f tg ws z ∧ z ∈ f last := by
          unfold nextOf at hz
          exact ⟨by simpa using List.find?_some hz, List.mem_of_find?_eq_some hz⟩
        have e : cycGo f tg (n + 1) ws last = cycGo f tg n (ws ++ [z]) z := by simp [cycGo, ht, hz]
        rw [e] at hne ⊢
        refine go_ring n (ws ++ [z]) z (by rw [List.getElem?_append_left hwl]; exact h0) ?_ ?_ (by simp) hne
        · rw [List.nodup_append]
          refine ⟨hn, by simp, fun a ha b hb => ?_⟩
          obtain rfl := List.mem_singleton.1 hb
          rintro rfl
          exact hgz.1.1 ha
        · intro i a b ha hb
          rcases Nat.lt_or_ge (i + 1) ws.length with h | h
          · rw [List.getElem?_append_left (by omega)] at ha hb
            exact hl i a b ha hb
          · have hi : i < (ws ++ [z]).length - 1 := by
              have := (List.getElem?_eq_some_iff.1 hb).1
              omega
            simp at hi
            have hi1 : i = ws.length - 1 := by omega
            rw [List.getElem?_append_left (by omega), hi1, hlast] at ha
            rw [show i + 1 = ws.length by omega, List.getElem?_append_right (Nat.le_refl _)] at hb
            simp at ha hb
            rw [← ha, ← hb]
            exact hgz.2
theorem Ring.rch {f : Int → List Int} {tg : Int} {r : List Int} (h : Ring f tg r) : Rch f tg [tg] tg := by
  obtain ⟨last, hl, ht⟩ := h.back
  have h0 := h.head
  have hr0 := (List.getElem?_eq_some_iff.1 h0).1
  have key : ∀ k, k < r.length → ∀ a, r[r.length - 1 - k]? = some a → Rch f tg [tg] a := by
    intro k
    induction k with
    | zero =>
      intro _ a ha
      rw [Nat.sub_zero, hl] at ha
      cases ha
      exact .here ht
    | succ k ih =>
      intro hk a ha
      have hlt : r.length - 1 - k < r.length := by omega
      have hb := List.getElem?_eq_getElem hlt
      have e : r.length - 1 - (k + 1) + 1 = r.length - 1 - k := by omega
      refine .step (h.links _ a _ ha (by rw [e]; exact hb)) ?_ (ih (by omega) _ hb)
      intro hm
      have hm := List.mem_singleton.1 hm
      have hd := (List.getElem_inj (h₀ := hlt) (h₁ := hr0) h.nodup).1 (by
        rw [hm]
        have := List.getElem?_eq_getElem hr0
        rw [this] at h0
        simpa using h0.symm)
      omega
  exact key (r.length - 1) (by omega) tg (by rw [Nat.sub_self]; exact h0)
theorem cyc_ring {l : List (Int × Int)} {tg : Int} (h : cyc l tg ≠ []) : Ring (nx l) tg (cyc l tg) := by
  refine go_ring _ [tg] tg rfl (by simp) ?_ rfl h
  intro i a b _ hb
  simp at hb
theorem cyc_iff {l : List (Int × Int)} (hU : UE l) {tg : Int} : cyc l tg ≠ [] ↔ Rch (nx l) tg [] tg := by
  constructor
  · intro h
    exact (cyc_ring h).rch.mono (by simp)
  · intro h
    refine go_some (V := tos l) (fun x z hz => (nx_tos hU x z hz).1) _ [tg] tg (by simp) ?_ h.self
    have : unseen (tos l) [tg] ≤ (tos l).length := List.length_filter_le _ _
    omega
theorem mem_nx {l : List (Int × Int)} {a b : Int} : b ∈ nx l a ↔ (a, b) ∈ l := by
  rw [nx, mem_canon, grp, List.take_length]
  simp only [List.mem_map, List.mem_filter]
  constructor
  · rintro ⟨p, ⟨h1, h2⟩, rfl⟩
    have : p.1 = a := by simpa using h2
    rw [← this]
    exact h1
  · intro h
    exact ⟨(a, b), ⟨h, by simp⟩, rfl⟩
/-- What the ring is hangs on which edges there are. -/
theorem cyc_congr {l l' : List (Int × Int)} (h : ∀ p, p ∈ l ↔ p ∈ l') (tg : Int) : cyc l tg = cyc l' tg := by
  have e1 : nx l = nx l' := by
    funext x
    refine rising_eq (canon_rising _) (canon_rising _) fun z => ?_
    exact mem_nx.trans ((h _).trans mem_nx.symm)
  have e2 : tos l = tos l' := canon_congr fun z => by
    simp only [List.mem_map]
    constructor
    · rintro ⟨p, h1, h2⟩; exact ⟨p, (h p).1 h1, h2⟩
    · rintro ⟨p, h1, h2⟩; exact ⟨p, (h p).2 h1, h2⟩
  rw [cyc, cyc, e1, e2]
theorem cyc_U {l : List (Int × Int)} (hU : UE l) {tg : Int} (ht : U tg) : ∀ z ∈ cyc l tg, U z := by
  intro z hz
  have hne : cyc l tg ≠ [] := by rintro e; rw [e] at hz; simp at hz
  have hr := cyc_ring hne
  obtain ⟨i, hi, e⟩ := List.mem_iff_getElem.1 hz
  rcases i with _ | i
  · have := hr.head
    rw [List.getElem?_eq_getElem hi, e] at this
    cases this
    exact ht
  · have := hr.links i _ _ (List.getElem?_eq_getElem (by omega)) (List.getElem?_eq_getElem hi)
    rw [e] at this
    exact (hU _ (mem_nx.1 this)).2
theorem go_length {f : Int → List Int} {tg : Int} {V : List Int} {K : Nat} (hV : ∀ x z, z ∈ f x → z ∈ V) : ∀ (n : Nat) (ws : List Int) (last : Int), ws.length + unseen V ws ≤ K → (cycGo f tg n ws last).length ≤ K
  | 0, _, _, _ => by simp [cycGo]
  | n + 1, ws, last, h => by
    by_cases ht : tg ∈ f last
    · rw [cyc_here ht]; omega
    · cases hz : nextOf f tg ws (f last) with
      | none => simp [cycGo, ht, hz]
      | some z =>
        have hgz : Good f tg ws z ∧ z ∈ f last := by
          unfold nextOf at hz
          exact ⟨by simpa using List.find?_some hz, List.mem_of_find?_eq_some hz⟩
        have e : cycGo f tg (n + 1) ws last = cycGo f tg n (ws ++ [z]) z := by simp [cycGo, ht, hz]
        rw [e]
        have hul := unseen_lt (hV _ _ hgz.2) hgz.1.1
        have hul2 : unseen V (ws ++ [z]) ≤ unseen V (z :: ws) := unseen_mono fun x hx => by
          rcases List.mem_cons.1 hx with e | e <;> simp [e]
        exact go_length hV n _ z (by simp; omega)
theorem cyc_length {l : List (Int × Int)} (hU : UE l) {tg : Int} : (cyc l tg).length ≤ l.length + 1 := by
  refine go_length (V := tos l) (fun x z hz => (nx_tos hU x z hz).1) _ [tg] tg ?_
  have h1 : unseen (tos l) [tg] ≤ (tos l).length := List.length_filter_le _ _
  have h2 : (tos l).length ≤ l.length := Nat.le_trans (canon_length _) (by simp)
  simp
  omega
end Go.Proofs.Ytilknhackmccpaa

set_option linter.unusedVariables false
set_option linter.unusedSimpArgs false
namespace Go.Proofs.Ytilknhackmccpaa
open Go.ChangeShapes Go.WideShapes Go.ChangeAt Go.RowKit

section
variable {H : Type} {enc : TypeId × Value → H} {w : World} {base : Nat} {spare : Nat → Bool} {held : Bool}
theorem one_int {t : TypeId} {k : IntKind} {n : Nat} {cs : List Value} {x : Option (DataW H × List MemPlace)} (ht : Try.prog.underlying t = some (.int k)) (hc : Try.prog.cellsOf t = 1) {i : Nat}
    (h : DataW.trod enc Try.prog w base spare held n t ((cs.drop i).take (Try.prog.cellsOf t)) = x) (hx : x.isSome = true) : ∃ a, cs[i]? = some (.int k a) ∧ (Lit.int k a).wf = true := by
  obtain ⟨y, hy⟩ := Option.isSome_iff_exists.1 hx
  rw [hy] at h
  obtain ⟨a, h1, _, h2⟩ := DataW.trod_int ht h
  rw [hc] at h1
  refine ⟨a, ?_, h2⟩
  have := congrArg (fun l => l[0]?) h1
  simpa [List.getElem?_take, List.getElem?_drop] using this
theorem getElem?_isSome {α : Type} {l : List α} {i n : Nat} (h : l.length = n) (hi : i < n) : (l[i]?).isSome = true := by simp [h, hi]
theorem open_edge {fuel : Nat} {cs : List Value} {x : DataW H × List MemPlace} (h : DataW.trod enc Try.prog w base spare held fuel 35 cs = some x) :
    ∃ p : Int × Int, (U p.1 ∧ U p.2) ∧ cs = [.int .u32 p.1, .int .u32 p.2] := by
  obtain ⟨xs, n, _, _, hl, hx, hf⟩ := DataW.trod_struct Try.underlying35 h
  have hl7 : cs.length = 2 := hl.trans (by kernel_rfl)
  have hx7 : xs.length = 2 := hx
  have e22 : Try.prog.cellsOf 23 = 1 := by kernel_rfl
  obtain ⟨a0, g0, w0⟩ := one_int (i := 0) Try.underlying23 e22 (hf 0 _ rfl) (getElem?_isSome hx7 (by omega))
  obtain ⟨a1, g1, w1⟩ := one_int (i := 1) Try.underlying23 e22 (hf 1 _ rfl) (getElem?_isSome hx7 (by omega))
  refine ⟨(a0, a1), ⟨U.of w0, U.of w1⟩, List.ext_getElem? fun i => ?_⟩
  match i with
  | 0 => exact g0
  | 1 => exact g1
  | i + 2 => rw [List.getElem?_eq_none (by omega), List.getElem?_eq_none (by simp)]

/-- A slice of edges. -/
def EdgesIn (w : World) (v : Value) (l : List (Int × Int)) : Prop := ∃ a cap, v = .slice a l.length cap ∧ Edg w a l ∧ UE l
/-- A slice of numbers. -/
def NumsIn (w : World) (v : Value) (l : List Int) : Prop := ∃ a cap, v = .slice a l.length cap ∧ Nums w a l ∧ ∀ z ∈ l, U z
theorem list_of {α : Type} (f : Nat → α) (n : Nat) : ∃ l : List α, l.length = n ∧ ∀ i (h : i < l.length), l[i] = f i :=
  ⟨(List.range n).map f, by simp, fun i h => by simp⟩
theorem open_edges {fuel : Nat} {v : Value} {x : DataW H × List MemPlace} (hv : ∃ a l c, v = .slice a l c) (h : DataW.trod enc Try.prog w 0 (fun _ => true) held fuel 22 v.cells.toList = some x) :
    ∃ l, EdgesIn w v l := by
  obtain ⟨a, l, c, rfl⟩ := hv
  have e49 : Try.prog.cellsOf 35 = 2 := by kernel_rfl
  rcases Go.Deep.open_slice Try.underlying22 h with ⟨hcs, _⟩ | ⟨a', l', c', m, n, D, Pl, hcs, _, hl, hm, hmm, _, hel⟩
  · simp [Value.cells] at hcs
    obtain ⟨rfl, rfl, rfl⟩ := hcs
    exact ⟨[], none, 0, rfl, fun h => absurd rfl h, by simp [UE]⟩
  · simp [Value.cells] at hcs
    obtain ⟨rfl, rfl, rfl⟩ := hcs
    by_cases h0 : l = 0
    · subst h0
      exact ⟨[], some a', c, rfl, fun h => absurd rfl h, by simp [UE]⟩
    · have hm' : m = c := by simpa using hmm
      have key : ∀ i, i < l → ∃ p : Int × Int, (U p.1 ∧ U p.2) ∧ w.cell? ((a'.add (i * 2)).add 0) = some (.int .u32 p.1) ∧ w.cell? ((a'.add (i * 2)).add 1) = some (.int .u32 p.2) := by
        intro i hi
        obtain ⟨cs', h1, h2⟩ := hel i (by omega)
        rw [e49] at h1
        obtain ⟨_, hlen, hcell⟩ := World.cells?_some h1
        obtain ⟨p, hok, rfl⟩ := open_edge h2
        exact ⟨p, hok, by rw [hcell 0 (by omega)]; rfl, by rw [hcell 1 (by omega)]; rfl⟩
      obtain ⟨f, hf⟩ := Go.Deep.choose_lt (p := fun i (p : Int × Int) => (U p.1 ∧ U p.2) ∧ w.cell? ((a'.add (i * 2)).add 0) = some (.int .u32 p.1) ∧ w.cell? ((a'.add (i * 2)).add 1) = some (.int .u32 p.2)) key
      have hc0 := (hf 0 (by omega)).2.1
      have hlt := World.block_lt_of_cell? _ _ hc0
      have hs := World.cell?_spot hc0
      obtain ⟨b, off, spot⟩ := a'
      have hspot : spot = none := by simpa [Addr.add] using hs
      subst hspot
      obtain ⟨L, hL, hLf⟩ := list_of f l
      refine ⟨L, some ⟨b, off, none⟩, c, by rw [hL], fun _ => ⟨b, off, rfl, by simpa [Addr.add] using hlt, fun i hi => ?_⟩, fun p hp => ?_⟩
      · have h1 := hf i (by omega)
        have h2 : L.getD i (0, 0) = f i := by rw [List.getD_eq_getElem?_getD, List.getElem?_eq_getElem hi]; exact hLf i hi
        rw [h2]
        have h3 := h1.2
        rw [Addr.add_lit, Addr.add_lit, Addr.add_lit] at h3
        exact h3
      · obtain ⟨i, hi, e⟩ := List.mem_iff_getElem.1 hp
        rw [← e, hLf i hi]
        exact (hf i (by omega)).1
theorem open_nums {fuel : Nat} {v : Value} {x : DataW H × List MemPlace} (hv : ∃ a l c, v = .slice a l c) (h : DataW.trod enc Try.prog w 0 (fun _ => true) held fuel 24 v.cells.toList = some x) :
    ∃ l, NumsIn w v l := by
  obtain ⟨a, l, c, rfl⟩ := hv
  have e49 : Try.prog.cellsOf 23 = 1 := by kernel_rfl
  rcases Go.Deep.open_slice Try.underlying24 h with ⟨hcs, _⟩ | ⟨a', l', c', m, n, D, Pl, hcs, _, hl, hm, hmm, _, hel⟩
  · simp [Value.cells] at hcs
    obtain ⟨rfl, rfl, rfl⟩ := hcs
    exact ⟨[], none, 0, rfl, fun h => absurd rfl h, by simp⟩
  · simp [Value.cells] at hcs
    obtain ⟨rfl, rfl, rfl⟩ := hcs
    by_cases h0 : l = 0
    · subst h0
      exact ⟨[], some a', c, rfl, fun h => absurd rfl h, by simp⟩
    · have hm' : m = c := by simpa using hmm
      have key : ∀ i, i < l → ∃ p : Int, U p ∧ w.cell? ((a'.add (i * 1)).add 0) = some (.int .u32 p) := by
        intro i hi
        obtain ⟨cs', h1, h2⟩ := hel i (by omega)
        rw [e49] at h1
        obtain ⟨_, hlen, hcell⟩ := World.cells?_some h1
        obtain ⟨p, g1, _, g2⟩ := DataW.trod_int Try.underlying23 h2
        refine ⟨p, U.of g2, ?_⟩
        rw [hcell 0 (by omega), g1]
        rfl
      obtain ⟨f, hf⟩ := Go.Deep.choose_lt (p := fun i (p : Int) => U p ∧ w.cell? ((a'.add (i * 1)).add 0) = some (.int .u32 p)) key
      have hc0 := (hf 0 (by omega)).2
      have hlt := World.block_lt_of_cell? _ _ hc0
      have hs := World.cell?_spot hc0
      obtain ⟨b, off, spot⟩ := a'
      have hspot : spot = none := by simpa [Addr.add] using hs
      subst hspot
      obtain ⟨L, hL, hLf⟩ := list_of f l
      refine ⟨L, some ⟨b, off, none⟩, c, by rw [hL], fun _ => ⟨b, off, rfl, by simpa [Addr.add] using hlt, fun i hi => ?_⟩, fun p hp => ?_⟩
      · have h1 := hf i (by omega)
        have h2 : L.getD i 0 = f i := by rw [List.getD_eq_getElem?_getD, List.getElem?_eq_getElem hi]; exact hLf i hi
        rw [h2]
        have h3 := h1.2
        rw [Addr.add_lit, Addr.add_lit, Nat.mul_one] at h3
        exact h3
      · obtain ⟨i, hi, e⟩ := List.mem_iff_getElem.1 hp
        rw [← e, hLf i hi]
        exact (hf i (by omega)).1
end
end Go.Proofs.Ytilknhackmccpaa

set_option linter.unusedVariables false
set_option linter.unusedSimpArgs false
namespace Go.Proofs.Ytilknhackmccpaa
open Go.RowKit Go.Sort Go.Maps Go.ChangeMaps Go.MapKept Go.ChangeShapes

def exL : List (Int × Int) := [(1, 3), (1, 2), (2, 1), (3, 1)]
theorem exU : UE exL := by
  intro p hp
  simp only [exL, List.mem_cons, List.not_mem_nil, or_false] at hp
  rcases hp with rfl | rfl | rfl | rfl <;> exact ⟨by unfold U; omega, by unfold U; omega⟩
theorem ex1 : cyc exL 1 = [1, 2] := by
  have e1 : nx exL 1 = [2, 3] := by decide
  have e2 : nx exL 2 = [1] := by decide
  have e3 : (tos exL).length + 2 = 3 + 1 + 1 := by decide
  rw [cyc, e3, cyc_step (k := 0) (by rw [e1]; decide) (by rw [e1]; decide) (by
    rw [e1]
    exact ⟨by decide, .here (by rw [show ([2, 3] : List Int).getD 0 0 = 2 from rfl, e2]; decide)⟩) (fun i hi => absurd hi (Nat.not_lt_zero _)), e1]
  exact cyc_here (by rw [show ([2, 3] : List Int).getD 0 0 = 2 from rfl, e2]; decide)
theorem ex2 : cyc exL 4 = [] := by
  have e1 : nx exL 4 = [] := by decide
  have e3 : (tos exL).length + 2 = 3 + 1 + 1 := by decide
  rw [cyc, e3]
  exact cyc_none (by rw [e1]; simp) (fun i hi => by rw [e1] at hi; simp at hi)
theorem ex3 : cyc [(5, 5)] 5 = [5] := by
  have e1 : nx [(5, 5)] 5 = [5] := by decide
  have e3 : (tos [(5, 5)]).length + 2 = 1 + 1 + 1 := by decide
  rw [cyc, e3]
  exact cyc_here (by rw [e1]; simp)
/-- Edges that lie in a block of their own. -/
theorem edg_block {w : World} {B : Nat} {cs : Array Value} {ty : TypeId} {fr : Nat × Nat} {l : List (Int × Int)} (h : w.heap[B]? = some (.cells cs ty fr))
    (hc : ∀ i, i < l.length → cs[i * 2]? = some (.int .u32 (l.getD i (0, 0)).1) ∧ cs[i * 2 + 1]? = some (.int .u32 (l.getD i (0, 0)).2)) : Edg w (some ⟨B, 0, none⟩) l := by
  intro _
  refine ⟨B, 0, rfl, (Array.getElem?_eq_some_iff.1 h).1, fun i hi => ?_⟩
  obtain ⟨h1, h2⟩ := hc i hi
  rw [cell_of_row w B _ _ ty fr h, cell_of_row w B _ _ ty fr h, Nat.zero_add]
  exact ⟨h1, h2⟩
theorem Edg.keep {w w' : World} {a : Option Addr} {l : List (Int × Int)} {B : Nat} (h : Edg w a l) (hb : Below B w w') (hB : w.heap.size ≤ B) : Edg w' a l := by
  intro hne
  obtain ⟨eb, off, h1, h2, h3⟩ := h hne
  exact ⟨eb, off, h1, Nat.lt_of_lt_of_le h2 hb.size, fun i hi => ⟨(hb.cell (Nat.lt_of_lt_of_le h2 hB)).trans (h3 i hi).1, (hb.cell (Nat.lt_of_lt_of_le h2 hB)).trans (h3 i hi).2⟩⟩
theorem Nums.keep {w w' : World} {a : Option Addr} {l : List Int} {B : Nat} (h : Nums w a l) (hb : Below B w w') (hB : w.heap.size ≤ B) : Nums w' a l := by
  intro hne
  obtain ⟨eb, off, h1, h2, h3⟩ := h hne
  exact ⟨eb, off, h1, Nat.lt_of_lt_of_le h2 hb.size, fun i hi => (hb.cell (Nat.lt_of_lt_of_le h2 hB)).trans (h3 i hi)⟩

theorem grew {w w' : World} (b : Below w.heap.size w w') : w.grownBy w' none := ⟨b.os, b.tape, b.output, b.size, fun i hi _ => b.block i hi⟩
theorem own_keep {w w' : World} {base : Nat} {v : Value} {zs : List Int} (h : w.ownsInts base 23 .u32 v zs) (b : Below w.heap.size w w') : w'.ownsInts base 23 .u32 v zs := h.kept (grew b) (by cases v.ownBlock <;> simp)
set_option maxRecDepth 100000 in
set_option maxHeartbeats 4000000 in
theorem known_u (w : World) : Calls Try.prog 14 #[] w fun e w' => e = .returned (.bool true) ∧ Below w.heap.size w w' := by
  obtain ⟨N, hN⟩ : ∃ N, w.heap.size = N := ⟨_, rfl⟩
  have k1 := heap_at w (.cells #[.int .u32 1, .int .u32 3, .int .u32 1, .int .u32 2, .int .u32 2, .int .u32 1, .int .u32 3, .int .u32 1] 35) hN.symm
  have b1 := below_alloc w (.cells #[.int .u32 1, .int .u32 3, .int .u32 1, .int .u32 2, .int .u32 2, .int .u32 1, .int .u32 3, .int .u32 1] 35)
  obtain ⟨w1, hw1⟩ : ∃ x, w.alloc (.cells #[.int .u32 1, .int .u32 3, .int .u32 1, .int .u32 2, .int .u32 2, .int .u32 1, .int .u32 3, .int .u32 1] 35) = x := ⟨_, rfl⟩
  have hE : Edg w1 (some ⟨N, 0, none⟩) exL := by
    rw [hw1] at k1
    refine edg_block k1 fun i hi => ?_
    have : i = 0 ∨ i = 1 ∨ i = 2 ∨ i = 3 := by simp [exL] at hi; omega
    rcases this with rfl | rfl | rfl | rfl <;> exact ⟨rfl, rfl⟩
  rw [hw1] at b1 k1
  have C1 := cycle_u (some ⟨N, 0, none⟩) 4 4 exL 1 w1 hE exU rfl (by omega) (by unfold U; omega)
  rw [ex1] at C1
  go_enter Try.func14, Try.ntmps14
  go_upto_region 3 with (go_at_call 15; refine C1.mono ?_; rintro e w2 ⟨va, rfl, ho2, b2⟩)
  have C2 := cycle_u (some ⟨N, 0, none⟩) 4 4 exL 4 w2 (hE.keep b2 (Nat.le_refl _)) exU rfl (by omega) (by unfold U; omega)
  rw [ex2] at C2
  clear C1
  go_upto_region 4 with (go_at_call 15; refine C2.mono ?_; rintro e w3 ⟨vb, rfl, ho3, b3⟩)
  clear C2
  have k4 := heap_alloc_new w3 (.cells #[.int .u32 5, .int .u32 5] 35)
  have b4 := below_alloc w3 (.cells #[.int .u32 5, .int .u32 5] 35)
  obtain ⟨w4, hw4⟩ : ∃ x, w3.alloc (.cells #[.int .u32 5, .int .u32 5] 35) = x := ⟨_, rfl⟩
  rw [hw4] at k4 b4
  have hE4 : Edg w4 (some ⟨w3.heap.size, 0, none⟩) [(5, 5)] := edg_block k4 fun i hi => by
    have : i = 0 := by simpa using hi
    subst this
    exact ⟨rfl, rfl⟩
  have C3 := cycle_u (some ⟨w3.heap.size, 0, none⟩) 1 1 [(5, 5)] 5 w4 hE4 (by intro p hp; simp at hp; subst hp; exact ⟨by unfold U; omega, by unfold U; omega⟩) rfl (by omega) (by unfold U; omega)
  rw [ex3] at C3
  go_upto_region 5 with (go_at_call 15; refine C3.mono ?_; rintro e w5 ⟨vc, rfl, ho5, b5⟩)
  have oa := own_keep (own_keep (own_keep ho2 b3) b4) b5
  have ob := own_keep (own_keep ho3 b4) b5
  have bw : Below N w w5 := by
    rw [hN] at b1
    have s1 := b1.size
    have s2 := b2.size
    have s3 := b3.size
    have s4 := b4.size
    exact (((b1.trans (b2.mono (by omega))).trans (b3.mono (by omega))).trans (b4.mono (by omega))).trans (b5.mono (by omega))
  obtain ⟨aa, ca, rfl, hna⟩ := own_nums oa
  obtain ⟨eb, off, rfl, _, hcl⟩ := hna (by simp)
  have c0 : w5.cell? ⟨eb, off, none⟩ = some (.int .u32 1) := hcl 0 (by simp)
  have c1 : w5.cell? ⟨eb, off + 1, none⟩ = some (.int .u32 2) := hcl 1 (by simp)
  obtain ⟨ab, cb, rfl, _⟩ := own_nums ob
  obtain ⟨ac, cc, rfl, _⟩ := own_nums ho5
  have hV := victim_u (some ⟨eb, off, none⟩) 2 ca [1, 2] w5 (fun _ => ⟨eb, off, rfl, by assumption, hcl⟩) rfl (by omega) (by intro z hz; simp at hz; unfold U; omega)
  rw [show maxL [1, 2] = 2 from rfl] at hV
  clear hcl hna C3
  replace hN := Lib.hid hN
  go_wp2_with (go_at_call 17; refine hV.mono ?_; intro e w' h; rw [h.1, h.2]; clear h w' e)
  go_ret
  exact ⟨rfl, by rw [hN.out]; exact bw⟩
end Go.Proofs.Ytilknhackmccpaa

set_option linter.unusedVariables false
set_option linter.unusedSimpArgs false
namespace Go.Proofs.Ytilknhackmccpaa
open Go.RowKit Go.Sort Go.Maps Go.ChangeMaps Go.MapKept Go.ChangeShapes

theorem drewN_drewN (w : World) (p q : Nat) : (w.drewN p).drewN q = w.drewN (p + q) := by
  simp [World.drewN, Nat.add_assoc]
theorem eq_of_getD {a b : List Int} (hl : a.length = b.length) (h : ∀ i, i < a.length → a.getD i 0 = b.getD i 0) : a = b := by
  apply List.ext_getElem hl
  intro i h1 h2
  have := h i h1
  simpa [List.getD_eq_getElem?_getD, List.getElem?_eq_getElem h1, List.getElem?_eq_getElem h2] using this

set_option maxRecDepth 100000 in
set_option maxHeartbeats 4000000 in
theorem same_u (a1 a2 : Option Addr) (n1 c1 n2 c2 : Nat) (l1 l2 : List Int) (w : World) (h1 : Nums w a1 l1) (h2 : Nums w a2 l2) (e1 : l1.length = n1) (e2 : l2.length = n2) (hb1 : n1 < 4294967296) (hb2 : n2 < 4294967296) :
    Calls Try.prog 19 #[.slice a1 n1 c1, .slice a2 n2 c2] w fun e w' => e = .returned (.bool (decide (l1 = l2))) ∧ ∃ q, w' = w.drewN q := by
  by_cases hn : n1 = n2
  · subst hn
    go_enter Try.func19, Try.ntmps19
    go_wp2
    go_loopw [5] (fun vi wr => ∃ i q : Nat, vi = .int .i64 i ∧ i ≤ n1 ∧ wr = w.drewN q ∧ Hid (∀ j, j < i → l1.getD j 0 = l2.getD j 0)) (fun vi _ => n1 - (intOf vi).toNat)
    case atStart => exact ⟨0, 0, rfl, Nat.zero_le _, rfl, Lib.hid fun j hj => absurd hj (Nat.not_lt_zero _)⟩
    case round =>
      obtain ⟨i, q, rfl, hi, hwr, hE⟩ := hrel
      by_cases hlt : i < n1
      · obtain ⟨b1, o1, rfl, _, k1⟩ := h1 (by rintro rfl; simp at e1; omega)
        obtain ⟨b2, o2, rfl, _, k2⟩ := h2 (by rintro rfl; simp at e2; omega)
        obtain ⟨x, hx⟩ : ∃ x, l1.getD i 0 = x := ⟨_, rfl⟩
        obtain ⟨y, hy⟩ : ∃ x, l2.getD i 0 = x := ⟨_, rfl⟩
        have d1 : wr.cell? ⟨b1, o1 + i, none⟩ = some (.int .u32 x) := by rw [hwr, ← hx]; exact k1 i (by omega)
        have d2 : wr.cell? ⟨b2, o2 + i, none⟩ = some (.int .u32 y) := by rw [hwr, ← hy]; exact k2 i (by omega)
        replace hwr := Lib.hid hwr
        have hlti : (i : Int) < (n1 : Int) := by omega
        go_wp2
        first | go_quiet (first | fail) | fail
        obtain ⟨w1, hw1⟩ : ∃ w1, w1 = wr.drewN nq := ⟨_, rfl⟩
        rw [← hw1]
        have hww : w1 = w.drewN (q + nq) := by rw [hw1, hwr.out, drewN_drewN]
        replace hww := Lib.hid hww
        clear hw1
        go_wp2
        · have hne : (x != y) = true := by assumption
          go_ret
          refine ⟨?_, _, hww.out⟩
          have : l1 ≠ l2 := by
            rintro rfl
            rw [hx] at hy
            subst hy
            simp at hne
          rw [show decide (l1 = l2) = false by simpa using this]
          rfl
        · have hne : (x != y) = false := by assumption
          refine ⟨⟨i + 1, _, by go_num, by omega, hww.out, Lib.hid fun j hj => ?_⟩, by simp [intOf]; omega⟩
          rcases Nat.lt_or_ge j i with h | h
          · exact hE.out j h
          · have : j = i := by omega
            rw [this, hx, hy]
            simpa using hne
      · have : i = n1 := by omega
        subst this
        replace hwr := Lib.hid hwr
        go_wp2
        go_ret
        refine ⟨?_, q, hwr.out⟩
        have : l1 = l2 := eq_of_getD (by omega) fun j hj => hE.out j (by omega)
        rw [show decide (l1 = l2) = true by simpa using this]
        rfl
  · have hni : ((n1 : Int) != (n2 : Int)) = true := by simp; omega
    go_enter Try.func19, Try.ntmps19
    go_wp2
    go_ret
    refine ⟨?_, 0, rfl⟩
    rw [show decide (l1 = l2) = false by simp; rintro rfl; omega]
    rfl

set_option maxRecDepth 100000 in
set_option maxHeartbeats 4000000 in
theorem edge_u (a : Option Addr) (n cap : Nat) (l : List (Int × Int)) (x y : Int) (w : World) (hE : Edg w a l) (hn : l.length = n) (hb : n < 4294967296) :
    Calls Try.prog 21 #[.slice a n cap, .int .u32 x, .int .u32 y] w fun e w' => e = .returned (.bool (decide ((x, y) ∈ l))) ∧ w' = w := by
  go_enter Try.func21, Try.ntmps21
  go_wp2
  go_loopw [7] (fun vi wr => ∃ i : Nat, vi = .int .i64 i ∧ i ≤ n ∧ wr = w ∧ Hid (∀ j, j < i → l.getD j (0, 0) ≠ (x, y))) (fun vi _ => n - (intOf vi).toNat)
  case atStart => exact ⟨0, rfl, Nat.zero_le _, rfl, Lib.hid fun j hj => absurd hj (Nat.not_lt_zero _)⟩
  case round =>
    obtain ⟨i, rfl, hi, rfl, hN⟩ := hrel
    by_cases hlt : i < n
    · obtain ⟨eb, off, rfl, _, hc⟩ := hE (by rintro rfl; simp at hn; omega)
      obtain ⟨p, hp⟩ : ∃ p, l.getD i (0, 0) = p := ⟨_, rfl⟩
      obtain ⟨c1, c2⟩ := hc i (by omega)
      rw [hp] at c1 c2
      have hpl : p ∈ l := by
        rw [← hp]
        have : l.getD i (0, 0) = l[i]'(by omega) := by simp [List.getD_eq_getElem?_getD, List.getElem?_eq_getElem (show i < l.length by omega)]
        rw [this]
        exact List.getElem_mem _
      obtain ⟨f, t⟩ := p
      clear hc
      replace hp := Lib.hid hp
      replace hpl := Lib.hid hpl
      go_wp2
      · have e1 : f = x := by assumption
        have e2 : (t == y) = true := by assumption
        have e3 : t = y := by simpa using e2
        go_ret
        refine ⟨?_, rfl⟩
        have : (x, y) ∈ l := by
          have := hpl.out
          rw [e1, e3] at this
          exact this
        rw [show decide ((x, y) ∈ l) = true by simpa using this]
        rfl
      · have e2 : (t == y) = false := by assumption
        refine ⟨⟨i + 1, by go_num, by omega, trivial, Lib.hid fun j hj => ?_⟩, by simp [intOf]; omega⟩
        rcases Nat.lt_or_ge j i with h | h
        · exact hN.out j h
        · have : j = i := by omega
          rw [this, hp.out]
          intro e
          simp only [Prod.mk.injEq] at e
          rw [e.2] at e2
          simp at e2
      · have e1 : ¬ f = x := by assumption
        refine ⟨⟨i + 1, by go_num, by omega, trivial, Lib.hid fun j hj => ?_⟩, by simp [intOf]; omega⟩
        rcases Nat.lt_or_ge j i with h | h
        · exact hN.out j h
        · have : j = i := by omega
          rw [this, hp.out]
          intro e
          simp only [Prod.mk.injEq] at e
          exact e1 e.1
    · have : i = n := by omega
      subst this
      go_wp2
      go_ret
      refine ⟨?_, rfl⟩
      have : (x, y) ∉ l := fun h => by
        obtain ⟨j, hj, e⟩ := List.mem_iff_getElem.1 h
        refine hN.out j (by omega) ?_
        rw [List.getD_eq_getElem?_getD, List.getElem?_eq_getElem hj]
        exact e
      rw [show decide ((x, y) ∈ l) = false by simpa using this]
      rfl
end Go.Proofs.Ytilknhackmccpaa

set_option linter.unusedVariables false
set_option linter.unusedSimpArgs false
namespace Go.Proofs.Ytilknhackmccpaa
open Go.RowKit Go.Sort Go.Maps Go.ChangeMaps Go.MapKept Go.ChangeShapes

theorem Nums.at {w : World} {a : Option Addr} {l : List Int} (h : Nums w a l) {i : Nat} (hi : i < l.length) : ∃ eb off, a = some ⟨eb, off, none⟩ ∧ ∀ i, i < l.length → w.cell? ⟨eb, off + i, none⟩ = some (.int .u32 (l.getD i 0)) := by
  obtain ⟨eb, off, h1, _, h3⟩ := h (by rintro rfl; simp at hi)
  exact ⟨eb, off, h1, h3⟩
theorem getD_getElem? {l : List Int} {i : Nat} (h : i < l.length) : l[i]? = some (l.getD i 0) := by
  simp [List.getD_eq_getElem?_getD, List.getElem?_eq_getElem h]
theorem Ring.ne {f : Int → List Int} {tg : Int} {r : List Int} (h : Ring f tg r) {i k : Nat} (hi : i < r.length) (hk : k < i) : r.getD i 0 ≠ r.getD k 0 := by
  intro e
  have h1 := getD_getElem? hi
  have h2 := getD_getElem? (show k < r.length by omega)
  rw [e, ← h2] at h1
  rw [List.getElem?_eq_getElem hi, List.getElem?_eq_getElem (show k < r.length by omega)] at h1
  have := (List.getElem_inj (h₀ := hi) (h₁ := show k < r.length by omega) h.nodup).1 (by simpa using h1)
  omega
theorem Ring.next {l : List (Int × Int)} {tg : Int} {r : List Int} (h : Ring (nx l) tg r) {i : Nat} (hi : i < r.length) : (r.getD i 0, r.getD ((i + 1) % r.length) 0) ∈ l := by
  rcases Nat.lt_or_ge (i + 1) r.length with h1 | h1
  · rw [Nat.mod_eq_of_lt h1]
    exact mem_nx.1 (h.links i _ _ (getD_getElem? hi) (getD_getElem? h1))
  · have : i + 1 = r.length := by omega
    rw [this, Nat.mod_self]
    obtain ⟨last, h2, h3⟩ := h.back
    have h4 := getD_getElem? hi
    rw [show i = r.length - 1 by omega] at h4 ⊢
    rw [h2] at h4
    have h5 := h.head
    rw [getD_getElem? (show 0 < r.length by omega)] at h5
    cases h4
    cases h5
    exact mem_nx.1 h3

set_option maxRecDepth 100000 in
set_option maxHeartbeats 4000000 in
theorem rings_walk (w : World) (l : List (Int × Int)) (v : Value) (hv : EdgesIn w v l) (tg : Int) (t1 : 0 ≤ tg) (t2 : tg ≤ 4294967295) :
    Calls Try.prog 4 #[v, .int .u32 tg] w fun e w' => e = .returned (.bool true) ∧ Below w.heap.size w w' := by
  obtain ⟨a, cap, rfl, hE, hU⟩ := hv
  obtain ⟨n, hn⟩ : ∃ n, l.length = n := ⟨_, rfl⟩
  rw [hn]
  have htg : U tg := ⟨t1, t2⟩
  by_cases h40 : 40 < n
  · have h40i : (40 : Int) < (n : Int) := by omega
    have hK := known_u w
    go_enter Try.func4, Try.ntmps4
    go_wp2_with (go_at_call 14; refine hK.mono ?_; rintro e w1 ⟨rfl, b1⟩)
    go_ret
    exact ⟨rfl, b1⟩
  · have h40i : ¬ (40 : Int) < (n : Int) := by omega
    have hK := known_u w
    obtain ⟨N, hN⟩ : ∃ N, w.heap.size = N := ⟨_, rfl⟩
    go_enter Try.func4, Try.ntmps4
    go_upto_region 3 with (go_at_call 14; refine hK.mono ?_; rintro e w1 ⟨rfl, b1⟩)
    have hE1 := hE.keep b1 (Nat.le_refl _)
    have hC := cycle_u a n cap l tg w1 hE1 hU hn (by omega) htg
    clear hK
    go_upto_region 4 with (go_at_call 15; refine hC.mono ?_; rintro e w2 ⟨vr, rfl, ho, b2⟩)
    have hE2 := hE1.keep b2 (Nat.le_refl _)
    have bb : Below w.heap.size w w2 := b1.trans (b2.mono b1.size)
    have hlen := cyc_length hU (tg := tg)
    have hring := cyc_ring (l := l) (tg := tg)
    obtain ⟨r, hr⟩ : ∃ r, cyc l tg = r := ⟨_, rfl⟩
    rw [hr] at ho hlen hring
    obtain ⟨ar, cr, rfl, hNr⟩ := own_nums ho
    obtain ⟨L, hL⟩ : ∃ L, r.length = L := ⟨_, rfl⟩
    rw [hL]
    clear hC ho hE1 b1 b2 hr
    by_cases h0 : L = 0
    · subst h0
      go_wp2
      go_ret
      exact ⟨rfl, bb⟩
    · have h0i : ((L : Int) == 0) = false := by simp; omega
      have hR := Lib.hid (hring (by rintro rfl; simp at hL; omega))
      obtain ⟨eb, off, rfl, hc⟩ := hNr.at (i := 0) (by omega)
      rw [hL] at hc hlen
      clear hring hNr
      replace hL := Lib.hid hL
      go_wp2
      go_loopw [6, 7] (fun vi _ wr => ∃ i q : Nat, vi = .int .i64 i ∧ i ≤ L ∧ Hid (wr = w2.drewN q)) (fun vi _ _ => L - (intOf vi).toNat)
      case atStart => exact ⟨0, 0, rfl, Nat.zero_le _, Lib.hid rfl⟩
      case round =>
        obtain ⟨i, q, rfl, hi, hq⟩ := hrel
        by_cases hlt : i < L
        · have hlti : (i : Int) < (L : Int) := by omega
          go_wp2
          go_loopw [7] (fun vk wk => ∃ k q : Nat, vk = .int .i64 k ∧ k ≤ i ∧ Hid (wk = w2.drewN q)) (fun vk _ => i - (intOf vk).toNat)
          case atStart => exact ⟨0, q, rfl, Nat.zero_le _, hq⟩
          case round =>
            obtain ⟨k, q2, rfl, hk, hq2⟩ := hrel
            obtain ⟨x, hx⟩ : ∃ x, r.getD i 0 = x := ⟨_, rfl⟩
            have cx : wr.cell? ⟨eb, off + i, none⟩ = some (.int .u32 x) := by rw [hq2.out, ← hx]; exact hc i hlt
            by_cases hki : k < i
            · have hkii : (k : Int) < (i : Int) := by omega
              have hkL : (k : Int) < (L : Int) := by omega
              obtain ⟨y, hy⟩ : ∃ x, r.getD k 0 = x := ⟨_, rfl⟩
              have cy : wr.cell? ⟨eb, off + k, none⟩ = some (.int .u32 y) := by rw [hq2.out, ← hy]; exact hc k (by omega)
              have hxy : (x == y) = false := by
                have := hR.out.ne (i := i) (k := k) (by rw [hL.out]; exact hlt) hki
                rw [hx, hy] at this
                simpa using this
              go_wp2
              first | go_quiet (first | fail) | fail
              obtain ⟨w3, hw3⟩ : ∃ w1, w1 = wr.drewN nq := ⟨_, rfl⟩
              rw [← hw3]
              have hww : Hid (w3 = w2.drewN (q2 + nq)) := Lib.hid (by rw [hw3, hq2.out, drewN_drewN])
              clear hw3
              go_wp2
              go_roundw
              case rel => exact ⟨k + 1, _, by go_num, by omega, hww⟩
              case measure => simp [intOf]; omega
            · have : k = i := by omega
              subst this
              obtain ⟨j, hj⟩ : ∃ j, (k + 1) % L = j := ⟨_, rfl⟩
              have hjL : j < L := by rw [← hj]; exact Nat.mod_lt _ (by omega)
              obtain ⟨m, hm⟩ : ∃ m, k + 1 = m := ⟨_, rfl⟩
              have hmi : (k : Int) + 1 = (m : Int) := by omega
              have hjm : (m : Int).tmod (L : Int) = (j : Int) := by
                rw [Int.tmod_eq_emod_of_nonneg (by omega), ← Int.natCast_emod, ← hj, hm]
              have hLne : ((L : Int) == 0) = false := h0i
              obtain ⟨y, hy⟩ : ∃ x, r.getD j 0 = x := ⟨_, rfl⟩
              have cy : wr.cell? ⟨eb, off + j, none⟩ = some (.int .u32 y) := by rw [hq2.out, ← hy]; exact hc j (by omega)
              have hed : decide ((x, y) ∈ l) = true := by
                have := hR.out.next (i := k) (by rw [hL.out]; exact hlt)
                rw [hL.out, hj, hx, hy] at this
                simpa using this
              have hEk : Edg wr a l := by rw [hq2.out]; exact hE2
              have hjLi : (j : Int) < (L : Int) := by omega
              have hed2 := edge_u a n cap l x y
              rw [hed] at hed2
              replace hj := Lib.hid hj
              replace hm := Lib.hid hm
              go_wp2
              first | go_quiet (first | (go_at_call 21; refine Calls.quiet_of_same (hed2 _ hEk hn (by omega)))) | fail
              obtain ⟨w3, hw3⟩ : ∃ w1, w1 = wr.drewN nq := ⟨_, rfl⟩
              rw [← hw3]
              have hww : Hid (w3 = w2.drewN (q2 + nq)) := Lib.hid (by rw [hw3, hq2.out, drewN_drewN])
              clear hw3
              go_wp2
              go_roundw
              case rel => exact ⟨k + 1, _, by go_num, by omega, hww⟩
              case measure => simp [intOf]; omega
        · have hiL : i = L := by omega
          have c0 : wr.cell? ⟨eb, off, none⟩ = some (.int .u32 tg) := by
            rw [hq.out]
            have h1 := hR.out.head
            rw [getD_getElem? (by rw [hL.out]; omega)] at h1
            have h2 := hc 0 (by omega)
            cases h1
            exact h2
          have hL1 : (0 : Int) < (L : Int) := by omega
          go_wp2
          go_ret
          exact ⟨by simp, by rw [hq.out]; exact ⟨bb.os, bb.tape, bb.output, bb.size, bb.block⟩⟩
end Go.Proofs.Ytilknhackmccpaa

set_option linter.unusedVariables false
set_option linter.unusedSimpArgs false
namespace Go.Proofs.Ytilknhackmccpaa
open Go.RowKit Go.Sort Go.Maps Go.ChangeMaps Go.MapKept Go.ChangeShapes

/-- x is reached from tg. -/
inductive Fwd (f : Int → List Int) (tg : Int) : Int → Prop
  | here : Fwd f tg tg
  | step {x z : Int} : Fwd f tg x → z ∈ f x → Fwd f tg z
theorem Fwd.rch {f : Int → List Int} {tg x : Int} (h : Fwd f tg x) (hx : Rch f tg [] x) : Rch f tg [] tg := by
  induction h with
  | here => exact hx
  | step _ hz ih => exact ih (.step hz (by simp) hx)
/-- All that are reached are in s. -/
theorem fwd_all {f : Int → List Int} {tg : Int} {s : List Int} (h0 : tg ∈ s) (hc : ∀ x ∈ s, ∀ z ∈ f x, z ∈ s) {x : Int} (h : Fwd f tg x) : x ∈ s := by
  induction h with
  | here => exact h0
  | step _ hz ih => exact hc _ ih _ hz
theorem rch_fwd {f : Int → List Int} {tg n : Int} (h : Rch f tg [] n) (hn : Fwd f tg n) : ∃ x, Fwd f tg x ∧ tg ∈ f x := by
  induction h with
  | @here n h => exact ⟨n, hn, h⟩
  | step h1 _ _ ih => exact ih (.step hn h1)
/-- What is seen so far: all of the first i are done. -/
structure Far (f : Int → List Int) (tg : Int) (s : List Int) (i : Nat) (bk : Bool) : Prop where
  fwd : ∀ x ∈ s, Fwd f tg x
  head : s[0]? = some tg
  shut : ∀ j z, j < i → z ∈ f (s.getD j 0) → z ∈ s
  back : bk = true ↔ ∃ j, j < i ∧ tg ∈ f (s.getD j 0)
theorem Far.end {f : Int → List Int} {tg : Int} {s : List Int} {bk : Bool} (h : Far f tg s s.length bk) : bk = true ↔ Rch f tg [] tg := by
  have hmem : ∀ x ∈ s, ∃ j, j < s.length ∧ s.getD j 0 = x := fun x hx => by
    obtain ⟨j, hj, e⟩ := List.mem_iff_getElem.1 hx
    exact ⟨j, hj, by rw [List.getD_eq_getElem?_getD, List.getElem?_eq_getElem hj]; exact e⟩
  have hget : ∀ j, j < s.length → s.getD j 0 ∈ s := fun j hj => by
    rw [List.getD_eq_getElem?_getD, List.getElem?_eq_getElem hj]
    exact List.getElem_mem _
  rw [h.back]
  constructor
  · rintro ⟨j, hj, ht⟩
    exact (h.fwd _ (hget j hj)).rch (.here ht)
  · intro hr
    obtain ⟨x, hx, ht⟩ := rch_fwd hr .here
    have hxs : x ∈ s := fwd_all (List.mem_of_getElem? h.head) (fun y hy z hz => by
      obtain ⟨j, hj, e⟩ := hmem y hy
      exact h.shut j z hj (by rw [e]; exact hz)) hx
    obtain ⟨j, hj, e⟩ := hmem x hxs
    exact ⟨j, hj, by rw [e]; exact ht⟩
/-- At the i-th one, x: the first k edges are done. -/
structure Far2 (l : List (Int × Int)) (tg : Int) (s : List Int) (i : Nat) (x : Int) (k : Nat) (bk : Bool) : Prop where
  fwd : ∀ y ∈ s, Fwd (nx l) tg y
  head : s[0]? = some tg
  lt : i < s.length
  at_ : s.getD i 0 = x
  shut : ∀ j z, j < i → z ∈ nx l (s.getD j 0) → z ∈ s
  edges : ∀ p ∈ l.take k, p.1 = x → p.2 ∈ s
  back : bk = true ↔ (∃ j, j < i ∧ tg ∈ nx l (s.getD j 0)) ∨ ∃ p ∈ l.take k, p.1 = x ∧ p.2 = tg
theorem Far.in {l : List (Int × Int)} {tg : Int} {s : List Int} {i : Nat} {bk : Bool} (h : Far (nx l) tg s i bk) (hi : i < s.length) : Far2 l tg s i (s.getD i 0) 0 bk :=
  ⟨h.fwd, h.head, hi, rfl, h.shut, by simp, by rw [h.back]; simp⟩
theorem Far2.out {l : List (Int × Int)} {tg : Int} {s : List Int} {i : Nat} {x : Int} {bk : Bool} (h : Far2 l tg s i x l.length bk) : Far (nx l) tg s (i + 1) bk := by
  have he := h.edges
  have hb := h.back
  rw [List.take_length] at he hb
  refine ⟨h.fwd, h.head, fun j z hj hz => ?_, ?_⟩
  · rcases Nat.lt_or_ge j i with h1 | h1
    · exact h.shut j z h1 hz
    · have : j = i := by omega
      subst this
      rw [h.at_] at hz
      exact he _ (mem_nx.1 hz) rfl
  · rw [hb]
    constructor
    · rintro (⟨j, hj, ht⟩ | ⟨p, hp, e1, e2⟩)
      · exact ⟨j, by omega, ht⟩
      · exact ⟨i, by omega, by rw [h.at_]; exact mem_nx.2 (by rw [← e1, ← e2]; exact hp)⟩
    · rintro ⟨j, hj, ht⟩
      rcases Nat.lt_or_ge j i with h1 | h1
      · exact .inl ⟨j, h1, ht⟩
      · have : j = i := by omega
        subst this
        rw [h.at_] at ht
        exact .inr ⟨_, mem_nx.1 ht, rfl, rfl⟩
theorem mem_take_succ {l : List (Int × Int)} {k : Nat} (hk : k < l.length) {p : Int × Int} : p ∈ l.take (k + 1) ↔ p ∈ l.take k ∨ p = l.getD k (0, 0) := by
  rw [List.take_succ_eq_append_getElem hk, List.mem_append, List.mem_singleton]
  simp [List.getD_eq_getElem?_getD, List.getElem?_eq_getElem hk]
/-- An edge that does not begin at x. -/
theorem Far2.skip {l : List (Int × Int)} {tg : Int} {s : List Int} {i : Nat} {x : Int} {k : Nat} {bk : Bool} (h : Far2 l tg s i x k bk) (hk : k < l.length) (hx : (l.getD k (0, 0)).1 ≠ x) : Far2 l tg s i x (k + 1) bk := by
  refine ⟨h.fwd, h.head, h.lt, h.at_, h.shut, fun p hp e => ?_, ?_⟩
  · rcases (mem_take_succ hk).1 hp with h1 | h1
    · exact h.edges p h1 e
    · exact absurd (h1 ▸ e) hx
  · rw [h.back]
    constructor
    · rintro (h1 | ⟨p, hp, e⟩)
      · exact .inl h1
      · exact .inr ⟨p, (mem_take_succ hk).2 (.inl hp), e⟩
    · rintro (h1 | ⟨p, hp, e⟩)
      · exact .inl h1
      · rcases (mem_take_succ hk).1 hp with h2 | h2
        · exact .inr ⟨p, h2, e⟩
        · exact absurd (h2 ▸ e.1) hx
/-- An edge that begins at x: what it leads to is in s2. -/
theorem Far2.take {l : List (Int × Int)} {tg : Int} {s : List Int} {i : Nat} {x t : Int} {k : Nat} {bk : Bool} (h : Far2 l tg s i x k bk) (hk : k < l.length) (hx : l.getD k (0, 0) = (x, t)) (s2 : List Int) (h2 : s2 = s ∧ t ∈ s ∨ s2 = s ++ [t]) :
    Far2 l tg s2 i x (k + 1) (bk || (t == tg)) := by
  have hsub : ∀ y, y ∈ s → y ∈ s2 := fun y hy => by rcases h2 with ⟨rfl, _⟩ | rfl <;> simp [hy]
  have ht : t ∈ s2 := by rcases h2 with ⟨rfl, h⟩ | rfl <;> simp_all
  have hget : ∀ j, j < s.length → s2.getD j 0 = s.getD j 0 := fun j hj => by
    rcases h2 with ⟨rfl, _⟩ | rfl
    · rfl
    · simp [List.getD_eq_getElem?_getD, List.getElem?_append_left hj]
  have hl := h.lt
  have hlen : s.length ≤ s2.length := by rcases h2 with ⟨rfl, _⟩ | rfl <;> simp
  have hxl : (x, t) ∈ l := by
    rw [← hx]
    have : l.getD k (0, 0) = l[k] := by simp [List.getD_eq_getElem?_getD, List.getElem?_eq_getElem hk]
    rw [this]
    exact List.getElem_mem _
  have hfx : Fwd (nx l) tg x := by
    rw [← h.at_]
    refine h.fwd _ ?_
    rw [List.getD_eq_getElem?_getD, List.getElem?_eq_getElem hl]
    exact List.getElem_mem _
  refine ⟨fun y hy => ?_, ?_, by omega, by rw [hget i hl]; exact h.at_, fun j z hj hz => ?_, fun p hp e => ?_, ?_⟩
  · rcases h2 with ⟨rfl, _⟩ | rfl
    · exact h.fwd y hy
    · rcases List.mem_append.1 hy with hy | hy
      · exact h.fwd y hy
      · obtain rfl := List.mem_singleton.1 hy
        exact .step hfx (mem_nx.2 hxl)
  · rcases h2 with ⟨rfl, _⟩ | rfl
    · exact h.head
    · rw [List.getElem?_append_left (by omega)]; exact h.head
  · rw [hget j (by omega)] at hz
    exact hsub _ (h.shut j z hj hz)
  · rcases (mem_take_succ hk).1 hp with h1 | h1
    · exact hsub _ (h.edges p h1 e)
    · rw [h1, hx]; exact ht
  · have e1 : ∀ j, j < i → s2.getD j 0 = s.getD j 0 := fun j hj => hget j (by omega)
    rw [Bool.or_eq_true, h.back]
    constructor
    · rintro ((⟨j, hj, h1⟩ | ⟨p, hp, e⟩) | h1)
      · exact .inl ⟨j, hj, by rw [e1 j hj]; exact h1⟩
      · exact .inr ⟨p, (mem_take_succ hk).2 (.inl hp), e⟩
      · exact .inr ⟨_, (mem_take_succ hk).2 (.inr rfl), by rw [hx], by rw [hx]; simpa using h1⟩
    · rintro (⟨j, hj, h1⟩ | ⟨p, hp, e⟩)
      · exact .inl (.inl ⟨j, hj, by rw [← e1 j hj]; exact h1⟩)
      · rcases (mem_take_succ hk).1 hp with h3 | h3
        · exact .inl (.inr ⟨p, h3, e⟩)
        · right
          rw [h3, hx] at e
          simpa using e.2
end Go.Proofs.Ytilknhackmccpaa

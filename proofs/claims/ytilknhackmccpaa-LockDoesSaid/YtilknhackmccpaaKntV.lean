/- mancipleref14.Cycle, Victim. -/
import Derived.Test.YtilknhackmccpaaKntU
set_option linter.unusedVariables false
set_option linter.unusedSimpArgs false
namespace Go.Proofs.Ytilknhackmccpaa
open Go.RowKit Go.Sort Go.Maps Go.ChangeMaps Go.MapKept Go.ChangeShapes

theorem go_fuel {f : Int → List Int} {tg : Int} {V : List Int} (hV : ∀ x z, z ∈ f x → z ∈ V) : ∀ (n m : Nat) (ws : List Int) (last : Int), unseen V ws < n → unseen V ws < m → cycGo f tg n ws last = cycGo f tg m ws last
  | 0, _, _, _, h, _ => absurd h (Nat.not_lt_zero _)
  | _ + 1, 0, _, _, _, h => absurd h (Nat.not_lt_zero _)
  | n + 1, m + 1, ws, last, h1, h2 => by
    by_cases ht : tg ∈ f last
    · rw [cyc_here ht, cyc_here ht]
    · cases hz : nextOf f tg ws (f last) with
      | none => simp [cycGo, ht, hz]
      | some z =>
        have hgz : Good f tg ws z ∧ z ∈ f last := by
          unfold nextOf at hz
          exact ⟨by simpa using List.find?_some hz, List.mem_of_find?_eq_some hz⟩
        have e : ∀ k, cycGo f tg (k + 1) ws last = cycGo f tg k (ws ++ [z]) z := fun k => by simp [cycGo, ht, hz]
        rw [e, e]
        have hul := unseen_lt (hV _ _ hgz.2) hgz.1.1
        have hul2 : unseen V (ws ++ [z]) ≤ unseen V (z :: ws) := unseen_mono fun x hx => by
          rcases List.mem_cons.1 hx with e | e <;> simp [e]
        exact go_fuel hV n m _ z (by omega) (by omega)
theorem good_iff {l : List (Int × Int)} {tg : Int} {ws : List Int} (ht : tg ∈ ws) (x : Int) : Good (nx l) tg ws x ↔ (Bk l tg ws x ∧ x ∉ ws) := by
  have h1 : ∀ x, Bk l tg ws x → x = tg ∨ (x ∉ ws ∧ Rch (nx l) tg ws x) := fun x h => by
    induction h with
    | here => exact .inl rfl
    | step hp hx _ ih =>
      right
      refine ⟨hx, ?_⟩
      rcases ih with rfl | ⟨h3, h4⟩
      · exact .here (mem_nx.2 hp)
      · exact .step (mem_nx.2 hp) h3 h4
  have h2 : ∀ x, Rch (nx l) tg ws x → x ∉ ws → Bk l tg ws x := fun x h => by
    induction h with
    | here h => intro hx; exact .step (mem_nx.1 h) hx .here
    | step h3 h4 _ ih => intro hx; exact .step (mem_nx.1 h3) hx (ih h4)
  constructor
  · rintro ⟨h3, h4⟩
    exact ⟨h2 x (h4.mono fun y hy => by simp [hy]) h3, h3⟩
  · rintro ⟨h3, h4⟩
    refine ⟨h4, ?_⟩
    rcases h1 x h3 with rfl | ⟨_, h5⟩
    · exact absurd ht h4
    · exact h5.self

set_option maxRecDepth 100000 in
set_option maxHeartbeats 4000000 in
theorem rvictim_u (a : Option Addr) (n cap : Nat) (l : List Int) (w : World) (hN : Nums w a l) (hn : l.length = n) (hsz : n < 4294967296) (hU : ∀ z ∈ l, U z) :
    Calls Try.prog 18 #[.slice a n cap] w fun e w' => e = .returned (.tuple #[.int .u32 (maxL l), .bool (decide (l ≠ []))]) ∧ w' = w := by
  have hmax : l.foldl max 0 = maxL l := by
    rcases l with _ | ⟨x, r⟩
    · rfl
    · have : max 0 x = x := Int.max_eq_right (hU x (by simp)).1
      simp [maxL, this]
  have hpos : decide (l ≠ []) = decide ((0 : Int) < (n : Int)) := by
    have h1 : l ≠ [] ↔ (0 : Int) < (n : Int) := by rw [← hn, ← List.length_pos_iff]; omega
    by_cases h : l ≠ []
    · rw [decide_eq_true h, decide_eq_true (h1.1 h)]
    · rw [decide_eq_false h, decide_eq_false (fun h' => h (h1.2 h'))]
  rw [hpos]
  replace hpos := Lib.hid hpos
  go_enter Try.func18, Try.ntmps18
  go_wp2
  go_loopw [4, 5] (fun vm vi wr => ∃ j : Nat, vi = .int .i64 j ∧ j ≤ n ∧ vm = .int .u32 ((l.take j).foldl max 0) ∧ wr = w) (fun _ vi _ => n - (intOf vi).toNat)
  case atStart => exact ⟨0, rfl, Nat.zero_le _, rfl, rfl⟩
  case round =>
    obtain ⟨j, rfl, hj, rfl, rfl⟩ := hrel
    by_cases hlt : j < n
    · obtain ⟨eb, off, rfl, hc⟩ := hN.at (i := j) (by omega)
      have cj := hc j (by omega)
      obtain ⟨y, hy⟩ : ∃ y, l.getD j 0 = y := ⟨_, rfl⟩
      obtain ⟨m, hm⟩ : ∃ m, (l.take j).foldl max 0 = m := ⟨_, rfl⟩
      have hs : (l.take (j + 1)).foldl max 0 = max m y := by
        have hj' : l[j]? = some y := by rw [← hy]; exact getD_getElem? (by omega)
        rw [List.take_add_one, hj', Option.toList_some, List.foldl_append, hm]
        rfl
      rw [hy] at cj
      rw [hm]
      clear hc
      replace hy := Lib.hid hy
      go_wp2
      go_roundw
      case rel => exact ⟨j + 1, by go_num, by omega, by rw [hs], by first | rfl | trivial⟩
      case measure => simp [intOf]; omega
    · have : j = n := by omega
      subst this
      have e : (l.take j).foldl max 0 = maxL l := by rw [List.take_of_length_le (by omega), hmax]
      rw [e]
      go_wp2
      go_ret2
      exact ⟨by simp, by first | rfl | trivial⟩
end Go.Proofs.Ytilknhackmccpaa

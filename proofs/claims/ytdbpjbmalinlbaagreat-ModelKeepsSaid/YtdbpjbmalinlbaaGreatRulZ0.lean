/- Of shelves and worlds (printed by rulgen.py). -/
import Derived.Test.YtdbpjbmalinlbaaGreatRulZ
import Derived.Deep.QuietTactic
import Derived.BigQuiet
import Derived.Deep.DeepCutAuto
import Derived.Test.YtdbpjbmalinlbaaGreatHeldTail
namespace Go.Proofs.YtdbpjbmalinlbaaGreat
open Go.RowKit

section
variable {x : Nat} {o : OpV} {w0 w : World} {R : Res (List Pt × Rp)} {s : List Cel}

def zipPut (ks : List Ky) (am : List Int) : List Pt := List.zipWith putP ks am
theorem zipPut_len (ks : List Ky) (am : List Int) : (zipPut ks am).length ≤ ks.length := by simp [zipPut]; omega
theorem zipPut_snoc {ks : List Ky} {am : List Int} {j : Nat} {k : Ky} {a : Int} (hk : ks[j]? = some k) (ha : am[j]? = some a) : zipPut (ks.take (j + 1)) (am.take (j + 1)) = zipPut (ks.take j) (am.take j) ++ [putP k a] := by
  have l1 := (List.getElem?_eq_some_iff.1 hk).1
  have l2 := (List.getElem?_eq_some_iff.1 ha).1
  unfold zipPut
  rw [List.take_add_one, List.take_add_one, hk, ha]
  simp only [Option.toList]
  rw [List.zipWith_append (by simp; omega)]
  rfl
theorem Shelf.world {SB : Nat} {ks : List Ky} {am : List Int} (_ : Shelf x SB ks am w) : ∃ v, v = w := ⟨w, rfl⟩
theorem Shelf.name {SB : Nat} {ks : List Ky} {am : List Int} (_ : Shelf x SB ks am w) : ∃ b, b = SB := ⟨SB, rfl⟩

theorem St.drewN {p : List Pt} {r : Rp} {t : T (List Pt × Rp)} (h : St x o w0 R p r t s w) (n : Nat) : St x o w0 R p r t s (w.drewN n) :=
  ⟨h.1.trans ⟨⟨rfl, rfl, rfl, Nat.le_refl _, fun _ _ => rfl⟩, fun _ h => h, fun _ _ => rfl⟩, h.2.1.keep fun _ _ _ => rfl, h.2.2⟩
theorem Step.drewN (w : World) (n : Nat) : Step x w (w.drewN n) := ⟨⟨rfl, rfl, rfl, Nat.le_refl _, fun _ _ => rfl⟩, fun _ h => h, fun _ _ => rfl⟩
theorem Box.drewN {B : Nat} {ob : Obj} (h : Box x B ob w) (n : Nat) : Box x B ob (w.drewN n) := h
theorem quiet_same {P : Program} {f : FuncId} {args : Array Value} {w : World} {n : Nat} {v : Value}
    (h : Calls P f args (w.drewN n) fun e w' => e = .returned v ∧ w.drewN n = w') : Calls P f args (w.drewN n) fun e w'' => e = .returned v ∧ ∃ m, w'' = w.drewN m :=
  h.mono fun _ _ ⟨he, hm⟩ => ⟨he, n, hm.symm⟩
end
end Go.Proofs.YtdbpjbmalinlbaaGreat

/- The walk of RuleKeys. -/
import Derived.Test.YtdbpjbmalinlbaaRulN
namespace Go.Proofs.Ytdbpjbmalinlbaa
open Go.RowKit

/-- A contract from an elder world on. -/
theorem from_old {f : FuncId} {args : Array Value} {v : Value} {w0 w : World} (h : Calls Try.prog f args w fun e w' => e = .returned v ∧ Below w.heap.size w w') (B : Below w0.heap.size w0 w) :
    Calls Try.prog f args w fun e w' => e = .returned v ∧ Below w0.heap.size w0 w' := h.mono fun _ _ ⟨h1, h2⟩ => ⟨h1, below_trans B h2⟩
theorem as_below {f : FuncId} {args : Array Value} {v : Value} {w : World} {o : Obj} (h : Calls Try.prog f args w fun e w' => e = .returned v ∧ w.alloc o = w') :
    Calls Try.prog f args w fun e w' => e = .returned v ∧ Below w.heap.size w w' := h.mono fun _ _ ⟨h1, h2⟩ => ⟨h1, by rw [← h2]; exact below_alloc _ _⟩

set_option maxRecDepth 100000 in
set_option maxHeartbeats 1000000 in
theorem ruleKeys_walk (a b kind : Int) (w : World) (h0 : 0 ≤ kind) (h1 : kind ≤ 255) :
    Calls Try.prog 3 #[.int .u32 a, .int .u32 b, .int .u8 kind] w fun e w' => e = .returned (.bool true) ∧ Below w.heap.size w w' := by
  have B := Below.refl w.heap.size w
  go_enter Try.func3, Try.ntmps3
  go_wp2_with (first
    | (go_at_call 9; refine (from_old (as_below (purse_a _ _)) B).mono ?_; rintro e w' ⟨rfl, B⟩)
    | (go_at_call 11; refine (from_old (as_below (bank_any _ _)) B).mono ?_; rintro e w' ⟨rfl, B⟩)
    | (go_at_call 13; refine (from_old (as_below (stack_any _ _ _)) B).mono ?_; rintro e w' ⟨rfl, B⟩)
    | (go_at_call 15; refine (from_old (as_below (trade_any _ _)) B).mono ?_; rintro e w' ⟨rfl, B⟩)
    | (go_at_call 17; refine (from_old (as_below (offerk_any _ _ _)) B).mono ?_; rintro e w' ⟨rfl, B⟩)
    | (go_at_call 19; refine (from_old (as_below (auction_any _ _)) B).mono ?_; rintro e w' ⟨rfl, B⟩)
    | (go_at_call 21; refine (from_old (as_below (bidk_any _ _)) B).mono ?_; rintro e w' ⟨rfl, B⟩)
    | (go_at_call 23; refine (from_old (as_below (price_any _ _)) B).mono ?_; rintro e w' ⟨rfl, B⟩)
    | (go_at_call 26; refine (from_old (as_below (count_key _ _ h0 h1)) B).mono ?_; rintro e w' ⟨rfl, B⟩)
    | (go_at_call 10; refine (from_old (rpurse_any _ _) B).mono ?_; rintro e w' ⟨rfl, B⟩)
    | (go_at_call 12; refine (from_old (rbank_any _ _) B).mono ?_; rintro e w' ⟨rfl, B⟩)
    | (go_at_call 14; refine (from_old (rstack_any _ _ _) B).mono ?_; rintro e w' ⟨rfl, B⟩)
    | (go_at_call 16; refine (from_old (rtrade_any _ _) B).mono ?_; rintro e w' ⟨rfl, B⟩)
    | (go_at_call 18; refine (from_old (roffer_any _ _ _) B).mono ?_; rintro e w' ⟨rfl, B⟩)
    | (go_at_call 20; refine (from_old (rauction_any _ _) B).mono ?_; rintro e w' ⟨rfl, B⟩)
    | (go_at_call 22; refine (from_old (rbid_any _ _) B).mono ?_; rintro e w' ⟨rfl, B⟩)
    | (go_at_call 24; refine (from_old (rprice_any _ _) B).mono ?_; rintro e w' ⟨rfl, B⟩)
    | (go_at_call 27; refine (from_old (rcount_any _ _ h0 h1) B).mono ?_; rintro e w' ⟨rfl, B⟩)
    | (go_at_call 25; refine (from_old (ruleKnown_any _) B).mono ?_; rintro e w' ⟨rfl, B⟩))
  go_ret
  exact ⟨rfl, B⟩
end Go.Proofs.Ytdbpjbmalinlbaa

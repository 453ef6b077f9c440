/- Contracts of close (printed by rulgen.py). -/
import Derived.Test.YtdbpjbmalinlbaaGreatRulU
namespace Go.Proofs.YtdbpjbmalinlbaaGreat
open Go.RowKit

section
variable {x : Nat} {o : OpV} {w0 w : World} {R : Res (List Pt × Rp)} {s : List Cel}

theorem St.gone2 {p : List Pt} {r : Rp} {t : T (List Pt × Rp)} (h : St x o w0 R p r t s w) (k l : Ky) (hp : p.length + 2 ≤ 1000) (cap B : Nat) (hB : w.heap.size = B) :
    Calls Tryz.prog 90 #[.pointer (some ⟨x, 0, none⟩), .slice (some ⟨B, 0, none⟩) 2 cap] (w.alloc (.cells #[.int .u8 k.1, .int .u32 k.2.1, .int .u32 k.2.2, .int .u8 l.1, .int .u32 l.2.1, .int .u32 l.2.2] 52)) fun e w' => e = .returned (.tuple #[]) ∧ St x o w0 R (p ++ [goneP k, goneP l]) r t s w' ∧ Step x w w' := by
  subst hB
  refine (gone_any w.heap.size 0 cap [k, l] (h.hand.alloc _) (h.hand.farNew _) (by simpa using hp) ?_).mono fun e w' ⟨he, S, H⟩ => ⟨he, ⟨(h.1.alloc h.lt _).trans S, H, h.2.2⟩, ((Step.refl x w).alloc h.lt _).trans S⟩
  intro i k' hk j v hv
  have h1 := heap_alloc_new w (.cells #[.int .u8 k.1, .int .u32 k.2.1, .int .u32 k.2.2, .int .u8 l.1, .int .u32 l.2.1, .int .u32 l.2.2] 52)
  rw [cell_of_heap h1]
  match i, hk with
  | 0, hk =>
    simp at hk; subst hk
    match j, hv with
    | 0, hv => simpa [keyRow] using hv
    | 1, hv => simpa [keyRow] using hv
    | 2, hv => simpa [keyRow] using hv
    | j + 3, hv => simp [keyRow] at hv
  | 1, hk =>
    simp at hk; subst hk
    match j, hv with
    | 0, hv => simpa [keyRow] using hv
    | 1, hv => simpa [keyRow] using hv
    | 2, hv => simpa [keyRow] using hv
    | j + 3, hv => simp [keyRow] at hv
  | i + 2, hk => simp at hk

abbrev hi32 (a : Int) : Int := IntKind.u32.wrap (a / 4294967296)
abbrev lo32 (a : Int) : Int := IntKind.u32.wrap a
def closeT (o : OpV) : T (List Pt × Rp) :=
  (mustT (auctionK o.id)).bind fun xv => (checkT (hi32 xv.1 == o.who) 213).bind fun _ => (seeT (bidK o.id)).bind fun b =>
    match b with
    | none => (amountT (stackK o.who (lo32 xv.1))).bind fun a => (moreT a xv.2).bind fun m => .done ([putP (stackK o.who (lo32 xv.1)) m, goneP (auctionK o.id), goneP (priceK o.id)], ⟨0, 0, 0, 0⟩)
    | some bv => (amountT (purseK o.who)).bind fun c => (moreT c bv.1).bind fun pc => (amountT (stackK (lo32 bv.2) (lo32 xv.1))).bind fun a => (moreT a xv.2).bind fun m =>
        .done ([putP (purseK o.who) pc, putP (stackK (lo32 bv.2) (lo32 xv.1)) m, goneP (auctionK o.id), goneP (priceK o.id), goneP (bidK o.id)], ⟨0, bv.1, 0, 0⟩)

set_option maxRecDepth 100000 in
set_option maxHeartbeats 2000000 in
theorem close_st (H : St x o w0 R [] rp0 (closeT o) s w) :
    Calls Tryz.prog 64 #[.pointer (some ⟨x, 0, none⟩)] w (Mets' x o w0 R) := by
  obtain ⟨o0, o1, o2, o3, o4, on, op⟩ := H.opOk
  obtain ⟨c0, c1, c2, c3, c4, c5, c6⟩ := H.op
  have hx := H.lt
  unfold closeT at H
  go_enter Tryz.func64, Tryz.ntmps64
  go_wp2_with (first
    | (go_at_call 92; refine (St.key (auction_any _) H).mono ?_; rintro e w1 ⟨rfl, H1, Q⟩; replace H := H1; clear H1; obtain ⟨c0, c1, c2, c3, c4, c5, c6⟩ := H.op; have hx := H.lt)
    | (go_at_call 75; refine (St.must H).mono ?_; rintro e w1 (⟨xv, s1, rfl, hxv, H1, Q⟩ | ⟨ch, rfl, P⟩); rotate_left; (focus (go_wp2_with fail; exact ⟨rfl, P.met⟩)); replace H := H1; clear H1; obtain ⟨c0, c1, c2, c3, c4, c5, c6⟩ := H.op; have hx := H.lt; have faxv := field_a xv.1 xv.2))
  have K1 := Box.newS H (.cells #[.int .u64 xv.1, .int .u64 xv.2] 48)
  replace H := H.alloc (.cells #[.int .u64 xv.1, .int .u64 xv.2] 48)
  obtain ⟨B1, hB1⟩ := K1.name
  rw [← hB1] at K1 ⊢
  clear hB1
  have H := H.drew
  have K1 := K1.drew
  obtain ⟨a0, a1, la⟩ := K1.two
  have xv1 := hxv.1.1
  have xv2 := hxv.1.2
  go_region_held2 (fun w' => w'.cell? ⟨B1, 0, none⟩ = some (.int .u64 xv.1) ∧ w'.cell? ⟨x, 1, none⟩ = some (.int .u32 o.who))
    (first | exact ⟨K1.two.1, H.op.2.1⟩ | go_keep)
    (first
      | (go_at_call 69; refine (St.check H).mono ?_; rintro e w1 (⟨rfl, hc, H1, Q⟩ | ⟨ch, rfl, P⟩); rotate_left; (focus (go_wp2_with fail; exact ⟨rfl, P.met⟩)); replace H := H1; clear H1; obtain ⟨c0, c1, c2, c3, c4, c5, c6⟩ := H.op; have hx := H.lt; replace K1 := K1.step Q))
  all_goals (
    go_upto_region 4 with (first
      | (go_at_call 94; refine (St.key (bidk_any _) H).mono ?_; rintro e w1 ⟨rfl, H1, Q⟩; replace H := H1; clear H1; obtain ⟨c0, c1, c2, c3, c4, c5, c6⟩ := H.op; have hx := H.lt; replace K1 := K1.step Q)
      | (go_at_call 72; refine (St.see H).mono ?_; rintro e w1 (⟨b, s1, rfl, hb, H1, Q⟩ | ⟨ch, rfl, P⟩); rotate_left; (focus (go_wp2_with fail; exact ⟨rfl, P.met⟩)); replace H := H1; clear H1; obtain ⟨c0, c1, c2, c3, c4, c5, c6⟩ := H.op; have hx := H.lt; replace K1 := K1.step Q))
    have K1 := K1.alloc (ob' := (.cells #[.int .u64 (b.getD (0, 0)).1, .int .u64 (b.getD (0, 0)).2] 48)) hx
    have K2 := Box.newS H (.cells #[.int .u64 (b.getD (0, 0)).1, .int .u64 (b.getD (0, 0)).2] 48)
    replace H := H.alloc (.cells #[.int .u64 (b.getD (0, 0)).1, .int .u64 (b.getD (0, 0)).2] 48)
    obtain ⟨B2, hB2⟩ := K2.name
    rw [← hB2] at K2 ⊢
    clear hB2
    rcases b with _ | bv
    · dsimp only [Option.getD, Option.isSome] at H K1 K2 ⊢
      obtain ⟨a0, a1, la⟩ := K1.two
      obtain ⟨b0, b1, lb⟩ := K2.two
      obtain ⟨c0, c1, c2, c3, c4, c5, c6⟩ := H.op
      have hx := H.lt
      go_upto_region 8 with (first
        | (go_at_call 79; refine (St.key (stack_any _ _) H).mono ?_; rintro e w1 ⟨rfl, H1, Q⟩; replace H := H1; clear H1; obtain ⟨c0, c1, c2, c3, c4, c5, c6⟩ := H.op; have hx := H.lt; replace K1 := K1.step Q; replace K2 := K2.step Q))
      have K1 := (K1.alloc (ob' := (.cells #[.int .u8 3, .int .u32 o.who, .int .u32 (lo32 xv.1)] 52)) hx).drew
      have K2 := (K2.alloc (ob' := (.cells #[.int .u8 3, .int .u32 o.who, .int .u32 (lo32 xv.1)] 52)) hx).drew
      have K3 := Box.newS H (.cells #[.int .u8 3, .int .u32 o.who, .int .u32 (lo32 xv.1)] 52)
      replace H := H.alloc (.cells #[.int .u8 3, .int .u32 o.who, .int .u32 (lo32 xv.1)] 52)
      obtain ⟨B3, hB3⟩ := K3.name
      rw [← hB3] at K3 ⊢
      clear hB3
      have K3 := K3.drew
      have H := H.drew
      go_region_held2 (fun w' => w'.cell? ⟨B3, 0, none⟩ = some (.int .u8 3) ∧ w'.cell? ⟨B3, 1, none⟩ = some (.int .u32 o.who) ∧ w'.cell? ⟨B3, 2, none⟩ = some (.int .u32 (lo32 xv.1)) ∧ w'.cell? ⟨B1, 1, none⟩ = some (.int .u64 xv.2))
        (first | exact ⟨K3.three.1, K3.three.2.1, K3.three.2.2.1, K1.two.2.1⟩ | go_keep)
        (first
          | (go_at_call 80; refine (St.amount H).mono ?_; rintro e w1 (⟨a, s1, rfl, ha, H1, Q⟩ | ⟨ch, rfl, P⟩); rotate_left; (focus (go_wp2_with fail; exact ⟨rfl, P.met⟩)); replace H := H1; clear H1; obtain ⟨c0, c1, c2, c3, c4, c5, c6⟩ := H.op; have hx := H.lt; replace K1 := K1.step Q; replace K2 := K2.step Q; replace K3 := K3.step Q)
          | (go_at_call 77; refine (St.more H ha hxv.2).mono ?_; rintro e w1 (⟨m, rfl, hm, H1, Q⟩ | ⟨ch, rfl, P⟩); rotate_left; (focus (go_wp2_with fail; exact ⟨rfl, P.met⟩)); replace H := H1; clear H1; obtain ⟨c0, c1, c2, c3, c4, c5, c6⟩ := H.op; have hx := H.lt; replace K1 := K1.step Q; replace K2 := K2.step Q; replace K3 := K3.step Q)
          | (go_at_call 74; refine (St.put H (stackK o.who (lo32 xv.1)) (by simp)).mono ?_; rintro e w1 ⟨rfl, H1, Q⟩; replace H := H1; clear H1; obtain ⟨c0, c1, c2, c3, c4, c5, c6⟩ := H.op; have hx := H.lt; obtain ⟨⟨u10, y10⟩, ⟨u11, y11⟩, ⟨u12, y12⟩⟩ := H.rep; have z10 := H.frozen 10; have z11 := H.frozen 11; have z12 := H.frozen 12; replace K1 := K1.step Q; replace K2 := K2.step Q; replace K3 := K3.step Q))
      all_goals (
        go_upto_region 9 with fail
        have K1 := K1.drew
        have K2 := K2.drew
        have H := H.drew
        go_region_held2 (fun w' => w'.cell? ⟨x, 4, none⟩ = some (.int .u32 o.id))
          (first | exact H.op.2.2.2.2.1 | go_keep)
          (first
            | (go_at_call 92; refine (St.key (auction_any _) H).mono ?_; rintro e w1 ⟨rfl, H1, Q⟩; replace H := H1; clear H1; obtain ⟨c0, c1, c2, c3, c4, c5, c6⟩ := H.op; have hx := H.lt; replace K1 := K1.step Q; replace K2 := K2.step Q)
            | (go_at_call 93; refine (St.key (price_any _) H).mono ?_; rintro e w1 ⟨rfl, H1, Q⟩; replace H := H1; clear H1; obtain ⟨c0, c1, c2, c3, c4, c5, c6⟩ := H.op; have hx := H.lt; replace K1 := K1.step Q; replace K2 := K2.step Q)
            | (go_at_call 90; refine (St.gone2 H (auctionK o.id) (priceK o.id) (by simp) _ _ rfl).mono ?_; rintro e w1 ⟨rfl, H1, Q⟩; replace H := H1; clear H1; obtain ⟨c0, c1, c2, c3, c4, c5, c6⟩ := H.op; have hx := H.lt; obtain ⟨⟨u10, y10⟩, ⟨u11, y11⟩, ⟨u12, y12⟩⟩ := H.rep; have z10 := H.frozen 10; have z11 := H.frozen 11; have z12 := H.frozen 12; replace K1 := K1.step Q; replace K2 := K2.step Q))
        all_goals (
          obtain ⟨b0, b1, lb⟩ := K2.two
          go_wp2_with fail
          go_end0
          exact (H.setA _).met rfl))
    · dsimp only [Option.getD, Option.isSome] at H K1 K2 ⊢
      have hbv : VlOk bv := hb
      obtain ⟨a0, a1, la⟩ := K1.two
      obtain ⟨b0, b1, lb⟩ := K2.two
      obtain ⟨c0, c1, c2, c3, c4, c5, c6⟩ := H.op
      have hx := H.lt
      go_upto_region 5 with fail
      have K1 := K1.drew
      have K2 := K2.drew
      have H := H.drew
      go_region_held2 (fun w' => w'.cell? ⟨B2, 0, none⟩ = some (.int .u64 bv.1) ∧ w'.cell? ⟨x, 1, none⟩ = some (.int .u32 o.who))
        (first | exact ⟨K2.two.1, H.op.2.1⟩ | go_keep)
        (first
          | (go_at_call 73; refine (St.key (purse_a _) H).mono ?_; rintro e w1 ⟨rfl, H1, Q⟩; replace H := H1; clear H1; obtain ⟨c0, c1, c2, c3, c4, c5, c6⟩ := H.op; have hx := H.lt; replace K1 := K1.step Q; replace K2 := K2.step Q)
          | (go_at_call 80; refine (St.amount H).mono ?_; rintro e w1 (⟨c, s1, rfl, hc, H1, Q⟩ | ⟨ch, rfl, P⟩); rotate_left; (focus (go_wp2_with fail; exact ⟨rfl, P.met⟩)); replace H := H1; clear H1; obtain ⟨c0, c1, c2, c3, c4, c5, c6⟩ := H.op; have hx := H.lt; replace K1 := K1.step Q; replace K2 := K2.step Q)
          | (go_at_call 77; refine (St.more H hc hbv.1).mono ?_; rintro e w1 (⟨m, rfl, hm, H1, Q⟩ | ⟨ch, rfl, P⟩); rotate_left; (focus (go_wp2_with fail; exact ⟨rfl, P.met⟩)); replace H := H1; clear H1; obtain ⟨c0, c1, c2, c3, c4, c5, c6⟩ := H.op; have hx := H.lt; replace K1 := K1.step Q; replace K2 := K2.step Q)
          | (go_at_call 74; refine (St.put H (purseK o.who) (by simp)).mono ?_; rintro e w1 ⟨rfl, H1, Q⟩; replace H := H1; clear H1; obtain ⟨c0, c1, c2, c3, c4, c5, c6⟩ := H.op; have hx := H.lt; obtain ⟨⟨u10, y10⟩, ⟨u11, y11⟩, ⟨u12, y12⟩⟩ := H.rep; have z10 := H.frozen 10; have z11 := H.frozen 11; have z12 := H.frozen 12; replace K1 := K1.step Q; replace K2 := K2.step Q))
      all_goals (
        obtain ⟨a0, a1, la⟩ := K1.two
        obtain ⟨b0, b1, lb⟩ := K2.two
        obtain ⟨c0, c1, c2, c3, c4, c5, c6⟩ := H.op
        have hx := H.lt
        go_upto_region 8 with (first
          | (go_at_call 79; refine (St.key (stack_any _ _) H).mono ?_; rintro e w1 ⟨rfl, H1, Q⟩; replace H := H1; clear H1; obtain ⟨c0, c1, c2, c3, c4, c5, c6⟩ := H.op; have hx := H.lt; replace K1 := K1.step Q; replace K2 := K2.step Q))
        have K1 := (K1.alloc (ob' := (.cells #[.int .u8 3, .int .u32 (lo32 bv.2), .int .u32 (lo32 xv.1)] 52)) hx).drew
        have K2 := (K2.alloc (ob' := (.cells #[.int .u8 3, .int .u32 (lo32 bv.2), .int .u32 (lo32 xv.1)] 52)) hx).drew
        have K3 := Box.newS H (.cells #[.int .u8 3, .int .u32 (lo32 bv.2), .int .u32 (lo32 xv.1)] 52)
        replace H := H.alloc (.cells #[.int .u8 3, .int .u32 (lo32 bv.2), .int .u32 (lo32 xv.1)] 52)
        obtain ⟨B3, hB3⟩ := K3.name
        rw [← hB3] at K3 ⊢
        clear hB3
        have K3 := K3.drew
        have H := H.drew
        go_region_held2 (fun w' => w'.cell? ⟨B3, 0, none⟩ = some (.int .u8 3) ∧ w'.cell? ⟨B3, 1, none⟩ = some (.int .u32 (lo32 bv.2)) ∧ w'.cell? ⟨B3, 2, none⟩ = some (.int .u32 (lo32 xv.1)) ∧ w'.cell? ⟨B1, 1, none⟩ = some (.int .u64 xv.2))
          (first | exact ⟨K3.three.1, K3.three.2.1, K3.three.2.2.1, K1.two.2.1⟩ | go_keep)
          (first
            | (go_at_call 80; refine (St.amount H).mono ?_; rintro e w1 (⟨a, s1, rfl, ha, H1, Q⟩ | ⟨ch, rfl, P⟩); rotate_left; (focus (go_wp2_with fail; exact ⟨rfl, P.met⟩)); replace H := H1; clear H1; obtain ⟨c0, c1, c2, c3, c4, c5, c6⟩ := H.op; have hx := H.lt; replace K1 := K1.step Q; replace K2 := K2.step Q; replace K3 := K3.step Q)
            | (go_at_call 77; refine (St.more H ha hxv.2).mono ?_; rintro e w1 (⟨m, rfl, hm, H1, Q⟩ | ⟨ch, rfl, P⟩); rotate_left; (focus (go_wp2_with fail; exact ⟨rfl, P.met⟩)); replace H := H1; clear H1; obtain ⟨c0, c1, c2, c3, c4, c5, c6⟩ := H.op; have hx := H.lt; replace K1 := K1.step Q; replace K2 := K2.step Q; replace K3 := K3.step Q)
            | (go_at_call 74; refine (St.put H (stackK (lo32 bv.2) (lo32 xv.1)) (by simp)).mono ?_; rintro e w1 ⟨rfl, H1, Q⟩; replace H := H1; clear H1; obtain ⟨c0, c1, c2, c3, c4, c5, c6⟩ := H.op; have hx := H.lt; obtain ⟨⟨u10, y10⟩, ⟨u11, y11⟩, ⟨u12, y12⟩⟩ := H.rep; have z10 := H.frozen 10; have z11 := H.frozen 11; have z12 := H.frozen 12; replace K1 := K1.step Q; replace K2 := K2.step Q; replace K3 := K3.step Q))
        all_goals (
          go_upto_region 9 with fail
          have K1 := K1.drew
          have K2 := K2.drew
          have H := H.drew
          go_region_held2 (fun w' => w'.cell? ⟨x, 4, none⟩ = some (.int .u32 o.id))
            (first | exact H.op.2.2.2.2.1 | go_keep)
            (first
              | (go_at_call 92; refine (St.key (auction_any _) H).mono ?_; rintro e w1 ⟨rfl, H1, Q⟩; replace H := H1; clear H1; obtain ⟨c0, c1, c2, c3, c4, c5, c6⟩ := H.op; have hx := H.lt; replace K1 := K1.step Q; replace K2 := K2.step Q)
              | (go_at_call 93; refine (St.key (price_any _) H).mono ?_; rintro e w1 ⟨rfl, H1, Q⟩; replace H := H1; clear H1; obtain ⟨c0, c1, c2, c3, c4, c5, c6⟩ := H.op; have hx := H.lt; replace K1 := K1.step Q; replace K2 := K2.step Q)
              | (go_at_call 90; refine (St.gone2 H (auctionK o.id) (priceK o.id) (by simp) _ _ rfl).mono ?_; rintro e w1 ⟨rfl, H1, Q⟩; replace H := H1; clear H1; obtain ⟨c0, c1, c2, c3, c4, c5, c6⟩ := H.op; have hx := H.lt; obtain ⟨⟨u10, y10⟩, ⟨u11, y11⟩, ⟨u12, y12⟩⟩ := H.rep; have z10 := H.frozen 10; have z11 := H.frozen 11; have z12 := H.frozen 12; replace K1 := K1.step Q; replace K2 := K2.step Q))
          all_goals (
            obtain ⟨b0, b1, lb⟩ := K2.two
            go_wp2_with (first
              | (go_at_call 94; refine (St.key (bidk_any _) H).mono ?_; rintro e w1 ⟨rfl, H1, Q⟩; replace H := H1; clear H1; obtain ⟨c0, c1, c2, c3, c4, c5, c6⟩ := H.op; have hx := H.lt; replace K2 := K2.step Q)
              | (go_at_call 90; refine (St.gone H (bidK o.id) (by simp) _ _ rfl).mono ?_; rintro e w1 ⟨rfl, H1, Q⟩; replace H := H1; clear H1; obtain ⟨c0, c1, c2, c3, c4, c5, c6⟩ := H.op; have hx := H.lt; obtain ⟨⟨u10, y10⟩, ⟨u11, y11⟩, ⟨u12, y12⟩⟩ := H.rep; have z10 := H.frozen 10; have z11 := H.frozen 11; have z12 := H.frozen 12; replace K2 := K2.step Q; obtain ⟨b0, b1, lb⟩ := K2.two))
            go_end0
            exact (H.setA _).met rfl))))
end
end Go.Proofs.YtdbpjbmalinlbaaGreat

/- Contracts of craft (printed by rulgen.py). -/
import Derived.Test.YtdbpjbmalinlbaaGreatRulZc
import Derived.Deep.RegionLaw
namespace Go.Proofs.YtdbpjbmalinlbaaGreat
open Go.RowKit

section
variable {x : Nat} {o : OpV} {w0 w : World} {R : Res (List Pt × Rp)} {s : List Cel}

set_option maxRecDepth 100000 in
set_option maxHeartbeats 16000000 in
theorem craft_st (hx0 : x < w0.heap.size) (H : St x o w0 R [] rp0 (craftT o) s w) :
    Calls Tryz.prog 57 #[.pointer (some ⟨x, 0, none⟩)] w (Mets' x o w0 R) := by
  obtain ⟨o0, o1, o2, o3, o4, on, op⟩ := H.opOk
  obtain ⟨c0, c1, c2, c3, c4, c5, c6⟩ := H.op
  have hx := H.lt
  unfold craftT at H
  obtain ⟨bi, hbi, hz0, hz1, hz2⟩ := info_parts Tryz.infoBatch
  go_enter Tryz.func57, Tryz.ntmps57
  go_upto_region 1 with (first
    | (go_at_call 73; refine (St.key (purse_a _) H).mono ?_; rintro e w1 ⟨rfl, H1, Q⟩; replace H := H1; clear H1; (try clear c0 c1 c2 c3 c4 c5 c6 hx); obtain ⟨c0, c1, c2, c3, c4, c5, c6⟩ := H.op; have hx := H.lt)
    | (go_at_call 75; refine (St.must H).mono ?_; rintro e w1 (⟨pv, s1, rfl, hpv, H1, Q⟩ | ⟨ch, rfl, P⟩); rotate_left; (focus (go_wp2_with fail; exact ⟨rfl, P.met⟩)); replace H := H1; clear H1; (try clear c0 c1 c2 c3 c4 c5 c6 hx); obtain ⟨c0, c1, c2, c3, c4, c5, c6⟩ := H.op; have hx := H.lt; have fapv := field_a pv.1 pv.2))
  have A : Bat x w0.heap.size o.who (.slice none 0 0) [] w1 := Bat.nil _ _
  replace H := H.tree (show _ = askT o (lessAll (moreAll o []) []) 7 [] from rfl)
  go_wp2_with fail
  go_loopw [2, 3] (fun v i wr => ∃ (m : Nat) (l : List Bt) (s1 : List Cel), m ≤ 7 ∧ i = .int .u32 (8 - (m : Int)) ∧ l.length + m ≤ 7 ∧ (∀ b ∈ l, BtOk b) ∧ Hid (St x o w0 R [] rp0 (askT o (lessAll (moreAll o []) []) m l) s1 wr) ∧ Hid (Bat x w0.heap.size o.who v l wr)) (fun _ i _ => 8 - (intOf i).toNat)
  case atStart => exact ⟨7, [], _, by omega, rfl, by simp, by simp, Lib.hid H, Lib.hid A⟩
  case round =>
    clear H A
    obtain ⟨m, l, s1, hm, rfl, hl, hb, H, A⟩ := hrel
    replace H := H.out
    replace A := A.out
    try clear c0 c1 c2 c3 c4 c5 c6 hx
    obtain ⟨c0, c1, c2, c3, c4, c5, c6⟩ := H.op
    have hx := H.lt
    rcases m with _ | m
    rotate_left
    · obtain ⟨k, hk⟩ : ∃ k : Int, k = 7 - (m : Int) := ⟨_, rfl⟩
      have hk1 : (8 - ((m + 1 : Nat) : Int)) = k := by omega
      rw [hk1]
      unfold askT at H
      rw [← hk] at H
      obtain ⟨ua, ub⟩ := needs_u o.what o.n
      have hu1 := cnt_u ua k
      have hu2 := cnt_u ub k
      have hC := change_any o.what o.n k
      obtain ⟨a, ha⟩ : ∃ a, cnt (needsI o.what o.n) k = a := ⟨_, rfl⟩
      obtain ⟨b, hb2⟩ : ∃ b, cnt (needsO o.what o.n) k = b := ⟨_, rfl⟩
      rw [ha] at H hu1 hC
      rw [hb2] at H hu2 hC
      clear ua ub ha hb2
      replace hk := Lib.hid hk
      have hk7 : k ≤ 7 := by have := hk.out; omega
      have hk0 : 0 ≤ k := by have := hk.out; omega
      clear hk1
      go_upto_region 5 with fail
      replace H := H.drew
      replace A := A.step (Step.refl x _).drew
      try clear c0 c1 c2 c3 c4 c5 c6 hx
      obtain ⟨c0, c1, c2, c3, c4, c5, c6⟩ := H.op
      have hx := H.lt
      go_region_held2 (fun w' => w'.cell? ⟨x, 3, none⟩ = some (.int .u32 o.what) ∧ w'.cell? ⟨x, 5, none⟩ = some (.int .u64 o.n))
        (first | exact ⟨H.op.2.2.2.1, H.op.2.2.2.2.2.1⟩ | go_keep)
        (first
          | (go_at_call 87; refine (hC _).mono ?_; rintro e w1 ⟨rfl, B1⟩; have Q := Step.ofBelow hx B1; have H1 := H.below B1; replace H := H1; clear H1; (try clear c0 c1 c2 c3 c4 c5 c6 hx); obtain ⟨c0, c1, c2, c3, c4, c5, c6⟩ := H.op; have hx := H.lt; replace A := A.step Q))
      all_goals (
        by_cases hz : a = 0 ∧ b = 0
        · as_aux_lemma =>
            obtain ⟨rfl, rfl⟩ := hz
            go_wp2_with fail
            go_roundw
            case rel => exact ⟨m, l, _, by omega, by have := hk.out; go_num, by omega, hb, Lib.hid (H.tree (if_pos ⟨rfl, rfl⟩)), Lib.hid A⟩
            case measure => simp [intOf]; omega
        by_cases ha : a = 0
        · subst ha
          have hb0 : ¬ b = 0 := fun h => hz ⟨rfl, h⟩
          replace H := H.tree (if_neg (by omega))
          go_upto_region 8 with (go_at_call 79; refine (St.key (stack_any _ _) H).mono ?_; rintro e w1 ⟨rfl, H1, Q⟩; replace H := H1; clear H1; (try clear c0 c1 c2 c3 c4 c5 c6 hx); obtain ⟨c0, c1, c2, c3, c4, c5, c6⟩ := H.op; have hx := H.lt; replace A := A.step Q)
          have hKX := A.notNew
          have KK := Box.newS H (.cells #[.int .u8 3, .int .u32 o.who, .int .u32 k] 52)
          replace A := A.step ((Step.refl x _).alloc hx (.cells #[.int .u8 3, .int .u32 o.who, .int .u32 k] 52))
          replace H := H.alloc (.cells #[.int .u8 3, .int .u32 o.who, .int .u32 k] 52)
          obtain ⟨KX, hKB⟩ := KK.name
          rw [← hKB] at KK hKX ⊢
          clear hKB
          obtain ⟨w5, hw5⟩ := A.world
          rw [← hw5] at H A KK ⊢
          clear hw5
          replace H := H.drew
          replace A := A.step (Step.refl x _).drew
          replace KK := KK.drew
          obtain ⟨k0, k1, k2, lK⟩ := KK.three
          try clear c0 c1 c2 c3 c4 c5 c6 hx
          obtain ⟨c0, c1, c2, c3, c4, c5, c6⟩ := H.op
          have hx := H.lt
          go_region_held2 (fun w' => w'.cell? ⟨KX, 0, none⟩ = some (.int .u8 3) ∧ w'.cell? ⟨KX, 1, none⟩ = some (.int .u32 o.who) ∧ w'.cell? ⟨KX, 2, none⟩ = some (.int .u32 k))
            (first | with_reducible exact ⟨KK.three.1, KK.three.2.1, KK.three.2.2.1⟩ | with_reducible exact ⟨(KK.alloc hx).three.1, (KK.alloc hx).three.2.1, (KK.alloc hx).three.2.2.1⟩ | with_reducible exact KH | go_keep)
            (first
              | (go_at_call 80; refine (St.amount H).mono ?_; rintro e w1 (⟨qa, s1, rfl, hqa, H1, Q⟩ | ⟨ch, rfl, P⟩); rotate_left; (focus (go_wp2_with fail; exact ⟨rfl, P.met⟩)); replace H := H1; clear H1; (try clear c0 c1 c2 c3 c4 c5 c6 hx); obtain ⟨c0, c1, c2, c3, c4, c5, c6⟩ := H.op; have hx := H.lt; replace A := A.step Q; replace KK := KK.step Q; have hnew := Lib.hid (heap_alloc_new w1 (.cells #[.int .u8 3, .int .u32 o.who, .int .u32 k, .int .u64 (0), .int .u64 b, .int .u64 qa] 141)); have hw0 := H.step.size)
              | (refine step_append_lies _ (by rfl) _ _ _ (by rfl) w0.heap.size 141 bi _ 6 40 Tryz.underlying139 hbi hz0 hz1 hz2 rfl (by omega) u2 l.length (btCells o.who l) (by rfl) (A.1.alloc _)
                      ⟨w1.heap.size, 0, none⟩ 1 1 (btRow o.who ⟨k, 0, b, qa⟩) (by rfl) (by rfl) (World.news_of_block hnew.out) (by simp [Value.oneCell', btRow])
                      (by omega) (by unfold maxLen; omega) (by omega) (by simp; omega) (w1.heap.size + 1) (by simp) ?_
                 intro gg gcap w3 hown hgrow hat hlt
                 have KH := KK.grown hgrow hKX))
          all_goals (
            obtain ⟨H2, A2⟩ := A.snoc H rfl hx0 hgrow hown rfl hat rfl
            go_wp2_with fail
            go_roundw
            case rel => exact ⟨m, l ++ [⟨k, 0, b, qa⟩], _, by omega, by have := hk.out; go_num, by simp; omega, fun q hq => by rcases List.mem_append.1 hq with hq | hq; exact hb q hq; obtain rfl := List.mem_singleton.1 hq; exact ⟨hu1, hu2, hqa⟩, Lib.hid H2, Lib.hid A2⟩
            case measure => simp [intOf]; omega)
        · replace H := H.tree (if_neg (by omega))
          go_upto_region 8 with (go_at_call 79; refine (St.key (stack_any _ _) H).mono ?_; rintro e w1 ⟨rfl, H1, Q⟩; replace H := H1; clear H1; (try clear c0 c1 c2 c3 c4 c5 c6 hx); obtain ⟨c0, c1, c2, c3, c4, c5, c6⟩ := H.op; have hx := H.lt; replace A := A.step Q)
          have hKX := A.notNew
          have KK := Box.newS H (.cells #[.int .u8 3, .int .u32 o.who, .int .u32 k] 52)
          replace A := A.step ((Step.refl x _).alloc hx (.cells #[.int .u8 3, .int .u32 o.who, .int .u32 k] 52))
          replace H := H.alloc (.cells #[.int .u8 3, .int .u32 o.who, .int .u32 k] 52)
          obtain ⟨KX, hKB⟩ := KK.name
          rw [← hKB] at KK hKX ⊢
          clear hKB
          obtain ⟨w5, hw5⟩ := A.world
          rw [← hw5] at H A KK ⊢
          clear hw5
          replace H := H.drew
          replace A := A.step (Step.refl x _).drew
          replace KK := KK.drew
          obtain ⟨k0, k1, k2, lK⟩ := KK.three
          try clear c0 c1 c2 c3 c4 c5 c6 hx
          obtain ⟨c0, c1, c2, c3, c4, c5, c6⟩ := H.op
          have hx := H.lt
          go_region_held2 (fun w' => w'.cell? ⟨KX, 0, none⟩ = some (.int .u8 3) ∧ w'.cell? ⟨KX, 1, none⟩ = some (.int .u32 o.who) ∧ w'.cell? ⟨KX, 2, none⟩ = some (.int .u32 k))
            (first | with_reducible exact ⟨KK.three.1, KK.three.2.1, KK.three.2.2.1⟩ | with_reducible exact ⟨(KK.alloc hx).three.1, (KK.alloc hx).three.2.1, (KK.alloc hx).three.2.2.1⟩ | with_reducible exact KH | go_keep)
            (first
              | (go_at_call 80; refine (St.amount H).mono ?_; rintro e w1 (⟨qa, s1, rfl, hqa, H1, Q⟩ | ⟨ch, rfl, P⟩); rotate_left; (focus (go_wp2_with fail; exact ⟨rfl, P.met⟩)); replace H := H1; clear H1; (try clear c0 c1 c2 c3 c4 c5 c6 hx); obtain ⟨c0, c1, c2, c3, c4, c5, c6⟩ := H.op; have hx := H.lt; replace A := A.step Q; replace KK := KK.step Q; have hnew := Lib.hid (heap_alloc_new w1 (.cells #[.int .u8 3, .int .u32 o.who, .int .u32 k, .int .u64 (a), .int .u64 b, .int .u64 qa] 141)); have hw0 := H.step.size)
              | (refine step_append_lies _ (by rfl) _ _ _ (by rfl) w0.heap.size 141 bi _ 6 40 Tryz.underlying139 hbi hz0 hz1 hz2 rfl (by omega) u2 l.length (btCells o.who l) (by rfl) (A.1.alloc _)
                      ⟨w1.heap.size, 0, none⟩ 1 1 (btRow o.who ⟨k, a, b, qa⟩) (by rfl) (by rfl) (World.news_of_block hnew.out) (by simp [Value.oneCell', btRow])
                      (by omega) (by unfold maxLen; omega) (by omega) (by simp; omega) (w1.heap.size + 1) (by simp) ?_
                 intro gg gcap w3 hown hgrow hat hlt
                 have KH := KK.grown hgrow hKX))
          all_goals (
            obtain ⟨H2, A2⟩ := A.snoc H rfl hx0 hgrow hown rfl hat rfl
            go_wp2_with fail
            go_roundw
            case rel => exact ⟨m, l ++ [⟨k, a, b, qa⟩], _, by omega, by have := hk.out; go_num, by simp; omega, fun q hq => by rcases List.mem_append.1 hq with hq | hq; exact hb q hq; obtain rfl := List.mem_singleton.1 hq; exact ⟨hu1, hu2, hqa⟩, Lib.hid H2, Lib.hid A2⟩
            case measure => simp [intOf]; omega))
    · rw [show (8 - ((0 : Nat) : Int)) = 8 from rfl]
      replace H := H.tree (show _ = lessAll (moreAll o []) [] l from rfl)
      obtain ⟨ao, c, rfl⟩ := A.shape
      obtain ⟨n, hn⟩ : ∃ n, l.length = n := ⟨_, rfl⟩
      rw [hn] at A hl ⊢
      go_wp2_with fail
      go_loopw [62] (fun i wr => ∃ (d m : List Bt) (s1 : List Cel), d.length + m.length = n ∧ i = .int .i64 (d.length : Int) ∧ (∀ b ∈ d ++ m, BtOk b) ∧ Hid (St x o w0 R [] rp0 (lessAll (moreAll o []) d m) s1 wr) ∧ Hid (Bat x w0.heap.size o.who (.slice ao n c) (d ++ m) wr)) (fun i _ => n - (intOf i).toNat)
      case atStart => exact ⟨[], l, _, by simpa using hn, rfl, by simpa using hb, Lib.hid H, Lib.hid (by simpa using A)⟩
      case round =>
        clear H A hb hn
        obtain ⟨d, m, s1, hdm, rfl, hb, H, A⟩ := hrel
        replace H := H.out
        replace A := A.out
        try clear c0 c1 c2 c3 c4 c5 c6 hx
        obtain ⟨c0, c1, c2, c3, c4, c5, c6⟩ := H.op
        have hx := H.lt
        rcases m with _ | ⟨b, m⟩
        rotate_left
        · as_aux_lemma =>
            simp only [List.length_cons] at hdm
            have hlen : (d ++ b :: m).length = n := by simp; omega
            obtain ⟨g, rfl⟩ := A.row (by omega)
            obtain ⟨j, hj⟩ : ∃ j, d.length = j := ⟨_, rfl⟩
            rw [hj] at hdm ⊢
            have hlt : (j : Int) < (n : Int) := by omega
            have hjb := fun c => set_mid d m b c hj
            have hst := fun c => (hjb c).2
            replace hjb := (hjb b).1
            obtain ⟨okl, okg, okh⟩ := hb b (by simp)
            go_upto_region 12 with fail
            replace H := H.drew
            replace A := A.step (Step.refl x _).drew
            obtain ⟨e0, e1, e2, e3, e4, e5, ef, lg, lb, ng⟩ := A.cells hlen hjb
            have f5 := ef (j * 6 + 5)
            try clear c0 c1 c2 c3 c4 c5 c6 hx
            obtain ⟨c0, c1, c2, c3, c4, c5, c6⟩ := H.op
            have hx := H.lt
            refine wp_region_line (m := 12) (fun w' => w'.cell? ⟨g, j * 6 + 5, none⟩ = some (.int .u64 b.hv) ∧ w'.cell? ⟨g, j * 6 + 3, none⟩ = some (.int .u64 b.lost)) (by kernel_rfl) (by kernel_rfl) (fun d _ _ _ _ h => by cases d <;> exact h) ⟨e5, e3⟩ ?_
            simp only [List.take_succ_cons, List.take_zero, List.drop_succ_cons, List.drop_zero]
            repeat (refine wpTake_step (v := ?_) (by rfl) ?_ ?_; rotate_left; (focus (intro w hSw; (try dsimp only at hSw); go_simp; try with_reducible rfl)); simp only [Act.put, List.setIfInBounds_toArray, List.set_cons_zero, List.set_cons_succ])
            refine wpTake_nil ?_
            refine line_call rfl (fun K hK => ?_)
            rw [if_pos (by rfl)]
            go_simp
            refine (St.less H okh okl).mono ?_; rintro e w1 (⟨a, rfl, ha, H1, Q⟩ | ⟨ch, rfl, P⟩); rotate_left; (focus (go_wp2_with fail; exact ⟨rfl, P.met⟩)); replace H := H1; clear H1; (try clear c0 c1 c2 c3 c4 c5 c6 hx); obtain ⟨c0, c1, c2, c3, c4, c5, c6⟩ := H.op; have hx := H.lt; replace A := A.step Q; obtain ⟨e0, e1, e2, e3, e4, e5, ef, lg, lb, ng⟩ := A.cells hlen hjb; have f5 := ef (j * 6 + 5)
            refine hK.out _ _ ⟨⟨e5, e3⟩, ?_⟩
            clear hK K
            obtain ⟨H2, A2⟩ := A.set hlen H hx0 rfl hjb a
            rw [hst] at A2
            go_wp2_with fail
            go_roundw
            case rel => exact ⟨d ++ [{ b with hv := a }], m, _, by simp; omega, by (rw [List.length_append, hj]; go_num), fun q hq => by (simp only [List.mem_append, List.mem_cons, List.not_mem_nil, or_false] at hq hb; rcases hq with (hq | rfl) | hq; exact hb q (.inl hq); exact ⟨okl, okg, ha.1, by have := ha.2; show a ≤ 18446744073709551615; omega⟩; exact hb q (.inr (.inr hq))), Lib.hid H2, Lib.hid A2⟩
            case measure => simp [intOf]; omega
        · simp only [List.length_nil, Nat.add_zero, List.append_nil] at hdm hb A
          replace H := H.tree (show _ = moreAll o [] d from rfl)
          rw [hdm]
          go_wp2_with fail
          go_loopw [83] (fun i wr => ∃ (p : List Pt) (j : Nat) (m : List Bt) (s1 : List Cel), p.length = j ∧ i = .int .i64 (j : Int) ∧ j ≤ n ∧ d.drop j = m ∧ Hid (St x o w0 R p rp0 (moreAll o p m) s1 wr) ∧ Hid (Bat x w0.heap.size o.who (.slice ao n c) d wr)) (fun i _ => n - (intOf i).toNat)
          case atStart => exact ⟨[], 0, d, _, rfl, rfl, Nat.zero_le _, rfl, Lib.hid H, Lib.hid A⟩
          case round =>
            clear H A
            obtain ⟨p, j, m, s1, hp, rfl, hjn, hd, H, A⟩ := hrel
            replace H := H.out
            replace A := A.out
            try clear c0 c1 c2 c3 c4 c5 c6 hx
            obtain ⟨c0, c1, c2, c3, c4, c5, c6⟩ := H.op
            have hx := H.lt
            rcases m with _ | ⟨b, m⟩
            rotate_left
            · as_aux_lemma =>
                obtain ⟨hjb, hd2⟩ := drop_next hd
                have hjl := (List.getElem?_eq_some_iff.1 hjb).1
                obtain ⟨g, rfl⟩ := A.row (by omega)
                have hlt : (j : Int) < (n : Int) := by omega
                have hpl : p.length + 1 ≤ 1000 := by omega
                obtain ⟨okl, okg, okh⟩ := hb b (List.mem_of_getElem? hjb)
                obtain ⟨e0, e1, e2, e3, e4, e5, ef, lg, lb, ng⟩ := A.cells hdm hjb
                unfold moreAll at H
                go_upto_region 17 with fail
                have KK := Box.newS H (.cells #[.int .u8 3, .int .u32 o.who, .int .u32 b.item, .int .u64 b.lost, .int .u64 b.got, .int .u64 b.hv] 141)
                replace A := A.step ((Step.refl x _).alloc hx (.cells #[.int .u8 3, .int .u32 o.who, .int .u32 b.item, .int .u64 b.lost, .int .u64 b.got, .int .u64 b.hv] 141))
                replace H := H.alloc (.cells #[.int .u8 3, .int .u32 o.who, .int .u32 b.item, .int .u64 b.lost, .int .u64 b.got, .int .u64 b.hv] 141)
                obtain ⟨KX, hKB⟩ := KK.name
                rw [← hKB] at KK ⊢
                clear hKB e0 e1 e2 e3 e4 e5 ef lg lb
                obtain ⟨w5, hw5⟩ := A.world
                rw [← hw5] at H A KK ⊢
                clear hw5
                replace H := H.drew
                replace A := A.step (Step.refl x _).drew
                replace KK := KK.drew
                have lK := KK.lt
                have k0 := KK.cell 0
                have k1 := KK.cell 1
                have k2 := KK.cell 2
                have k4 := KK.cell 4
                have k5 := KK.cell 5
                try clear c0 c1 c2 c3 c4 c5 c6 hx
                obtain ⟨c0, c1, c2, c3, c4, c5, c6⟩ := H.op
                have hx := H.lt
                go_region_held2 (fun w' => w'.cell? ⟨KX, 0, none⟩ = some (.int .u8 3) ∧ w'.cell? ⟨KX, 1, none⟩ = some (.int .u32 o.who) ∧ w'.cell? ⟨KX, 2, none⟩ = some (.int .u32 b.item) ∧ w'.cell? ⟨KX, 5, none⟩ = some (.int .u64 b.hv) ∧ w'.cell? ⟨KX, 4, none⟩ = some (.int .u64 b.got))
                  (first | exact ⟨KK.cell 0, KK.cell 1, KK.cell 2, KK.cell 5, KK.cell 4⟩ | go_keep)
                  (first
                    | (go_at_call 77; refine (St.more H okh okg).mono ?_; rintro e w1 (⟨a, rfl, ha, H1, Q⟩ | ⟨ch, rfl, P⟩); rotate_left; (focus (go_wp2_with fail; exact ⟨rfl, P.met⟩)); replace H := H1; clear H1; (try clear c0 c1 c2 c3 c4 c5 c6 hx); obtain ⟨c0, c1, c2, c3, c4, c5, c6⟩ := H.op; have hx := H.lt; replace A := A.step Q; replace KK := KK.step Q)
                    | (go_at_call_of 74 (Value.agg #[.int .u8 3, .int .u32 (o.who), .int .u32 (b.item)]); refine (St.put H (stackK o.who b.item) hpl).mono ?_; rintro e w1 ⟨rfl, H1, Q⟩; replace H := H1; clear H1; (try clear c0 c1 c2 c3 c4 c5 c6 hx); obtain ⟨c0, c1, c2, c3, c4, c5, c6⟩ := H.op; have hx := H.lt; obtain ⟨⟨u10, y10⟩, ⟨u11, y11⟩, ⟨u12, y12⟩⟩ := H.rep; have z10 := H.frozen 10; have z11 := H.frozen 11; have z12 := H.frozen 12; replace A := A.step Q; replace KK := KK.step Q))
                all_goals (
                  go_wp2_with fail
                  go_roundw
                  case rel => exact ⟨_, j + 1, m, _, by rw [List.length_append]; simp [hp], by go_num, by omega, hd2, Lib.hid H, Lib.hid A⟩
                  case measure => simp [intOf]; omega)
            · have hjn2 : j = n := by have := congrArg List.length hd; simp at this; omega
              subst hjn2
              obtain ⟨⟨u10, y10⟩, ⟨u11, y11⟩, ⟨u12, y12⟩⟩ := H.rep; have z10 := H.frozen 10; have z11 := H.frozen 11; have z12 := H.frozen 12
              go_wp2_with fail
              go_end0
              exact (H.setA _).met (by simp [moreAll, rp0])
end
end Go.Proofs.YtdbpjbmalinlbaaGreat

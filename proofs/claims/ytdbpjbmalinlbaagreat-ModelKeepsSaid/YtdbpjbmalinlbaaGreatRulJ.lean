/- Contracts of items. -/
import Derived.Test.YtdbpjbmalinlbaaGreatRulI
namespace Go.Proofs.YtdbpjbmalinlbaaGreat
open Go.RowKit

section
variable {x : Nat} {o : OpV} {s : List Cel} {p : List Pt} {r : Rp} {w w' : World}

theorem field_a (a b : Int) : ∀ w : World, (Instr.field 48 (.agg #[.int .u64 a, .int .u64 b]) 0).run Tryz.prog w = .ok (.int .u64 a) w := fun _ => by kernel_rfl

theorem must_val {k : Ky} {v : Vl} {s' : List Cel} (h : (mustT k).run s = .ok v s') (hv : ∀ c ∈ s, VlOk c.v) : VlOk v := by
  cases s with
  | nil => cases h
  | cons c s =>
    unfold mustT T.run at h
    unfold Cel.ans at h
    cases hc : c.is <;> simp [hc, T.run] at h
    obtain ⟨rfl, rfl⟩ := h
    exact hv c (by simp)
theorem amount_val {k : Ky} {a : Int} {s' : List Cel} (h : (amountT k).run s = .ok a s') (hv : ∀ c ∈ s, VlOk c.v) : U64 a := by
  cases s with
  | nil => cases h
  | cons c s =>
    unfold amountT T.run at h
    unfold Cel.ans at h
    cases hc : c.is <;> simp [hc, T.run] at h
    · obtain ⟨rfl, rfl⟩ := h
      exact ⟨by decide, by decide⟩
    · obtain ⟨rfl, rfl⟩ := h
      exact (hv c (by simp)).1

/-- An amount that was looked up is made more, or less, and put. -/
def changeT (k : Ky) (f : T Int) (p : List Pt) (r : Rp) : T (List Pt × Rp) := f.bind fun a => .done (p ++ [putP k a], { r with a := a })

theorem Met.bind {α β : Type} {val : β → Value} {pp : β → List Pt} {rr : β → Rp} {t : T α} {g : α → T β} {a : α} {s1 : List Cel} {w1 : World} {e : Ending}
    (S : Step x w w1) (h : t.run s = .ok a s1) (M : Met x o w1 val pp rr ((g a).run s1) e w') : Met x o w val pp rr ((t.bind g).run s) e w' := by
  rw [T.run_bind, h]
  exact ⟨S.trans M.1, M.2⟩
theorem Met.bind_need {α β : Type} {val : β → Value} {pp : β → List Pt} {rr : β → Rp} {t : T α} {g : α → T β} {k : Ky}
    (S : Step x w w') (h : t.run s = .need k) (D : Dead x o w') : Met x o w val pp rr ((t.bind g).run s) (needsP k) w' := by
  rw [T.run_bind, h]
  exact ⟨S, rfl, D⟩
theorem Met.bind_over {α β : Type} {val : β → Value} {pp : β → List Pt} {rr : β → Rp} {t : T α} {g : α → T β} {c : Int}
    (S : Step x w w') (h : t.run s = .over c) (D : Dead x o w') : Met x o w val pp rr ((t.bind g).run s) (overP c) w' := by
  rw [T.run_bind, h]
  exact ⟨S, rfl, D⟩
/-- A call at the end. -/
theorem Met.from {α : Type} {val : α → Value} {pp : α → List Pt} {rr : α → Rp} {res : Res α} {w1 : World} {e : Ending} (S : Step x w w1) (M : Met x o w1 val pp rr res e w') : Met x o w val pp rr res e w' := ⟨S.trans M.1, M.2⟩

set_option maxRecDepth 100000 in
set_option maxHeartbeats 1000000 in
theorem items_mint (h : Hand x o s p r w) (hp : p.length + 1 ≤ 1000) (hk : o.kind = 2) :
    Calls Tryz.prog 54 #[.pointer (some ⟨x, 0, none⟩)] w (Mets x o s w ((mustT (purseK o.who)).bind fun v => changeT (purseK o.who) (moreT v.1 o.n) p r)) := by
  obtain ⟨c0, c1, c2, c3, c4, c5, c6⟩ := h.op
  have hx := h.lt
  have V := Lib.hid h.valOk
  have h' := Lib.hid (h.alloc (.cells #[.int .u8 1, .int .u32 o.who, .int .u32 0] 52))
  clear h
  go_enter Tryz.func54, Tryz.ntmps54
  go_wp2_with fail
  refine (purse_a _ _).mono ?_
  rintro e w1 ⟨rfl, rfl⟩
  go_wp2_with fail
  refine (must_any (purseK o.who) h'.out).mono ?_
  rintro e w1 M
  obtain ⟨S1, ⟨v, s1, he, rfl, H1⟩ | ⟨k, he, rfl, D⟩ | ⟨c, he, rfl, D⟩⟩ := M.split
  · have hv := must_val he.out V.out
    have fa := field_a v.1 v.2
    obtain ⟨d0, d1, _⟩ := H1.op
    rw [hk] at d0
    go_wp2_with fail
    refine (purse_a _ _).mono ?_
    rintro e w2 ⟨rfl, rfl⟩
    go_wp2_with fail
    refine (hchange_more (purseK o.who) v.1 (H1.alloc _) hp hv.1).mono ?_
    rintro e w2 M
    have F := Met.bind (g := fun v => changeT (purseK o.who) (moreT v.1 o.n) p r) (((Step.refl x w).alloc hx _).trans S1) he.out (Met.from ((Step.refl x w1).alloc H1.lt _) M)
    obtain ⟨-, ⟨_, _, -, rfl, -⟩ | ⟨_, -, rfl, -⟩ | ⟨_, -, rfl, -⟩⟩ := M.split
    · go_wp2_with fail
      go_end0
      exact F
    · go_wp2_with fail
      exact ⟨rfl, F⟩
    · go_wp2_with fail
      exact ⟨rfl, F⟩
  · go_wp2_with fail
    exact ⟨rfl, Met.bind_need (((Step.refl _ _).alloc hx _).trans S1) he.out D⟩
  · go_wp2_with fail
    exact ⟨rfl, Met.bind_over (((Step.refl _ _).alloc hx _).trans S1) he.out D⟩
set_option maxRecDepth 100000 in
set_option maxHeartbeats 1000000 in
theorem items_sink (h : Hand x o s p r w) (hp : p.length + 1 ≤ 1000) (hk : o.kind = 3) :
    Calls Tryz.prog 54 #[.pointer (some ⟨x, 0, none⟩)] w (Mets x o s w ((mustT (purseK o.who)).bind fun v => changeT (purseK o.who) (lessT v.1 o.n) p r)) := by
  obtain ⟨c0, c1, c2, c3, c4, c5, c6⟩ := h.op
  have hx := h.lt
  have V := Lib.hid h.valOk
  have h' := Lib.hid (h.alloc (.cells #[.int .u8 1, .int .u32 o.who, .int .u32 0] 52))
  clear h
  go_enter Tryz.func54, Tryz.ntmps54
  go_wp2_with fail
  refine (purse_a _ _).mono ?_
  rintro e w1 ⟨rfl, rfl⟩
  go_wp2_with fail
  refine (must_any (purseK o.who) h'.out).mono ?_
  rintro e w1 M
  obtain ⟨S1, ⟨v, s1, he, rfl, H1⟩ | ⟨k, he, rfl, D⟩ | ⟨c, he, rfl, D⟩⟩ := M.split
  · have hv := must_val he.out V.out
    have fa := field_a v.1 v.2
    obtain ⟨d0, d1, _⟩ := H1.op
    rw [hk] at d0
    go_wp2_with fail
    refine (purse_a _ _).mono ?_
    rintro e w2 ⟨rfl, rfl⟩
    go_wp2_with fail
    refine (hchange_less (purseK o.who) v.1 (H1.alloc _) hp hv.1).mono ?_
    rintro e w2 M
    have F := Met.bind (g := fun v => changeT (purseK o.who) (lessT v.1 o.n) p r) (((Step.refl x w).alloc hx _).trans S1) he.out (Met.from ((Step.refl x w1).alloc H1.lt _) M)
    obtain ⟨-, ⟨_, _, -, rfl, -⟩ | ⟨_, -, rfl, -⟩ | ⟨_, -, rfl, -⟩⟩ := M.split
    · go_wp2_with fail
      go_end0
      exact F
    · go_wp2_with fail
      exact ⟨rfl, F⟩
    · go_wp2_with fail
      exact ⟨rfl, F⟩
  · go_wp2_with fail
    exact ⟨rfl, Met.bind_need (((Step.refl _ _).alloc hx _).trans S1) he.out D⟩
  · go_wp2_with fail
    exact ⟨rfl, Met.bind_over (((Step.refl _ _).alloc hx _).trans S1) he.out D⟩

set_option maxRecDepth 100000 in
set_option maxHeartbeats 1000000 in
theorem items_make (h : Hand x o s p r w) (hp : p.length + 1 ≤ 1000) (hk : o.kind = 4) :
    Calls Tryz.prog 54 #[.pointer (some ⟨x, 0, none⟩)] w (Mets x o s w ((mustT (purseK o.who)).bind fun _ => (amountT (stackK o.who o.what)).bind fun b => changeT (stackK o.who o.what) (moreT b o.n) p r)) := by
  obtain ⟨c0, c1, c2, c3, c4, c5, c6⟩ := h.op
  have hx := h.lt
  have V := Lib.hid h.valOk
  have h' := Lib.hid (h.alloc (.cells #[.int .u8 1, .int .u32 o.who, .int .u32 0] 52))
  clear h
  go_enter Tryz.func54, Tryz.ntmps54
  go_wp2_with fail
  refine (purse_a _ _).mono ?_
  rintro e w1 ⟨rfl, rfl⟩
  go_wp2_with fail
  refine (must_any (purseK o.who) h'.out).mono ?_
  rintro e w1 M
  obtain ⟨S1, ⟨v, s1, he, rfl, H1⟩ | ⟨k, he, rfl, D⟩ | ⟨c, he, rfl, D⟩⟩ := M.split
  · have V1 := Lib.hid H1.valOk
    have fa := field_a v.1 v.2
    obtain ⟨d0, d1, d2, d3, _⟩ := H1.op
    rw [hk] at d0
    have hx1 := H1.lt
    have S1' := ((Step.refl x w).alloc hx _).trans S1
    have SA := (((Step.refl x w1).drew.alloc hx1 (.cells #[.int .u8 3, .int .u32 o.who, .int .u32 o.what] 52)).alloc (by simp; omega) (.cells #[.int .u8 3, .int .u32 o.who, .int .u32 o.what] 52))
    clear M S1
    go_upto_region 7 with fail
    go_region_held2 (fun w' => w'.cell? ⟨x, 1, none⟩ = some (.int .u32 o.who) ∧ w'.cell? ⟨x, 3, none⟩ = some (.int .u32 o.what))
      (first | exact ⟨d1, d3⟩ | exact ⟨H2.op.2.1, H2.op.2.2.2.1⟩ | exact ⟨H3.op.2.1, H3.op.2.2.2.1⟩ | go_keep)
      (first
        | (go_at_call 79; refine (stack_any _ _ _).mono ?_; rintro e w' ⟨rfl, rfl⟩)
        | (go_at_call 80; refine (hamount_any (stackK o.who o.what) ((H1.drew.alloc _).alloc _)).mono ?_
           rintro e w2 M2
           obtain ⟨S2, ⟨b, s2, he2, rfl, H2⟩ | ⟨k, he2, rfl, D⟩ | ⟨c, he2, rfl, D⟩⟩ := M2.split
           rotate_left
           · go_wp2_with fail
             exact ⟨rfl, Met.bind S1' he.out (Met.bind_need (SA.trans S2) he2.out D)⟩
           · go_wp2_with fail
             exact ⟨rfl, Met.bind S1' he.out (Met.bind_over (SA.trans S2) he2.out D)⟩
           have hb := amount_val he2.out V1.out)
        | (go_at_call 76; refine (hchange_more (stackK o.who o.what) b H2 hp hb).mono ?_
           rintro e w3 M3
           have F := Met.bind (g := fun _ => (amountT (stackK o.who o.what)).bind fun b => changeT (stackK o.who o.what) (moreT b o.n) p r) S1' he.out (Met.bind (g := fun b => changeT (stackK o.who o.what) (moreT b o.n) p r) (SA.trans S2) he2.out M3)
           obtain ⟨-, ⟨_, _, -, rfl, H3⟩ | ⟨_, -, rfl, -⟩ | ⟨_, -, rfl, -⟩⟩ := M3.split
           rotate_left
           · go_wp2_with fail
             exact ⟨rfl, F⟩
           · go_wp2_with fail
             exact ⟨rfl, F⟩))
    all_goals (
      go_wp2_with fail
      go_end0
      exact F)
  · go_wp2_with fail
    exact ⟨rfl, Met.bind_need (((Step.refl _ _).alloc hx _).trans S1) he.out D⟩
  · go_wp2_with fail
    exact ⟨rfl, Met.bind_over (((Step.refl _ _).alloc hx _).trans S1) he.out D⟩

set_option maxRecDepth 100000 in
set_option maxHeartbeats 1000000 in
theorem items_use (h : Hand x o s p r w) (hp : p.length + 1 ≤ 1000) (hk : o.kind = 5) :
    Calls Tryz.prog 54 #[.pointer (some ⟨x, 0, none⟩)] w (Mets x o s w ((mustT (purseK o.who)).bind fun _ => (amountT (stackK o.who o.what)).bind fun b => changeT (stackK o.who o.what) (lessT b o.n) p r)) := by
  obtain ⟨c0, c1, c2, c3, c4, c5, c6⟩ := h.op
  have hx := h.lt
  have V := Lib.hid h.valOk
  have h' := Lib.hid (h.alloc (.cells #[.int .u8 1, .int .u32 o.who, .int .u32 0] 52))
  clear h
  go_enter Tryz.func54, Tryz.ntmps54
  go_wp2_with fail
  refine (purse_a _ _).mono ?_
  rintro e w1 ⟨rfl, rfl⟩
  go_wp2_with fail
  refine (must_any (purseK o.who) h'.out).mono ?_
  rintro e w1 M
  obtain ⟨S1, ⟨v, s1, he, rfl, H1⟩ | ⟨k, he, rfl, D⟩ | ⟨c, he, rfl, D⟩⟩ := M.split
  · have V1 := Lib.hid H1.valOk
    have fa := field_a v.1 v.2
    obtain ⟨d0, d1, d2, d3, _⟩ := H1.op
    rw [hk] at d0
    have hx1 := H1.lt
    have S1' := ((Step.refl x w).alloc hx _).trans S1
    have SA := (((Step.refl x w1).drew.alloc hx1 (.cells #[.int .u8 3, .int .u32 o.who, .int .u32 o.what] 52)).alloc (by simp; omega) (.cells #[.int .u8 3, .int .u32 o.who, .int .u32 o.what] 52))
    clear M S1
    go_upto_region 9 with fail
    go_region_held2 (fun w' => w'.cell? ⟨x, 1, none⟩ = some (.int .u32 o.who) ∧ w'.cell? ⟨x, 3, none⟩ = some (.int .u32 o.what))
      (first | exact ⟨d1, d3⟩ | exact ⟨H2.op.2.1, H2.op.2.2.2.1⟩ | exact ⟨H3.op.2.1, H3.op.2.2.2.1⟩ | go_keep)
      (first
        | (go_at_call 79; refine (stack_any _ _ _).mono ?_; rintro e w' ⟨rfl, rfl⟩)
        | (go_at_call 80; refine (hamount_any (stackK o.who o.what) ((H1.drew.alloc _).alloc _)).mono ?_
           rintro e w2 M2
           obtain ⟨S2, ⟨b, s2, he2, rfl, H2⟩ | ⟨k, he2, rfl, D⟩ | ⟨c, he2, rfl, D⟩⟩ := M2.split
           rotate_left
           · go_wp2_with fail
             exact ⟨rfl, Met.bind S1' he.out (Met.bind_need (SA.trans S2) he2.out D)⟩
           · go_wp2_with fail
             exact ⟨rfl, Met.bind S1' he.out (Met.bind_over (SA.trans S2) he2.out D)⟩
           have hb := amount_val he2.out V1.out)
        | (go_at_call 76; refine (hchange_less (stackK o.who o.what) b H2 hp hb).mono ?_
           rintro e w3 M3
           have F := Met.bind (g := fun _ => (amountT (stackK o.who o.what)).bind fun b => changeT (stackK o.who o.what) (lessT b o.n) p r) S1' he.out (Met.bind (g := fun b => changeT (stackK o.who o.what) (lessT b o.n) p r) (SA.trans S2) he2.out M3)
           obtain ⟨-, ⟨_, _, -, rfl, H3⟩ | ⟨_, -, rfl, -⟩ | ⟨_, -, rfl, -⟩⟩ := M3.split
           rotate_left
           · go_wp2_with fail
             exact ⟨rfl, F⟩
           · go_wp2_with fail
             exact ⟨rfl, F⟩))
    all_goals (
      go_wp2_with fail
      go_end0
      exact F)
  · go_wp2_with fail
    exact ⟨rfl, Met.bind_need (((Step.refl _ _).alloc hx _).trans S1) he.out D⟩
  · go_wp2_with fail
    exact ⟨rfl, Met.bind_over (((Step.refl _ _).alloc hx _).trans S1) he.out D⟩

def itemsT (o : OpV) (p : List Pt) (r : Rp) : T (List Pt × Rp) :=
  (mustT (purseK o.who)).bind fun v =>
    if o.kind = 2 then changeT (purseK o.who) (moreT v.1 o.n) p r
    else if o.kind = 3 then changeT (purseK o.who) (lessT v.1 o.n) p r
    else (amountT (stackK o.who o.what)).bind fun b => changeT (stackK o.who o.what) (if o.kind = 4 then moreT b o.n else lessT b o.n) p r
theorem items_any (h : Hand x o s p r w) (hp : p.length + 1 ≤ 1000) (hk : o.kind = 2 ∨ o.kind = 3 ∨ o.kind = 4 ∨ o.kind = 5) :
    Calls Tryz.prog 54 #[.pointer (some ⟨x, 0, none⟩)] w (Mets x o s w (itemsT o p r)) := by
  unfold itemsT
  rcases hk with hk | hk | hk | hk
  · simp only [hk]; exact items_mint h hp hk
  · simp only [hk]; exact items_sink h hp hk
  · simp only [hk]; exact items_make h hp hk
  · simp only [hk]; exact items_use h hp hk
end
end Go.Proofs.YtdbpjbmalinlbaaGreat

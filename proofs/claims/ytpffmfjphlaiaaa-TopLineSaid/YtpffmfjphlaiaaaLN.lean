/- sess.Receiver: hear. -/
import Derived.Test.YtpffmfjphlaiaaaLM
namespace Go.Proofs.Ytpffmfjphlaiaaa
open Go.RowKit

section
variable {P : Program} {ops : Array Oper} {rest : List Oper} {o : Oper} {a : Act} {w : World} {Q : Exit → Act → World → Prop}
theorem wpList_bi1 (hgd : o.guard = none) (b : Builtin) (x : Operand) (tys : Array TypeId) (v1 : Value) (ho : o.op = .call { callee := .builtin b, args := #[x], argTypes := tys }) (h1 : a.eval x = v1)
    (R : Value → World → Prop) (hrun : ∀ consts, ∃ v w', (builtin b tys o.type consts #[v1]).run P w = .ok (.value v) w' ∧ R v w') (h : ∀ v w', R v w' → wpList P ops Q rest (a.put o.dst v) w') : wpList P ops Q (o :: rest) a w :=
  wpList_plain hgd fun _ hK => wp_bi b #[x] tys #[v1] ho (by simp [h1]) R hrun fun v w' hR => hK _ _ (h v w' hR)
end

/-- The receiver as its call has it: of the life 3. -/
structure RH (w1 wx : World) (rb mb got n : Nat) (E : Nat → Bool) (bd : Nat → List UInt8) (col : Nat → Nat) : Prop where
  blk : Blk wx rb 77 #[.int .i64 8, .int .u64 3, .int .u64 (got : Int), .map (some mb)]
  mp : Earl wx mb n E bd col
  fr : Fr (fun k => k = rb ∨ k = mb) w1 wx
theorem Earl.fr {w w' : World} {mb n : Nat} {E : Nat → Bool} {bd : Nat → List UInt8} {col : Nat → Nat} {X : Nat → Prop} (h : Earl w mb n E bd col) (hf : Fr X w w') (hm : ¬ X mb) (hx : ∀ k, X k → k < w.heap.size → col k ≠ 0) : Earl w' mb n E bd col := by
  obtain ⟨m, h1, h3⟩ := h
  refine ⟨m, h1.fr hf hm, fun k => ⟨fun hk => ?_, (h3 k).2⟩⟩
  obtain ⟨v, hv, hb⟩ := (h3 k).1 hk
  exact ⟨v, hv, hb.fr hf hx⟩
theorem RH.fr0 {w1 wx wy : World} {rb mb got n : Nat} {E : Nat → Bool} {bd : Nat → List UInt8} {col : Nat → Nat} (h : RH w1 wx rb mb got n E bd col) (hf : Fr (fun _ => False) wx wy) : RH w1 wy rb mb got n E bd col :=
  ⟨h.blk.fr hf (fun h => h), h.mp.fr hf (fun h => h) (fun _ h => h.elim), h.fr.tr hf.none_up⟩

/-- Is it a piece that is kept? -/
def fresh (E : Nat → Bool) (got q : Nat) : Bool := !(E q) && decide (got < q) && decide (q ≤ got + 8)
def addE (E : Nat → Bool) (got q : Nat) : Nat → Bool := fun k => if k = q ∧ fresh E got q = true then true else E k
def drp (E : Nat → Bool) (got r : Nat) : Nat → Bool := fun k => E k && !(decide (got < k) && decide (k ≤ got + r))
theorem drp_0 (E : Nat → Bool) (got : Nat) : drp E got 0 = E := by
  funext k
  unfold drp
  by_cases h : got < k
  · rw [decide_eq_false (show ¬ k ≤ got + 0 by omega)]
    simp
  · simp [h]
theorem drp_at (E : Nat → Bool) (got r : Nat) : drp E got r (got + r + 1) = E (got + r + 1) := by
  unfold drp
  have : ¬ got + r + 1 ≤ got + r := by omega
  simp [this]
theorem drp_succ (E : Nat → Bool) (got r k : Nat) : drp E got (r + 1) k = if k = got + r + 1 then false else drp E got r k := by
  unfold drp
  by_cases h : k = got + r + 1
  · subst h
    have : got < got + r + 1 := by omega
    have h2 : got + r + 1 ≤ got + (r + 1) := by omega
    simp [this, h2]
  · rw [if_neg h]
    have : decide (k ≤ got + (r + 1)) = decide (k ≤ got + r) := by
      by_cases h3 : k ≤ got + r
      · rw [decide_eq_true h3, decide_eq_true (by omega)]
      · rw [decide_eq_false h3, decide_eq_false (by omega)]
    rw [this]
/-- Bodies that came out. -/
structure Outs (w : World) (base : Nat) (lv : Value) (got r : Nat) (vs : List Value) (bd : Nat → List UInt8) (col : Nat → Nat) : Prop where
  row : w.ownsRow base 24 1 lv r vs
  body : ∀ (i : Nat) (v : Value), vs[i]? = some v → Bd w v (bd (got + i + 1)) col
theorem Outs.fr {w w' : World} {base got r : Nat} {lv : Value} {vs : List Value} {bd : Nat → List UInt8} {col : Nat → Nat} {X : Nat → Prop} (h : Outs w base lv got r vs bd col) (hf : Fr X w w') (hx : ∀ k, X k → k < w.heap.size → k < base ∧ col k ≠ 0) : Outs w' base lv got r vs bd col :=
  ⟨own_fr h.row hf (fun k hk hX => by have := h.row.lt k hk; have := (hx k hX this.2).1; omega), fun i v hv => (h.body i v hv).fr hf (fun k hX hk => (hx k hX hk).2)⟩
theorem Bd.far {w w' : World} {v : Value} {bs : List UInt8} {col : Nat → Nat} {s : Nat} {t : TypeId} {cs : Array Value} (h : Bd w v bs col) (hf : Fr (fun k => k = s) w w') (hB : Blk w s t cs) (hno : ∀ (i : Nat) (z : Int), cs[i]? ≠ some (.int .u8 z)) : Bd w' v bs col :=
  ⟨Byt.fr' h.1 hf (fun _ hk hn e => h.1.ne_blk hn hB hno hk e), h.2⟩
theorem Earl.far {w w' : World} {mb n : Nat} {E : Nat → Bool} {bd : Nat → List UInt8} {col : Nat → Nat} {s : Nat} {t : TypeId} {cs : Array Value} (h : Earl w mb n E bd col) (hf : Fr (fun k => k = s) w w') (hm : mb ≠ s) (hB : Blk w s t cs) (hno : ∀ (i : Nat) (z : Int), cs[i]? ≠ some (.int .u8 z)) : Earl w' mb n E bd col := by
  obtain ⟨m, h1, h3⟩ := h
  refine ⟨m, h1.fr hf hm, fun k => ⟨fun hk => ?_, (h3 k).2⟩⟩
  obtain ⟨v, hv, hb⟩ := (h3 k).1 hk
  exact ⟨v, hv, hb.far hf hB hno⟩
theorem Outs.far {w w' : World} {base got r : Nat} {lv : Value} {vs : List Value} {bd : Nat → List UInt8} {col : Nat → Nat} {s : Nat} {t : TypeId} {cs : Array Value} (h : Outs w base lv got r vs bd col) (hf : Fr (fun k => k = s) w w') (hl : lv.ownBlock ≠ some s) (hB : Blk w s t cs) (hno : ∀ (i : Nat) (z : Int), cs[i]? ≠ some (.int .u8 z)) : Outs w' base lv got r vs bd col :=
  ⟨own_fr h.row hf (fun _ hk e => hl (by rw [hk, e])), fun i v hv => (h.body i v hv).far hf hB hno⟩
/-- The same while pieces come out: the bodies as they lay at w8. -/
def Earl2 (w8 w : World) (mb n : Nat) (E : Nat → Bool) (bd : Nat → List UInt8) (col : Nat → Nat) : Prop :=
  ∃ m, Mp w mb n m ∧ ∀ k, (E k = true → ∃ v, m k = some (.agg #[v]) ∧ Bd w8 v (bd k) col) ∧ (E k = false → m k = none)
theorem Earl2.fr {w8 w w' : World} {mb n : Nat} {E : Nat → Bool} {bd : Nat → List UInt8} {col : Nat → Nat} {X : Nat → Prop} (h : Earl2 w8 w mb n E bd col) (hf : Fr X w w') (hm : ¬ X mb) : Earl2 w8 w' mb n E bd col := by
  obtain ⟨m, h1, h3⟩ := h
  exact ⟨m, h1.fr hf hm, h3⟩
theorem Earl2.earl {w8 w : World} {mb n : Nat} {E : Nat → Bool} {bd : Nat → List UInt8} {col : Nat → Nat} (h : Earl2 w8 w mb n E bd col) (hb : ∀ v bs, Bd w8 v bs col → Bd w v bs col) : Earl w mb n E bd col := by
  obtain ⟨m, h1, h3⟩ := h
  refine ⟨m, h1, fun k => ⟨fun hk => ?_, (h3 k).2⟩⟩
  obtain ⟨v, hv, hb'⟩ := (h3 k).1 hk
  exact ⟨v, hv, hb _ _ hb'⟩
structure RH2 (w8 wx : World) (rb mb got n : Nat) (E : Nat → Bool) (bd : Nat → List UInt8) (col : Nat → Nat) : Prop where
  blk : Blk wx rb 77 #[.int .i64 8, .int .u64 3, .int .u64 (got : Int), .map (some mb)]
  mp : Earl2 w8 wx mb n E bd col
  fr : Fr (fun k => k = rb ∨ k = mb) w8 wx
structure Outs2 (w8 w : World) (lv : Value) (got r : Nat) (vs : List Value) (bd : Nat → List UInt8) (col : Nat → Nat) : Prop where
  row : w.ownsRow w8.heap.size 24 1 lv r vs
  body : ∀ (i : Nat) (v : Value), vs[i]? = some v → Bd w8 v (bd (got + i + 1)) col
theorem Outs2.fr {w8 w w' : World} {got r : Nat} {lv : Value} {vs : List Value} {bd : Nat → List UInt8} {col : Nat → Nat} {X : Nat → Prop} (h : Outs2 w8 w lv got r vs bd col) (hf : Fr X w w') (hx : ∀ k, X k → k < w.heap.size → k < w8.heap.size) : Outs2 w8 w' lv got r vs bd col :=
  ⟨own_fr h.row hf (fun k hk hX => by have := h.row.lt k hk; have := hx k hX this.2; omega), h.body⟩
theorem slinfo : (Try.prog.info? 24).map (fun i => (i.zero, i.size, i.bytes)) = some (some (.slice none 0 0), 1, 24) := by kernel_rfl
theorem wr_got {G : Nat} (h : G < 2000000) : IntKind.u64.wrap ((G : Int) + 1) = ((G + 1 : Nat) : Int) := by
  rw [IntKind.wrap_u64]; omega
theorem zeroE (w : World) : (zeroValue 95).run Try.prog w = .ok (.agg #[.slice none 0 0]) w := Try.zeroValue95 w
theorem Earl.look {w : World} {mb n : Nat} {E : Nat → Bool} {bd : Nat → List UInt8} {col : Nat → Nat} (h : Earl w mb n E bd col) (k : Nat) (hk : k < 18446744073709551616) : ∃ A l c, (∀ wx, Fr (fun _ => False) w wx → (Instr.lookup 75 (.map (some mb)) (.int .u64 (k : Int)) true).run Try.prog wx = .ok (.tuple #[.agg #[.slice A l c], .bool (E k)]) wx) ∧ (E k = true → Bd w (.slice A l c) (bd k) col) := by
  obtain ⟨m, hM, hE⟩ := h
  have hl := fun wx (hf : Fr (fun _ => False) w wx) => (hM.fr hf (fun h => h)).look key64 Try.underlying47 Try.underlying75 (zeroE wx) k hk
  cases he : E k with
  | true =>
    obtain ⟨v, hv, hb⟩ := (hE k).1 he
    obtain ⟨A, c, rfl, -⟩ := hb.1
    exact ⟨A, _, c, fun wx hf => by rw [hl wx hf, hv]; rfl, fun _ => hb⟩
  | false =>
    exact ⟨none, 0, 0, fun wx hf => by rw [hl wx hf, (hE k).2 he]; rfl, fun h => by cases h⟩

theorem Earl2.look {w8 w : World} {mb n : Nat} {E : Nat → Bool} {bd : Nat → List UInt8} {col : Nat → Nat} (h : Earl2 w8 w mb n E bd col) (k : Nat) (hk : k < 18446744073709551616) : ∃ A l c, (∀ wx, Fr (fun _ => False) w wx → (Instr.lookup 75 (.map (some mb)) (.int .u64 (k : Int)) true).run Try.prog wx = .ok (.tuple #[.agg #[.slice A l c], .bool (E k)]) wx) ∧ (E k = true → Bd w8 (.slice A l c) (bd k) col) := by
  obtain ⟨m, hM, hE⟩ := h
  have hl := fun wx (hf : Fr (fun _ => False) w wx) => (hM.fr hf (fun h => h)).look key64 Try.underlying47 Try.underlying75 (zeroE wx) k hk
  cases he : E k with
  | true =>
    obtain ⟨v, hv, hb⟩ := (hE k).1 he
    obtain ⟨A, c, rfl, -⟩ := hb.1
    exact ⟨A, _, c, fun wx hf => by rw [hl wx hf, hv]; rfl, fun _ => hb⟩
  | false =>
    exact ⟨none, 0, 0, fun wx hf => by rw [hl wx hf, (hE k).2 he]; rfl, fun h => by cases h⟩

set_option maxRecDepth 100000 in
set_option maxHeartbeats 8000000 in
theorem rhear_any (rb mb life got n : Nat) (E : Nat → Bool) (bd : Nat → List UInt8) (col : Nat → Nat) (q : Nat) (s : Value) (w : World) (h : RcvR w rb mb life got E bd n col) (hc : Cap w col) (hlife : life = 0 ∨ life = 3) (hs : Bd w s (bd q) col) (hq : 0 < q) (hq2 : q < 1000000) (hg2 : got < 1000000) (hn2 : n < 1000000) (hE8 : ∀ k, E k = true → k ≤ got + 8) (hl : (bd q).length ≤ 1000) :
    Calls Try.prog 28 #[.pointer (some ⟨rb, 0, none⟩), .agg #[.int .u64 3, .int .u64 (q : Int), .bool false, s]] w fun e w' => ∃ r lvo vso, e = .returned (.tuple #[lvo, .agg #[.int .u64 3, .int .u64 ((got + r : Nat) : Int), .bool true, .slice none 0 0], .int .i64 0]) ∧
      (∀ i, i < r → addE E got q (got + i + 1) = true) ∧ addE E got q (got + r + 1) = false ∧ RcvR w' rb mb 3 (got + r) (drp (addE E got q) got r) bd (n + 1) col ∧ Outs w' w.heap.size lvo got r vso bd col ∧ Recol 2 w w' col col := by
  obtain ⟨body, hbody⟩ : ∃ body, body = bd q := ⟨_, rfl⟩
  rw [← hbody] at hs hl
  obtain ⟨sA, sc, rfl, -, -⟩ := hs.1
  obtain ⟨w1, hw1⟩ : ∃ w1, w1 = (w.alloc (.cells #[.int .u64 3, .int .u64 (q : Int), .bool false, .slice sA body.length sc] 60)).alloc (.cells #[.int .u64 0, .int .u64 0, .bool false, .slice none 0 0] 60) := ⟨_, rfl⟩
  have hf1 : Fr (fun _ => False) w w1 := by rw [hw1]; exact ((Fr.refl _ w).alloc _).alloc _
  have hS1 : Blk w1 w.heap.size 60 #[.int .u64 3, .int .u64 (q : Int), .bool false, .slice sA body.length sc] := by rw [hw1]; exact (Blk.new _ _ _).alloc _
  have hR1 : Blk w1 (w.heap.size + 1) 60 #[.int .u64 0, .int .u64 0, .bool false, .slice none 0 0] := by
    rw [hw1]
    have := Blk.new (w.alloc (.cells #[.int .u64 3, .int .u64 (q : Int), .bool false, .slice sA body.length sc] 60)) 60 #[.int .u64 0, .int .u64 0, .bool false, .slice none 0 0]
    simpa using this
  have hrb := h.blk.lt
  have hmb : mb < w.heap.size := by obtain ⟨m, hm, -⟩ := h.mp; exact hm.lt
  have hright := right_yes 3 q false sA body.length sc w1 ⟨hq, hl⟩
  have hB1 := h.blk.fr hf1 (fun h => h)
  have hE1 := h.mp.fr hf1 (fun h => h) (fun _ h => h.elim)
  have HK : Hid (∀ wx, Fr (fun k => k = rb ∨ k = mb) w1 wx → wx.cell? ⟨w.heap.size, 0, none⟩ = some (.int .u64 3) ∧ wx.cell? ⟨w.heap.size, 1, none⟩ = some (.int .u64 (q : Int)) ∧ wx.cell? ⟨w.heap.size, 2, none⟩ = some (.bool false) ∧ wx.cell? ⟨w.heap.size, 3, none⟩ = some (.slice sA body.length sc)) := Lib.hid fun wx hf => by
    have b := hS1.fr hf (by omega)
    exact ⟨b.cell 0 rfl, b.cell 1 rfl, b.cell 2 rfl, b.cell 3 rfl⟩
  obtain ⟨c0, c1, c2, c3⟩ := HK.out w1 (Fr.refl _ _)
  have HH := Lib.hid (And.intro h (And.intro hs (And.intro hf1 (And.intro hright (And.intro hR1 (And.intro hB1 (And.intro hE1 hbody)))))))
  have HW := Lib.hid hw1
  clear h hs hw1 hf1 hS1 hright hR1 hB1 hE1 hbody
  go_enter Try.func28, Try.ntmps28
  go_upto_region 1 with (fail)
  rw [← HW.out]
  go_wp2_with fail
  refine HH.out.2.2.2.1.mono ?_
  rintro e w2 ⟨rfl, hf2⟩
  clear c0 c1 c2 c3
  obtain ⟨c0, c1, c2, c3⟩ := HK.out w2 hf2.none_up
  have hB2 := HH.out.2.2.2.2.2.1.fr hf2 (fun h => h)
  have b1 : w2.cell? ⟨rb, 1, none⟩ = some (.int .u64 (life : Int)) := hB2.cell 1 rfl
  have HF2 := Lib.hid (And.intro hf2 hB2)
  clear hf2 hB2
  go_upto_region 7 with (fail)
  go_cut [25] (fun x25 wx => x25 = .bool false ∧ ∃ nq, wx = w2.drewN nq)
  case first =>
    have e1 : ¬ (3 : Int) < (life : Int) := by omega
    have e2 : decide ((3 : Int) < (life : Int)) = false := by simpa using e1
    go_quiet (fail)
    go_wp2_with fail
    go_meet
    exact ⟨by first | rfl | exact congrArg Value.bool e2, _, rfl⟩
  case rest =>
    obtain ⟨rfl, nq, hw3⟩ := hcut
    obtain ⟨w3, hw3'⟩ : ∃ w3, w3 = wc := ⟨_, rfl⟩
    have hf3 : Fr (fun _ => False) w1 w3 := by rw [hw3', hw3]; exact HF2.out.1.drewN _
    rw [← hw3']
    clear hw3 hw3' c0 c1 c2 c3 b1
    obtain ⟨c0, c1, c2, c3⟩ := HK.out w3 hf3.none_up
    have hB3 := HH.out.2.2.2.2.2.1.fr hf3 (fun h => h)
    have b1 : w3.cell? ⟨rb, 1, none⟩ = some (.int .u64 (life : Int)) := hB3.cell 1 rfl
    have HF3 := Lib.hid (And.intro hf3 hB3)
    clear hf3 hB3
    go_upto_region 9 with (fail)
    go_cut [40] (fun x40 wx => x40 = .bool (decide (life = 0)) ∧ ∃ nq, wx = w3.drewN nq)
    case first =>
      have e2 : decide ((life : Int) < 3) = decide (life = 0) := by rcases hlife with rfl | rfl <;> rfl
      go_quiet (fail)
      go_wp2_with fail
      go_meet
      exact ⟨by first | rfl | exact congrArg Value.bool e2, _, rfl⟩
    case rest =>
      obtain ⟨rfl, nq3, hw4⟩ := hcut
      obtain ⟨w4, hw4'⟩ : ∃ w4, w4 = wc := ⟨_, rfl⟩
      have hf4 : Fr (fun _ => False) w1 w4 := by rw [hw4', hw4]; exact HF3.out.1.drewN _
      rw [← hw4']
      clear hw4 hw4' c0 c1 c2 c3 b1
      have hB4 := HH.out.2.2.2.2.2.1.fr hf4 (fun h => h)
      have hE4 := HH.out.2.2.2.2.2.2.1.fr hf4 (fun h => h) (fun _ h => h.elim)
      have HF4 := Lib.hid (And.intro hf4 (And.intro hB4 hE4))
      clear hf4 hB4 hE4
      go_upto_if 40 with (fail)
      go_cut [] (fun wx => RH w1 wx rb mb got n E bd col)
      case first =>
        by_cases hl0 : life = 0
        · rw [decide_eq_true hl0]
          obtain ⟨c0, c1, c2, c3⟩ := HK.out w4 HF4.out.1.none_up
          have hB4 := HF4.out.2.1
          have b3 : w4.cell? ⟨rb, 3, none⟩ = some (.map (some mb)) := hB4.cell 3 rfl
          obtain ⟨m4, hM4, hM5⟩ := HF4.out.2.2
          have HCL := Lib.hid (fun (ty : TypeId) (consts : Array Bool) => hM4.clear (P := Try.prog) Try.underlying75 ty consts)
          have HL0 := Lib.hid hl0
          have hne : rb ≠ mb := hM4.blk_ne hB4
          have hnm : w.heap.size ≠ mb := by omega
          clear hM4 hM5 hl0 c1 c2 c3 b3
          have b3 : w4.cell? ⟨rb, 3, none⟩ = some (.map (some mb)) := hB4.cell 3 rfl
          go_wp2_with (first
            | (refine wpList_bi1 rfl .clear _ _ _ rfl rfl _ (HCL.out _) ?_
               rintro v5 w5 ⟨hM5, hf5⟩
               have hB5 := hB4.fr hf5 hne
               have d0 := hf5.cell c0 hnm
               have b51 : w5.cell? ⟨rb, 1, none⟩ = some (.int .u64 (life : Int)) := hB5.cell 1 rfl
               have b52 : w5.cell? ⟨rb, 2, none⟩ = some (.int .u64 (got : Int)) := hB5.cell 2 rfl
               have b5f := hB5.frozen)
            | fail)
          go_meet
          obtain ⟨hg0, hE0⟩ := HH.out.1.fst HL0.out
          have hX : Fr (fun k => k = rb) w5 ((w5.setCell ⟨rb, 1, none⟩ (.int .u64 3)).setCell ⟨rb, 2, none⟩ (.int .u64 0)) := (Fr.set1 w5 rb 1 _).setCell (p := ⟨rb, 2, none⟩) (fun _ => rfl) _
          refine ⟨by rw [hg0]; exact (hB5.set_ 1 (.int .u64 3)).set_ 2 (.int .u64 0), ⟨fun _ => none, (hM5.fr hX (fun e => hne e.symm)).mono (Nat.zero_le n), fun k => ⟨fun h => (by rw [hE0 k] at h; cases h), fun _ => rfl⟩⟩, ?_⟩
          exact (HF4.out.1.none_up.tr (hf5.mono (fun k _ e => .inr e))).tr (hX.mono (fun k _ e => .inl e))
        · rw [decide_eq_false hl0]
          have hl3 : life = 3 := by omega
          have HL3 := Lib.hid hl3
          clear hl0 hl3
          go_wp2_with fail
          go_meet
          have hB4 := HF4.out.2.1
          rw [HL3.out] at hB4
          exact ⟨hB4, HF4.out.2.2, HF4.out.1.none_up⟩
      case rest =>
        obtain ⟨w5, hw5⟩ : ∃ w5, w5 = wc := ⟨_, rfl⟩
        rw [← hw5] at hcut ⊢
        clear hw5
        have H5 := Lib.hid hcut
        clear hcut
        go_upto_region 12 with (fail)
        go_cut [8] (fun x8 wx => x8 = .bool (E q) ∧ Fr (fun _ => False) w5 wx)
        case first =>
          obtain ⟨lA, ll, lc, hlook, -⟩ := H5.out.mp.look q (by omega)
          have l1 := hlook _ (Fr.refl (fun _ => False) w5).drew
          have l2 := hlook _ ((Fr.refl (fun _ => False) w5).alloc (Obj.cells #[.slice none 0 0] 95)).drew
          obtain ⟨c0, c1, c2, c3⟩ := HK.out w5 H5.out.fr
          have b3 : w5.cell? ⟨rb, 3, none⟩ = some (.map (some mb)) := H5.out.blk.cell 3 rfl
          have a1 := al_cell c1 (Obj.cells #[.slice none 0 0] 95)
          have a3 := al_cell b3 (Obj.cells #[.slice none 0 0] 95)
          clear hlook c0 c2 c3
          go_region_law (fail)
          all_goals
            rename_i hmm
            simp only [Exit.then]
            refine hmm _ _ ?_
            go_meet
            exact ⟨rfl, ((Fr.refl _ w5).alloc _).drew⟩
        case rest =>
          obtain ⟨rfl, hf6⟩ := hcut
          obtain ⟨w6, hw6⟩ : ∃ w6, w6 = wc := ⟨_, rfl⟩
          rw [← hw6] at hf6 ⊢
          clear hw6
          have H6 := Lib.hid (H5.out.fr0 hf6)
          clear hf6
          go_upto_region 13 with (fail)
          go_cut [88] (fun x88 wx => x88 = .bool (fresh E got q) ∧ ∃ nq, wx = w6.drewN nq)
          case first =>
            obtain ⟨c0, c1, c2, c3⟩ := HK.out w6 H6.out.fr
            have b0 : w6.cell? ⟨rb, 0, none⟩ = some (.int .i64 8) := H6.out.blk.cell 0 rfl
            have b2 : w6.cell? ⟨rb, 2, none⟩ = some (.int .u64 (got : Int)) := H6.out.blk.cell 2 rfl
            clear c0 c2 c3
            rcases Bool.eq_false_or_eq_true (E q) with hE | hE
            · have hnE : (!(E q)) = false := by rw [hE]; rfl
              have HF : Hid (fresh E got q = false) := Lib.hid (by simp [fresh, hE])
              clear hE
              go_quiet (fail)
              go_wp2_with fail
              go_meet
              exact ⟨by rw [HF.out]; try rfl, _, rfl⟩
            · have hnE : (!(E q)) = true := by rw [hE]; rfl
              by_cases h1 : got < q
              · have h1d : decide ((got : Int) < (q : Int)) = true := by simp [h1]
                by_cases h2 : q ≤ got + 8
                · have h2i : (q : Int) - (got : Int) ≤ 8 := by omega
                  have h2d : decide ((q : Int) - (got : Int) ≤ 8) = true := by simpa using h2i
                  have HF : Hid (fresh E got q = true) := Lib.hid (by simp [fresh, hE, h1, h2])
                  clear hE
                  go_quiet (fail)
                  go_wp2_with fail
                  go_meet
                  exact ⟨by rw [HF.out]; try rfl, _, rfl⟩
                · have h2i : ¬ (q : Int) - (got : Int) ≤ 8 := by omega
                  have h2d : decide ((q : Int) - (got : Int) ≤ 8) = false := by simpa using h2i
                  have HF : Hid (fresh E got q = false) := Lib.hid (by simp [fresh, hE, h2])
                  clear hE
                  go_quiet (fail)
                  go_wp2_with fail
                  go_meet
                  exact ⟨by rw [HF.out]; try rfl, _, rfl⟩
              · have h1d : decide ((got : Int) < (q : Int)) = false := by simp; omega
                have HF : Hid (fresh E got q = false) := Lib.hid (by simp [fresh, hE, h1])
                clear hE
                go_quiet (fail)
                go_wp2_with fail
                go_meet
                exact ⟨by rw [HF.out]; try rfl, _, rfl⟩
          case rest =>
            obtain ⟨rfl, nq6, hw7⟩ := hcut
            obtain ⟨w7, hw7'⟩ : ∃ w7, w7 = wc := ⟨_, rfl⟩
            have hf7 : Fr (fun _ => False) w6 w7 := by rw [hw7', hw7]; exact (Fr.refl _ w6).drewN _
            rw [← hw7']
            have H7 := Lib.hid (H6.out.fr0 hf7)
            clear hw7 hw7' hf7
            go_upto_if 88 with (fail)
            go_cut [] (fun wx => RH w1 wx rb mb got (n + 1) (addE E got q) bd col)
            case first =>
              cases hfr : fresh E got q with
              | true =>
                have HFR := Lib.hid hfr
                clear hfr
                go_upto_region 14 with (fail)
                obtain ⟨m7, hM7, hE7⟩ := H7.out.mp
                obtain ⟨c0, c1, c2, c3⟩ := HK.out w7 H7.out.fr
                have b3 : w7.cell? ⟨rb, 3, none⟩ = some (.map (some mb)) := H7.out.blk.cell 3 rfl
                have hs7 : Byt w7 (.slice sA body.length sc) body := Byt.fr' (Byt.fr' HH.out.2.1.1 HH.out.2.2.1 (fun _ _ _ h => h)) H7.out.fr (fun k hk hn hX => by
                  have h0 := HH.out.2.1.2 k hk hn
                  rcases hX with e | e
                  · rw [e, HH.out.1.own] at h0; omega
                  · rw [e, HH.out.1.ownm] at h0; omega)
                have HN := Lib.hid (fun (ty : TypeId) (consts : Array Bool) => ap_newd w7 _ _ hs7 (by omega) ty consts)
                have a1 := al_cell c1 (Obj.cells #[] 5)
                have a2 := al_cell c3 (Obj.cells #[] 5)
                have a3 := al_cell b3 (Obj.cells #[] 5)
                have hqk : q < 18446744073709551616 := by omega
                have hrm : rb ≠ mb := hM7.blk_ne H7.out.blk
                have hnm : w.heap.size ≠ mb := by omega
                have HM7 := Lib.hid (And.intro hM7 hE7)
                have hmaxn : n < maxLen := by simp only [maxLen]; omega
                clear hM7 hE7 c0 c2 hs7
                have hS7 := And.intro b3 (And.intro c1 c3)
                have hS7a := And.intro a3 (And.intro a1 a2)
                go_region_held3 (fun wx => wx.cell? ⟨rb, 3, none⟩ = some (.map (some mb)) ∧ wx.cell? ⟨w.heap.size, 1, none⟩ = some (.int .u64 (q : Int)) ∧ wx.cell? ⟨w.heap.size, 3, none⟩ = some (.slice sA body.length sc))
                  (first | exact hS7 | exact hS7a | exact hS8 | exact hS9)
                  (first
                  | (refine step_bi2 rfl .append _ _ _ (.slice (some ⟨w7.heap.size, 0, none⟩) 0 0) (.slice sA body.length sc) rfl rfl rfl _ (HN.out _) ?_
                     rintro v8 w8 ⟨g8, cap8, rfl, hg8, hgl8, ho8, hf8⟩
                     have hM8 := HM7.out.1.fr hf8 (fun h => h)
                     have hS8 := And.intro (hf8.cell b3 (fun h => h)) (And.intro (hf8.cell c1 (fun h => h)) (hf8.cell c3 (fun h => h)))
                     obtain ⟨w9, hrun9, hM9, hf9, -⟩ := hM8.update key64 Try.underlying47 Try.underlying75 hmaxn q hqk (.agg #[.slice (some ⟨g8, 0, none⟩) body.length cap8])
                     have hS9 := And.intro (hf9.cell hS8.1 hrm) (And.intro (hf9.cell hS8.2.1 hnm) (hf9.cell hS8.2.2 hnm))))
                all_goals
                  rename_i hmm _hh
                  simp only [Exit.then]
                  refine hmm _ _ ?_
                  go_meet
                  have hz1 := HH.out.2.2.1.size
                  have hz7 := H7.out.fr.size
                  have hcm : ∀ x, x = mb → x < w8.heap.size → col x ≠ 0 := fun x e _ => by rw [e, HH.out.1.ownm]; omega
                  refine ⟨(H7.out.blk.fr hf8 (fun h => h)).fr hf9 hrm, ⟨_, hM9, fun x => ?_⟩, (H7.out.fr.tr hf8.none_up).tr (hf9.mono (fun x _ e => .inr e))⟩
                  by_cases hxq : x = q
                  · subst hxq
                    have hadd : addE E got x x = true := by simp [addE, HFR.out]
                    refine ⟨fun _ => ⟨.slice (some ⟨g8, 0, none⟩) body.length cap8, by simp [upd], ⟨(by rw [← HH.out.2.2.2.2.2.2.2]; exact (Byt.of_own ho8).fr hf9 (fun k hk e => hM8.own_ne ho8 k hk e)), fun k hk _ => ?_⟩⟩, fun h => (by rw [hadd] at h; cases h)⟩
                    simp only [Value.ownBlock] at hk; injection hk with hk
                    exact hc k (by omega)
                  · have hadd : addE E got q x = E x := by simp [addE, hxq]
                    rw [hadd]
                    refine ⟨fun h => ?_, fun h => by rw [upd, if_neg hxq]; exact (HM7.out.2 x).2 h⟩
                    obtain ⟨v, hv, hb⟩ := (HM7.out.2 x).1 h
                    exact ⟨v, by rw [upd, if_neg hxq]; exact hv, (hb.fr hf8 (fun _ h => h.elim)).fr hf9 hcm⟩
              | false =>
                have HFR := Lib.hid hfr
                clear hfr
                go_wp2_with fail
                go_meet
                obtain ⟨h1, ⟨m, h2, h3⟩, h4⟩ := H7.out
                have hadd : addE E got q = E := by funext k; simp [addE, HFR.out]
                rw [hadd]
                exact ⟨h1, ⟨m, h2.mono (by omega), h3⟩, h4⟩
            case rest =>
              obtain ⟨w8, hw8⟩ : ∃ w8, w8 = wc := ⟨_, rfl⟩
              rw [← hw8] at hcut ⊢
              clear hw8
              obtain ⟨E1, hE1⟩ : ∃ E1, E1 = addE E got q := ⟨_, rfl⟩
              rw [← hE1] at hcut
              have H8 := Lib.hid hcut
              have HE1 := Lib.hid hE1
              clear hcut hE1
              have hE18 : ∀ k, E1 k = true → k ≤ got + 8 := fun k hk => by
                rw [HE1.out] at hk
                unfold addE at hk
                split at hk
                · rename_i h1
                  have h2 := h1.2
                  simp only [fresh, Bool.and_eq_true, decide_eq_true_eq] at h2
                  omega
                · exact hE8 k hk
              have HE8 := Lib.hid hE18
              clear hE18 hE8
              go_wp2_with fail
              go_loopg [9, 10, 11] 9 (fun g x9 _ _ wr => ∃ r vso, r + g = 9 ∧ (∀ i, i < r → E1 (got + i + 1) = true) ∧ RH2 w8 wr rb mb (got + r) (n + 1) (drp E1 got r) bd col ∧ Outs2 w8 wr x9 got r vso bd col)
              case atStart => exact ⟨0, [], rfl, fun i hi => by omega, by rw [drp_0]; exact ⟨H8.out.blk, H8.out.mp, Fr.refl _ _⟩, ⟨⟨rfl, .inl ⟨rfl, rfl⟩⟩, by simp⟩⟩
              case round =>
                obtain ⟨r, vso, hr, hall, hRH, hOut⟩ := hrel
                obtain ⟨w9, hw9⟩ : ∃ w9, w9 = wr := ⟨_, rfl⟩
                rw [← hw9] at hRH hOut ⊢
                clear hw9
                obtain ⟨G, hG⟩ : ∃ G, G = got + r := ⟨_, rfl⟩
                rw [← hG] at hRH
                have hr9 : r ≤ 9 := by omega
                have hGl : G < 2000000 := by omega
                have hGi : (G : Int) < 2000000 := by omega
                have H9 := Lib.hid (And.intro hr (And.intro hall (And.intro hRH (And.intro hOut hG))))
                clear hr hall hRH hOut hG
                go_upto_region 16 with (fail)
                go_cut [10, 11] (fun x10 x11 wx => ∃ A l c, x10 = .pointer (some ⟨w9.heap.size, 0, none⟩) ∧ x11 = .bool (drp E1 got r (G + 1)) ∧ Blk wx w9.heap.size 95 #[.slice A l c] ∧ (drp E1 got r (G + 1) = true → Bd w8 (.slice A l c) (bd (G + 1)) col) ∧ Fr (fun _ => False) w9 wx)
                case first =>
                  obtain ⟨lA, ll, lc, hlook, hbd⟩ := H9.out.2.2.1.mp.look (G + 1) (by omega)
                  rw [← wr_got hGl] at hlook
                  have l1 := hlook _ (Fr.refl (fun _ => False) w9).drew
                  have l2 := hlook _ ((Fr.refl (fun _ => False) w9).alloc (Obj.cells #[.slice none 0 0] 95)).drew
                  have b3 : w9.cell? ⟨rb, 3, none⟩ = some (.map (some mb)) := H9.out.2.2.1.blk.cell 3 rfl
                  have b2 : w9.cell? ⟨rb, 2, none⟩ = some (.int .u64 (G : Int)) := H9.out.2.2.1.blk.cell 2 rfl
                  have a2 := al_cell b2 (Obj.cells #[.slice none 0 0] 95)
                  have a3 := al_cell b3 (Obj.cells #[.slice none 0 0] 95)
                  have HB := Lib.hid hbd
                  clear hlook hbd
                  go_region_law (fail)
                  all_goals
                    rename_i hmm
                    simp only [Exit.then]
                    refine hmm _ _ ?_
                    go_meet
                    exact ⟨lA, ll, lc, rfl, rfl, (Blk.new _ _ _).drew, HB.out, ((Fr.refl _ w9).alloc _).drew⟩
                case rest =>
                  obtain ⟨A, l, c, rfl, rfl, hbk, hbd, hf10⟩ := hcut
                  obtain ⟨w10, hw10⟩ : ∃ w10, w10 = wc := ⟨_, rfl⟩
                  rw [← hw10] at hbk hf10 ⊢
                  clear hw10
                  have H10 := Lib.hid (And.intro hbk (And.intro hbd hf10))
                  clear hbk hbd hf10
                  cases hD : drp E1 got r (G + 1) with
                  | false =>
                    have HD := Lib.hid hD
                    clear hD
                    have hB10 := H9.out.2.2.1.blk.fr H10.out.2.2 (fun h => h)
                    have b1 : w10.cell? ⟨rb, 1, none⟩ = some (.int .u64 3) := hB10.cell 1 rfl
                    have b2 : w10.cell? ⟨rb, 2, none⟩ = some (.int .u64 (G : Int)) := hB10.cell 2 rfl
                    have hR10 : Blk w10 (w.heap.size + 1) 60 #[.int .u64 0, .int .u64 0, .bool false, .slice none 0 0] := (HH.out.2.2.2.2.1.fr (H8.out.fr.tr H9.out.2.2.1.fr) (by omega)).fr H10.out.2.2 (fun h => h)
                    have r0 : w10.cell? ⟨w.heap.size + 1, 0, none⟩ = some (.int .u64 0) := hR10.cell 0 rfl
                    have r1 : w10.cell? ⟨w.heap.size + 1, 1, none⟩ = some (.int .u64 0) := hR10.cell 1 rfl
                    have r2 : w10.cell? ⟨w.heap.size + 1, 2, none⟩ = some (.bool false) := hR10.cell 2 rfl
                    have r3 : w10.cell? ⟨w.heap.size + 1, 3, none⟩ = some (.slice none 0 0) := hR10.cell 3 rfl
                    have rf := hR10.frozen
                    have HR := Lib.hid hR10
                    clear hB10 hR10
                    go_upto_region 18 with (fail)
                    go_cut [4, 6] (fun x4 x6 wx => x4 = u9 ∧ x6 = .int .i64 0 ∧ Blk wx (w.heap.size + 1) 60 #[.int .u64 3, .int .u64 (G : Int), .bool true, .slice none 0 0] ∧ Fr (fun k => k = w.heap.size + 1) w10 wx)
                    case first =>
                      go_region_law (fail)
                      all_goals
                        rename_i hmm
                        simp only [Exit.then]
                        refine hmm _ _ ?_
                        go_meet
                        exact ⟨rfl, rfl, (((HR.out.drew.set_ 0 (.int .u64 3)).set_ 1 (.int .u64 (G : Int))).set_ 2 (.bool true)).set_ 3 (.slice none 0 0), (Fr.refl _ w10).drew.tr (seg_set w10.drew (w.heap.size + 1) _ _ _ _)⟩
                    case rest =>
                      obtain ⟨rfl, rfl, hB11, hf11⟩ := hcut
                      obtain ⟨w11, hw11⟩ : ∃ w11, w11 = wc := ⟨_, rfl⟩
                      rw [← hw11] at hB11 hf11 ⊢
                      clear hw11
                      have H11 := Lib.hid (And.intro hB11 hf11)
                      clear hB11 hf11 b1 b2 r0 r1 r2 r3 rf
                      go_wp2_with fail
                      obtain ⟨hr, hall, hRH, hOut, hG⟩ := H9.out
                      obtain ⟨hbk, hbd, hf10⟩ := H10.out
                      obtain ⟨hB11, hf11⟩ := H11.out
                      have hR := HR.out
                      have hz1 := HH.out.2.2.1.size
                      have hcol : col (w.heap.size + 1) = 0 := hc _ (by omega)
                      have hz8 := H8.out.fr.size
                      have hlt1 := HH.out.2.2.2.2.1.lt
                      have hOut10 := hOut.fr hf10 (fun _ h => h.elim)
                      have hrow11 := own_fr hOut10.row hf11 (fun k hk e => by have := (hOut.row.lt k hk).1; omega)
                      have hcm : ∀ x, (x = rb ∨ x = mb) → x < w8.heap.size → col x ≠ 0 := fun x e _ => by
                        rcases e with e | e
                        · rw [e, HH.out.1.own]; omega
                        · rw [e, HH.out.1.ownm]; omega
                      have hbd11 : ∀ v bs, Bd w8 v bs col → Bd w11 v bs col := fun v bs h => ((h.fr hRH.fr hcm).fr hf10 (fun _ h => h.elim)).far hf11 hR (seg_no _ _ _ _ _ _)
                      have hE11 := ((hRH.mp.fr hf10 (fun h => h)).fr hf11 (by omega)).earl hbd11
                      have hF : Fr (fun k => col k = 2) w w11 := by
                        have h1 : Fr (fun k => col k = 2) w w10 := (HH.out.2.2.1.none_up.tr ((H8.out.fr.tr hRH.fr).mono (fun k _ h => h.elim (fun e => by rw [e]; exact HH.out.1.own) (fun e => by rw [e]; exact HH.out.1.ownm)))).tr hf10.none_up
                        exact h1.trans hf11 (fun k hk h => h.elim id (fun e => by omega))
                      rw [← HE1.out]
                      refine bodyPost_ret (results_tmp_row_tmp rfl _ _ (w.heap.size + 1) 60 #[.int .u64 3, .int .u64 (G : Int), .bool true, .slice none 0 0] (0, 0) _ rfl ?_ Try.underlying60 rfl (by kernel_rfl)) rfl ⟨r, _, vso, ?_, hall, ?_, ⟨?_, hE11, HH.out.1.own, HH.out.1.ownm, fun h => by omega⟩, ⟨own_up (own_base hrow11) (fun k hk => by have := (hOut.row.lt k hk).1; omega), fun i v hv => hbd11 _ _ (hOut.body i v hv)⟩, Recol.same hc hF⟩
                      · exact hB11
                      · rw [← hG]; rfl
                      · have := HD.out
                        rw [hG, drp_at] at this
                        exact this
                      · rw [← hG]
                        exact (hRH.blk.fr hf10 (fun h => h)).fr hf11 (by omega)
                  | true =>
                    have HD := Lib.hid hD
                    clear hD
                    have hB10 := H9.out.2.2.1.blk.fr H10.out.2.2 (fun h => h)
                    have b2 : w10.cell? ⟨rb, 2, none⟩ = some (.int .u64 (G : Int)) := hB10.cell 2 rfl
                    have bf := hB10.frozen
                    have hB11 := hB10.set_ 2 (.int .u64 ((G : Int) + 1))
                    have hf11 : Fr (fun k => k = rb) w10 (w10.setCell ⟨rb, 2, none⟩ (.int .u64 ((G : Int) + 1))) := Fr.set1 _ _ _ _
                    have H11 := Lib.hid (And.intro hB11 hf11)
                    clear hB10 hB11 hf11
                    go_upto_region 20 with (fail)
                    obtain ⟨w11, hw11⟩ : ∃ w11, w11 = w10.setCell ⟨rb, 2, none⟩ (.int .u64 ((G : Int) + 1)) := ⟨_, rfl⟩
                    obtain ⟨hB11, hf11⟩ := H11.out
                    rw [← hw11] at hB11 hf11 ⊢
                    clear hw11 H11 b2 bf
                    have hE11 := (H9.out.2.2.1.mp.fr H10.out.2.2 (fun h => h)).fr hf11 (fun e => by
                      obtain ⟨m, hm, -⟩ := H9.out.2.2.1.mp
                      exact hm.blk_ne H9.out.2.2.1.blk e.symm)
                    have H11 := Lib.hid (And.intro hB11 (And.intro hf11 hE11))
                    clear hB11 hf11 hE11
                    go_cut [] (fun wx => Blk wx rb 77 #[.int .i64 8, .int .u64 3, .int .u64 ((G + 1 : Nat) : Int), .map (some mb)] ∧ Earl2 w8 wx mb (n + 1) (drp E1 got (r + 1)) bd col ∧ Fr (fun k => k = mb) w11 wx)
                    case first =>
                      obtain ⟨m, hM, hE⟩ := H11.out.2.2
                      have hrm : rb ≠ mb := hM.blk_ne H11.out.1
                      have hdel := fun (ty : TypeId) (consts : Array Bool) => (show Mp w11.drew mb (n + 1) m from hM).delete (P := Try.prog) key64 Try.underlying47 Try.underlying75 (G + 1) (by omega) ty consts
                      rw [show ((G + 1 : Nat) : Int) = (G : Int) + 1 from rfl] at hdel
                      have HDEL := Lib.hid hdel
                      have HE := Lib.hid hE
                      have b3 : w11.cell? ⟨rb, 3, none⟩ = some (.map (some mb)) := H11.out.1.cell 3 rfl
                      have b2 : w11.cell? ⟨rb, 2, none⟩ = some (.int .u64 ((G : Int) + 1)) := H11.out.1.cell 2 rfl
                      clear hdel hE hM
                      go_region_law (first
                        | (refine step_bi2 rfl .delete _ _ _ (.map (some mb)) (.int .u64 ((G : Int) + 1)) rfl rfl rfl _ (HDEL.out _) ?_
                           rintro v12 w12 ⟨hM12, hf12⟩))
                      all_goals
                        rename_i hmm
                        simp only [Exit.then]
                        refine hmm _ _ ?_
                        go_meet
                        have hG := H9.out.2.2.2.2
                        refine ⟨H11.out.1.fr hf12.of_drew hrm, ⟨_, hM12, fun x => ?_⟩, hf12.of_drew⟩
                        rw [drp_succ, ← hG]
                        by_cases hx : x = G + 1
                        · rw [if_pos hx]
                          exact ⟨fun h => (by cases h), fun _ => by rw [strike, if_pos hx]⟩
                        · rw [if_neg hx]
                          refine ⟨fun h => ?_, fun h => by rw [strike, if_neg hx]; exact (HE.out x).2 h⟩
                          obtain ⟨v, hv, hb⟩ := (HE.out x).1 h
                          exact ⟨v, by rw [strike, if_neg hx]; exact hv, hb⟩
                    case rest =>
                      obtain ⟨hB12, hE12, hf12⟩ := hcut
                      obtain ⟨w12, hw12⟩ : ∃ w12, w12 = wc := ⟨_, rfl⟩
                      rw [← hw12] at hB12 hE12 hf12 ⊢
                      clear hw12
                      obtain ⟨i0, hi0, hz0, hz1, hz2⟩ := info_parts slinfo
                      have hz19 := H9.out.2.2.1.fr.size
                      have hz01 := HH.out.2.2.1.size
                      have hz9 := H10.out.2.2.size
                      have hz8 := H8.out.fr.size
                      have ht12 := (H10.out.1.fr H11.out.2.1 (by omega)).fr hf12 (by omega)
                      have t0 : w12.cell? ⟨w9.heap.size, 0, none⟩ = some (.slice A l c) := ht12.cell 0 rfl
                      have ho12 := ((H9.out.2.2.2.1.fr H10.out.2.2 (fun _ h => h.elim)).fr H11.out.2.1 (fun k e _ => by omega)).fr hf12 (fun k e _ => by omega)
                      have hr9' : r ≤ 9 := hr9
                      have hz12 := hf12.size
                      have hz11 := H11.out.2.1.size
                      have hap := fun (ty : TypeId) (consts : Array Bool) => ap_cells (P := Try.prog) (ty := ty) (base := w8.heap.size) Try.underlying22 hi0 hz0 hz1 hz2 rfl (by omega) (own_fr ho12.row ((Fr.refl (fun _ => False) w12).alloc (Obj.cells #[.slice A l c] 24)) (fun _ _ h => h)) ⟨w12.heap.size, 0, none⟩ 1 1 [.slice A l c] rfl (World.news_of_block (cs := #[.slice A l c]) (t := 24) (fr := (0, 0)) (heap_alloc_new w12 _)) (by simp [Value.oneCell']) (by simp only [maxLen]; omega) (by omega) (by simp; omega) consts
                      have HAP := Lib.hid hap
                      have H12 := Lib.hid (And.intro hB12 (And.intro hE12 (And.intro hf12 ho12)))
                      clear hap hB12 hE12 hf12 ho12 ht12
                      go_wp2_with (first
                        | (at_builtin
                           refine wpList_bi2 rfl .append _ _ _ _ _ rfl rfl rfl _ (HAP.out _) ?_
                           rintro v13 w13 hap13
                           have HA13 := Lib.hid hap13
                           clear hap13))
                      have hD' := HD.out
                      have hG' := H9.out.2.2.2.2
                      have hr8 : r + 1 ≤ 8 := by
                        have h1 := hD'
                        rw [hG', drp_at] at h1
                        have := HE8.out _ h1
                        omega
                      go_roundg (9 - (r + 1))
                      case measure => have := H9.out.1; omega
                      case rel =>
                        obtain ⟨hr, hall, hRH, hOut, hG⟩ := H9.out
                        obtain ⟨hB12, hE12, hf12, ho12⟩ := H12.out
                        have hap := HA13.out
                        have hX13 : Fr (fun k => u9.ownBlock = some k) w12 w13 := hap.fr ((Fr.refl _ w12).alloc _) (fun k hk _ => hk)
                        have hnew : ∀ k, u9.ownBlock = some k → w8.heap.size ≤ k := fun k hk => (ho12.row.lt k hk).1
                        have hE1 : E1 (got + r + 1) = true := by have h1 := hD'; rw [hG, drp_at] at h1; exact h1
                        refine ⟨r + 1, vso ++ [.slice A l c], by omega, fun i hi => ?_, ⟨?_, ?_, ?_⟩, ⟨?_, fun i v hv => ?_⟩⟩
                        · by_cases h : i < r
                          · exact hall i h
                          · rw [show i = r by omega]; exact hE1
                        · rw [show got + (r + 1) = G + 1 by omega]
                          exact hB12.fr hX13 (fun e => by have := hnew _ e; omega)
                        · exact hE12.fr hX13 (fun e => by have := hnew _ e; omega)
                        · have f1 : Fr (fun k => k = rb ∨ k = mb) w8 w12 := ((hRH.fr.tr H10.out.2.2.none_up).tr (H11.out.2.1.mono (fun _ _ e => .inl e))).tr (hf12.mono (fun _ _ e => .inr e))
                          exact f1.trans hX13 (fun k hk h => h.elim id (fun e => by have := hnew _ e; omega))
                        · exact hap.1
                        · by_cases hi : i < vso.length
                          · rw [List.getElem?_append_left hi] at hv
                            exact hOut.body i v hv
                          · have hvl : vso.length = r := by have := hOut.row.1; omega
                            rw [List.getElem?_append_right (by omega)] at hv
                            have hi0 : i = vso.length := by
                              have := (List.getElem?_eq_some_iff.1 hv).1
                              simp at this; omega
                            subst hi0
                            simp at hv
                            subst hv
                            rw [hvl, ← hG]
                            exact H10.out.2.1 hD'
end Go.Proofs.Ytpffmfjphlaiaaa

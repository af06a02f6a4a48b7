/- Promise and Propose, whole. -/
import Derived.Test.YtliljjlegofmkaaPL
import Derived.Test.YtliljjlegofmkaaPN
import Derived.Test.YtliljjlegofmkaaPO
import Derived.Test.YtliljjlegofmkaaPI
import Derived.Test.YtliljjlegofmkaaPE
namespace Go.Proofs.Ytliljjlegofmkaa
open Go.RowKit

theorem prm_any (r : Nat) (p : Ps) (c : Nat) (G : Nat → Prop) (x : Int) (v : Value) (l : List Vt) (w : World) (h : PR w r p c G) (hG : ∀ j, G j → j < w.heap.size) (hc : c + l.length < maxLen) (hl : VtL w v l G) :
    Calls Try.prog 14 #[.pointer (some ⟨r, 0, none⟩), .int .i64 x, v] w fun e w' => e = .returned (.int .i64 (prmE p x l)) ∧
      ∃ G', PR w' r (prmP p x l) (c + l.length) G' ∧ Nx G G' w w' ∧ Fr G w w' := by
  have hh := h
  obtain ⟨sv, mb, sb, mm, sm, h⟩ := h
  have hl0 : VtL w v l (fun _ => False) := hl.mono (fun _ h => h.elim)
  have hc' : c ≤ c + l.length := by omega
  cases hb : nodeB p x with
  | false =>
    obtain ⟨⟨A, cc, rfl, -⟩, -⟩ := hl
    refine (prm_node r p x _ w (h.blk.cell 1 rfl) hb A l.length cc rfl).mono ?_
    rintro e w' ⟨rfl, rfl⟩
    have e1 : prmE p x l = 2 := by unfold prmE; rw [hb]; rfl
    refine ⟨by rw [e1], G, ?_, Nx.refl _ _ _, Fr.refl _ _⟩
    unfold prmP
    rw [if_neg (by rw [e1]; simp)]
    exact hh.mono hc'
  | true =>
    cases hr : rightV p.n p.d (p.f - 1) l with
    | false =>
      refine (prm_right r p sv mb sb x v l w h.blk h.wf.f1 h.wf.f64 hl0 hb hr).mono ?_
      rintro e w' ⟨rfl, hf⟩
      have e1 : prmE p x l = 91 := by unfold prmE; rw [hb, hr]; rfl
      refine ⟨by rw [e1], G, ?_, Nx.refl _ _ _, hf.none_up⟩
      unfold prmP
      rw [if_neg (by rw [e1]; simp)]
      exact (hh.none_ hf).mono hc'
    | true =>
      have e1 : prmE p x l = 0 := by unfold prmE; rw [hb, hr]; rfl
      have hb' := hb
      simp only [nodeB, decide_eq_true_eq] at hb'
      have hn := h.wf.ok.n
      obtain ⟨x, rfl⟩ := Int.eq_ofNat_of_zero_le hb'.1
      have hx : x < 12 := by omega
      cases ht : p.set.testBit x with
      | true =>
        refine (prm_had r p sv mb sb x v l w h.blk h.wf.f1 h.wf.f64 h.wf.st hx hl0 hb hr ht).mono ?_
        rintro e w' ⟨rfl, hf⟩
        refine ⟨by rw [e1], G, ?_, Nx.refl _ _ _, hf.none_up⟩
        unfold prmP
        rw [if_neg (by simp [ht])]
        exact (hh.none_ hf).mono hc'
      | false =>
        refine (prm_put r p c G sv mb sb mm sm x v l w h hG hc hx hl0 hl hb hr ht).mono ?_
        rintro e w' ⟨rfl, G', h1, h2, h3⟩
        refine ⟨by rw [e1], G', ?_, h2, h3⟩
        unfold prmP
        rw [if_pos (by simp [e1, ht])]
        exact h1

theorem pro_any (r : Nat) (p : Ps) (c : Nat) (G : Nat → Prop) (k : Nat) (hk64 : k < 18446744073709551616) (s : Value) (own : List UInt8) (w : World) (h : PR w r p c G) (hG : ∀ j, G j → j < w.heap.size) (hc : c < maxLen) (hby : Byt w s own) :
    Calls Try.prog 16 #[.pointer (some ⟨r, 0, none⟩), .int .u64 k, s] w fun e w' => ProPost r c G w (proE p k own) (proV p k own) (proP p k own) e w' := by
  have hby0 := hby
  obtain ⟨A, sc, rfl, -, -⟩ := hby0
  cases hr : readyB p with
  | false =>
    have e1 : proE p k own = 100 := by unfold proE; rw [hr]; rfl
    have e2 : proV p k own = ⟨0, 0, 0, []⟩ := by unfold proV; rw [if_neg (by rw [e1]; simp)]
    have e3 : proP p k own = p := by unfold proP; rw [if_neg (by rw [e1]; simp)]
    rw [e1, e2, e3]
    exact pro_state r p c G k A own.length sc w h hr
  | true =>
    by_cases hk : k < p.f
    · have e1 : proE p k own = 2 := by unfold proE; rw [hr, if_pos rfl, if_pos hk]
      have e2 : proV p k own = ⟨0, 0, 0, []⟩ := by unfold proV; rw [if_neg (by rw [e1]; simp)]
      have e3 : proP p k own = p := by unfold proP; rw [if_neg (by rw [e1]; simp)]
      rw [e1, e2, e3]
      exact pro_low r p c G k A own.length sc w h hr hk
    · cases hs : p.sl k with
      | some y =>
        obtain ⟨v, X⟩ := y
        have e1 : proE p k own = 0 := by unfold proE; rw [hr, if_pos rfl, if_neg hk, hs]
        have e2 : proV p k own = v := by unfold proV; rw [if_pos e1, hs]
        have e3 : proP p k own = p := by unfold proP; rw [if_pos e1, hs]
        rw [e1, e2, e3]
        exact pro_again r p c G k A own.length sc w h hr (by omega) hk64 v X hs hG
      | none =>
        cases hm : p.mu k with
        | none =>
          have ev : proVal p k own = own := by unfold proVal muB; rw [hm]; rfl
          by_cases hl : 100 < own.length
          · have e1 : proE p k own = 3 := by unfold proE; rw [hr, if_pos rfl, if_neg hk, hs, ev]; simp only; rw [if_pos hl]
            have e2 : proV p k own = ⟨0, 0, 0, []⟩ := by unfold proV; rw [if_neg (by rw [e1]; simp)]
            have e3 : proP p k own = p := by unfold proP; rw [if_neg (by rw [e1]; simp)]
            rw [e1, e2, e3]
            exact pro_long r p c G k A sc own w h hby hr (by omega) hk64 hs hm hl
          · have e1 : proE p k own = 0 := by unfold proE; rw [hr, if_pos rfl, if_neg hk, hs, ev]; simp only; rw [if_neg hl]
            have e2 : proV p k own = ⟨k, p.n, p.d, own⟩ := by unfold proV; rw [if_pos e1, hs, ev]
            have e3 : proP p k own = { p with sl := upd p.sl k (⟨k, p.n, p.d, own⟩, 0) } := by unfold proP; rw [if_pos e1, hs, ev]
            rw [e1, e2, e3]
            exact pro_put r p c G k A sc own w h hby hr (by omega) hk64 hs hm (by omega) hc hG
        | some y =>
          obtain ⟨m, nd⟩ := y
          have ev : proVal p k own = m.v := by unfold proVal muB; rw [hm]; rfl
          have hl := (h.wf.mu k m nd hm).2.2
          have e1 : proE p k own = 0 := by unfold proE; rw [hr, if_pos rfl, if_neg hk, hs, ev]; simp only; rw [if_neg (by omega)]
          have e2 : proV p k own = ⟨k, p.n, p.d, m.v⟩ := by unfold proV; rw [if_pos e1, hs, ev]
          have e3 : proP p k own = { p with sl := upd p.sl k (⟨k, p.n, p.d, m.v⟩, 0) } := by unfold proP; rw [if_pos e1, hs, ev]
          rw [e1, e2, e3]
          exact pro_putm r p c G k A sc own w h hby hr (by omega) hk64 hs m nd hm hc hG

set_option maxRecDepth 100000 in
theorem prm_nil (x : Int) (A : Option Addr) (n c : Nat) (w : World) : Calls Try.prog 14 #[.pointer none, .int .i64 x, .slice A n c] w fun e w' => e = .returned (.int .i64 1) ∧ w = w' := by
  go_enter Try.func14, Try.ntmps14
  go_upto_block 0 with (fail)
  go_step3
  go_wp2_with fail
  try rw [Exit.noGoto_ret]
  go_ret
  exact ⟨rfl, rfl⟩
set_option maxRecDepth 100000 in
theorem pro_nil (k : Nat) (A : Option Addr) (n c : Nat) (w : World) : Calls Try.prog 16 #[.pointer none, .int .u64 k, .slice A n c] w fun e w' =>
    e = .returned (.tuple #[.agg #[.int .u64 0, .int .u64 0, .int .i64 0, .slice none 0 0], .int .i64 1]) ∧ Fr (fun _ => False) w w' := by
  obtain ⟨w2, hw2⟩ : ∃ w2, w2 = w.alloc (.cells #[.int .u64 0, .int .u64 0, .int .i64 0, .slice none 0 0] 45) := ⟨_, rfl⟩
  have hf : Fr (fun _ => False) w w2 := by rw [hw2]; exact (Fr.refl _ w).alloc _
  have hB2 : Blk w2 w.heap.size 45 #[.int .u64 0, .int .u64 0, .int .i64 0, .slice none 0 0] := by rw [hw2]; exact Blk.new _ _ _
  have HW := Lib.hid hw2
  clear hw2
  have b0 := hB2.cell 0 rfl
  have b1 := hB2.cell 1 rfl
  have b2 := hB2.cell 2 rfl
  have b3 := hB2.cell 3 rfl
  have b4 := hB2.frozen
  go_enter Try.func16, Try.ntmps16
  go_upto_region 2 with (fail)
  rw [← HW.out]
  go_wp2_with fail
  have hX : Fr (fun x => x = w.heap.size) w2 ((((w2.setCell ⟨w.heap.size, 0, none⟩ (.int .u64 0)).setCell ⟨w.heap.size, 1, none⟩ (.int .u64 0)).setCell ⟨w.heap.size, 2, none⟩ (.int .i64 0)).setCell ⟨w.heap.size, 3, none⟩ (.slice none 0 0)) :=
    (((Fr.set1 w2 w.heap.size 0 _).setCell (p := ⟨w.heap.size, 1, none⟩) (fun _ => rfl) _).setCell (p := ⟨w.heap.size, 2, none⟩) (fun _ => rfl) _).setCell (p := ⟨w.heap.size, 3, none⟩) (fun _ => rfl) _
  have hW := (((hB2.set_ 0 (.int .u64 0)).set_ 1 (.int .u64 0)).set_ 2 (.int .i64 0)).set_ 3 (.slice none 0 0)
  refine bodyPost_ret (results_row_tmp rfl _ _ w.heap.size 45 #[.int .u64 0, .int .u64 0, .int .i64 0, .slice none 0 0] (0, 0) _ rfl ?_ Try.underlying45 rfl (by kernel_rfl)) rfl ⟨rfl, ?_⟩
  · show Blk _ w.heap.size 45 _
    simpa using hW
  · exact hf.trans hX (fun x hx h => by rcases h with h | h; exact h; omega)
end Go.Proofs.Ytliljjlegofmkaa

/- Merged: PM PN PO PQ PV. -/
import Derived.Test.YtkpfgoalohbfeaaBc
import Derived.Test.YtkpfgoalohbfeaaBb
import Derived.Test.YtkpfgoalohbfeaaBa
/- Propose: what it answers; a slot put. -/
namespace Go.Proofs.Ytkpfgoalohbfeaa
open Go.RowKit

def proVal (p : Ps) (k : Nat) (own : List UInt8) : List UInt8 := (muB p k).getD own
def proE (p : Ps) (k : Nat) (own : List UInt8) : Int := if readyB p then (if k < p.f then 2 else match p.sl k with | some _ => 0 | none => if 100 < (proVal p k own).length then 3 else 0) else 100
def proV (p : Ps) (k : Nat) (own : List UInt8) : Vt := if proE p k own = 0 then (match p.sl k with | some (v, _) => v | none => ⟨k, p.n, p.d, proVal p k own⟩) else ⟨0, 0, 0, []⟩
def proP (p : Ps) (k : Nat) (own : List UInt8) : Ps := if proE p k own = 0 then (match p.sl k with | some _ => p | none => { p with sl := upd p.sl k (⟨k, p.n, p.d, proVal p k own⟩, 0) }) else p

section
variable {w w' : World} {G : Nat → Prop} {r c : Nat} {p : Ps} {sv : Value} {mb sb : Nat} {mm sm : Nat → Option Value}
/-- A slot put. -/
theorem PX.putSl (h : PX w r p c G sv mb sb mm sm) {v : Vt} {g : Nat} {s : Value} {k : Nat} (hs : v.s = k) (hk : k < 18446744073709551616) (hf0 : p.f ≤ k) (hn : v.n = p.n) (hd : v.d = p.d) (hB : Blk w g 131 (slC v 0 s)) (hg : G g) (ho : OwB w G s v.v) (hl : v.v.length ≤ 100)
    (hnew : ∀ j, sm j ≠ some (.pointer (some ⟨g, 0, none⟩))) (hm : Mp w' sb (c + 1) (upd sm k (.pointer (some ⟨g, 0, none⟩)))) (hf : Fr (fun j => j = sb) w w') :
    PX w' r { p with sl := upd p.sl k (v, 0) } (c + 1) G sv mb sb mm (upd sm k (.pointer (some ⟨g, 0, none⟩))) := by
  refine ⟨h.blk.fr hf (h.sls.blk_ne h.blk), own_fr h.site hf (h.sls.own_ne h.site), h.siteG, h.rG, h.mbG, h.sbG, h.ne, (h.mus.fr hf h.ne).mono (by omega), hm, fun j => ?_, fun j => ?_, fun a b g' ha hb => ?_, ?_⟩
  · rcases h.mu j with ⟨h1, h2⟩ | ⟨v', nd, s', h1, h2, h3⟩
    · exact .inl ⟨h1, h2⟩
    · exact .inr ⟨v', nd, s', h1, h2, h.sls.owb_fr h3 hf⟩
  · by_cases hj : j = k
    · subst hj
      exact .inr ⟨v, 0, g, s, by simp [upd], by simp [upd], hB.fr hf (h.sls.blk_ne hB), hg, h.sls.owb_fr ho hf⟩
    · rcases h.sl j with ⟨h1, h2⟩ | ⟨v', Y, g', s', h1, h2, h3, h4, h5⟩
      · exact .inl ⟨by simp [upd, hj, h1], by simp [upd, hj, h2]⟩
      · exact .inr ⟨v', Y, g', s', by simp [upd, hj, h1], by simp [upd, hj, h2], h3.fr hf (h.sls.blk_ne h3), h4, h.sls.owb_fr h5 hf⟩
  · unfold upd at ha hb
    split at ha
    · rename_i ea
      injection ha with ha; injection ha with ha; injection ha with ha; injection ha with ha
      subst ha
      split at hb
      · rename_i eb; rw [ea, eb]
      · exact absurd hb (hnew b)
    · rename_i ea
      split at hb
      · injection hb with hb; injection hb with hb; injection hb with hb; injection hb with hb
        subst hb
        exact absurd ha (hnew a)
      · exact h.inj a b g' ha hb
  · have W := h.wf
    refine ⟨W.ok, W.ql, W.rb, W.n64, W.f1, W.f64, W.st, W.mu, fun j v' Y hj => ?_⟩
    by_cases hjk : j = k
    · subst hjk
      simp only [upd, if_pos, Option.some.injEq, Prod.mk.injEq] at hj
      obtain ⟨rfl, rfl⟩ := hj
      exact ⟨hs, hk, hl, by omega, hf0, hn, hd⟩
    · simp only [upd, if_neg hjk] at hj
      exact W.sl j v' Y hj
theorem PX.new_ne (h : PX w r p c G sv mb sb mm sm) {g : Nat} (hg : w.heap.size ≤ g) : ∀ j, sm j ≠ some (.pointer (some ⟨g, 0, none⟩)) := fun j e => by
  rcases h.sl j with ⟨_, h2⟩ | ⟨v', Y, g', s', _, h2, h3, _, _⟩
  · rw [h2] at e; cases e
  · rw [h2] at e
    injection e with e; injection e with e; injection e with e; injection e with e
    have := h3.lt
    omega
end

/-- What Propose leaves. -/
def ProPost (r c : Nat) (G : Nat → Prop) (w : World) (E : Int) (V : Vt) (p' : Ps) (e : Ending) (w' : World) : Prop :=
  ∃ va vc G', e = .returned (.tuple #[vtV V (.slice va V.v.length vc), .int .i64 E]) ∧ w'.ownsRow w.heap.size 5 1 (.slice va V.v.length vc) V.v.length (u8s V.v) ∧
    PR w' r p' (c + 1) G' ∧ Nx G G' w w' ∧ (∀ j, (Value.slice va V.v.length vc).ownBlock = some j → ¬ G' j) ∧ Fr G w w'

/-- A result of nothing. -/
theorem pro_zero {r : Nat} {p : Ps} {c : Nat} {G : Nat → Prop} {w w' : World} (h : PR w r p c G) (hf : Fr (fun _ => False) w w') (E : Int) :
    ProPost r c G w E ⟨0, 0, 0, []⟩ p (.returned (.tuple #[.agg #[.int .u64 0, .int .u64 0, .int .i64 0, .slice none 0 0], .int .i64 E])) w' :=
  ⟨none, 0, G, rfl, World.ownsRow_nil _ _ _ _, (h.none_ hf).mono (by omega), Nx.refl _ _ _, fun j hj => by simp [Value.ownBlock] at hj, hf.none_up⟩

set_option maxRecDepth 100000 in
set_option maxHeartbeats 4000000 in
theorem pro_state (r : Nat) (p : Ps) (c : Nat) (G : Nat → Prop) (k : Nat) (A : Option Addr) (n sc : Nat) (w : World) (h : PR w r p c G) (hr : readyB p = false) :
    Calls Try.prog 61 #[.pointer (some ⟨r, 0, none⟩), .int .u64 k, .slice A n sc] w fun e w' => ProPost r c G w 100 ⟨0, 0, 0, []⟩ p e w' := by
  obtain ⟨w1, hw1⟩ : ∃ w1, w1 = w.alloc (.cells #[.int .u64 0, .int .u64 0, .int .i64 0, .slice none 0 0] 46) := ⟨_, rfl⟩
  have hf1 : Fr (fun _ => False) w w1 := by rw [hw1]; exact (Fr.refl _ w).alloc _
  have hB1 : Blk w1 w.heap.size 46 #[.int .u64 0, .int .u64 0, .int .i64 0, .slice none 0 0] := by rw [hw1]; exact Blk.new _ _ _
  have HW := Lib.hid hw1
  have HR := Lib.hid hr
  clear hw1 hr
  go_enter Try.func61, Try.ntmps61
  go_upto_region 3 with (fail)
  rw [← HW.out]
  clear HW
  go_wp2_with fail
  refine (ready_any r p c G w1 (h.none_ hf1)).mono ?_
  rintro e w2 ⟨rfl, hf2⟩
  rw [HR.out]
  have hB2 := hB1.fr hf2 (fun h => h)
  have b0 := hB2.cell 0 rfl
  have b1 := hB2.cell 1 rfl
  have b2 := hB2.cell 2 rfl
  have b3 := hB2.cell 3 rfl
  have b4 := hB2.frozen
  go_wp2_with fail
  have hX : Fr (fun x => x = w.heap.size) w2 ((((w2.setCell ⟨w.heap.size, 0, none⟩ (.int .u64 0)).setCell ⟨w.heap.size, 1, none⟩ (.int .u64 0)).setCell ⟨w.heap.size, 2, none⟩ (.int .i64 0)).setCell ⟨w.heap.size, 3, none⟩ (.slice none 0 0)) :=
    (((Fr.set1 w2 w.heap.size 0 _).setCell (p := ⟨w.heap.size, 1, none⟩) (fun _ => rfl) _).setCell (p := ⟨w.heap.size, 2, none⟩) (fun _ => rfl) _).setCell (p := ⟨w.heap.size, 3, none⟩) (fun _ => rfl) _
  have hW := (((hB2.set_ 0 (.int .u64 0)).set_ 1 (.int .u64 0)).set_ 2 (.int .i64 0)).set_ 3 (.slice none 0 0)
  refine bodyPost_ret (results_row_tmp rfl _ _ w.heap.size 46 #[.int .u64 0, .int .u64 0, .int .i64 0, .slice none 0 0] (0, 0) _ rfl ?_ Try.underlying46 rfl (by kernel_rfl)) rfl ?_
  · show Blk _ w.heap.size 46 _
    simpa using hW
  · exact pro_zero h ((hf1.tr hf2).trans hX (fun x hx h => by rcases h with h | h; exact h; omega)) 100
end Go.Proofs.Ytkpfgoalohbfeaa

/- Propose: the walks. -/
namespace Go.Proofs.Ytkpfgoalohbfeaa
open Go.RowKit

set_option maxRecDepth 100000 in
set_option maxHeartbeats 8000000 in
theorem pro_low (r : Nat) (p : Ps) (c : Nat) (G : Nat → Prop) (k : Nat) (A : Option Addr) (n sc : Nat) (w : World) (h : PR w r p c G) (hr : readyB p = true) (hk : k < p.f) :
    Calls Try.prog 61 #[.pointer (some ⟨r, 0, none⟩), .int .u64 k, .slice A n sc] w fun e w' => ProPost r c G w 2 ⟨0, 0, 0, []⟩ p e w' := by
  have hx := h
  obtain ⟨sv, mb, sb, mm, sm, h⟩ := h
  have HX := Lib.hid h
  have HXX := Lib.hid hx
  have hf64 := h.wf.f64
  obtain ⟨w1, hw1⟩ : ∃ w1, w1 = w.alloc (.cells #[.int .u64 0, .int .u64 0, .int .i64 0, .slice none 0 0] 46) := ⟨_, rfl⟩
  have hf1 : Fr (fun _ => False) w w1 := by rw [hw1]; exact (Fr.refl _ w).alloc _
  have hB1 : Blk w1 w.heap.size 46 #[.int .u64 0, .int .u64 0, .int .i64 0, .slice none 0 0] := by rw [hw1]; exact Blk.new _ _ _
  have HW := Lib.hid hw1
  have HR := Lib.hid hr
  clear hw1 hr h hx
  go_enter Try.func61, Try.ntmps61
  go_upto_region 3 with (fail)
  rw [← HW.out]
  clear HW
  go_wp2_with fail
  refine (ready_any r p c G w1 (HXX.out.none_ hf1)).mono ?_
  rintro e w2 ⟨rfl, hf2⟩
  rw [HR.out]
  have hf12 := hf1.tr hf2
  have hB2 := hB1.fr hf2 (fun h => h)
  have c7 : w2.cell? ⟨r, 7, none⟩ = some (.int .u64 p.f) := (HX.out.fr hf12 (fun _ _ _ h => h)).blk.cell 7 rfl
  have hq1 : w.heap.size < w2.heap.size := hB2.lt
  clear hf1 hf2 hB1

  have b0 := hB2.cell 0 rfl
  have b1 := hB2.cell 1 rfl
  have b2 := hB2.cell 2 rfl
  have b3 := hB2.cell 3 rfl
  have b4 := hB2.frozen
  go_wp2_with fail

  have hX : Fr (fun x => x = w.heap.size) w2 ((((w2.setCell ⟨w.heap.size, 0, none⟩ (.int .u64 0)).setCell ⟨w.heap.size, 1, none⟩ (.int .u64 0)).setCell ⟨w.heap.size, 2, none⟩ (.int .i64 0)).setCell ⟨w.heap.size, 3, none⟩ (.slice none 0 0)) :=
    (((Fr.set1 w2 w.heap.size 0 _).setCell (p := ⟨w.heap.size, 1, none⟩) (fun _ => rfl) _).setCell (p := ⟨w.heap.size, 2, none⟩) (fun _ => rfl) _).setCell (p := ⟨w.heap.size, 3, none⟩) (fun _ => rfl) _
  have hW := (((hB2.set_ 0 (.int .u64 0)).set_ 1 (.int .u64 0)).set_ 2 (.int .i64 0)).set_ 3 (.slice none 0 0)
  refine bodyPost_ret (results_row_tmp rfl _ _ w.heap.size 46 #[.int .u64 0, .int .u64 0, .int .i64 0, .slice none 0 0] (0, 0) _ rfl ?_ Try.underlying46 rfl (by kernel_rfl)) rfl ?_
  · show Blk _ w.heap.size 46 _
    simpa using hW
  · exact pro_zero HXX.out (hf12.trans hX (fun x hx h => by rcases h with h | h; exact h; omega)) 2
set_option maxRecDepth 100000 in
set_option maxHeartbeats 8000000 in
theorem pro_again (r : Nat) (p : Ps) (c : Nat) (G : Nat → Prop) (k : Nat) (A : Option Addr) (n sc : Nat) (w : World) (h : PR w r p c G) (hr : readyB p = true) (hk : p.f ≤ k) (hk64 : k < 18446744073709551616) (v : Vt) (X : Nat) (hs : p.sl k = some (v, X)) (hG : ∀ j, G j → j < w.heap.size) :
    Calls Try.prog 61 #[.pointer (some ⟨r, 0, none⟩), .int .u64 k, .slice A n sc] w fun e w' => ProPost r c G w 0 v p e w' := by
  have hx := h
  obtain ⟨sv, mb, sb, mm, sm, h⟩ := h
  have HX := Lib.hid h
  have HXX := Lib.hid hx
  have hf64 := h.wf.f64
  obtain ⟨w1, hw1⟩ : ∃ w1, w1 = w.alloc (.cells #[.int .u64 0, .int .u64 0, .int .i64 0, .slice none 0 0] 46) := ⟨_, rfl⟩
  have hf1 : Fr (fun _ => False) w w1 := by rw [hw1]; exact (Fr.refl _ w).alloc _
  have hB1 : Blk w1 w.heap.size 46 #[.int .u64 0, .int .u64 0, .int .i64 0, .slice none 0 0] := by rw [hw1]; exact Blk.new _ _ _
  have HW := Lib.hid hw1
  have HR := Lib.hid hr
  clear hw1 hr h hx
  go_enter Try.func61, Try.ntmps61
  go_upto_region 3 with (fail)
  rw [← HW.out]
  clear HW
  go_wp2_with fail
  refine (ready_any r p c G w1 (HXX.out.none_ hf1)).mono ?_
  rintro e w2 ⟨rfl, hf2⟩
  rw [HR.out]
  have hf12 := hf1.tr hf2
  have hB2 := hB1.fr hf2 (fun h => h)
  have c7 : w2.cell? ⟨r, 7, none⟩ = some (.int .u64 p.f) := (HX.out.fr hf12 (fun _ _ _ h => h)).blk.cell 7 rfl
  have hq1 : w.heap.size < w2.heap.size := hB2.lt
  clear hf1 hf2 hB1

  have hkk : ¬ k < p.f := by omega
  have hX2 := HX.out.fr hf12 (fun _ _ _ h => h)
  have c10 : w2.cell? ⟨r, 10, none⟩ = some (.map (some sb)) := hX2.blk.cell 10 rfl
  have hlk := hX2.sls.look key64 Try.underlying42 Try.underlying109 (zero_slot w2) k hk64
  have hv := HX.out.wf.sl k v X hs
  rcases hX2.sl k with ⟨hm, hy⟩ | ⟨v', X', g, s, hm, hy, hB, hg, ho⟩
  · rw [hs] at hm; cases hm
  rw [hs] at hm
  injection hm with hm
  injection hm with hm1 hm2
  subst hm1 hm2
  rw [hy] at hlk
  simp only [Option.getD_some, Option.isSome_some] at hlk
  have hby := ho.byt
  have hby0 := hby
  obtain ⟨sa, sc', rfl, -, -⟩ := hby0
  have g0 : w2.cell? ⟨g, 0, none⟩ = some (.int .u64 v.s) := hB.cell 0 rfl
  have g1 : w2.cell? ⟨g, 1, none⟩ = some (.int .u64 v.n) := hB.cell 1 rfl
  have g2 : w2.cell? ⟨g, 2, none⟩ = some (.int .i64 v.d) := hB.cell 2 rfl
  have g3 : w2.cell? ⟨g, 3, none⟩ = some (.slice sa v.v.length sc') := hB.cell 3 rfl
  have hvl := hv.2.2.1
  have HF := Lib.hid hf12
  clear hX2 hv hs hy ho hB hg hf12 hk
  go_wp2_with fail
  refine (out_any v _ w2 hby (by omega)).mono ?_
  rintro e w3 ⟨g', cap, rfl, hg', hgl', ho3, hf3⟩
  have hB3 := hB2.fr hf3 (fun h => h)
  clear c7 c10 g0 g1 g2 g3 hlk hB2
  have b0 := hB3.cell 0 rfl
  have b1 := hB3.cell 1 rfl
  have b2 := hB3.cell 2 rfl
  have b3 := hB3.cell 3 rfl
  have b4 := hB3.frozen
  simp only [vtV]
  have H3 := Lib.hid (And.intro ho3 hf3)
  clear ho3 hf3
  go_wp2_with fail
  have hX : Fr (fun x => x = w.heap.size) w3 ((((w3.setCell ⟨w.heap.size, 0, none⟩ (.int .u64 v.s)).setCell ⟨w.heap.size, 1, none⟩ (.int .u64 v.n)).setCell ⟨w.heap.size, 2, none⟩ (.int .i64 v.d)).setCell ⟨w.heap.size, 3, none⟩ (.slice (some ⟨g', 0, none⟩) v.v.length cap)) :=
    (((Fr.set1 w3 w.heap.size 0 _).setCell (p := ⟨w.heap.size, 1, none⟩) (fun _ => rfl) _).setCell (p := ⟨w.heap.size, 2, none⟩) (fun _ => rfl) _).setCell (p := ⟨w.heap.size, 3, none⟩) (fun _ => rfl) _
  have hW := (((hB3.set_ 0 (.int .u64 v.s)).set_ 1 (.int .u64 v.n)).set_ 2 (.int .i64 v.d)).set_ 3 (.slice (some ⟨g', 0, none⟩) v.v.length cap)
  obtain ⟨ho3, hf3⟩ := H3.out
  have hfE := (HF.out.tr hf3).trans hX (Z := fun _ => False) (fun x hx h => by rcases h with h | h; exact h; omega)
  refine bodyPost_ret (results_row_tmp rfl _ _ w.heap.size 46 #[.int .u64 v.s, .int .u64 v.n, .int .i64 v.d, .slice (some ⟨g', 0, none⟩) v.v.length cap] (0, 0) _ rfl ?_ Try.underlying46 rfl (by kernel_rfl)) rfl ?_
  · show Blk _ w.heap.size 46 _
    simpa using hW
  · refine ⟨some ⟨g', 0, none⟩, cap, G, rfl, own_up (own_fr ho3 hX (fun j hj => by simp [Value.ownBlock] at hj; omega)) (fun j hj => by simp [Value.ownBlock] at hj; omega), (HXX.out.none_ hfE).mono (by omega), Nx.refl _ _ _, fun j hj hG' => ?_, hfE.none_up⟩
    simp [Value.ownBlock] at hj
    have := hG j hG'
    omega
end Go.Proofs.Ytkpfgoalohbfeaa

/- Propose: a slot put: the walks. -/
namespace Go.Proofs.Ytkpfgoalohbfeaa
open Go.RowKit

set_option maxRecDepth 100000 in
set_option maxHeartbeats 8000000 in
theorem pro_long (r : Nat) (p : Ps) (c : Nat) (G : Nat → Prop) (k : Nat) (A : Option Addr) (sc : Nat) (own : List UInt8) (w : World) (h : PR w r p c G) (hby : Byt w (.slice A own.length sc) own) (hr : readyB p = true) (hk : p.f ≤ k) (hk64 : k < 18446744073709551616) (hs : p.sl k = none) (hm : p.mu k = none) (hl : 100 < own.length) :
    Calls Try.prog 61 #[.pointer (some ⟨r, 0, none⟩), .int .u64 k, .slice A own.length sc] w fun e w' => ProPost r c G w 3 ⟨0, 0, 0, []⟩ p e w' := by
  have hx := h
  obtain ⟨sv, mb, sb, mm, sm, h⟩ := h
  have HX := Lib.hid h
  have HXX := Lib.hid hx
  have hf64 := h.wf.f64
  obtain ⟨w1, hw1⟩ : ∃ w1, w1 = w.alloc (.cells #[.int .u64 0, .int .u64 0, .int .i64 0, .slice none 0 0] 46) := ⟨_, rfl⟩
  have hf1 : Fr (fun _ => False) w w1 := by rw [hw1]; exact (Fr.refl _ w).alloc _
  have hB1 : Blk w1 w.heap.size 46 #[.int .u64 0, .int .u64 0, .int .i64 0, .slice none 0 0] := by rw [hw1]; exact Blk.new _ _ _
  have HW := Lib.hid hw1
  have HR := Lib.hid hr
  clear hw1 hr h hx
  go_enter Try.func61, Try.ntmps61
  go_upto_region 3 with (fail)
  rw [← HW.out]
  clear HW
  go_wp2_with fail
  refine (ready_any r p c G w1 (HXX.out.none_ hf1)).mono ?_
  rintro e w2 ⟨rfl, hf2⟩
  rw [HR.out]
  have hf12 := hf1.tr hf2
  have hB2 := hB1.fr hf2 (fun h => h)
  have c7 : w2.cell? ⟨r, 7, none⟩ = some (.int .u64 p.f) := (HX.out.fr hf12 (fun _ _ _ h => h)).blk.cell 7 rfl
  have hq1 : w.heap.size < w2.heap.size := hB2.lt
  clear hf1 hf2 hB1

  have hkk : ¬ k < p.f := by omega
  have hX2 := HX.out.fr hf12 (fun _ _ _ h => h)
  have c9 : w2.cell? ⟨r, 9, none⟩ = some (.map (some mb)) := hX2.blk.cell 9 rfl
  have c10 : w2.cell? ⟨r, 10, none⟩ = some (.map (some sb)) := hX2.blk.cell 10 rfl
  have hlk := hX2.sls.look key64 Try.underlying42 Try.underlying109 (zero_slot w2) k hk64
  have hlm := hX2.mus.look key64 Try.underlying42 Try.underlying108 (zero_must w2) k hk64
  have hy : sm k = none := by
    rcases hX2.sl k with ⟨_, hy⟩ | ⟨v', X', g, s, hm, hy, hB, hg, ho⟩
    · exact hy
    · rw [hs] at hm; cases hm
  rw [hy] at hlk
  simp only [Option.getD_none, Option.isSome_none] at hlk
  have HS := Lib.hid hs
  clear hy hs

  have hym : mm k = none := by
    rcases hX2.mu k with ⟨_, hy⟩ | ⟨v', X', s, hm', hy, ho⟩
    · exact hy
    · rw [hm] at hm'; cases hm'
  rw [hym] at hlm
  simp only [Option.getD_none, Option.isSome_none] at hlm
  have HM := Lib.hid hm
  clear hm hym
  obtain ⟨w3, hw3⟩ : ∃ w3, w3 = w2.alloc (.cells #[.int .u64 0, .int .u64 0, .int .i64 0, .slice none 0 0, .int .i64 0] 125) := ⟨_, rfl⟩
  have hf3 : Fr (fun _ => False) w2 w3 := by rw [hw3]; exact (Fr.refl _ w2).alloc _
  have hB3 := hB2.fr hf3 (fun h => h)
  have hby3 := hby.fr (hf12.tr hf3) (fun _ _ h => h)
  have HW3 := Lib.hid hw3
  have HF3 := Lib.hid (hf12.tr hf3)
  have hX3 := hX2.fr hf3 (fun _ _ _ h => h)
  clear hw3 hX2 hf3 hf12 hB2 hk

  have hl' : (100 : Int) < (own.length : Int) := by omega
  go_upto_region 13 with (fail)
  rw [← HW3.out]
  clear HW3 c7 c9 c10 hlk hlm
  have b0 := hB3.cell 0 rfl
  have b1 := hB3.cell 1 rfl
  have b2 := hB3.cell 2 rfl
  have b3 := hB3.cell 3 rfl
  have b4 := hB3.frozen
  have HX3 := Lib.hid hX3
  clear hX3
  go_wp2_with fail

  have hX : Fr (fun x => x = w.heap.size) w3 ((((w3.setCell ⟨w.heap.size, 0, none⟩ (.int .u64 0)).setCell ⟨w.heap.size, 1, none⟩ (.int .u64 0)).setCell ⟨w.heap.size, 2, none⟩ (.int .i64 0)).setCell ⟨w.heap.size, 3, none⟩ (.slice none 0 0)) :=
    (((Fr.set1 w3 w.heap.size 0 _).setCell (p := ⟨w.heap.size, 1, none⟩) (fun _ => rfl) _).setCell (p := ⟨w.heap.size, 2, none⟩) (fun _ => rfl) _).setCell (p := ⟨w.heap.size, 3, none⟩) (fun _ => rfl) _
  have hW := (((hB3.set_ 0 (.int .u64 0)).set_ 1 (.int .u64 0)).set_ 2 (.int .i64 0)).set_ 3 (.slice none 0 0)
  refine bodyPost_ret (results_row_tmp rfl _ _ w.heap.size 46 #[.int .u64 0, .int .u64 0, .int .i64 0, .slice none 0 0] (0, 0) _ rfl ?_ Try.underlying46 rfl (by kernel_rfl)) rfl ?_
  · show Blk _ w.heap.size 46 _
    simpa using hW
  · exact pro_zero HXX.out (HF3.out.trans hX (fun x hx h => by rcases h with h | h; exact h; omega)) 3
set_option maxRecDepth 100000 in
set_option maxHeartbeats 8000000 in
theorem pro_put (r : Nat) (p : Ps) (c : Nat) (G : Nat → Prop) (k : Nat) (A : Option Addr) (sc : Nat) (own : List UInt8) (w : World) (h : PR w r p c G) (hby : Byt w (.slice A own.length sc) own) (hr : readyB p = true) (hk : p.f ≤ k) (hk64 : k < 18446744073709551616) (hs : p.sl k = none) (hm : p.mu k = none) (hl : own.length ≤ 100) (hc : c < maxLen) (hG : ∀ j, G j → j < w.heap.size) :
    Calls Try.prog 61 #[.pointer (some ⟨r, 0, none⟩), .int .u64 k, .slice A own.length sc] w fun e w' => ProPost r c G w 0 ⟨k, p.n, p.d, own⟩ { p with sl := upd p.sl k (⟨k, p.n, p.d, own⟩, 0) } e w' := by
  have hx := h
  obtain ⟨sv, mb, sb, mm, sm, h⟩ := h
  have HX := Lib.hid h
  have HXX := Lib.hid hx
  have hf64 := h.wf.f64
  obtain ⟨w1, hw1⟩ : ∃ w1, w1 = w.alloc (.cells #[.int .u64 0, .int .u64 0, .int .i64 0, .slice none 0 0] 46) := ⟨_, rfl⟩
  have hf1 : Fr (fun _ => False) w w1 := by rw [hw1]; exact (Fr.refl _ w).alloc _
  have hB1 : Blk w1 w.heap.size 46 #[.int .u64 0, .int .u64 0, .int .i64 0, .slice none 0 0] := by rw [hw1]; exact Blk.new _ _ _
  have HW := Lib.hid hw1
  have HR := Lib.hid hr
  clear hw1 hr h hx
  go_enter Try.func61, Try.ntmps61
  go_upto_region 3 with (fail)
  rw [← HW.out]
  clear HW
  go_wp2_with fail
  refine (ready_any r p c G w1 (HXX.out.none_ hf1)).mono ?_
  rintro e w2 ⟨rfl, hf2⟩
  rw [HR.out]
  have hf12 := hf1.tr hf2
  have hB2 := hB1.fr hf2 (fun h => h)
  have c7 : w2.cell? ⟨r, 7, none⟩ = some (.int .u64 p.f) := (HX.out.fr hf12 (fun _ _ _ h => h)).blk.cell 7 rfl
  have hq1 : w.heap.size < w2.heap.size := hB2.lt
  clear hf1 hf2 hB1

  have hkk : ¬ k < p.f := by omega
  have hX2 := HX.out.fr hf12 (fun _ _ _ h => h)
  have c9 : w2.cell? ⟨r, 9, none⟩ = some (.map (some mb)) := hX2.blk.cell 9 rfl
  have c10 : w2.cell? ⟨r, 10, none⟩ = some (.map (some sb)) := hX2.blk.cell 10 rfl
  have hlk := hX2.sls.look key64 Try.underlying42 Try.underlying109 (zero_slot w2) k hk64
  have hlm := hX2.mus.look key64 Try.underlying42 Try.underlying108 (zero_must w2) k hk64
  have hy : sm k = none := by
    rcases hX2.sl k with ⟨_, hy⟩ | ⟨v', X', g, s, hm, hy, hB, hg, ho⟩
    · exact hy
    · rw [hs] at hm; cases hm
  rw [hy] at hlk
  simp only [Option.getD_none, Option.isSome_none] at hlk
  have HS := Lib.hid hs
  clear hy hs

  have hym : mm k = none := by
    rcases hX2.mu k with ⟨_, hy⟩ | ⟨v', X', s, hm', hy, ho⟩
    · exact hy
    · rw [hm] at hm'; cases hm'
  rw [hym] at hlm
  simp only [Option.getD_none, Option.isSome_none] at hlm
  have HM := Lib.hid hm
  clear hm hym
  obtain ⟨w3, hw3⟩ : ∃ w3, w3 = w2.alloc (.cells #[.int .u64 0, .int .u64 0, .int .i64 0, .slice none 0 0, .int .i64 0] 125) := ⟨_, rfl⟩
  have hf3 : Fr (fun _ => False) w2 w3 := by rw [hw3]; exact (Fr.refl _ w2).alloc _
  have hB3 := hB2.fr hf3 (fun h => h)
  have hby3 := hby.fr (hf12.tr hf3) (fun _ _ h => h)
  have HW3 := Lib.hid hw3
  have HF3 := Lib.hid (hf12.tr hf3)
  have hX3 := hX2.fr hf3 (fun _ _ _ h => h)
  clear hw3 hX2 hf3 hf12 hB2 hk

  have hl' : ¬ (100 : Int) < (own.length : Int) := by omega
  go_upto_region 13 with (fail)
  rw [← HW3.out]
  clear HW3 c7 c9 c10 hlk hlm

  have c5 : w3.cell? ⟨r, 5, none⟩ = some (.int .u64 p.n) := hX3.blk.cell 5 rfl
  have c6 : w3.cell? ⟨r, 6, none⟩ = some (.int .i64 p.d) := hX3.blk.cell 6 rfl
  have HX3 := Lib.hid hX3
  have hq3 := hB3.lt
  clear hX3
  go_wp2_with fail
  refine (out_any ⟨k, p.n, p.d, own⟩ _ w3 hby3 (by simp only; omega)).mono ?_
  rintro e w4 ⟨g1, cap1, rfl, hg1, hgl1, ho4, hf4⟩
  simp only [vtV] at ho4 ⊢
  obtain ⟨w5, hw5⟩ : ∃ w5, w5 = w4.alloc (.cells #[.int .u64 k, .int .u64 p.n, .int .i64 p.d, .slice (some ⟨g1, 0, none⟩) (own).length cap1] 46) := ⟨_, rfl⟩
  have hf5 : Fr (fun _ => False) w4 w5 := by rw [hw5]; exact (Fr.refl _ w4).alloc _
  have hf35 := hf4.tr hf5
  have hB5 := hB3.fr hf35 (fun h => h)
  have hX5 := HX3.out.fr hf35 (fun _ _ _ h => h)
  have hV5 : Blk w5 w4.heap.size 46 #[.int .u64 k, .int .u64 p.n, .int .i64 p.d, .slice (some ⟨g1, 0, none⟩) (own).length cap1] := by rw [hw5]; exact Blk.new _ _ _
  have ho5 := own_fr ho4 hf5 (fun _ _ h => h)
  have HW5 := Lib.hid hw5
  clear hw5 c5 c6 ho4 hf5 hB3 hby3
  go_upto_region 16 with (fail)
  rw [← HW5.out]
  clear HW5
  obtain ⟨q, hq⟩ : ∃ q, q = w4.heap.size := ⟨_, rfl⟩
  rw [← hq] at hV5 ⊢
  have HQ := Lib.hid hq
  clear hq
  have c10 : w5.cell? ⟨r, 10, none⟩ = some (.map (some sb)) := hX5.blk.cell 10 rfl
  have v0 : w5.cell? ⟨q, 0, none⟩ = some (.int .u64 k) := hV5.cell 0 rfl
  have v1 : w5.cell? ⟨q, 1, none⟩ = some (.int .u64 p.n) := hV5.cell 1 rfl
  have v2 : w5.cell? ⟨q, 2, none⟩ = some (.int .i64 p.d) := hV5.cell 2 rfl
  have v3 : w5.cell? ⟨q, 3, none⟩ = some (.slice (some ⟨g1, 0, none⟩) (own).length cap1) := hV5.cell 3 rfl
  obtain ⟨Z, hZ⟩ : ∃ Z, Z = Obj.cells #[.int .u64 k, .int .u64 p.n, .int .i64 p.d, .slice (some ⟨g1, 0, none⟩) (own).length cap1, .int .u32 0] 131 := ⟨_, rfl⟩
  have c10z := al_cell c10 Z
  obtain ⟨w6, hw6⟩ : ∃ w6, w6 = (w5.alloc Z).drew := ⟨_, rfl⟩
  have hf6 : Fr (fun _ => False) w5 w6 := by rw [hw6]; exact ((Fr.refl _ w5).alloc Z).drew
  have hS6 : Blk w6 w5.heap.size 131 (slC ⟨k, p.n, p.d, own⟩ 0 (.slice (some ⟨g1, 0, none⟩) (own).length cap1)) := by rw [hw6, hZ]; exact Blk.new _ _ _
  have hX6 := (hX5.fr hf6 (fun _ _ _ h => h)).up (G' := fun j => G j ∨ j = g1 ∨ j = w5.heap.size) (fun _ _ h => .inl h)
  have hne6 := hX5.new_ne (g := w5.heap.size) (Nat.le_refl _)
  have hcm : c < maxLen := hc
  obtain ⟨w7, hrun, hm7, hf7, hz7⟩ := hX6.sls.update key64 Try.underlying42 Try.underlying109 hcm k hk64 (.pointer (some ⟨w5.heap.size, 0, none⟩))
  have hP7 := hX6.putSl (v := ⟨k, p.n, p.d, own⟩) (s := .slice (some ⟨g1, 0, none⟩) (own).length cap1) (k := k) rfl hk64 (by omega) rfl rfl hS6 (.inr (.inr rfl))
    ⟨own_fr ho5 hf6 (fun _ _ h => h), fun j hj => by simp [Value.ownBlock] at hj; exact .inr (.inl hj.symm)⟩ (by simp only; omega) hne6 hm7 hf7
  have hf57 : Fr (fun j => j = sb) w5 w7 := hf6.none_up.tr hf7
  have hB7 := hB5.fr hf57 (fun e => hX5.sls.blk_ne hB5 e)
  have hV7 := hV5.fr hf57 (fun e => hX5.sls.blk_ne hV5 e)
  have hb7 : Byt w7 (.slice (some ⟨g1, 0, none⟩) (own).length cap1) (own) := Byt.of_own (own_fr ho5 hf57 (fun j hj => hX5.sls.own_ne ho5 j hj))
  have HZZ := Lib.hid (show w5.heap.size < w7.heap.size by have := hS6.lt; omega)
  have hgl5 := own_lt ho5 (k := g1) rfl
  have H7 := Lib.hid (And.intro hP7 (And.intro hf35 (And.intro hf57 hX5.sbG)))
  rw [hw6, hZ] at hrun
  rw [hZ] at c10z
  clear hw6 hZ hf6 hS6 hX6 hne6 hm7 hf7 hz7 hP7 hf57 hB5 hX5 hV5 ho5 hf35 hf4
  go_region
  all_goals
    clear c10 c10z v0 v1 v2 v3 hrun
    have v0 : w7.cell? ⟨q, 0, none⟩ = some (.int .u64 k) := hV7.cell 0 rfl
    have v1 : w7.cell? ⟨q, 1, none⟩ = some (.int .u64 p.n) := hV7.cell 1 rfl
    have v2 : w7.cell? ⟨q, 2, none⟩ = some (.int .i64 p.d) := hV7.cell 2 rfl
    have v3 : w7.cell? ⟨q, 3, none⟩ = some (.slice (some ⟨g1, 0, none⟩) (own).length cap1) := hV7.cell 3 rfl
    go_wp2_with fail
    refine (out_any ⟨k, p.n, p.d, own⟩ _ w7 hb7 (by simp only; omega)).mono ?_
    rintro e w8 ⟨g2, cap2, rfl, hg2, hgl2, ho8, hf8⟩
    simp only [vtV] at ho8 ⊢
    have hB8 := hB7.fr hf8 (fun h => h)
    clear v0 v1 v2 v3
    have b0 := hB8.cell 0 rfl
    have b1 := hB8.cell 1 rfl
    have b2 := hB8.cell 2 rfl
    have b3 := hB8.cell 3 rfl
    have b4 := hB8.frozen
    have H8 := Lib.hid (And.intro ho8 hf8)
    clear ho8 hf8
    go_wp2_with fail
    have hX : Fr (fun x => x = w.heap.size) w8 ((((w8.setCell ⟨w.heap.size, 0, none⟩ (.int .u64 k)).setCell ⟨w.heap.size, 1, none⟩ (.int .u64 p.n)).setCell ⟨w.heap.size, 2, none⟩ (.int .i64 p.d)).setCell ⟨w.heap.size, 3, none⟩ (.slice (some ⟨g2, 0, none⟩) (own).length cap2)) :=
      (((Fr.set1 w8 w.heap.size 0 _).setCell (p := ⟨w.heap.size, 1, none⟩) (fun _ => rfl) _).setCell (p := ⟨w.heap.size, 2, none⟩) (fun _ => rfl) _).setCell (p := ⟨w.heap.size, 3, none⟩) (fun _ => rfl) _
    have hW := (((hB8.set_ 0 (.int .u64 k)).set_ 1 (.int .u64 p.n)).set_ 2 (.int .i64 p.d)).set_ 3 (.slice (some ⟨g2, 0, none⟩) (own).length cap2)
    obtain ⟨ho8, hf8⟩ := H8.out
    obtain ⟨hP7, hf35, hf57, hsb⟩ := H7.out
    have z3 := HF3.out.size
    have z5 := hf35.size
    have z7 := hf57.size
    have z8 := hf8.size
    have hzz := HZZ.out
    refine bodyPost_ret (results_row_tmp rfl _ _ w.heap.size 46 #[.int .u64 k, .int .u64 p.n, .int .i64 p.d, .slice (some ⟨g2, 0, none⟩) (own).length cap2] (0, 0) _ rfl ?_ Try.underlying46 rfl (by kernel_rfl)) rfl ?_
    · show Blk _ w.heap.size 46 _
      simpa using hW
    · have hF3 : Fr G w w7 := (HF3.out.tr hf35).none_up.trans hf57 (fun x hx h => by rcases h with h | h; exact h; subst h; exact hsb)
      have hFE : Fr G w _ := (hF3.tr hf8.none_up).trans hX (fun x hx h => by rcases h with h | h; exact h; omega)
      have hXw := hX.size
      refine ⟨some ⟨g2, 0, none⟩, cap2, (fun j => G j ∨ j = g1 ∨ j = w5.heap.size), rfl, own_up (own_fr ho8 hX (fun j hj => by simp [Value.ownBlock] at hj; omega)) (fun j hj => by simp [Value.ownBlock] at hj; omega),
        ⟨_, _, _, _, _, (hP7.fr hf8 (fun _ _ _ h => h)).fr hX (fun j hj h e => ?_)⟩, fun j hj => ?_, fun j hj hj2 => ?_, hFE⟩
      · have e' : j = w.heap.size := e
        rcases h with h | h | h
        · have := hG j h; omega
        · omega
        · omega
      · rcases hj with h | h | h
        · exact .inl h
        · exact .inr ⟨by omega, by omega⟩
        · exact .inr ⟨by omega, by omega⟩
      · simp [Value.ownBlock] at hj
        rcases hj2 with h | h | h
        · have := hG j h; omega
        · omega
        · omega
set_option maxRecDepth 100000 in
set_option maxHeartbeats 8000000 in
theorem pro_putm (r : Nat) (p : Ps) (c : Nat) (G : Nat → Prop) (k : Nat) (A : Option Addr) (sc : Nat) (own : List UInt8) (w : World) (h : PR w r p c G) (_hby : Byt w (.slice A own.length sc) own) (hr : readyB p = true) (hk : p.f ≤ k) (hk64 : k < 18446744073709551616) (hs : p.sl k = none) (m : Vt) (nd : Int) (hm : p.mu k = some (m, nd)) (hc : c < maxLen) (hG : ∀ j, G j → j < w.heap.size) :
    Calls Try.prog 61 #[.pointer (some ⟨r, 0, none⟩), .int .u64 k, .slice A own.length sc] w fun e w' => ProPost r c G w 0 ⟨k, p.n, p.d, m.v⟩ { p with sl := upd p.sl k (⟨k, p.n, p.d, m.v⟩, 0) } e w' := by
  have hx := h
  obtain ⟨sv, mb, sb, mm, sm, h⟩ := h
  have HX := Lib.hid h
  have HXX := Lib.hid hx
  have hf64 := h.wf.f64
  obtain ⟨w1, hw1⟩ : ∃ w1, w1 = w.alloc (.cells #[.int .u64 0, .int .u64 0, .int .i64 0, .slice none 0 0] 46) := ⟨_, rfl⟩
  have hf1 : Fr (fun _ => False) w w1 := by rw [hw1]; exact (Fr.refl _ w).alloc _
  have hB1 : Blk w1 w.heap.size 46 #[.int .u64 0, .int .u64 0, .int .i64 0, .slice none 0 0] := by rw [hw1]; exact Blk.new _ _ _
  have HW := Lib.hid hw1
  have HR := Lib.hid hr
  clear hw1 hr h hx
  go_enter Try.func61, Try.ntmps61
  go_upto_region 3 with (fail)
  rw [← HW.out]
  clear HW
  go_wp2_with fail
  refine (ready_any r p c G w1 (HXX.out.none_ hf1)).mono ?_
  rintro e w2 ⟨rfl, hf2⟩
  rw [HR.out]
  have hf12 := hf1.tr hf2
  have hB2 := hB1.fr hf2 (fun h => h)
  have c7 : w2.cell? ⟨r, 7, none⟩ = some (.int .u64 p.f) := (HX.out.fr hf12 (fun _ _ _ h => h)).blk.cell 7 rfl
  have hq1 : w.heap.size < w2.heap.size := hB2.lt
  clear hf1 hf2 hB1

  have hkk : ¬ k < p.f := by omega
  have hX2 := HX.out.fr hf12 (fun _ _ _ h => h)
  have c9 : w2.cell? ⟨r, 9, none⟩ = some (.map (some mb)) := hX2.blk.cell 9 rfl
  have c10 : w2.cell? ⟨r, 10, none⟩ = some (.map (some sb)) := hX2.blk.cell 10 rfl
  have hlk := hX2.sls.look key64 Try.underlying42 Try.underlying109 (zero_slot w2) k hk64
  have hlm := hX2.mus.look key64 Try.underlying42 Try.underlying108 (zero_must w2) k hk64
  have hy : sm k = none := by
    rcases hX2.sl k with ⟨_, hy⟩ | ⟨v', X', g, s, hm, hy, hB, hg, ho⟩
    · exact hy
    · rw [hs] at hm; cases hm
  rw [hy] at hlk
  simp only [Option.getD_none, Option.isSome_none] at hlk
  have HS := Lib.hid hs
  clear hy hs

  have hyo : ∃ s, mm k = some (muV m nd s) ∧ OwB w2 G s m.v := by
    rcases hX2.mu k with ⟨hm', hy⟩ | ⟨v', X', s, hm', hy, ho⟩
    · rw [hm] at hm'; cases hm'
    · rw [hm] at hm'
      injection hm' with hm'
      injection hm' with e1 e2
      subst e1 e2
      exact ⟨s, hy, ho⟩
  obtain ⟨s, hym, ho⟩ := hyo
  have hml := (hX2.wf.mu k m nd hm).2.2
  rw [hym] at hlm
  have hbym := ho.byt
  have hby0 := hbym
  obtain ⟨ma, mc, rfl, -, -⟩ := hby0
  simp only [Option.getD_some, Option.isSome_some, muV] at hlm
  have HM := Lib.hid hm
  clear hm hym ho
  obtain ⟨w3, hw3⟩ : ∃ w3, w3 = w2.alloc (.cells #[.int .u64 m.s, .int .u64 m.n, .int .i64 m.d, .slice ma m.v.length mc, .int .i64 nd] 125) := ⟨_, rfl⟩
  have hf3 : Fr (fun _ => False) w2 w3 := by rw [hw3]; exact (Fr.refl _ w2).alloc _
  have hB3 := hB2.fr hf3 (fun h => h)
  have hby3 := hbym.fr hf3 (fun _ _ h => h)
  have hM3 : Blk w3 w2.heap.size 125 #[.int .u64 m.s, .int .u64 m.n, .int .i64 m.d, .slice ma m.v.length mc, .int .i64 nd] := by rw [hw3]; exact Blk.new _ _ _
  have HW3 := Lib.hid hw3
  have HF3 := Lib.hid (hf12.tr hf3)
  have hX3 := hX2.fr hf3 (fun _ _ _ h => h)
  clear hw3 hX2 hf3 hf12 hB2 hk

  have hl' : ¬ (100 : Int) < (m.v.length : Int) := by omega
  go_upto_region 11 with (fail)
  rw [← HW3.out]
  clear HW3 c7 c9 c10 hlk hlm
  have m3 : w3.cell? ⟨w2.heap.size, 3, none⟩ = some (.slice ma m.v.length mc) := hM3.cell 3 rfl
  go_upto_region 13 with (fail)
  clear m3

  have c5 : w3.cell? ⟨r, 5, none⟩ = some (.int .u64 p.n) := hX3.blk.cell 5 rfl
  have c6 : w3.cell? ⟨r, 6, none⟩ = some (.int .i64 p.d) := hX3.blk.cell 6 rfl
  have HX3 := Lib.hid hX3
  have hq3 := hB3.lt
  clear hX3
  go_wp2_with fail
  refine (out_any ⟨k, p.n, p.d, m.v⟩ _ w3 hby3 (by simp only; omega)).mono ?_
  rintro e w4 ⟨g1, cap1, rfl, hg1, hgl1, ho4, hf4⟩
  simp only [vtV] at ho4 ⊢
  obtain ⟨w5, hw5⟩ : ∃ w5, w5 = w4.alloc (.cells #[.int .u64 k, .int .u64 p.n, .int .i64 p.d, .slice (some ⟨g1, 0, none⟩) (m.v).length cap1] 46) := ⟨_, rfl⟩
  have hf5 : Fr (fun _ => False) w4 w5 := by rw [hw5]; exact (Fr.refl _ w4).alloc _
  have hf35 := hf4.tr hf5
  have hB5 := hB3.fr hf35 (fun h => h)
  have hX5 := HX3.out.fr hf35 (fun _ _ _ h => h)
  have hV5 : Blk w5 w4.heap.size 46 #[.int .u64 k, .int .u64 p.n, .int .i64 p.d, .slice (some ⟨g1, 0, none⟩) (m.v).length cap1] := by rw [hw5]; exact Blk.new _ _ _
  have ho5 := own_fr ho4 hf5 (fun _ _ h => h)
  have HW5 := Lib.hid hw5
  clear hw5 c5 c6 ho4 hf5 hB3 hby3
  go_upto_region 16 with (fail)
  rw [← HW5.out]
  clear HW5
  obtain ⟨q, hq⟩ : ∃ q, q = w4.heap.size := ⟨_, rfl⟩
  rw [← hq] at hV5 ⊢
  have HQ := Lib.hid hq
  clear hq
  have c10 : w5.cell? ⟨r, 10, none⟩ = some (.map (some sb)) := hX5.blk.cell 10 rfl
  have v0 : w5.cell? ⟨q, 0, none⟩ = some (.int .u64 k) := hV5.cell 0 rfl
  have v1 : w5.cell? ⟨q, 1, none⟩ = some (.int .u64 p.n) := hV5.cell 1 rfl
  have v2 : w5.cell? ⟨q, 2, none⟩ = some (.int .i64 p.d) := hV5.cell 2 rfl
  have v3 : w5.cell? ⟨q, 3, none⟩ = some (.slice (some ⟨g1, 0, none⟩) (m.v).length cap1) := hV5.cell 3 rfl
  obtain ⟨Z, hZ⟩ : ∃ Z, Z = Obj.cells #[.int .u64 k, .int .u64 p.n, .int .i64 p.d, .slice (some ⟨g1, 0, none⟩) (m.v).length cap1, .int .u32 0] 131 := ⟨_, rfl⟩
  have c10z := al_cell c10 Z
  obtain ⟨w6, hw6⟩ : ∃ w6, w6 = (w5.alloc Z).drew := ⟨_, rfl⟩
  have hf6 : Fr (fun _ => False) w5 w6 := by rw [hw6]; exact ((Fr.refl _ w5).alloc Z).drew
  have hS6 : Blk w6 w5.heap.size 131 (slC ⟨k, p.n, p.d, m.v⟩ 0 (.slice (some ⟨g1, 0, none⟩) (m.v).length cap1)) := by rw [hw6, hZ]; exact Blk.new _ _ _
  have hX6 := (hX5.fr hf6 (fun _ _ _ h => h)).up (G' := fun j => G j ∨ j = g1 ∨ j = w5.heap.size) (fun _ _ h => .inl h)
  have hne6 := hX5.new_ne (g := w5.heap.size) (Nat.le_refl _)
  have hcm : c < maxLen := hc
  obtain ⟨w7, hrun, hm7, hf7, hz7⟩ := hX6.sls.update key64 Try.underlying42 Try.underlying109 hcm k hk64 (.pointer (some ⟨w5.heap.size, 0, none⟩))
  have hP7 := hX6.putSl (v := ⟨k, p.n, p.d, m.v⟩) (s := .slice (some ⟨g1, 0, none⟩) (m.v).length cap1) (k := k) rfl hk64 (by omega) rfl rfl hS6 (.inr (.inr rfl))
    ⟨own_fr ho5 hf6 (fun _ _ h => h), fun j hj => by simp [Value.ownBlock] at hj; exact .inr (.inl hj.symm)⟩ (by simp only; omega) hne6 hm7 hf7
  have hf57 : Fr (fun j => j = sb) w5 w7 := hf6.none_up.tr hf7
  have hB7 := hB5.fr hf57 (fun e => hX5.sls.blk_ne hB5 e)
  have hV7 := hV5.fr hf57 (fun e => hX5.sls.blk_ne hV5 e)
  have hb7 : Byt w7 (.slice (some ⟨g1, 0, none⟩) (m.v).length cap1) (m.v) := Byt.of_own (own_fr ho5 hf57 (fun j hj => hX5.sls.own_ne ho5 j hj))
  have HZZ := Lib.hid (show w5.heap.size < w7.heap.size by have := hS6.lt; omega)
  have hgl5 := own_lt ho5 (k := g1) rfl
  have H7 := Lib.hid (And.intro hP7 (And.intro hf35 (And.intro hf57 hX5.sbG)))
  rw [hw6, hZ] at hrun
  rw [hZ] at c10z
  clear hw6 hZ hf6 hS6 hX6 hne6 hm7 hf7 hz7 hP7 hf57 hB5 hX5 hV5 ho5 hf35 hf4
  go_region
  all_goals
    clear c10 c10z v0 v1 v2 v3 hrun
    have v0 : w7.cell? ⟨q, 0, none⟩ = some (.int .u64 k) := hV7.cell 0 rfl
    have v1 : w7.cell? ⟨q, 1, none⟩ = some (.int .u64 p.n) := hV7.cell 1 rfl
    have v2 : w7.cell? ⟨q, 2, none⟩ = some (.int .i64 p.d) := hV7.cell 2 rfl
    have v3 : w7.cell? ⟨q, 3, none⟩ = some (.slice (some ⟨g1, 0, none⟩) (m.v).length cap1) := hV7.cell 3 rfl
    go_wp2_with fail
    refine (out_any ⟨k, p.n, p.d, m.v⟩ _ w7 hb7 (by simp only; omega)).mono ?_
    rintro e w8 ⟨g2, cap2, rfl, hg2, hgl2, ho8, hf8⟩
    simp only [vtV] at ho8 ⊢
    have hB8 := hB7.fr hf8 (fun h => h)
    clear v0 v1 v2 v3
    have b0 := hB8.cell 0 rfl
    have b1 := hB8.cell 1 rfl
    have b2 := hB8.cell 2 rfl
    have b3 := hB8.cell 3 rfl
    have b4 := hB8.frozen
    have H8 := Lib.hid (And.intro ho8 hf8)
    clear ho8 hf8
    go_wp2_with fail
    have hX : Fr (fun x => x = w.heap.size) w8 ((((w8.setCell ⟨w.heap.size, 0, none⟩ (.int .u64 k)).setCell ⟨w.heap.size, 1, none⟩ (.int .u64 p.n)).setCell ⟨w.heap.size, 2, none⟩ (.int .i64 p.d)).setCell ⟨w.heap.size, 3, none⟩ (.slice (some ⟨g2, 0, none⟩) (m.v).length cap2)) :=
      (((Fr.set1 w8 w.heap.size 0 _).setCell (p := ⟨w.heap.size, 1, none⟩) (fun _ => rfl) _).setCell (p := ⟨w.heap.size, 2, none⟩) (fun _ => rfl) _).setCell (p := ⟨w.heap.size, 3, none⟩) (fun _ => rfl) _
    have hW := (((hB8.set_ 0 (.int .u64 k)).set_ 1 (.int .u64 p.n)).set_ 2 (.int .i64 p.d)).set_ 3 (.slice (some ⟨g2, 0, none⟩) (m.v).length cap2)
    obtain ⟨ho8, hf8⟩ := H8.out
    obtain ⟨hP7, hf35, hf57, hsb⟩ := H7.out
    have z3 := HF3.out.size
    have z5 := hf35.size
    have z7 := hf57.size
    have z8 := hf8.size
    have hzz := HZZ.out
    refine bodyPost_ret (results_row_tmp rfl _ _ w.heap.size 46 #[.int .u64 k, .int .u64 p.n, .int .i64 p.d, .slice (some ⟨g2, 0, none⟩) (m.v).length cap2] (0, 0) _ rfl ?_ Try.underlying46 rfl (by kernel_rfl)) rfl ?_
    · show Blk _ w.heap.size 46 _
      simpa using hW
    · have hF3 : Fr G w w7 := (HF3.out.tr hf35).none_up.trans hf57 (fun x hx h => by rcases h with h | h; exact h; subst h; exact hsb)
      have hFE : Fr G w _ := (hF3.tr hf8.none_up).trans hX (fun x hx h => by rcases h with h | h; exact h; omega)
      have hXw := hX.size
      refine ⟨some ⟨g2, 0, none⟩, cap2, (fun j => G j ∨ j = g1 ∨ j = w5.heap.size), rfl, own_up (own_fr ho8 hX (fun j hj => by simp [Value.ownBlock] at hj; omega)) (fun j hj => by simp [Value.ownBlock] at hj; omega),
        ⟨_, _, _, _, _, (hP7.fr hf8 (fun _ _ _ h => h)).fr hX (fun j hj h e => ?_)⟩, fun j hj => ?_, fun j hj hj2 => ?_, hFE⟩
      · have e' : j = w.heap.size := e
        rcases h with h | h | h
        · have := hG j h; omega
        · omega
        · omega
      · rcases hj with h | h | h
        · exact .inl h
        · exact .inr ⟨by omega, by omega⟩
        · exact .inr ⟨by omega, by omega⟩
      · simp [Value.ownBlock] at hj
        rcases hj2 with h | h | h
        · have := hG j h; omega
        · omega
        · omega
end Go.Proofs.Ytkpfgoalohbfeaa

/- Promise and Propose, whole. -/
namespace Go.Proofs.Ytkpfgoalohbfeaa
open Go.RowKit

theorem prm_any (r : Nat) (p : Ps) (c : Nat) (G : Nat → Prop) (x : Int) (v : Value) (l : List Vt) (w : World) (h : PR w r p c G) (hG : ∀ j, G j → j < w.heap.size) (hc : c + l.length < maxLen) (hl : VtL w v l G) :
    Calls Try.prog 60 #[.pointer (some ⟨r, 0, none⟩), .int .i64 x, v] w fun e w' => e = .returned (.int .i64 (prmE p x l)) ∧
      ∃ G', PR w' r (prmP p x l) (c + l.length) G' ∧ Nx G G' w w' ∧ Fr G w w' := by
  have hh := h
  obtain ⟨sv, mb, sb, mm, sm, h⟩ := h
  have hl0 : VtL w v l (fun _ => False) := hl.mono (fun _ h => h.elim)
  have hc' : c ≤ c + l.length := by omega
  cases hb : nodeB p x with
  | false =>
    obtain ⟨⟨A, cc, rfl, -⟩, -⟩ := hl
    refine (prm_node r p x _ w (h.blk.cell 1 rfl) hb A l.length cc rfl).mono ?_
    rintro e w' ⟨rfl, rfl⟩
    have e1 : prmE p x l = 2 := by unfold prmE; rw [hb]; rfl
    refine ⟨by rw [e1], G, ?_, Nx.refl _ _ _, Fr.refl _ _⟩
    unfold prmP
    rw [if_neg (by rw [e1]; simp)]
    exact hh.mono hc'
  | true =>
    cases hr : rightV p.n p.d (p.f - 1) l with
    | false =>
      refine (prm_right r p sv mb sb x v l w h.blk h.wf.f1 h.wf.f64 hl0 hb hr).mono ?_
      rintro e w' ⟨rfl, hf⟩
      have e1 : prmE p x l = 91 := by unfold prmE; rw [hb, hr]; rfl
      refine ⟨by rw [e1], G, ?_, Nx.refl _ _ _, hf.none_up⟩
      unfold prmP
      rw [if_neg (by rw [e1]; simp)]
      exact (hh.none_ hf).mono hc'
    | true =>
      have e1 : prmE p x l = 0 := by unfold prmE; rw [hb, hr]; rfl
      have hb' := hb
      simp only [nodeB, decide_eq_true_eq] at hb'
      have hn := h.wf.ok.n
      obtain ⟨x, rfl⟩ := Int.eq_ofNat_of_zero_le hb'.1
      have hx : x < 12 := by omega
      cases ht : p.set.testBit x with
      | true =>
        refine (prm_had r p sv mb sb x v l w h.blk h.wf.f1 h.wf.f64 h.wf.st hx hl0 hb hr ht).mono ?_
        rintro e w' ⟨rfl, hf⟩
        refine ⟨by rw [e1], G, ?_, Nx.refl _ _ _, hf.none_up⟩
        unfold prmP
        rw [if_neg (by simp [ht])]
        exact (hh.none_ hf).mono hc'
      | false =>
        refine (prm_put r p c G sv mb sb mm sm x v l w h hG hc hx hl0 hl hb hr ht).mono ?_
        rintro e w' ⟨rfl, G', h1, h2, h3⟩
        refine ⟨by rw [e1], G', ?_, h2, h3⟩
        unfold prmP
        rw [if_pos (by simp [e1, ht])]
        exact h1

theorem pro_any (r : Nat) (p : Ps) (c : Nat) (G : Nat → Prop) (k : Nat) (hk64 : k < 18446744073709551616) (s : Value) (own : List UInt8) (w : World) (h : PR w r p c G) (hG : ∀ j, G j → j < w.heap.size) (hc : c < maxLen) (hby : Byt w s own) :
    Calls Try.prog 61 #[.pointer (some ⟨r, 0, none⟩), .int .u64 k, s] w fun e w' => ProPost r c G w (proE p k own) (proV p k own) (proP p k own) e w' := by
  have hby0 := hby
  obtain ⟨A, sc, rfl, -, -⟩ := hby0
  cases hr : readyB p with
  | false =>
    have e1 : proE p k own = 100 := by unfold proE; rw [hr]; rfl
    have e2 : proV p k own = ⟨0, 0, 0, []⟩ := by unfold proV; rw [if_neg (by rw [e1]; simp)]
    have e3 : proP p k own = p := by unfold proP; rw [if_neg (by rw [e1]; simp)]
    rw [e1, e2, e3]
    exact pro_state r p c G k A own.length sc w h hr
  | true =>
    by_cases hk : k < p.f
    · have e1 : proE p k own = 2 := by unfold proE; rw [hr, if_pos rfl, if_pos hk]
      have e2 : proV p k own = ⟨0, 0, 0, []⟩ := by unfold proV; rw [if_neg (by rw [e1]; simp)]
      have e3 : proP p k own = p := by unfold proP; rw [if_neg (by rw [e1]; simp)]
      rw [e1, e2, e3]
      exact pro_low r p c G k A own.length sc w h hr hk
    · cases hs : p.sl k with
      | some y =>
        obtain ⟨v, X⟩ := y
        have e1 : proE p k own = 0 := by unfold proE; rw [hr, if_pos rfl, if_neg hk, hs]
        have e2 : proV p k own = v := by unfold proV; rw [if_pos e1, hs]
        have e3 : proP p k own = p := by unfold proP; rw [if_pos e1, hs]
        rw [e1, e2, e3]
        exact pro_again r p c G k A own.length sc w h hr (by omega) hk64 v X hs hG
      | none =>
        cases hm : p.mu k with
        | none =>
          have ev : proVal p k own = own := by unfold proVal muB; rw [hm]; rfl
          by_cases hl : 100 < own.length
          · have e1 : proE p k own = 3 := by unfold proE; rw [hr, if_pos rfl, if_neg hk, hs, ev]; simp only; rw [if_pos hl]
            have e2 : proV p k own = ⟨0, 0, 0, []⟩ := by unfold proV; rw [if_neg (by rw [e1]; simp)]
            have e3 : proP p k own = p := by unfold proP; rw [if_neg (by rw [e1]; simp)]
            rw [e1, e2, e3]
            exact pro_long r p c G k A sc own w h hby hr (by omega) hk64 hs hm hl
          · have e1 : proE p k own = 0 := by unfold proE; rw [hr, if_pos rfl, if_neg hk, hs, ev]; simp only; rw [if_neg hl]
            have e2 : proV p k own = ⟨k, p.n, p.d, own⟩ := by unfold proV; rw [if_pos e1, hs, ev]
            have e3 : proP p k own = { p with sl := upd p.sl k (⟨k, p.n, p.d, own⟩, 0) } := by unfold proP; rw [if_pos e1, hs, ev]
            rw [e1, e2, e3]
            exact pro_put r p c G k A sc own w h hby hr (by omega) hk64 hs hm (by omega) hc hG
        | some y =>
          obtain ⟨m, nd⟩ := y
          have ev : proVal p k own = m.v := by unfold proVal muB; rw [hm]; rfl
          have hl := (h.wf.mu k m nd hm).2.2
          have e1 : proE p k own = 0 := by unfold proE; rw [hr, if_pos rfl, if_neg hk, hs, ev]; simp only; rw [if_neg (by omega)]
          have e2 : proV p k own = ⟨k, p.n, p.d, m.v⟩ := by unfold proV; rw [if_pos e1, hs, ev]
          have e3 : proP p k own = { p with sl := upd p.sl k (⟨k, p.n, p.d, m.v⟩, 0) } := by unfold proP; rw [if_pos e1, hs, ev]
          rw [e1, e2, e3]
          exact pro_putm r p c G k A sc own w h hby hr (by omega) hk64 hs m nd hm hc hG

set_option maxRecDepth 100000 in
theorem prm_nil (x : Int) (A : Option Addr) (n c : Nat) (w : World) : Calls Try.prog 60 #[.pointer none, .int .i64 x, .slice A n c] w fun e w' => e = .returned (.int .i64 1) ∧ w = w' := by
  go_enter Try.func60, Try.ntmps60
  go_upto_block 0 with (fail)
  go_step3
  go_wp2_with fail
  try rw [Exit.noGoto_ret]
  go_ret
  exact ⟨rfl, rfl⟩
set_option maxRecDepth 100000 in
theorem pro_nil (k : Nat) (A : Option Addr) (n c : Nat) (w : World) : Calls Try.prog 61 #[.pointer none, .int .u64 k, .slice A n c] w fun e w' =>
    e = .returned (.tuple #[.agg #[.int .u64 0, .int .u64 0, .int .i64 0, .slice none 0 0], .int .i64 1]) ∧ Fr (fun _ => False) w w' := by
  obtain ⟨w2, hw2⟩ : ∃ w2, w2 = w.alloc (.cells #[.int .u64 0, .int .u64 0, .int .i64 0, .slice none 0 0] 46) := ⟨_, rfl⟩
  have hf : Fr (fun _ => False) w w2 := by rw [hw2]; exact (Fr.refl _ w).alloc _
  have hB2 : Blk w2 w.heap.size 46 #[.int .u64 0, .int .u64 0, .int .i64 0, .slice none 0 0] := by rw [hw2]; exact Blk.new _ _ _
  have HW := Lib.hid hw2
  clear hw2
  have b0 := hB2.cell 0 rfl
  have b1 := hB2.cell 1 rfl
  have b2 := hB2.cell 2 rfl
  have b3 := hB2.cell 3 rfl
  have b4 := hB2.frozen
  go_enter Try.func61, Try.ntmps61
  go_upto_region 2 with (fail)
  rw [← HW.out]
  go_wp2_with fail
  have hX : Fr (fun x => x = w.heap.size) w2 ((((w2.setCell ⟨w.heap.size, 0, none⟩ (.int .u64 0)).setCell ⟨w.heap.size, 1, none⟩ (.int .u64 0)).setCell ⟨w.heap.size, 2, none⟩ (.int .i64 0)).setCell ⟨w.heap.size, 3, none⟩ (.slice none 0 0)) :=
    (((Fr.set1 w2 w.heap.size 0 _).setCell (p := ⟨w.heap.size, 1, none⟩) (fun _ => rfl) _).setCell (p := ⟨w.heap.size, 2, none⟩) (fun _ => rfl) _).setCell (p := ⟨w.heap.size, 3, none⟩) (fun _ => rfl) _
  have hW := (((hB2.set_ 0 (.int .u64 0)).set_ 1 (.int .u64 0)).set_ 2 (.int .i64 0)).set_ 3 (.slice none 0 0)
  refine bodyPost_ret (results_row_tmp rfl _ _ w.heap.size 46 #[.int .u64 0, .int .u64 0, .int .i64 0, .slice none 0 0] (0, 0) _ rfl ?_ Try.underlying46 rfl (by kernel_rfl)) rfl ⟨rfl, ?_⟩
  · show Blk _ w.heap.size 46 _
    simpa using hW
  · exact hf.trans hX (fun x hx h => by rcases h with h | h; exact h; omega)
end Go.Proofs.Ytkpfgoalohbfeaa

/- Quorums, plainly: they meet, they grow. -/
namespace Go.Proofs.Ytkpfgoalohbfeaa

theorem isQ_iff {q : Qu} {sec : Bool} {p : Nat → Bool} : isQ q sec p = true ↔ Ok q ∧ quo q sec p = true := by
  unfold isQ okQ
  rw [Bool.and_eq_true, beq_iff_eq]
  exact ⟨fun h => ⟨ok_of h.1, h.2⟩, fun h => ⟨h.1.right, h.2⟩⟩
theorem cnt_mono {n : Nat} {p p' : Nat → Bool} (h : ∀ i, i < n → p i = true → p' i = true) : cnt n p ≤ cnt n p' := by
  induction n with
  | zero => exact Nat.le_refl _
  | succ n ih =>
    simp only [cnt]
    have h1 := ih (fun i hi => h i (by omega))
    have h2 := h n (by omega)
    cases e1 : p n <;> cases e2 : p' n <;> simp_all <;> omega
theorem quo_mono {q : Qu} {sec : Bool} {p p' : Nat → Bool} (h : ∀ i, i < q.n.toNat → p i = true → p' i = true) (hp : quo q sec p = true) : quo q sec p' = true := by
  unfold quo at *
  split at hp
  · rename_i hk
    rw [if_pos hk]
    have := cnt_mono h
    simp only [decide_eq_true_eq] at hp ⊢
    omega
  · rename_i hk
    rw [if_neg hk]
    have hor : ∀ (i : Nat) (c : Bool), i < q.n.toNat → (!c || p i) = true → (!c || p' i) = true := fun i c hi hc => by
      cases c with
      | false => rfl
      | true => simp only [Bool.not_true, Bool.false_or] at hc ⊢; exact h i hi hc
    split at hp
    · rename_i hk2
      rw [if_pos hk2]
      split at hp
      · rename_i hs
        rw [if_pos hs]
        rw [anyN_iff] at hp ⊢
        obtain ⟨c, hc, h1⟩ := hp
        rw [allN_iff] at h1
        exact ⟨c, hc, allN_iff.2 fun i hi => hor i _ hi (h1 i hi)⟩
      · rename_i hs
        rw [if_neg hs]
        rw [anyN_iff] at hp ⊢
        obtain ⟨c, hc, h1⟩ := hp
        rw [allN_iff] at h1
        exact ⟨c, hc, allN_iff.2 fun i hi => hor i _ hi (h1 i hi)⟩
    · rename_i hk2
      rw [if_neg hk2]
      split at hp
      · rename_i hs
        rw [if_pos hs]
        rw [anyN_iff] at hp ⊢
        obtain ⟨c, hc, h1⟩ := hp
        rw [allN_iff] at h1
        exact ⟨c, hc, allN_iff.2 fun i hi => hor i _ hi (h1 i hi)⟩
      · rename_i hs
        rw [if_neg hs]
        rw [allN_iff] at hp ⊢
        intro j hj
        have h1 := hp j hj
        rw [anyN_iff] at h1 ⊢
        obtain ⟨i, hi, h2⟩ := h1
        simp only [Bool.and_eq_true] at h2 ⊢
        exact ⟨i, hi, h2.1, h i hi h2.2⟩
theorem isQ_mono {q : Qu} {sec : Bool} {p p' : Nat → Bool} (h : ∀ i, i < q.n.toNat → p i = true → p' i = true) (hp : isQ q sec p = true) : isQ q sec p' = true := by
  rw [isQ_iff] at *
  exact ⟨hp.1, quo_mono h hp.2⟩

/-! ### they meet -/
theorem cnt_two (n : Nat) (a b : Nat → Bool) : cnt n a + cnt n b ≤ n + cnt n (fun i => a i && b i) := by
  induction n with
  | zero => simp [cnt]
  | succ n ih =>
    simp only [cnt]
    rcases Bool.eq_false_or_eq_true (a n) with h1 | h1 <;> rcases Bool.eq_false_or_eq_true (b n) with h2 | h2 <;> simp only [h1, h2] <;> simp <;> omega
theorem cnt_pos {n : Nat} {p : Nat → Bool} (h : 0 < cnt n p) : ∃ i, i < n ∧ p i = true := by
  induction n with
  | zero => simp [cnt] at h
  | succ n ih =>
    cases e : p n with
    | true => exact ⟨n, by omega, e⟩
    | false =>
      simp only [cnt, e] at h
      obtain ⟨i, hi, h1⟩ := ih (by simpa using h)
      exact ⟨i, by omega, h1⟩
theorem meets {q : Qu} {a b : Nat → Bool} (ha : isQ q false a = true) (hb : isQ q true b = true) : ∃ i, i < q.n.toNat ∧ a i = true ∧ b i = true := by
  rw [isQ_iff] at ha hb
  obtain ⟨ho, ha⟩ := ha
  have hb := hb.2
  cases ho with
  | one N O T s n1 n12 o1 oN t1 tN m =>
    unfold quo at ha hb
    rw [if_pos rfl] at ha hb
    simp only [decide_eq_true_eq, Int.toNat_natCast, if_true, Bool.false_eq_true, if_false] at ha hb
    have h2 := cnt_two N a b
    obtain ⟨i, hi, h⟩ := cnt_pos (n := N) (p := fun i => a i && b i) (by omega)
    simp only [Bool.and_eq_true] at h
    exact ⟨i, by simpa using hi, h⟩
  | two N O T s n1 n12 o1 oN t1 tN m =>
    unfold quo at ha hb
    rw [if_neg (by simp), if_pos rfl] at ha hb
    simp only [Int.toNat_natCast, if_true, Bool.false_eq_true, if_false] at ha hb
    rw [anyN_iff] at ha hb
    obtain ⟨r, hr, ha⟩ := ha
    obtain ⟨c, hc, hb⟩ := hb
    rw [allN_iff] at ha hb
    have hlt : r * T + c < N := by
      rw [← m]
      have : (r + 1) * T ≤ O * T := Nat.mul_le_mul_right _ hr
      rw [Nat.add_mul] at this
      omega
    have e1 : (r * T + c) / T = r := by rw [Nat.mul_comm, Nat.mul_add_div (by omega), Nat.div_eq_of_lt hc]; omega
    have e2 : (r * T + c) % T = c := by rw [Nat.mul_comm, Nat.mul_add_mod, Nat.mod_eq_of_lt hc]
    have h1 := ha _ hlt
    have h2 := hb _ hlt
    simp [e1] at h1
    simp [e2] at h2
    exact ⟨_, by simpa using hlt, h1, h2⟩
  | three o t s n1 n12 b' =>
    unfold quo at ha hb
    rw [if_neg (by simp), if_neg (by simp)] at ha hb
    simp only [Int.toNat_natCast, if_true, Bool.false_eq_true, if_false] at ha hb
    rw [anyN_iff] at hb
    obtain ⟨j, hj, hb⟩ := hb
    rw [allN_iff] at ha hb
    have h1 := ha j hj
    rw [anyN_iff] at h1
    obtain ⟨i, hi, h1⟩ := h1
    have h2 := hb i hi
    simp only [Bool.and_eq_true, decide_eq_true_eq] at h1
    rw [h1.1] at h2
    simp at h2
    exact ⟨i, by simpa using hi, h1.2, h2⟩

/-! ### all, none -/

/-! ### a proposer's slots only grow -/
theorem isCh_iff {p : Ps} {k : Nat} : isCh p k = true ↔ ∃ v X, p.sl k = some (v, X) ∧ isQ p.q true X.testBit = true := by
  unfold isCh chB
  cases h : p.sl k with
  | none => simp
  | some y =>
    obtain ⟨v, X⟩ := y
    cases hq : isQ p.q true X.testBit with
    | true => exact ⟨fun _ => ⟨v, X, rfl, hq⟩, fun _ => by simp [hq]⟩
    | false =>
      refine ⟨fun h => by simp [hq] at h, ?_⟩
      rintro ⟨v', X', e, h2⟩
      injection e with e
      injection e with e1 e2
      subst e1 e2
      rw [hq] at h2
      cases h2
theorem proP_f (p : Ps) (k : Nat) (own : List UInt8) : (proP p k own).f = p.f := by unfold proP; split <;> (try split) <;> rfl
theorem proP_q (p : Ps) (k : Nat) (own : List UInt8) : (proP p k own).q = p.q := by unfold proP; split <;> (try split) <;> rfl
theorem accP_f (p : Ps) (x : Int) (k : Nat) : (accP p x k).f = p.f := by unfold accP; split <;> (try split) <;> rfl
theorem accP_q (p : Ps) (x : Int) (k : Nat) : (accP p x k).q = p.q := by unfold accP; split <;> (try split) <;> rfl
theorem prmP_f (p : Ps) (x : Int) (l : List Vt) : (prmP p x l).f = p.f := by unfold prmP; split <;> rfl
theorem prmP_q (p : Ps) (x : Int) (l : List Vt) : (prmP p x l).q = p.q := by unfold prmP; split <;> rfl
theorem prmP_sl (p : Ps) (x : Int) (l : List Vt) : (prmP p x l).sl = p.sl := by unfold prmP; split <;> rfl
theorem proP_sl {p : Ps} {k : Nat} {own : List UInt8} {j : Nat} {y : Vt × Nat} (h : p.sl j = some y) : (proP p k own).sl j = some y := by
  unfold proP
  split
  · split
    · exact h
    · rename_i hs
      have : j ≠ k := by rintro rfl; rw [hs] at h; cases h
      simp [upd, this, h]
  · exact h
theorem accP_sl {p : Ps} {x : Int} {k : Nat} {j : Nat} {v : Vt} {X : Nat} (h : p.sl j = some (v, X)) : ∃ Y, (accP p x k).sl j = some (v, Y) ∧ ∀ i, X.testBit i = true → Y.testBit i = true := by
  unfold accP
  split
  · split
    · rename_i hs
      by_cases hj : j = k
      · subst hj
        rw [hs] at h
        injection h with h
        injection h with h1 h2
        subst h1 h2
        exact ⟨_, by simp [upd]; rfl, fun i hi => by rw [Nat.testBit_or, hi]; rfl⟩
      · exact ⟨X, by simp [upd, hj, h], fun i hi => hi⟩
    · exact ⟨X, h, fun i hi => hi⟩
  · exact ⟨X, h, fun i hi => hi⟩
theorem isCh_pro {p : Ps} {k : Nat} {own : List UInt8} {j : Nat} (h : isCh p j = true) : isCh (proP p k own) j = true := by
  obtain ⟨v, X, h1, h2⟩ := isCh_iff.1 h
  exact isCh_iff.2 ⟨v, X, proP_sl h1, by rw [proP_q]; exact h2⟩
theorem isCh_acc {p : Ps} {x : Int} {k : Nat} {j : Nat} (h : isCh p j = true) : isCh (accP p x k) j = true := by
  obtain ⟨v, X, h1, h2⟩ := isCh_iff.1 h
  obtain ⟨Y, h3, h4⟩ := accP_sl (x := x) (k := k) h1
  exact isCh_iff.2 ⟨v, Y, h3, by rw [accP_q]; exact isQ_mono (fun i _ hi => h4 i hi) h2⟩
theorem isCh_prm {p : Ps} {x : Int} {l : List Vt} {j : Nat} (h : isCh p j = true) : isCh (prmP p x l) j = true := by
  obtain ⟨v, X, h1, h2⟩ := isCh_iff.1 h
  exact isCh_iff.2 ⟨v, X, by rw [prmP_sl]; exact h1, by rw [prmP_q]; exact h2⟩
theorem PreAt.le {p p' : Ps} {a b : Nat} (h : PreAt p a) (h' : PreAt p' b) (hf : p'.f = p.f) (hm : ∀ j, isCh p j = true → isCh p' j = true) : a ≤ b := by
  rcases Nat.lt_or_ge b a with hl | hl
  · have := hm b (h.2.1 b (by rw [← hf]; exact h'.1) hl)
    rw [h'.2.2] at this
    cases this
  · exact hl
end Go.Proofs.Ytkpfgoalohbfeaa


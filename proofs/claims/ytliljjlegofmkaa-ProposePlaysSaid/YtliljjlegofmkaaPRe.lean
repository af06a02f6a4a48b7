/- The document's Accepted. -/
import Derived.Test.YtliljjlegofmkaaPRd
namespace Go.Proofs.Ytliljjlegofmkaa
open Go.RowKit

theorem mkinfo : (Try.prog.info? 116).map (fun i => (i.zero, i.size, i.bytes)) = some (some (.agg #[.int .i64 0, .int .u64 0]), 2, 16) := by kernel_rfl
def raccE (st : Rs) (x : Int) (k : Nat) : Int := if inN st.q x then (if (findV st.S k).isSome then 0 else 4) else 2
def raccS (st : Rs) (x : Int) (k : Nat) : Rs := if raccE st x k = 0 then { st with M := st.M ++ [(x.toNat, k)] } else st
theorem Nx.more {F : Nat → Prop} {w w1 w2 w' : World} (h1 : w.heap.size ≤ w1.heap.size) (h2 : w2.heap.size ≤ w'.heap.size) : Nx F (More F w1 w2) w w' := fun j hj => by
  rcases hj with h | h
  · exact .inl h
  · exact .inr ⟨by omega, by omega⟩
set_option maxRecDepth 100000 in
set_option maxHeartbeats 4000000 in
theorem racc_any (r : Nat) (st : Rs) (F : Nat → Prop) (x : Int) (k : Nat) (hk : k < 18446744073709551616) (w : World) (h : RR w r st F) (hM : st.M.length ≤ 1000000) :
    Calls Try.prog 50 #[.pointer (some ⟨r, 0, none⟩), .int .i64 x, .int .u64 k] w fun e w' => e = .returned (.int .i64 (raccE st x k)) ∧ ∃ F', RR w' r (raccS st x k) F' ∧ Nx F F' w w' ∧ Fr F w w' := by
  obtain ⟨i0, hi0, hz0, hz1, hz2⟩ := info_parts mkinfo
  have hwf := h.wf
  have HF := Lib.hid (rfind_any r st F k w h)
  have HR := Lib.hid h
  obtain ⟨sv, lv, sl, ml, tv, svs, h⟩ := h
  have c1 : w.cell? ⟨r, 1, none⟩ = some (.int .i64 st.q.n) := h.blk.cell 1 rfl
  have HX := Lib.hid h
  have HW := Lib.hid hwf
  have hin : inN st.q x = decide (0 ≤ x ∧ x < st.q.n) := rfl
  obtain ⟨E, hE⟩ : ∃ E, E = raccE st x k := ⟨_, rfl⟩
  obtain ⟨S', hS⟩ : ∃ S', S' = raccS st x k := ⟨_, rfl⟩
  rw [← hE, ← hS]
  have HE := Lib.hid hE
  have HS := Lib.hid hS
  have HIn := Lib.hid hin
  clear h hwf hE hS hin
  go_enter Try.func50, Try.ntmps50
  go_wp2_with fail
  refine HF.out.mono ?_
  rintro e w1 ⟨⟨z, hz, rfl⟩, rfl⟩
  have hz' := hz.is HW.out
  have HZ := Lib.hid hz'
  clear hz hz'
  rcases (by omega : x < 0 ∨ (0 ≤ x ∧ st.q.n ≤ x) ∨ (0 ≤ x ∧ x < st.q.n)) with hx | hx | hx
  · have he : E = 2 := by rw [HE.out]; unfold raccE; rw [HIn.out, decide_eq_false (by omega)]; rfl
    have hs : S' = st := by rw [HS.out]; unfold raccS; rw [if_neg (by rw [← HE.out, he]; omega)]
    have HEE := Lib.hid (And.intro he hs)
    clear he hs
    go_wp2_with fail
    go_ret
    exact ⟨by rw [HEE.out.1]; rfl, F, by rw [HEE.out.2]; exact HR.out, Nx.refl _ _ _, Fr.refl _ _⟩
  · obtain ⟨hx0, hx1⟩ := hx
    have he : E = 2 := by rw [HE.out]; unfold raccE; rw [HIn.out, decide_eq_false (by omega)]; rfl
    have hs : S' = st := by rw [HS.out]; unfold raccS; rw [if_neg (by rw [← HE.out, he]; omega)]
    have HEE := Lib.hid (And.intro he hs)
    clear he hs
    have hx0' : ¬ x < 0 := by omega
    go_wp2_with fail
    go_ret
    exact ⟨by rw [HEE.out.1]; rfl, F, by rw [HEE.out.2]; exact HR.out, Nx.refl _ _ _, Fr.refl _ _⟩
  · obtain ⟨hx0, hx1⟩ := hx
    have hin : inN st.q x = true := by rw [HIn.out]; exact decide_eq_true ⟨hx0, hx1⟩
    have hx0' : ¬ x < 0 := by omega
    have hx1' : ¬ st.q.n ≤ x := by omega
    rcases HZ.out with ⟨rfl, hf⟩ | ⟨i, v, rfl, hv, hvk, hf⟩
    · have he : E = 4 := by rw [HE.out]; unfold raccE; rw [hin, hf]; rfl
      have hs : S' = st := by rw [HS.out]; unfold raccS; rw [if_neg (by rw [← HE.out, he]; omega)]
      have HEE := Lib.hid (And.intro he hs)
      clear he hs hf hin
      go_wp2_with fail
      go_ret
      exact ⟨by rw [HEE.out.1]; rfl, F, by rw [HEE.out.2]; exact HR.out, Nx.refl _ _ _, Fr.refl _ _⟩
    · have he : E = 0 := by rw [HE.out]; unfold raccE; rw [hin, hf]; rfl
      have hs : S' = { st with M := st.M ++ [(x.toNat, k)] } := by rw [HS.out]; unfold raccS; rw [if_pos (by rw [← HE.out, he])]
      have HEE := Lib.hid (And.intro he hs)
      have hi0' : ¬ (i : Int) < 0 := by omega
      obtain ⟨y, rfl⟩ := Int.eq_ofNat_of_zero_le hx0
      have hyn : y < st.q.n.toNat := by omega
      obtain ⟨w1, hw1⟩ : ∃ w1, w1 = w.alloc (.cells #[.int .i64 (y : Int), .int .u64 (k : Int)] 116) := ⟨_, rfl⟩
      have hf1 : Fr (fun _ => False) w w1 := by rw [hw1]; exact (Fr.refl _ w).alloc _
      have hX1 := HX.out.fr hf1 (fun _ _ h => h)
      have hn1 : ∀ j u, [Value.int .i64 (y : Int), .int .u64 (k : Int)][j]? = some u → w1.cell? (Addr.add ⟨w.heap.size, 0, none⟩ j) = some u := by
        rw [hw1]; exact World.news_of_block (cs := #[.int .i64 (y : Int), .int .u64 (k : Int)]) (t := 116) (fr := (0, 0)) (heap_alloc_new w _)
      have hrow := hX1.mark
      have c10 : w.cell? ⟨r, 10, none⟩ = some ml := HX.out.blk.cell 10 rfl
      obtain ⟨ma, mc, rfl⟩ := own_sl4 hrow
      have HW1 := Lib.hid hw1
      have HX1 := Lib.hid hX1
      have HF1 := Lib.hid hf1
      clear he hs hf hv hvk hin hw1 hX1 hf1
      go_wp2_with (first
        | (at_builtin
           rw [← HW1.out]
           clear HW1
           refine wpList_bi2 rfl .append _ _ _ _ _ rfl rfl rfl _ (ap_cells (base := 0) Try.underlying97 hi0 hz0 hz1 hz2 rfl (by omega) hrow ⟨w.heap.size, 0, none⟩ 1 1 [.int .i64 (y : Int), .int .u64 (k : Int)] rfl hn1 (by simp [Value.oneCell']) (by unfold maxLen; omega) (by omega) (by omega)) ?_
           rintro v' w2 hap
           obtain ⟨va', vc', rfl⟩ := own_sl4 hap.1
           have hB2 : Blk w2 r 99 _ := hap.blk HX1.out.blk (fun e => own_blk_ne hrow HX1.out.blk (by decide) r e rfl)
           have b10 := hB2.cell 10 rfl
           have f10 := hB2.frozen 10))
      go_ret
      refine ⟨by rw [HEE.out.1]; rfl, More F w1 w2, ⟨sv, lv, sl, .slice va' (st.M.length + 1) vc', tv, svs, ?_⟩, Nx.more HF1.out.size (by simp), (Fr.trans (X := F) HF1.out.none_up (app_fr hap 10 _) (fun j hj h => ?_))⟩
      · rw [HEE.out.2]
        exact HX1.out.putMark (y, k) ⟨hyn, hk⟩ hap
      · rcases h with h | h | h
        · exact h
        · rw [h]; exact HX1.out.rF
        · exact HX1.out.mlF j h
end Go.Proofs.Ytliljjlegofmkaa

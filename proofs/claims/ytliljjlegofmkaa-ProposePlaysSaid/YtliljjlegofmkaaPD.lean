/- Bytes and numbers in new memory; out. -/
import Derived.Test.YtliljjlegofmkaaPB
namespace Go.Proofs.Ytliljjlegofmkaa
open Go.RowKit

theorem u8info : (Try.prog.info? 5).map (fun i => (i.zero, i.size, i.bytes)) = some (some (.int .u8 0), 1, 1) := by kernel_rfl
theorem i64info : (Try.prog.info? 3).map (fun i => (i.zero, i.size, i.bytes)) = some (some (.int .i64 0), 1, 8) := by kernel_rfl

/-- v is bytes in new memory. -/
def NewB (w w' : World) (v : Value) (bs : List UInt8) : Prop :=
  ∃ g cap, v = .slice (some ⟨g, 0, none⟩) bs.length cap ∧ w.heap.size ≤ g ∧ g < w'.heap.size ∧ w'.ownsRow 0 5 1 (.slice (some ⟨g, 0, none⟩) bs.length cap) bs.length (u8s bs) ∧ Fr (fun _ => False) w w'
theorem ap_new (w : World) (s : Value) (bs : List UInt8) (hs : Byt w s bs) (hl : bs.length ≤ 1000000) (ty : TypeId) (consts : Array Bool) :
    ∃ v' w', (builtin .append #[35, 35] ty consts #[.slice (some ⟨w.heap.size, 0, none⟩) 0 0, s]).run Try.prog (w.alloc (.cells #[] 5)) = .ok (.value v') w' ∧ NewB w w' v' bs := by
  obtain ⟨i0, hi0, hz0, hz1, hz2⟩ := info_parts u8info
  have hown0 : (w.alloc (.cells #[] 5)).ownsRow w.heap.size 5 1 (.slice (some ⟨w.heap.size, 0, none⟩) 0 0) 0 [] := by
    have := World.ownsRow_lit (base := w.heap.size) (e := 5) (size := 1) w #[] 0 (by simp) (by simp [maxLen]) rfl
    simpa using this
  obtain ⟨v', w', h1, h2⟩ := ap_byt (base := w.heap.size) (ty := ty) (P := Try.prog) Try.underlying35 hi0 hz0 hz1 hz2 rfl hown0 s bs (hs.alloc _) (by omega) (by simp) consts
  refine ⟨v', w', h1, ?_⟩
  obtain ⟨g, cap, rfl, hg⟩ := h2.form rfl
  have h3 := own_base h2.1
  simp only [Nat.zero_add, List.nil_append] at h3 ⊢
  have hlt := own_lt h3 rfl
  refine ⟨g, cap, rfl, ?_, hlt, h3, ?_⟩
  · rcases hg with rfl | rfl
    · exact Nat.le_refl _
    · simp
  · exact h2.fr ((Fr.refl _ w).alloc _) (fun k hk hlt => by simp [Value.ownBlock] at hk; omega)

/-- v is numbers in new memory. -/
def NewI (w w' : World) (v : Value) (l : List Int) : Prop :=
  ∃ g cap, v = .slice (some ⟨g, 0, none⟩) l.length cap ∧ w.heap.size ≤ g ∧ g < w'.heap.size ∧ w'.ownsRow 0 3 1 (.slice (some ⟨g, 0, none⟩) l.length cap) l.length (i64s l) ∧ Fr (fun _ => False) w w'
theorem ap_newi (w : World) (A : Option Addr) (c : Nat) (l : List Int) (hs : Ints w (.slice A l.length c) l) (hc : A = none → c = 0) (hl : l.length ≤ 1000) (ty : TypeId) (consts : Array Bool) :
    ∃ v' w', (builtin .append #[22, 22] ty consts #[.slice (some ⟨w.heap.size, 0, none⟩) 0 0, .slice A l.length c]).run Try.prog (w.alloc (.cells #[] 3)) = .ok (.value v') w' ∧ NewI w w' v' l := by
  obtain ⟨i0, hi0, hz0, hz1, hz2⟩ := info_parts i64info
  have hown0 : (w.alloc (.cells #[] 3)).ownsRow w.heap.size 3 1 (.slice (some ⟨w.heap.size, 0, none⟩) 0 0) 0 [] := by
    have := World.ownsRow_lit (base := w.heap.size) (e := 3) (size := 1) w #[] 0 (by simp) (by simp [maxLen]) rfl
    simpa using this
  obtain ⟨A', c', he, h1⟩ := hs.up ((Fr.refl (fun _ => False) w).alloc (.cells #[] 3))
  injection he with hA hb hc'
  subst hA
  have hfin : ∀ v' w', Appended w.heap.size 3 1 (w.alloc (.cells #[] 3)) (.slice (some ⟨w.heap.size, 0, none⟩) 0 0) 0 l.length [] (i64s l) v' w' → NewI w w' v' l := by
    intro v' w' h2
    obtain ⟨g, cap, rfl, hg⟩ := h2.form rfl
    have h3 := own_base h2.1
    simp only [Nat.zero_add, List.nil_append] at h3 ⊢
    have hlt := own_lt h3 rfl
    refine ⟨g, cap, rfl, ?_, hlt, h3, ?_⟩
    · rcases hg with rfl | rfl
      · exact Nat.le_refl _
      · simp
    · exact h2.fr ((Fr.refl _ w).alloc _) (fun k hk hlt => by simp [Value.ownBlock] at hk; omega)
  by_cases hn : l = []
  · subst hn
    cases A with
    | none =>
      have := hc rfl
      subst this
      have hr := run_append_owned_none (P := Try.prog) (w.alloc (.cells #[] 3)) w.heap.size 22 ty 3 i0 1 Try.underlying22 hi0 _ 0 [] hown0
      refine ⟨_, _, by simp only [builtin, Sem.run_bind, List.length_nil, hr, Result.andThen_ok, Sem.run_pure], hfin _ _ ⟨by simpa [i64s] using hown0, ⟨rfl, rfl, rfl, Nat.le_refl _, fun _ _ _ => rfl⟩, .inl rfl⟩⟩
    | some a =>
      obtain ⟨v', w', h1, h2⟩ := ap_cells (base := w.heap.size) (ty := ty) (P := Try.prog) Try.underlying22 hi0 hz0 hz1 hz2 rfl (by omega) hown0 a 0 c [] rfl (by simp) (by simp) (by simp [maxLen]) (by omega) (by simp) consts
      exact ⟨v', w', h1, hfin _ _ h2⟩
  · obtain ⟨b, off, rfl, h2⟩ := h1 hn
    obtain ⟨v', w', h1, h2⟩ := ap_cells (base := w.heap.size) (ty := ty) (P := Try.prog) Try.underlying22 hi0 hz0 hz1 hz2 rfl (by omega) hown0 ⟨b, off, none⟩ l.length c (i64s l) (by simp [i64s]) (by
      intro j u hu
      rw [add_none]
      have hj : j < l.length := by have := (List.getElem?_eq_some_iff.1 hu).1; simpa [i64s] using this
      have hg : l[j]? = some l[j] := List.getElem?_eq_getElem hj
      simp only [i64s, List.getElem?_map, hg, Option.map_some, Option.some.injEq] at hu
      subst hu
      exact h2 j _ hg) (by
      intro u hu
      simp only [i64s, List.mem_map] at hu
      obtain ⟨z, _, rfl⟩ := hu
      rfl) (by simp only [maxLen]; omega) (by omega) (by simp) consts
    exact ⟨v', w', h1, hfin _ _ h2⟩

/-- A vote's value. -/
def vtV (p : Vt) (s : Value) : Value := .agg #[.int .u64 p.s, .int .u64 p.n, .int .i64 p.d, s]

set_option maxHeartbeats 2000000 in
theorem out_any (p : Vt) (s : Value) (w : World) (hs : Byt w s p.v) (hl : p.v.length ≤ 1000000) :
    Calls Try.prog 37 #[vtV p s] w fun e w' => ∃ g cap, e = .returned (vtV p (.slice (some ⟨g, 0, none⟩) p.v.length cap)) ∧ w.heap.size ≤ g ∧ g < w'.heap.size ∧
      w'.ownsRow 0 5 1 (.slice (some ⟨g, 0, none⟩) p.v.length cap) p.v.length (u8s p.v) ∧ Fr (fun _ => False) w w' := by
  obtain ⟨ps, pn, pd, bs⟩ := p
  simp only [vtV] at hs hl ⊢
  have hs0 := hs
  obtain ⟨A, c, rfl, -, -⟩ := hs0
  obtain ⟨w3, hw3⟩ : ∃ w3, w3 = (w.alloc (.cells #[.int .u64 ps, .int .u64 pn, .int .i64 pd, .slice A bs.length c] 45)).alloc (.cells #[.int .u64 0, .int .u64 0, .int .i64 0, .slice none 0 0] 45) := ⟨_, rfl⟩
  have hs3 : Byt w3 (.slice A bs.length c) bs := by rw [hw3]; exact (hs.alloc _).alloc _
  have hb1 : Blk w3 w.heap.size 45 #[.int .u64 ps, .int .u64 pn, .int .i64 pd, .slice A bs.length c] := by rw [hw3]; exact (Blk.new _ _ _).alloc _
  have hb2 : Blk w3 (w.heap.size + 1) 45 #[.int .u64 0, .int .u64 0, .int .i64 0, .slice none 0 0] := by
    have := Blk.new (w.alloc (.cells #[.int .u64 ps, .int .u64 pn, .int .i64 pd, .slice A bs.length c] 45)) 45 #[.int .u64 0, .int .u64 0, .int .i64 0, .slice none 0 0]
    rw [hw3]; simpa using this
  have hz3 : w3.heap.size = w.heap.size + 2 := by rw [hw3]; simp
  have hf3 : Fr (fun _ => False) w w3 := by rw [hw3]; exact ((Fr.refl _ w).alloc _).alloc _
  have HW := Lib.hid hw3
  have HZ := Lib.hid hz3
  clear hw3 hz3
  have a0 : (w3.alloc (.cells #[] 5)).cell? ⟨w.heap.size, 3, none⟩ = some (.slice A bs.length c) := al_cell (hb1.cell 3 rfl) _
  go_enter Try.func37, Try.ntmps37
  go_upto_region 1 with (fail)
  rw [← HW.out]
  clear HW
  go_wp2_with (first
    | (at_builtin
       refine wpList_bi2 rfl .append _ _ _ _ _ rfl rfl rfl _ (ap_new w3 _ bs hs3 hl _) ?_
       rintro v' w1 ⟨g, cap, rfl, hg, hgl, ho, hf⟩
       have hb1' := hb1.fr hf (fun h => h)
       have hb2' := hb2.fr hf (fun h => h)
       clear a0
       have a0 := hb1'.cell 0 rfl
       have a1 := hb1'.cell 1 rfl
       have a2 := hb1'.cell 2 rfl
       have a3 := hb1'.frozen 3
       have a4 := hb1'.cell 3 rfl
       have b0 := hb2'.cell 0 rfl
       have b1 := hb2'.cell 1 rfl
       have b2 := hb2'.cell 2 rfl
       have b3 := hb2'.cell 3 rfl
       have b4 := hb2'.frozen))
  have hX : Fr (fun k => k = w.heap.size ∨ k = w.heap.size + 1) w1 (((((w1.setCell ⟨w.heap.size, 3, none⟩ (.slice (some ⟨g, 0, none⟩) bs.length cap)).setCell ⟨w.heap.size + 1, 0, none⟩ (.int .u64 ps)).setCell ⟨w.heap.size + 1, 1, none⟩ (.int .u64 pn)).setCell ⟨w.heap.size + 1, 2, none⟩ (.int .i64 pd)).setCell ⟨w.heap.size + 1, 3, none⟩ (.slice (some ⟨g, 0, none⟩) bs.length cap)) :=
    (((((Fr.refl _ w1).setCell (p := ⟨w.heap.size, 3, none⟩) (by simp) _).setCell (p := ⟨w.heap.size + 1, 0, none⟩) (by simp) _).setCell (p := ⟨w.heap.size + 1, 1, none⟩) (by simp) _).setCell (p := ⟨w.heap.size + 1, 2, none⟩) (by simp) _).setCell (p := ⟨w.heap.size + 1, 3, none⟩) (by simp) _
  have hB' := ((((hb2'.far (p := ⟨w.heap.size, 3, none⟩) (by simp) (.slice (some ⟨g, 0, none⟩) bs.length cap)).set_ 0 (.int .u64 ps)).set_ 1 (.int .u64 pn)).set_ 2 (.int .i64 pd)).set_ 3 (.slice (some ⟨g, 0, none⟩) bs.length cap)
  refine bodyPost_ret (results_cell_row rfl _ _ (w.heap.size + 1) 45 #[.int .u64 ps, .int .u64 pn, .int .i64 pd, .slice (some ⟨g, 0, none⟩) bs.length cap] (0, 0) _ rfl ?_ Try.underlying45 rfl (by kernel_rfl)) rfl ⟨g, cap, rfl, by have := HZ.out; omega, ?_, ?_, ?_⟩
  · show Blk _ (w.heap.size + 1) 45 _
    simpa using hB'
  · have := hX.size; omega
  · exact own_fr ho hX (fun k hk => by have := HZ.out; simp [Value.ownBlock] at hk; omega)
  · exact (hf3.tr hf).trans hX (fun k hk h => by rcases h with h | h; exact h; omega)
end Go.Proofs.Ytliljjlegofmkaa

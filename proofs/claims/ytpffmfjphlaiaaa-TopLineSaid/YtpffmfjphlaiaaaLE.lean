/- frame.Get. -/
import Derived.Test.YtpffmfjphlaiaaaLD
namespace Go.Proofs.Ytpffmfjphlaiaaa
open Go.RowKit

theorem results_row_tmp2 {P : Program} {fn : Func} {p u v : Tmp} {ty : TypeId} (h : fn.results = #[.cell p ty, .tmp u, .tmp v]) (tmps : Array Value) (w : World) (g : Nat) (t : TypeId) (cs : Array Value) (fr : Nat × Nat) (d : TypeDesc)
    (hp : tmps.getD p undef = .pointer (some ⟨g, 0, none⟩)) (hg : w.heap[g]? = some (.cells cs t fr))
    (hu : P.underlying ty = some d) (hd : (match d with | .struct _ | .array _ _ => true | _ => false) = true) (hi : (P.info? ty).map (·.size) = some cs.size) :
    (results fn tmps).run P w = .ok (.tuple #[.agg cs, tmps.getD u undef, tmps.getD v undef]) w := by
  have e : (results fn tmps).run P w = ((asAddr (tmps.getD p undef)).run P w).andThen fun a w₁ => ((loadVar ty a).run P w₁).andThen fun z w₂ => .ok (.tuple #[z, tmps.getD u undef, tmps.getD v undef]) w₂ := by
    simp only [results, h]
    simp [Sem.run_bind, Result.andThen]
  rw [e, hp]
  simp only [asAddr, Sem.run_pure, Result.andThen_ok, run_loadVar_row w g t ty cs fr d hg hu hd hi]
theorem results_tmp_row_tmp {P : Program} {fn : Func} {p u v : Tmp} {ty : TypeId} (h : fn.results = #[.tmp u, .cell p ty, .tmp v]) (tmps : Array Value) (w : World) (g : Nat) (t : TypeId) (cs : Array Value) (fr : Nat × Nat) (d : TypeDesc)
    (hp : tmps.getD p undef = .pointer (some ⟨g, 0, none⟩)) (hg : w.heap[g]? = some (.cells cs t fr))
    (hu : P.underlying ty = some d) (hd : (match d with | .struct _ | .array _ _ => true | _ => false) = true) (hi : (P.info? ty).map (·.size) = some cs.size) :
    (results fn tmps).run P w = .ok (.tuple #[tmps.getD u undef, .agg cs, tmps.getD v undef]) w := by
  have e : (results fn tmps).run P w = ((asAddr (tmps.getD p undef)).run P w).andThen fun a w₁ => ((loadVar ty a).run P w₁).andThen fun z w₂ => .ok (.tuple #[tmps.getD u undef, z, tmps.getD v undef]) w₂ := by
    simp only [results, h]
    simp [Sem.run_bind, Result.andThen]
  rw [e, hp]
  simp only [asAddr, Sem.run_pure, Result.andThen_ok, run_loadVar_row w g t ty cs fr d hg hu hd hi]

theorem Byt.sub {w : World} {b off c : Nat} {bs : List UInt8} (h : Byt w (.slice (some ⟨b, off, none⟩) bs.length c) bs) (i m c' : Nat) (hm : i + m ≤ bs.length) : Byt w (.slice (some ⟨b, off + i, none⟩) m c') ((bs.drop i).take m) := by
  have hl : ((bs.drop i).take m).length = m := by rw [List.length_take, List.length_drop]; omega
  obtain ⟨A, c0, e, -, h1⟩ := h
  injection e with e1 _ _
  subst e1
  refine ⟨some ⟨b, off + i, none⟩, c', by rw [hl], by simp, fun hn => ⟨b, off + i, rfl, fun j u hu => ?_⟩⟩
  have hj : j < m := by have := (List.getElem?_eq_some_iff.1 hu).1; omega
  rw [List.getElem?_take_of_lt hj, List.getElem?_drop] at hu
  obtain ⟨b', off', e', h2⟩ := h1 (by rintro rfl; simp at hu)
  injection e' with e'
  injection e' with e1 e2
  subst e1 e2
  have := h2 (i + j) u hu
  rwa [← Nat.add_assoc] at this

theorem wr_get {n : Nat} (hn : n ≤ 1024) : IntKind.i64.wrap (IntKind.i64.wrap (6 + (n : Int)) + 4) = ((10 + n : Nat) : Int) := by
  rw [IntKind.wrap_i64, IntKind.wrap_i64]; omega
theorem ap_newd (w : World) (s : Value) (bs : List UInt8) (hs : Byt w s bs) (hl : bs.length ≤ 1000000) (ty : TypeId) (consts : Array Bool) :
    ∃ v' w', (builtin .append #[24, 24] ty consts #[.slice (some ⟨w.heap.size, 0, none⟩) 0 0, s]).run Try.prog (w.alloc (.cells #[] 5)).drew = .ok (.value v') w' ∧ NewB w w' v' bs := by
  obtain ⟨v', w', h1, g, cap, rfl, h2, h3, h4, h5⟩ := ap_new w.drew s bs hs hl ty consts
  exact ⟨_, w', h1, g, cap, rfl, h2, h3, h4, h5.of_drew⟩

set_option maxRecDepth 100000 in
set_option maxHeartbeats 8000000 in
theorem get_any (b off c : Nat) (bs : List UInt8) (k : UInt8) (n : Nat) (w : World) (hs : Byt w (.slice (some ⟨b, off, none⟩) bs.length c) bs) (hc : bs.length ≤ c) (hl : bs.length = 10 + n) (hn : n ≤ 1024)
    (h0 : bs[0]? = some 167) (h1 : bs[1]? = some k) (h2 : unfix ((bs.drop 2).take 4) = n) :
    Calls Try.prog 33 #[.slice (some ⟨b, off, none⟩) bs.length c, .int .i64 0] w fun e w' =>
      (unfix ((bs.drop (6 + n)).take 4) = sumL (bs.take (6 + n)) → ∃ g cap, e = .returned (.tuple #[.agg #[.int .u8 (k.toNat : Int), .slice (some ⟨g, 0, none⟩) n cap], .int .i64 (10 + n : Nat), .int .i64 0]) ∧ w.heap.size ≤ g ∧ w'.ownsRow 0 5 1 (.slice (some ⟨g, 0, none⟩) n cap) n (u8s ((bs.drop 6).take n))) ∧
      (unfix ((bs.drop (6 + n)).take 4) ≠ sumL (bs.take (6 + n)) → e = .returned (.tuple #[.agg #[.int .u8 0, .slice none 0 0], .int .i64 0, .int .i64 21])) ∧ Fr (fun _ => False) w w' := by
  have q0 : ∀ wx, Fr (fun _ => False) w wx → wx.cell? ⟨b, off, none⟩ = some (.int .u8 167) := by
    obtain ⟨A, c0, e, -, hb⟩ := hs
    injection e with e1 _ _
    subst e1
    obtain ⟨b', off', e', hcell⟩ := hb (by rintro rfl; simp at hl; omega)
    injection e' with e'
    injection e' with e1 e2
    subst e1 e2
    exact fun wx hf => hf.cell (hcell 0 167 h0) (fun h => h)
  have q1 : ∀ wx, Fr (fun _ => False) w wx → wx.cell? ⟨b, off + 1, none⟩ = some (.int .u8 (k.toNat : Int)) := by
    obtain ⟨A, c0, e, -, hb⟩ := hs
    injection e with e1 _ _
    subst e1
    obtain ⟨b', off', e', hcell⟩ := hb (by rintro rfl; simp at hl; omega)
    injection e' with e'
    injection e' with e1 e2
    subst e1 e2
    exact fun wx hf => hf.cell (hcell 1 k h1) (fun h => h)
  obtain ⟨w1, hw1⟩ : ∃ w1, w1 = w.alloc (.cells #[.int .u8 0, .slice none 0 0] 86) := ⟨_, rfl⟩
  have hf1 : Fr (fun _ => False) w w1 := by rw [hw1]; exact (Fr.refl _ w).alloc _
  have hB1 : Blk w1 w.heap.size 86 #[.int .u8 0, .slice none 0 0] := by rw [hw1]; exact Blk.new _ _ _
  have c0 := q0 w1 hf1
  have c1 := q1 w1 hf1
  have hs1 := hs.fr hf1 (fun _ _ h => h)
  have hx2 := fixed_any (some ⟨b, off, none⟩) c bs 2 w1 hs1 hc (by omega) (by omega)
  rw [h2] at hx2
  have hx3 := fixed_any (some ⟨b, off, none⟩) c bs (6 + n) w1 hs1 hc (by omega) (by omega)
  obtain ⟨X, hX⟩ : ∃ X, X = unfix ((bs.drop (6 + n)).take 4) := ⟨_, rfl⟩
  obtain ⟨Y, hY⟩ : ∃ Y, Y = sumL (bs.take (6 + n)) := ⟨_, rfl⟩
  rw [← hX] at hx3 ⊢
  rw [← hY]
  have hsb := hs1.sub 0 (6 + n) c (by omega)
  rw [List.drop_zero] at hsb
  have HX := Lib.hid (And.intro hx2 hx3)
  have HF := Lib.hid (And.intro hf1 (And.intro hB1 (And.intro hs1 (And.intro hsb (And.intro hX hY)))))
  have HW := Lib.hid hw1
  clear q0 q1 hw1 hf1 hB1 hs hs1 hX hY hx2 hx3 h0 h1 h2 hsb
  rw [hl] at hc ⊢
  rw [hl] at HX
  go_enter Try.func33, Try.ntmps33
  go_upto_region 1 with (fail)
  rw [← HW.out]
  go_wp2_with fail
  refine HX.out.1.mono ?_
  rintro e w2 ⟨rfl, rfl⟩
  have hn1 : ¬ (1024 : Int) < (n : Int) := by omega
  have hn2 : (n : Int) ≤ 1024 := by omega
  have hn3 : ¬ (10 : Int) + (n : Int) < 6 + (n : Int) + 4 := by omega
  have hn4 : (6 : Int) + (n : Int) ≤ (c : Int) := by omega
  have hn5 : 6 + n ≤ c := by omega
  go_wp2_with fail
  refine HX.out.2.mono ?_
  rintro e w2 ⟨rfl, rfl⟩
  go_upto_region 17 with (fail)
  obtain ⟨w3, hw3⟩ : ∃ w3, w3 = w1.alloc (.cells #[.slice (some ⟨b, off, none⟩) (6 + n) c] 24) := ⟨_, rfl⟩
  have hf3 : Fr (fun _ => False) w1 w3 := by rw [hw3]; exact (Fr.refl _ w1).alloc _
  have hc3 : w3.cell? ⟨w1.heap.size, 0, none⟩ = some (.slice (some ⟨b, off, none⟩) (6 + n) c) := by rw [hw3]; exact (Blk.new _ _ _).cell 0 rfl
  have hs3 := HF.out.2.2.2.1.fr hf3 (fun _ _ h => h)
  have hsum := sum_any w1.heap.size 0 1 (.slice (some ⟨b, off, none⟩) (6 + n) c) (bs.take (6 + n)) w3 hs3 (by rw [List.length_take]; omega) hc3
  rw [← HF.out.2.2.2.2.2] at hsum
  have HS := Lib.hid hsum
  have HF3 := Lib.hid (And.intro hf3 hs3)
  have HW3 := Lib.hid hw3
  clear hw3 hf3 hc3 hs3 hsum
  go_wp2_with fail
  rw [← HW3.out]
  refine HS.out.mono ?_
  rintro e w4 ⟨rfl, rfl⟩
  have b0 := HF.out.2.1.fr HF3.out.1 (fun h => h)
  have bc0 := b0.cell 0 rfl
  have bc1 := b0.cell 1 rfl
  have bf := b0.frozen
  have c1' := HF3.out.1.cell c1 (fun h => h)
  have HB := Lib.hid b0
  clear b0
  by_cases hXY : X = Y
  · have hxy : ((X : Int) == (Y : Int)) = true := by simp [hXY]
    go_upto_region 19 with (fail)
    have hs6 := Byt.sub (HF.out.2.2.1.fr HF3.out.1 (fun _ _ h => h)) 6 n (c - 6) (by omega)
    have hl6 : ((bs.drop 6).take n).length = n := by rw [List.length_take, List.length_drop]; omega
    have hc6 : ¬ c = 6 := by omega
    have c1a := al_cell c1' (.cells #[] 5)
    have htn : (6 + (n : Int)).toNat - 6 = n := by omega
    have HAP := Lib.hid (fun (ty : TypeId) (consts : Array Bool) => ap_newd w3 _ _ hs6 (by omega) ty consts)
    have hn6 : (6 : Int) ≤ 6 + (n : Int) := by omega
    have hn7 : 6 ≤ 6 + n := by omega
    have hn8 : (1 : Int) < 10 + (n : Int) := by omega
    have hn9 : 1 < 10 + n := by omega
    have H6 := Lib.hid hl6
    have HXY := Lib.hid (And.intro hXY hl)
    clear hs6 hl6 hXY hl
    go_region_law (first
      | (refine step_bi2 rfl .append _ _ _ (.slice (some ⟨w3.heap.size, 0, none⟩) 0 0) (.slice (some ⟨b, off + 6, none⟩) n (c - 6)) rfl rfl rfl _ (HAP.out _) ?_
         rintro v6 w6 ⟨g, cap, rfl, hg, hgl, ho6, hf6⟩
         rw [H6.out] at ho6 ⊢
         have c1'' := hf6.cell c1' (fun h => h)
         have d0 := hf6.cell bc0 (fun h => h)
         have d1 := hf6.cell bc1 (fun h => h)
         have hb6 := HB.out.fr hf6 (fun h => h)
         have df := hb6.frozen))
    all_goals
      go_wp2_with fail
      have hW := ((HB.out.fr hf6 (fun h => h)).set_ 0 (.int .u8 (k.toNat : Int))).set_ 1 (.slice (some ⟨g, 0, none⟩) n cap)
      have hf1 := HF.out.1
      have hlt1 : w.heap.size < w1.heap.size := HF.out.2.1.lt
      have hf13 := HF3.out.1
      have hX : Fr (fun x => x = w.heap.size) w6 ((w6.setCell ⟨w.heap.size, 0, none⟩ (.int .u8 (k.toNat : Int))).setCell ⟨w.heap.size, 1, none⟩ (.slice (some ⟨g, 0, none⟩) n cap)) :=
        (Fr.set1 w6 w.heap.size 0 _).setCell (p := ⟨w.heap.size, 1, none⟩) (fun _ => rfl) _
      refine bodyPost_ret (results_row_tmp2 rfl _ _ w.heap.size 86 #[.int .u8 (k.toNat : Int), .slice (some ⟨g, 0, none⟩) n cap] (0, 0) _ rfl ?_ Try.underlying86 rfl (by kernel_rfl)) rfl ⟨?_, ?_, ?_⟩
      · exact hW
      · intro _
        refine ⟨g, cap, ?_, ?_, own_fr ho6 hX (fun j hj => ?_)⟩
        · have hwr := wr_get hn
          exact congrArg (fun z => Ending.returned (Value.tuple #[.agg #[.int .u8 (k.toNat : Int), .slice (some ⟨g, 0, none⟩) n cap], .int .i64 z, .int .i64 0])) hwr
        · have := hf13.size; omega
        · simp only [Value.ownBlock] at hj; injection hj with hj; have := hf13.size; omega
      · intro h; exact absurd HXY.out.1 h
      · exact ((hf1.tr hf13).tr hf6).trans hX (fun j hj h => h.elim id (fun e => by omega))
  · have hxy : ((X : Int) == (Y : Int)) = false := by simp; omega
    go_wp2_with fail
    have hW := (HB.out.set_ 0 (.int .u8 0)).set_ 1 (.slice none 0 0)
    have hX : Fr (fun x => x = w.heap.size) w3 ((w3.setCell ⟨w.heap.size, 0, none⟩ (.int .u8 0)).setCell ⟨w.heap.size, 1, none⟩ (.slice none 0 0)) :=
      (Fr.set1 w3 w.heap.size 0 _).setCell (p := ⟨w.heap.size, 1, none⟩) (fun _ => rfl) _
    refine bodyPost_ret (results_row_tmp2 rfl _ _ w.heap.size 86 #[.int .u8 0, .slice none 0 0] (0, 0) _ rfl ?_ Try.underlying86 rfl (by kernel_rfl)) rfl ⟨?_, ?_, ?_⟩
    · exact hW
    · intro h; exact absurd h hXY
    · intro _; rfl
    · exact (HF.out.1.tr HF3.out.1).trans hX (fun j hj h => h.elim id (fun e => by omega))
end Go.Proofs.Ytpffmfjphlaiaaa

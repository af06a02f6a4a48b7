/- sess.Sender: push. -/
import Derived.Test.YtpffmfjphlaiaaaLI
namespace Go.Proofs.Ytpffmfjphlaiaaa
open Go.RowKit

theorem pcinfo : (Try.prog.info? 79).map (fun i => (i.zero, i.size, i.bytes)) = some (some (.agg #[.slice none 0 0, .int .i64 0]), 2, 32) := by kernel_rfl
theorem snd_no (a b c d e : Int) (k1 k2 k3 k4 k5 : IntKind) (h1 : k1 ≠ .u8) (h2 : k2 ≠ .u8) (h3 : k3 ≠ .u8) (h4 : k4 ≠ .u8) (h5 : k5 ≠ .u8) (A : Option Addr) (n m : Nat) : ∀ (i : Nat) (z : Int), (#[.int k1 a, .int k2 b, .int k3 c, .int k4 d, .int k5 e, .slice A n m] : Array Value)[i]? ≠ some (.int .u8 z) := by
  intro i z
  match i with
  | 0 => simp [h1]
  | 1 => simp [h2]
  | 2 => simp [h3]
  | 3 => simp [h4]
  | 4 => simp [h5]
  | 5 => simp
  | i + 6 => simp

/-- What a new row of pieces leaves. -/
theorem pieces_fin {w w4 w5 : World} {sb acked' now' gg lc' : Nat} {S' : List Nat} {vs' : List Value} {bd : Nat → List UInt8} {win span : Nat} {col : Nat → Nat}
    (hsb : sb < w.heap.size) (ho : col sb = 1) (hgs : gg ≠ sb) (hgo : gg < w.heap.size → col gg = 1)
    (hf4 : Fr (fun k => col k = 1) w w4) (hown4 : w4.ownsRow 0 79 2 (.slice (some ⟨gg, 0, none⟩) S'.length lc') S'.length (flat2 S' vs')) (hlen : vs'.length = S'.length)
    (hf5 : Fr (fun k => k = sb) w4 w5) (hB5 : Blk w5 sb 74 #[.int .u64 3, .int .i64 (win : Int), .int .i64 (span : Int), .int .u64 (acked' : Int), .int .i64 (now' : Int), .slice (some ⟨gg, 0, none⟩) S'.length lc'])
    (hbody : ∀ (i : Nat) (v : Value), vs'[i]? = some v → Byt w4 v (bd (acked' + i + 1)) ∧ ∀ k, v.ownBlock = some k → bd (acked' + i + 1) ≠ [] → k ≠ gg ∧ (k < w.heap.size → col k = 0))
    (hle : ∀ s ∈ S', s ≤ now') (hro : S'.length ≤ 100) : ∃ col', SndR w5 sb acked' now' S' bd win span col' ∧ Recol 1 w w5 col col' := by
  have hz4 := hf4.size
  have hz5 := hf5.size
  have hggl : gg < w4.heap.size := own_lt hown4 rfl
  have hcap : ∀ k, w5.heap.size ≤ k → (if k < w.heap.size then col k else if k = gg then 1 else 0) = 0 := fun k hk => by
    rw [if_neg (by omega), if_neg (by omega)]
  refine ⟨fun k => if k < w.heap.size then col k else if k = gg then 1 else 0, ⟨⟨_, vs', hB5, ⟨hlen, own_fr hown4 hf5 (fun k hk e => hgs (by simp only [Value.ownBlock] at hk; injection hk with hk; omega)), fun k hk => ?_, fun i v hv => ?_⟩⟩, by simp only [if_pos hsb]; exact ho, hle, hro⟩,
    ⟨fun k hk => by simp only [if_pos hk], fun k hk => ?_, hcap, hf4.trans hf5 (fun k _ h => h.elim id (fun e => by rw [e]; exact ho))⟩⟩
  · simp only [Value.ownBlock] at hk
    injection hk with hk
    subst hk
    by_cases h : gg < w.heap.size
    · simp only [if_pos h]; exact hgo h
    · simp [h]
  · obtain ⟨h1, h2⟩ := hbody i v hv
    refine ⟨Byt.fr' h1 hf5 (fun k hk hn e => ?_), fun k hk hn => ?_⟩
    · have := (h2 k hk hn).2 (by omega)
      rw [e, ho] at this
      omega
    · obtain ⟨h3, h4⟩ := h2 k hk hn
      by_cases h : k < w.heap.size
      · simp only [if_pos h]; exact h4 h
      · simp only [if_neg h, if_neg h3]
  · simp only [if_neg (show ¬ k < w.heap.size by omega)]
    by_cases h : k = gg
    · right; simp [h]
    · left; simp [h]

set_option maxRecDepth 100000 in
set_option maxHeartbeats 8000000 in
theorem push_any (sb acked now : Nat) (S : List Nat) (bd : Nat → List UInt8) (win span : Nat) (col : Nat → Nat) (s : Value) (w : World) (h : SndR w sb acked now S bd win span col) (hs : Byt w s (bd (acked + S.length + 1))) (hl : (bd (acked + S.length + 1)).length ≤ 1000) (hro : S.length < 100) :
    Calls Try.prog 16 #[.pointer (some ⟨sb, 0, none⟩), s] w fun e w' => e = .returned (.int .i64 0) ∧ ∃ col', SndR w' sb acked now (S ++ [0]) bd win span col' ∧ Recol 1 w w' col col' := by
  obtain ⟨⟨lv, vs, hB, hP⟩, ho, hle, -⟩ := h
  obtain ⟨i0, hi0, hz0, hz1, hz2⟩ := info_parts pcinfo
  obtain ⟨A, c, rfl, hA, hcap, hcm⟩ := hP.form
  obtain ⟨body, hbody⟩ : ∃ body, body = bd (acked + S.length + 1) := ⟨_, rfl⟩
  rw [← hbody] at hs hl
  have hs0 := hs
  obtain ⟨sA, sc, rfl, -, -⟩ := hs0
  have b5 : w.cell? ⟨sb, 5, none⟩ = some (.slice A S.length c) := hB.cell 5 rfl
  have bf := hB.frozen
  have hsb := hB.lt
  have q1 : (body.length : Int) ≤ 1000 := by omega
  have q2 : (S.length : Int) < 128 := by omega
  have HH := Lib.hid (And.intro hB (And.intro hP (And.intro ho (And.intro hle hbody))))
  have HN := Lib.hid (fun (ty : TypeId) (consts : Array Bool) => ap_newd w _ _ hs (by omega) ty consts)
  have HI := Lib.hid (And.intro hi0 (And.intro hz0 (And.intro hz1 hz2)))
  clear hB hP ho hle hbody hs hA
  go_enter Try.func16, Try.ntmps16
  go_upto_region 7 with (fail)
  have b5a := al_cell b5 (Obj.cells #[] 5)
  go_region_law (first
      | (have _k := ho1
         refine step_append_lies _ (by rfl) _ _ _ (by rfl) 0 79 i0 _ 2 32 Try.underlying72 hi0 hz0 hz1 hz2 rfl (by omega) _ _ _ (by rfl) (hrow1.alloc _)
           ⟨w1.heap.size, 0, none⟩ 1 1 [.slice (some ⟨g, 0, none⟩) body.length cap, .int .i64 0] (by rfl) (by rfl) (World.news_of_block (cs := #[.slice (some ⟨g, 0, none⟩) body.length cap, .int .i64 0]) (t := 79) (fr := (0, 0)) (heap_alloc_new w1 _)) (by simp [Value.oneCell'])
           (by omega) (by simp only [maxLen]; omega) (by omega) (by omega) (w1.heap.size + 1) (by simp) ?_
         intro gg lc' w4 hown4 hgrow hat hlt
         have q5 := (HS.out w4 gg hgrow hat).1
         have qf := (HS.out w4 gg hgrow hat).2)
      | (refine step_bi2 rfl .append _ _ _ (.slice (some ⟨w.heap.size, 0, none⟩) 0 0) (.slice sA body.length sc) rfl rfl rfl _ (HN.out _) ?_
         rintro v1 w1 ⟨g, cap, rfl, hg, hgl, ho1, hf1⟩
         have hrow1 := own_fr HH.out.2.1.row hf1 (fun _ _ h => h)
         have hB1 := HH.out.1.fr hf1 (fun h => h)
         have b51 : w1.cell? ⟨sb, 5, none⟩ = some (.slice A S.length c) := hB1.cell 5 rfl
         have b51a := al_cell b51 (Obj.cells #[.slice (some ⟨g, 0, none⟩) body.length cap, .int .i64 0] 79)
         have hs51 := hf1.size
         have HS : Hid (∀ w4 gg, (w1.alloc (Obj.cells #[.slice (some ⟨g, 0, none⟩) body.length cap, .int .i64 0] 79)).grownBy w4 (Value.slice A S.length c).ownBlock → ((Value.slice A S.length c).ownBlock = some gg ∨ gg = w1.heap.size + 1) → w4.cell? ⟨sb, 5, none⟩ = some (.slice A S.length c) ∧ w4.frozen? ⟨sb, 5, none⟩ = false) := Lib.hid fun w4 gg hgrow hat => by
           have hf4 := Fr.grown (X := fun k => (Value.slice A S.length c).ownBlock = some k) ((Fr.refl _ w1).alloc _) hgrow (fun k hk _ => hk)
           have hB4 := hB1.fr hf4 (fun e => own_blk_ne hrow1 hB1 (by decide) _ e rfl)
           exact ⟨hB4.cell 5 rfl, hB4.frozen 5⟩))
  all_goals
    go_wp2_with fail
    go_ret
    obtain ⟨hB, hP, ho, hle, hbody⟩ := HH.out
    have hf4 := Fr.grown (X := fun k => (Value.slice A S.length c).ownBlock = some k) ((Fr.refl _ w1).alloc _) hgrow (fun k hk _ => hk)
    have hat' : (Value.slice A S.length c).ownBlock = some gg ∨ w1.heap.size ≤ gg := hat.imp id (fun e => by omega)
    have hrow1 := own_fr hP.row hf1 (fun _ _ h => h)
    have hgl1 : g < w1.heap.size := hgl
    have hgo : ∀ k, (Value.slice A S.length c).ownBlock = some k → k < w.heap.size := fun k hk => own_lt hP.row hk
    have hgsb : gg ≠ sb := by
      rcases hat' with h | h
      · exact own_blk_ne hP.row hB (by decide) _ h
      · omega
    have hB4 := (hB.fr hf1 (fun h => h)).fr hf4 (fun e => own_blk_ne hP.row hB (by decide) _ e rfl)
    have hF : Fr (fun k => col k = 1) w w4 := hf1.none_up.tr (hf4.mono (fun k _ e => hP.rin k e))
    have hlen : (vs ++ [Value.slice (some ⟨g, 0, none⟩) body.length cap]).length = (S ++ [0]).length := by simp [hP.len]
    have hfl : flat2 S vs ++ [.slice (some ⟨g, 0, none⟩) body.length cap, .int .i64 0] = flat2 (S ++ [0]) (vs ++ [Value.slice (some ⟨g, 0, none⟩) body.length cap]) := by
      rw [flat2_append S vs _ _ hP.len]; rfl
    rw [hfl] at hown4
    have hsl : (S ++ [0]).length = S.length + 1 := by simp
    rw [← hsl] at hown4
    refine ⟨rfl, ?_⟩
    rw [← hsl]
    refine pieces_fin (win := win) (span := span) (now' := now) (acked' := acked) hsb ho hgsb (fun hg => ?_) hF hown4 hlen (Fr.set1 w4 sb 5 _) (hB4.set_ 5 _) (fun i v hv => ?_) (fun x hx => ?_) (by simp; omega)
    · rcases hat' with h | h
      · exact hP.rin _ h
      · omega
    · by_cases hi : i < vs.length
      · rw [List.getElem?_append_left hi] at hv
        obtain ⟨h1, h2⟩ := hP.body i v hv
        refine ⟨Byt.fr' (Byt.fr' h1 hf1 (fun _ _ _ h => h)) hf4 (fun k hk hn e => ?_), fun k hk hn => ⟨fun e => ?_, fun _ => h2 k hk hn⟩⟩
        · have := h2 k hk hn
          rw [hP.rin k e] at this
          omega
        · subst e
          obtain ⟨k2, hk2, hlt⟩ := h1.lt hn
          rw [hk2] at hk; injection hk with hk; subst hk
          rcases hat' with h | h
          · have := h2 _ hk2 hn
            rw [hP.rin _ h] at this
            omega
          · omega
      · rw [List.getElem?_append_right (by omega)] at hv
        have hi0 : i = vs.length := by
          have := (List.getElem?_eq_some_iff.1 hv).1
          simp at this; omega
        subst hi0
        simp at hv
        subst hv
        rw [hP.len, ← hbody]
        refine ⟨(Byt.of_own ho1).fr hf4 (fun k hk e => ?_), fun k hk hn => ⟨fun e => ?_, fun h => ?_⟩⟩
        · have := hgo k e
          simp only [Value.ownBlock] at hk; injection hk with hk; omega
        · simp only [Value.ownBlock] at hk; injection hk with hk
          rcases hat' with h | h
          · have := hgo _ h; omega
          · omega
        · simp only [Value.ownBlock] at hk; injection hk with hk; omega
    · simp only [List.mem_append, List.mem_singleton] at hx
      rcases hx with hx | rfl
      · exact hle x hx
      · omega
end Go.Proofs.Ytpffmfjphlaiaaa

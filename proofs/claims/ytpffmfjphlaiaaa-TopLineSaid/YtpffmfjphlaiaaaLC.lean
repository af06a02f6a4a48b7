/- bin's Reader. -/
import Derived.Test.YtpffmfjphlaiaaaLB
import Derived.Deep.AppendLies
import Derived.Deep.RegionLaw
import Derived.Deep.RegionWith
namespace Go.Proofs.Ytpffmfjphlaiaaa
open Go.RowKit

theorem Byt.fr' {w w' : World} {X : Nat → Prop} {v : Value} {bs : List UInt8} (h : Byt w v bs) (hf : Fr X w w') (hx : ∀ k, v.ownBlock = some k → bs ≠ [] → ¬ X k) : Byt w' v bs := by
  by_cases hn : bs = []
  · obtain ⟨A, c, rfl, h0, h1⟩ := h
    exact ⟨A, c, rfl, h0, fun h => absurd hn h⟩
  · exact h.fr hf fun k hk => hx k hk hn
/-- New bytes in a block of their own. -/
def NewB (w w' : World) (v : Value) (bs : List UInt8) : Prop :=
  ∃ g cap, v = .slice (some ⟨g, 0, none⟩) bs.length cap ∧ w.heap.size ≤ g ∧ g < w'.heap.size ∧ w'.ownsRow 0 5 1 (.slice (some ⟨g, 0, none⟩) bs.length cap) bs.length (u8s bs) ∧ Fr (fun _ => False) w w'
theorem ap_new (w : World) (s : Value) (bs : List UInt8) (hs : Byt w s bs) (hl : bs.length ≤ 1000000) (ty : TypeId) (consts : Array Bool) :
    ∃ v' w', (builtin .append #[24, 24] ty consts #[.slice (some ⟨w.heap.size, 0, none⟩) 0 0, s]).run Try.prog (w.alloc (.cells #[] 5)) = .ok (.value v') w' ∧ NewB w w' v' bs := by
  obtain ⟨i0, hi0, hz0, hz1, hz2⟩ := info_parts u8info
  have hown0 : (w.alloc (.cells #[] 5)).ownsRow w.heap.size 5 1 (.slice (some ⟨w.heap.size, 0, none⟩) 0 0) 0 [] := by
    have := World.ownsRow_lit (base := w.heap.size) (e := 5) (size := 1) w #[] 0 (by simp) (by simp [maxLen]) rfl
    simpa using this
  obtain ⟨v', w', h1, h2⟩ := ap_byt (base := w.heap.size) (ty := ty) (P := Try.prog) Try.underlying24 hi0 hz0 hz1 hz2 rfl hown0 s bs (hs.alloc _) (by omega) (by simp) consts
  refine ⟨v', w', h1, ?_⟩
  obtain ⟨g, cap, rfl, hg⟩ := h2.form rfl
  have h3 := own_base h2.1
  simp only [Nat.zero_add, List.nil_append] at h3 ⊢
  have hlt := own_lt h3 rfl
  refine ⟨g, cap, rfl, ?_, hlt, h3, ?_⟩
  · rcases hg with rfl | rfl
    · exact Nat.le_refl _
    · simp
  · exact h2.fr ((Fr.refl _ w).alloc _) (fun k hk hlt => by simp [Value.ownBlock] at hk; omega)

theorem NewB.res {w0 w w' : World} {v : Value} {bs : List UInt8} (h : NewB w w' v bs) (hf : Fr (fun _ => False) w0 w) : ∃ va vc, v = .slice va bs.length vc ∧ w'.ownsRow w0.heap.size 5 1 (.slice va bs.length vc) bs.length (u8s bs) ∧ Fr (fun _ => False) w0 w' := by
  obtain ⟨g, cap, rfl, h1, h2, h3, h4⟩ := h
  have := hf.size
  exact ⟨_, _, rfl, own_up h3 (fun k hk => by simp [Value.ownBlock] at hk; omega), hf.tr h4⟩

/-- A Reader at a place. -/
def RdR (w : World) (r : Nat) (bs : List UInt8) (i : Nat) : Prop :=
  ∃ A c, Blk w r 104 #[.slice A bs.length c, .int .i64 (i : Int), .int .i64 0] ∧ Byt w (.slice A bs.length c) bs ∧ ∀ k, (Value.slice A bs.length c).ownBlock = some k → k ≠ r
set_option maxHeartbeats 4000000 in
theorem bnew_any (s : Value) (bs : List UInt8) (w : World) (hs : Byt w s bs) (hl : bs.length ≤ 1000000) :
    Calls Try.prog 34 #[s] w fun e w' => ∃ r, e = .returned (.pointer (some ⟨r, 0, none⟩)) ∧ w.heap.size ≤ r ∧ RdR w' r bs 0 ∧ Fr (fun _ => False) w w' := by
  have hs0 := hs
  obtain ⟨A, c, rfl, -, -⟩ := hs0
  go_enter Try.func34, Try.ntmps34
  go_wp2_with (first
    | (at_builtin
       refine wpList_bi2 rfl .append _ _ _ _ _ rfl rfl rfl _ (ap_new w _ bs hs hl _) ?_
       rintro v' w6 hN
       obtain ⟨g, cap, rfl, hg, hgl, ho, hf⟩ := hN))
  go_ret
  have hs6 := hf.size
  exact ⟨w6.heap.size, rfl, hs6, ⟨_, _, Blk.new _ _ _, Byt.of_own (own_fr ho ((Fr.refl (fun _ => False) w6).alloc _) (fun _ _ h => h)), fun k hk => by simp only [Value.ownBlock] at hk; injection hk with hk; omega⟩, hf.alloc _⟩
set_option maxHeartbeats 4000000 in
theorem ruint_any (r : Nat) (bs : List UInt8) (i : Nat) (u : UInt8) (w : World) (h : RdR w r bs i) (hl : bs.length ≤ 1000000) (hu : bs[i]? = some u) (hu1 : u.toNat < 128) :
    Calls Try.prog 35 #[.pointer (some ⟨r, 0, none⟩)] w fun e w' => e = .returned (.int .u64 (u.toNat : Nat)) ∧ RdR w' r bs (i + 1) ∧ Fr (fun k => k = r) w w' := by
  obtain ⟨A, c, hB, hby, hne⟩ := h
  have b0 : w.cell? ⟨r, 0, none⟩ = some (.slice A bs.length c) := hB.cell 0 rfl
  have b1 : w.cell? ⟨r, 1, none⟩ = some (.int .i64 (i : Int)) := hB.cell 1 rfl
  have b2 : w.cell? ⟨r, 2, none⟩ = some (.int .i64 0) := hB.cell 2 rfl
  have bf := hB.frozen
  have hd := (Fr.refl (fun _ => False) w).drew
  have HU := Lib.hid (fun (wx : World) (hfx : Fr (fun _ => False) w wx) => uint_any A c bs i u wx (hby.fr hfx (fun _ _ h => h)) hl hu hu1)
  have HB := Lib.hid (And.intro hB (And.intro hby hne))
  clear hB hby hne
  go_enter Try.func35, Try.ntmps35
  go_upto_region 3 with (fail)
  go_cut [3, 4, 5] (fun x3 x4 x5 wx => x3 = .int .u64 (u.toNat : Nat) ∧ x4 = .int .i64 (i + 1 : Nat) ∧ x5 = .int .i64 0 ∧ wx = w.drew)
  case first =>
    first
      | go_region_held3 (fun wx => wx.cell? ⟨r, 0, none⟩ = some (.slice A bs.length c) ∧ wx.cell? ⟨r, 1, none⟩ = some (.int .i64 (i : Int))) (first | exact ⟨b0, b1⟩ | exact hS4)
          ((go_at_call 43
            refine (HU.out _ hd).mono ?_
            rintro e w2 ⟨rfl, rfl⟩
            have hS4 := And.intro b0 b1))
      | fail
    all_goals
      go_wp2_with fail
      go_meet
      exact ⟨rfl, rfl, rfl, rfl⟩
  case rest =>
    obtain ⟨rfl, rfl, rfl, rfl⟩ := hcut
    obtain ⟨U, hU⟩ : ∃ U, U = u.toNat := ⟨_, rfl⟩
    obtain ⟨i', hi'⟩ : ∃ i', i' = i + 1 := ⟨_, rfl⟩
    rw [← hU, ← hi']
    have HUU := Lib.hid (And.intro hU hi')
    clear hU hi' hd
    have b1' : w.drew.cell? ⟨r, 1, none⟩ = some (.int .i64 (i : Int)) := b1
    have bf' : ∀ k, w.drew.frozen? ⟨r, k, none⟩ = false := bf
    go_wp2_with fail
    go_ret
    obtain ⟨hB, hby, hne⟩ := HB.out
    have hf : Fr (fun k => k = r) w (w.drew.setCell ⟨r, 1, none⟩ (.int .i64 (i' : Int))) := (Fr.refl _ w).drew.tr (Fr.set1 _ _ _ _)
    refine ⟨by rw [← HUU.out.1]; rfl, ⟨A, c, ?_, Byt.fr' hby hf (fun k hk _ e => hne k hk e), hne⟩, hf⟩
    have := hB.drew.set_ 1 (.int .i64 (i' : Int))
    rw [← HUU.out.2]
    exact this
set_option maxHeartbeats 4000000 in
theorem rerr_any (r : Nat) (bs : List UInt8) (i : Nat) (w : World) (h : RdR w r bs i) :
    Calls Try.prog 36 #[.pointer (some ⟨r, 0, none⟩)] w fun e w' => e = .returned (.int .i64 0) ∧ w = w' := by
  obtain ⟨A, c, hB, -⟩ := h
  have b2 : w.cell? ⟨r, 2, none⟩ = some (.int .i64 0) := hB.cell 2 rfl
  clear hB
  go_enter Try.func36, Try.ntmps36
  go_wp2_with fail
  go_ret
  exact ⟨rfl, rfl⟩
set_option maxHeartbeats 4000000 in
theorem rleft_any (r : Nat) (bs : List UInt8) (i : Nat) (w : World) (h : RdR w r bs i) (hl : bs.length ≤ 1000000) (hi : i ≤ bs.length) :
    Calls Try.prog 37 #[.pointer (some ⟨r, 0, none⟩)] w fun e w' => e = .returned (.int .i64 (bs.length - i : Nat)) ∧ Fr (fun _ => False) w w' := by
  obtain ⟨A, c, hB, -⟩ := h
  have b0 : w.cell? ⟨r, 0, none⟩ = some (.slice A bs.length c) := hB.cell 0 rfl
  have b1 : w.cell? ⟨r, 1, none⟩ = some (.int .i64 (i : Int)) := hB.cell 1 rfl
  have b2 : w.cell? ⟨r, 2, none⟩ = some (.int .i64 0) := hB.cell 2 rfl
  have hsub : ((bs.length - i : Nat) : Int) = (bs.length : Int) - (i : Int) := by omega
  rw [hsub]
  have hwr : IntKind.i64.wrap ((bs.length : Int) - (i : Int)) = (bs.length : Int) - (i : Int) := by rw [IntKind.wrap_i64]; omega
  clear hB hsub
  go_enter Try.func37, Try.ntmps37
  go_upto_region 3 with (fail)
  go_region_law (fail)
  all_goals
    go_wp2_with fail
    go_ret
    refine ⟨?_, (Fr.refl _ w).drew⟩
    first
      | rfl
      | exact congrArg (fun z => Ending.returned (Value.int .i64 z)) hwr
end Go.Proofs.Ytpffmfjphlaiaaa

/- sess.Parse of a segment that is whole. -/
import Derived.Test.YtpffmfjphlaiaaaLG
namespace Go.Proofs.Ytpffmfjphlaiaaa
open Go.RowKit

theorem RdR.fr {w w' : World} {r : Nat} {bs : List UInt8} {i : Nat} {X : Nat → Prop} (h : RdR w r bs i) (hf : Fr X w w') (hr : ¬ X r) (hx : ∀ k, X k → w.heap.size ≤ k) : RdR w' r bs i := by
  obtain ⟨A, c, hB, hby, hne⟩ := h
  refine ⟨A, c, hB.fr hf hr, Byt.fr' hby hf (fun k hk hn h => ?_), hne⟩
  obtain ⟨k2, hk2, hlt⟩ := hby.lt hn
  rw [hk2] at hk
  injection hk with hk
  have := hx k h
  omega
theorem RdR.fr0 {w w' : World} {r : Nat} {bs : List UInt8} {i : Nat} (h : RdR w r bs i) (hf : Fr (fun _ => False) w w') : RdR w' r bs i := h.fr hf (fun h => h) (fun _ h => h.elim)

theorem wr_left (n : Nat) : IntKind.i64.wrap ((n : Int) + 2 - (n : Int)) = 2 := by
  rw [show (n : Int) + 2 - (n : Int) = 2 by omega]
  rfl
/-- Bytes do not lie in a block that holds none. -/
theorem Byt.ne_blk {w : World} {v : Value} {bs : List UInt8} {s : Nat} {t : TypeId} {cs : Array Value} (h : Byt w v bs) (hn : bs ≠ []) (hB : Blk w s t cs) (hno : ∀ (i : Nat) (z : Int), cs[i]? ≠ some (.int .u8 z)) {k : Nat} (hk : v.ownBlock = some k) : k ≠ s := by
  obtain ⟨A, c, rfl, -, h1⟩ := h
  obtain ⟨b, off, rfl, h2⟩ := h1 hn
  obtain ⟨u, hu⟩ : ∃ u, bs[0]? = some u := by cases bs with | nil => exact absurd rfl hn | cons u _ => exact ⟨u, rfl⟩
  have h3 := h2 0 u hu
  simp only [Value.ownBlock] at hk
  injection hk with hk
  rintro rfl
  subst hk
  unfold Blk at hB
  simp only [World.cell?, hB] at h3
  exact hno _ _ (by simpa using h3)
theorem RdR.far {w w' : World} {r s : Nat} {bs : List UInt8} {i : Nat} {t : TypeId} {cs : Array Value} (h : RdR w r bs i) (hf : Fr (fun k => k = s) w w') (hr : r ≠ s) (hB : Blk w s t cs) (hno : ∀ (i : Nat) (z : Int), cs[i]? ≠ some (.int .u8 z)) : RdR w' r bs i := by
  obtain ⟨A, c, hB', hby, hne⟩ := h
  exact ⟨A, c, hB'.fr hf hr, Byt.fr' hby hf (fun k hk hn h => hby.ne_blk hn hB hno hk h), hne⟩
theorem seg_no (a b : Int) (c : Bool) (A : Option Addr) (n m : Nat) : ∀ (i : Nat) (z : Int), (#[.int .u64 a, .int .u64 b, .bool c, .slice A n m] : Array Value)[i]? ≠ some (.int .u8 z) := by
  intro i z
  match i with
  | 0 => simp
  | 1 => simp
  | 2 => simp
  | 3 => simp
  | i + 4 => simp
theorem seg_set (w : World) (s : Nat) (a b c d : Value) : Fr (fun k => k = s) w ((((w.setCell ⟨s, 0, none⟩ a).setCell ⟨s, 1, none⟩ b).setCell ⟨s, 2, none⟩ c).setCell ⟨s, 3, none⟩ d) :=
  (((Fr.set1 w s 0 _).setCell (p := ⟨s, 1, none⟩) (fun _ => rfl) _).setCell (p := ⟨s, 2, none⟩) (fun _ => rfl) _).setCell (p := ⟨s, 3, none⟩) (fun _ => rfl) _

set_option maxRecDepth 100000 in
set_option maxHeartbeats 8000000 in
theorem parse_ok (b off c : Nat) (a : Bool) (q : Nat) (body : List UInt8) (w : World) (hs : Byt w (.slice (some ⟨b, off, none⟩) (segB a q body).length c) (segB a q body)) (hc : (segB a q body).length ≤ c) (hq : q < 128) (ha : okSeg a q body.length) (hb : body.length ≤ 1000) :
    Calls Try.prog 26 #[.slice (some ⟨b, off, none⟩) (segB a q body).length c] w fun e w' => ∃ g o c', e = .returned (.tuple #[.agg #[.int .u64 3, .int .u64 (q : Int), .bool a, .slice (some ⟨g, o, none⟩) body.length c'], .int .i64 0]) ∧ w.heap.size ≤ g ∧ Byt w' (.slice (some ⟨g, o, none⟩) body.length c') body ∧ Fr (fun _ => False) w w' := by
  obtain ⟨w1, hw1⟩ : ∃ w1, w1 = w.alloc (.cells #[.int .u64 0, .int .u64 0, .bool false, .slice none 0 0] 60) := ⟨_, rfl⟩
  have hf1 : Fr (fun _ => False) w w1 := by rw [hw1]; exact (Fr.refl _ w).alloc _
  have hB1 : Blk w1 w.heap.size 60 #[.int .u64 0, .int .u64 0, .bool false, .slice none 0 0] := by rw [hw1]; exact Blk.new _ _ _
  have hm : (segIn q body).length = body.length + 2 := rfl
  have hg := get_ok b off c (kindB a) (segIn q body) w1 (hs.fr hf1 (fun _ _ h => h)) hc (by omega)
  rw [hm] at hg
  have hnn : (segB a q body).length = body.length + 12 := by unfold segB; rw [frB_len, hm]; omega
  have e1 : 10 + (body.length + 2) = body.length + 12 := by omega
  rw [e1] at hg
  change Calls _ _ #[.slice (some ⟨b, off, none⟩) (segB a q body).length c, _] _ _ at hg
  rw [hnn] at hg ⊢
  obtain ⟨kb, hkb⟩ : ∃ kb, kb = (kindB a).toNat := ⟨_, rfl⟩
  rw [← hkb] at hg
  have HW := Lib.hid hw1
  have HG := Lib.hid hg
  have H1 := Lib.hid (And.intro hf1 hB1)
  have HK := Lib.hid hkb
  have hsz1 := hf1.size
  clear hw1 hf1 hB1 hg hs hc hkb e1 hnn
  go_enter Try.func26, Try.ntmps26
  go_upto_region 1 with (fail)
  rw [← HW.out]
  go_wp2_with fail
  refine HG.out.mono ?_
  rintro e w2 ⟨g, cap, rfl, hgw, ho2, hf2⟩
  have b2 := H1.out.2.fr hf2 (fun h => h)
  obtain ⟨w3, hw3⟩ : ∃ w3, w3 = w2.alloc (.cells #[.int .u8 (kb : Int), .slice (some ⟨g, 0, none⟩) (body.length + 2) cap] 86) := ⟨_, rfl⟩
  have hf3 : Fr (fun _ => False) w2 w3 := by rw [hw3]; exact (Fr.refl _ w2).alloc _
  have b3 : Blk w3 w2.heap.size 86 #[.int .u8 (kb : Int), .slice (some ⟨g, 0, none⟩) (body.length + 2) cap] := by rw [hw3]; exact Blk.new _ _ _
  have ho3 := own_fr ho2 hf3 (fun _ _ h => h)
  have hnew := bnew_any (.slice (some ⟨g, 0, none⟩) (body.length + 2) cap) (segIn q body) w3 (Byt.of_own ho3) (by omega)
  have c1 : w3.cell? ⟨w2.heap.size, 1, none⟩ = some (.slice (some ⟨g, 0, none⟩) (body.length + 2) cap) := b3.cell 1 rfl
  have HN := Lib.hid hnew
  have HW3 := Lib.hid hw3
  have hsz2 := hf2.size
  have hlt3 := b3.lt
  have hglt := own_lt ho2 rfl
  have H3 := Lib.hid (And.intro (b2.fr hf3 (fun h => h)) (And.intro b3 (And.intro ho3 (And.intro hf2 (And.intro hf3 hglt)))))
  clear hw3 b2 b3 hf2 hf3 ho2 hglt ho3 hnew
  go_upto_region 2 with (fail)
  rw [← HW3.out]
  go_wp2_with fail
  refine HN.out.mono ?_
  rintro e w4 ⟨r, rfl, hr, hR4, hf4⟩
  have hsz4 := hf4.size
  have HF : Hid (∀ wx, Fr (fun k => w3.heap.size ≤ k) w4 wx → wx.cell? ⟨w2.heap.size, 0, none⟩ = some (.int .u8 (kb : Int)) ∧ wx.cell? ⟨w2.heap.size, 1, none⟩ = some (.slice (some ⟨g, 0, none⟩) (body.length + 2) cap)) :=
    Lib.hid fun wx hf => by
      have b := (H3.out.2.1.fr hf4 (fun h => h)).fr hf (fun h => by omega)
      exact ⟨b.cell 0 rfl, b.cell 1 rfl⟩
  have hrlt : r < w4.heap.size := by obtain ⟨A, cc, hB, -⟩ := hR4; exact hB.lt
  have HR4 := Lib.hid hR4
  have HF4 := Lib.hid hf4
  have hka : ((kb : Int) == 4) = a := by rw [HK.out]; cases a <;> rfl
  clear hR4 hf4 c1
  go_upto_region 5 with (fail)
  have hS4 := (HF.out _ (Fr.refl _ w4)).1
  go_cut [8] (fun x8 wx => ∃ sb, x8 = .pointer (some ⟨sb, 0, none⟩) ∧ w4.heap.size ≤ sb ∧ Blk wx sb 60 #[.int .u64 3, .int .u64 0, .bool a, .slice none 0 0] ∧ RdR wx r (segIn q body) 1 ∧ Fr (fun k => w3.heap.size ≤ k) w4 wx)
  case first =>
    have hX4 : ∀ wx wy, Fr (fun _ => False) w4 wx → Fr (fun k => k = r) wx wy → Fr (fun k => w3.heap.size ≤ k) w4 wy := fun wx wy h1 h2 => h1.none_up.tr (h2.mono (fun k _ h => by omega))
    have HX4 := Lib.hid hX4
    clear hX4
    obtain ⟨zo, hzo⟩ : ∃ zo, zo = Obj.cells #[.int .u64 0, .int .u64 0, .bool false, .slice none 0 0] 60 := ⟨_, rfl⟩
    have hS4a := al_cell hS4 (Obj.cells #[.int .u64 0, .int .u64 0, .bool false, .slice none 0 0] 60)
    have hB4 := Blk.new w4 60 #[.int .u64 0, .int .u64 0, .bool false, .slice none 0 0]
    have HB4 := Lib.hid hB4
    clear hB4 hzo
    go_region_law (first
      | (go_simp
         go_at_call 35
         with_reducible show Calls _ _ _ w4.drew _
         refine (ruint_any r (segIn q body) 0 3 _ (HR4.out.fr0 (Fr.refl _ w4).drew) (by omega) rfl (by decide)).mono ?_
         rintro e w5 ⟨rfl, hR5, hf5⟩
         have F5 := HX4.out _ _ (Fr.refl _ w4).drew hf5
         have hsz5 := hf5.size
         have hS5 := (HF.out _ F5).1
         have hS5a := al_cell hS5 (Obj.cells #[.int .u64 0, .int .u64 0, .bool false, .slice none 0 0] 60))
      | (go_simp
         go_at_call 35
         refine (ruint_any r (segIn q body) 0 3 _ (HR4.out.fr0 ((Fr.refl _ w4).alloc _).drew) (by omega) rfl (by decide)).mono ?_
         rintro e w5 ⟨rfl, hR5, hf5⟩
         have F5 := HX4.out _ _ ((Fr.refl _ w4).alloc _).drew hf5
         have hsz5 := hf5.size
         have hS5 := (HF.out _ F5).1
         have hnb := HB4.out.drew.fr hf5 (fun e => by omega)
         have z0 : w5.cell? ⟨w4.heap.size, 0, none⟩ = some (.int .u64 0) := hnb.cell 0 rfl
         have z1 : w5.cell? ⟨w4.heap.size, 1, none⟩ = some (.int .u64 0) := hnb.cell 1 rfl
         have z2 : w5.cell? ⟨w4.heap.size, 2, none⟩ = some (.bool false) := hnb.cell 2 rfl
         have z3 : w5.cell? ⟨w4.heap.size, 3, none⟩ = some (.slice none 0 0) := hnb.cell 3 rfl
         have zf := hnb.frozen))
    all_goals
      go_wp2_with fail
      go_meet
      first
        | (have _k := hS5a
           exact ⟨w5.heap.size, rfl, hsz5, Blk.new _ _ _, hR5.fr0 ((Fr.refl _ w5).alloc _), F5.tr ((Fr.refl _ w5).alloc _)⟩)
        | exact ⟨w4.heap.size, rfl, Nat.le_refl _, (((hnb.set_ 0 (.int .u64 3)).set_ 1 (.int .u64 0)).set_ 2 (.bool a)).set_ 3 (.slice none 0 0),
            hR5.far (seg_set w5 w4.heap.size _ _ _ _) (by omega) hnb (seg_no _ _ _ _ _ _), F5.tr ((seg_set w5 w4.heap.size _ _ _ _).mono (fun k _ h => by omega))⟩
  case rest =>
    obtain ⟨sb, rfl, hsb, hBs, hRw, hFw⟩ := hcut
    obtain ⟨w5, hw5⟩ : ∃ w5, w5 = wc := ⟨_, rfl⟩
    rw [← hw5] at hBs hRw hFw ⊢
    clear hw5
    have hsz5 := hFw.size
    have hne : sb ≠ r := by omega
    have hsblt := hBs.lt
    have hu := ruint_any r (segIn q body) 1 (UInt8.ofNat q) w5 hRw (by omega) rfl (by simp; omega)
    rw [show (UInt8.ofNat q).toNat = q from by simp; omega] at hu
    have HU := Lib.hid hu
    have H5 := Lib.hid (And.intro hBs hFw)
    have HQ := Lib.hid hq
    clear hu hBs hRw hFw hS4 hka
    go_wp2_with fail
    refine HU.out.mono ?_
    rintro e w6 ⟨rfl, hR6, hf6⟩
    have hB6 := H5.out.1.fr hf6 (fun h => hne h)
    have F6 := H5.out.2.tr (hf6.mono (Z := fun k => w3.heap.size ≤ k) (fun k _ h => by omega))
    have s1 : w6.cell? ⟨sb, 1, none⟩ = some (.int .u64 0) := hB6.cell 1 rfl
    have sf := hB6.frozen
    have hB7 := hB6.set_ 1 (.int .u64 (q : Int))
    have hf7 : Fr (fun k => k = sb) w6 (w6.setCell ⟨sb, 1, none⟩ (.int .u64 (q : Int))) := Fr.set1 _ _ _ _
    have hR7 := hR6.far hf7 (fun h => hne h.symm) hB6 (seg_no _ _ _ _ _ _)
    have F7 := F6.tr (hf7.mono (Z := fun k => w3.heap.size ≤ k) (fun k _ h => by omega))
    have H7 := Lib.hid (And.intro hB7 (And.intro hR7 F7))
    have hsz6 := hf6.size
    clear hB6 F6 hB7 hf7 hR7 F7 hf6 hR6
    go_upto_region 7 with (fail)
    obtain ⟨w7, hw7⟩ : ∃ w7, w7 = w6.setCell ⟨sb, 1, none⟩ (.int .u64 (q : Int)) := ⟨_, rfl⟩
    obtain ⟨hB7, hR7, F7⟩ := H7.out
    rw [← hw7] at hB7 hR7 F7 ⊢
    clear hw7 H7
    obtain ⟨p0, p1⟩ := HF.out _ F7
    have herr := rerr_any r _ _ w7 hR7
    have hleft := rleft_any r _ _ w7.drew (hR7.fr0 (Fr.refl _ w7).drew) (by omega) (by omega)
    rw [hm, show body.length + 2 - (1 + 1) = body.length from by omega] at hleft
    have HE := Lib.hid (And.intro herr hleft)
    have H7 := Lib.hid (And.intro hB7 (And.intro hR7 F7))
    have hcap : body.length + 2 ≤ cap := by
      rcases own_form H3.out.2.2.1 with ⟨h, -⟩ | ⟨g', cap', cur, h, -, -, h1, -⟩
      · cases h
      · injection h with _ _ h; omega
    have hcap2 : ((body.length : Int) + 2) ≤ (cap : Int) := by omega
    clear herr hleft hB7 hR7 F7 s1 sf
    have HK2 := Lib.hid (And.intro hcap hcap2)
    go_cut [49] (fun x49 wx => x49 = .bool false ∧ w7 = wx)
    case first =>
      clear hcap hcap2
      have hk34 : (a = false ∧ kb = 3) ∨ (a = true ∧ kb = 4) := by
        rw [HK.out]; cases a
        · exact .inl ⟨rfl, rfl⟩
        · exact .inr ⟨rfl, rfl⟩
      rcases hk34 with ⟨-, rfl⟩ | ⟨-, rfl⟩
      all_goals
        go_wp2_with fail
        refine HE.out.1.mono ?_
        rintro e w8 ⟨rfl, rfl⟩
        go_wp2_with fail
        go_meet
        exact ⟨rfl, rfl⟩
    case rest =>
      obtain ⟨rfl, rfl⟩ := hcut
      clear p0
      go_upto_region 9 with (fail)
      have s3 : w7.cell? ⟨sb, 3, none⟩ = some (.slice none 0 0) := H7.out.1.cell 3 rfl
      have sf := H7.out.1.frozen
      have hsb7 : sb ≠ w2.heap.size := by omega
      have hsb8 : w2.heap.size ≠ sb := by omega
      have hwl := wr_left body.length
      have hbl2 : (2 : Int) ≤ (body.length : Int) + 2 := by omega
      go_cut [] (fun wx => ∃ o c', (body ≠ [] → o = 2) ∧ Blk wx sb 60 #[.int .u64 3, .int .u64 (q : Int), .bool a, .slice (some ⟨g, o, none⟩) body.length c'] ∧ Fr (fun k => w3.heap.size ≤ k) w4 wx)
      case first =>
        by_cases hc2 : cap = 2
        case pos =>
          subst hc2
          go_region_held3 (fun wx => wx.cell? ⟨w2.heap.size, 1, none⟩ = some (.slice (some ⟨g, 0, none⟩) (body.length + 2) 2)) (first | exact r1 | exact p1 | go_keep)
            (first
            | (go_at_call 37
               refine HE.out.2.mono ?_
               rintro e w8 ⟨rfl, hf8⟩
               have F8 := H7.out.2.2.tr hf8.of_drew.none_up
               obtain ⟨r0, r1⟩ := HF.out _ F8
               have hB8 := H7.out.1.fr hf8.of_drew (fun h => h)
               have t3 : w8.cell? ⟨sb, 3, none⟩ = some (.slice none 0 0) := hB8.cell 3 rfl
               have tf := hB8.frozen))
          go_wp2_with fail
          go_meet
          have hb0 : body = [] := List.eq_nil_of_length_eq_zero (by omega)
          refine ⟨0, 0, fun h => absurd hb0 h, by rw [hb0]; exact hB8.set_ 3 _, F8.tr ((Fr.set1 w8 sb 3 _).mono (fun k _ h => by omega))⟩
        case neg =>
          go_region_held3 (fun wx => wx.cell? ⟨w2.heap.size, 1, none⟩ = some (.slice (some ⟨g, 0, none⟩) (body.length + 2) cap)) (first | exact r1 | exact p1 | go_keep)
            (first
            | (go_at_call 37
               refine HE.out.2.mono ?_
               rintro e w8 ⟨rfl, hf8⟩
               have F8 := H7.out.2.2.tr hf8.of_drew.none_up
               obtain ⟨r0, r1⟩ := HF.out _ F8
               have hB8 := H7.out.1.fr hf8.of_drew (fun h => h)
               have t3 : w8.cell? ⟨sb, 3, none⟩ = some (.slice none 0 0) := hB8.cell 3 rfl
               have tf := hB8.frozen))
          go_wp2_with fail
          go_meet
          exact ⟨2, _, fun _ => rfl, hB8.set_ 3 _, F8.tr ((Fr.set1 w8 sb 3 _).mono (fun k _ h => by omega))⟩
      case rest =>
        obtain ⟨o, c', ho, hBs, hFw⟩ := hcut
        obtain ⟨w9, hw9⟩ : ∃ w9, w9 = wc := ⟨_, rfl⟩
        rw [← hw9] at hBs hFw ⊢
        clear hw9
        have t0 : w9.cell? ⟨sb, 0, none⟩ = some (.int .u64 3) := hBs.cell 0 rfl
        have t1 : w9.cell? ⟨sb, 1, none⟩ = some (.int .u64 (q : Int)) := hBs.cell 1 rfl
        have t2 : w9.cell? ⟨sb, 2, none⟩ = some (.bool a) := hBs.cell 2 rfl
        have t3 : w9.cell? ⟨sb, 3, none⟩ = some (.slice (some ⟨g, o, none⟩) body.length c') := hBs.cell 3 rfl
        have hright := right_yes 3 q a (some ⟨g, o, none⟩) body.length c' w9 ha
        have HRI := Lib.hid hright
        have H9 := Lib.hid (And.intro ho (And.intro hBs hFw))
        clear ho hBs hFw hright s3 sf p1
        go_wp2_with fail
        refine HRI.out.mono ?_
        rintro e w10 ⟨rfl, hf10⟩
        have hB10 := H9.out.2.1.fr hf10 (fun h => h)
        have v0 : w10.cell? ⟨sb, 0, none⟩ = some (.int .u64 3) := hB10.cell 0 rfl
        have v1 : w10.cell? ⟨sb, 1, none⟩ = some (.int .u64 (q : Int)) := hB10.cell 1 rfl
        have v2 : w10.cell? ⟨sb, 2, none⟩ = some (.bool a) := hB10.cell 2 rfl
        have v3 : w10.cell? ⟨sb, 3, none⟩ = some (.slice (some ⟨g, o, none⟩) body.length c') := hB10.cell 3 rfl
        have F10 := H9.out.2.2.tr hf10.none_up
        have hR10 : Blk w10 w.heap.size 60 #[.int .u64 0, .int .u64 0, .bool false, .slice none 0 0] := (H3.out.1.fr HF4.out (fun h => h)).fr F10 (fun h => by have := H3.out.1.lt; omega)
        have x0 : w10.cell? ⟨w.heap.size, 0, none⟩ = some (.int .u64 0) := hR10.cell 0 rfl
        have x1 : w10.cell? ⟨w.heap.size, 1, none⟩ = some (.int .u64 0) := hR10.cell 1 rfl
        have x2 : w10.cell? ⟨w.heap.size, 2, none⟩ = some (.bool false) := hR10.cell 2 rfl
        have x3 : w10.cell? ⟨w.heap.size, 3, none⟩ = some (.slice none 0 0) := hR10.cell 3 rfl
        have xf := hR10.frozen
        have H10 := Lib.hid (And.intro hR10 F10)
        clear hB10 hf10 hR10 F10
        go_wp2_with fail
        have hW := (((H10.out.1.set_ 0 (.int .u64 3)).set_ 1 (.int .u64 (q : Int))).set_ 2 (.bool a)).set_ 3 (.slice (some ⟨g, o, none⟩) body.length c')
        have hX := seg_set w10 w.heap.size (.int .u64 3) (.int .u64 (q : Int)) (.bool a) (.slice (some ⟨g, o, none⟩) body.length c')
        refine bodyPost_ret (results_row_tmp rfl _ _ w.heap.size 60 #[.int .u64 3, .int .u64 (q : Int), .bool a, .slice (some ⟨g, o, none⟩) body.length c'] (0, 0) _ rfl ?_ Try.underlying60 rfl (by kernel_rfl)) rfl ⟨g, o, c', rfl, by omega, ?_, ?_⟩
        · exact hW
        · have hw1lt := H1.out.2.lt
          have hgl := H3.out.2.2.2.2.2
          have hgb : Byt w10 (.slice (some ⟨g, 0, none⟩) (segIn q body).length cap) (segIn q body) :=
            ((Byt.of_own H3.out.2.2.1).fr HF4.out (fun _ _ h => h)).fr H10.out.2 (fun k hk h => by
              simp only [Value.ownBlock] at hk; injection hk with hk; omega)
          by_cases hb0 : body = []
          · subst hb0
            exact ⟨_, c', rfl, by simp, fun h => absurd rfl h⟩
          · have ho2 := H9.out.1 hb0
            subst ho2
            have hsub := hgb.sub 2 body.length c' (by rw [hm]; omega)
            rw [show ((segIn q body).drop 2).take body.length = body from by simp [segIn]] at hsub
            exact hsub.fr hX (fun k hk h => by simp only [Value.ownBlock] at hk; injection hk with hk; omega)
        · have f1 : Fr (fun k => w.heap.size ≤ k) w w10 := ((((H1.out.1.tr H3.out.2.2.2.1).tr H3.out.2.2.2.2.1).tr HF4.out).none_up).tr (H10.out.2.mono (fun k _ h => by omega))
          have f2 := f1.tr (hX.mono (Z := fun k => w.heap.size ≤ k) (fun k _ h => by omega))
          exact ⟨f2.os, f2.tape, f2.output, f2.size, fun b hb _ => f2.block b hb (by omega)⟩
end Go.Proofs.Ytpffmfjphlaiaaa

/- Votes that are told: may they be? -/
import Derived.Test.YtliljjlegofmkaaPB
import Derived.Deep.RegionLaw
import Derived.Deep.RegionWith
import Derived.Deep.RegionHeld3
namespace Go.Proofs.Ytliljjlegofmkaa
open Go.RowKit

/-- A vote's cells at a place. -/
structure VtAt (w : World) (b o : Nat) (p : Vt) (s : Value) : Prop where
  c0 : w.cell? ⟨b, o, none⟩ = some (.int .u64 p.s)
  c1 : w.cell? ⟨b, o + 1, none⟩ = some (.int .u64 p.n)
  c2 : w.cell? ⟨b, o + 2, none⟩ = some (.int .i64 p.d)
  c3 : w.cell? ⟨b, o + 3, none⟩ = some s
  by_ : Byt w s p.v
  l : p.v.length ≤ maxLen
  s64 : p.s < 18446744073709551616
  n64 : p.n < 18446744073709551616
  d0 : -9223372036854775808 ≤ p.d
  d1 : p.d ≤ 9223372036854775807
/-- A list of votes; none of its blocks, nor of the values', is of X. -/
structure VtL (w : World) (v : Value) (ps : List Vt) (X : Nat → Prop) : Prop where
  ex : ∃ A c, v = .slice A ps.length c ∧ ∀ i p, ps[i]? = some p → ∃ b off s, A = some ⟨b, off, none⟩ ∧ ¬ X b ∧ VtAt w b (off + i * 4) p s ∧ ∀ g, s.ownBlock = some g → p.v ≠ [] → ¬ X g
  len : ps.length ≤ maxLen

section
variable {w w' : World} {X Y : Nat → Prop}
theorem Byt.fr' {v : Value} {bs : List UInt8} (h : Byt w v bs) (hf : Fr X w w') (hx : ∀ k, v.ownBlock = some k → bs ≠ [] → ¬ X k) : Byt w' v bs := by
  by_cases hn : bs = []
  · obtain ⟨A, c, rfl, h0, h1⟩ := h
    exact ⟨A, c, rfl, h0, fun h => absurd hn h⟩
  · exact h.fr hf fun k hk => hx k hk hn
theorem VtAt.fr {b o : Nat} {p : Vt} {s : Value} (h : VtAt w b o p s) (hf : Fr X w w') (hb : ¬ X b) (hs : ∀ g, s.ownBlock = some g → p.v ≠ [] → ¬ X g) : VtAt w' b o p s :=
  ⟨hf.cell h.c0 hb, hf.cell h.c1 hb, hf.cell h.c2 hb, hf.cell h.c3 hb, h.by_.fr' hf hs, h.l, h.s64, h.n64, h.d0, h.d1⟩
theorem VtL.fr {v : Value} {ps : List Vt} (h : VtL w v ps X) (hf : Fr X w w') : VtL w' v ps X := by
  obtain ⟨⟨A, c, rfl, h1⟩, h2⟩ := h
  refine ⟨⟨A, c, rfl, fun i p hp => ?_⟩, h2⟩
  obtain ⟨b, off, s, e, hb, h3, h4⟩ := h1 i p hp
  exact ⟨b, off, s, e, hb, h3.fr hf hb h4, h4⟩
theorem VtL.lt {v : Value} {ps : List Vt} (h : VtL w v ps X) : VtL w v ps (fun k => X k ∨ w.heap.size ≤ k) := by
  obtain ⟨⟨A, c, rfl, h1⟩, h2⟩ := h
  refine ⟨⟨A, c, rfl, fun i p hp => ?_⟩, h2⟩
  obtain ⟨b, off, s, e, hb, h3, h4⟩ := h1 i p hp
  refine ⟨b, off, s, e, ?_, h3, fun g hg hn => ?_⟩
  · rintro (h | h)
    · exact hb h
    · have : b < w.heap.size := World.block_lt_of_cell? w _ h3.c0
      omega
  · rintro (h | h)
    · exact h4 g hg hn h
    · obtain ⟨k, hk, hlt⟩ := h3.by_.lt hn
      rw [hk] at hg
      injection hg with hg
      omega
theorem VtL.mono {v : Value} {ps : List Vt} (h : VtL w v ps X) (hx : ∀ k, Y k → X k) : VtL w v ps Y := by
  obtain ⟨⟨A, c, rfl, h1⟩, h2⟩ := h
  refine ⟨⟨A, c, rfl, fun i p hp => ?_⟩, h2⟩
  obtain ⟨b, off, s, e, hb, h3, h4⟩ := h1 i p hp
  exact ⟨b, off, s, e, fun h => hb (hx b h), h3, fun g hg hn h => h4 g hg hn (hx g h)⟩
theorem VtL.nil (w : World) (X : Nat → Prop) : VtL w (.slice none 0 0) [] X := ⟨⟨none, 0, rfl, fun i p hp => by simp at hp⟩, by simp⟩
theorem VtL.up {v : Value} {ps : List Vt} (h : VtL w v ps X) (hf : Fr Y w w') (hx : ∀ k, Y k → X k) : VtL w' v ps X := by
  obtain ⟨⟨A, c, rfl, h1⟩, h2⟩ := h
  refine ⟨⟨A, c, rfl, fun i p hp => ?_⟩, h2⟩
  obtain ⟨b, off, s, e, hb, h3, h4⟩ := h1 i p hp
  exact ⟨b, off, s, e, hb, h3.fr hf (fun h => hb (hx b h)) (fun g hg hn h => h4 g hg hn (hx g h)), h4⟩
end

/-- One vote: may it be told behind slot 'last'? -/
def oneV (n : Nat) (d : Int) (last : Nat) (v : Vt) : Bool := !decide (v.s ≤ last) && rightB v.n v.d && lessB v.n v.d n d && !decide (100 < v.v.length)
def rightV (n : Nat) (d : Int) : Nat → List Vt → Bool
  | _, [] => true
  | last, v :: l => oneV n d last v && rightV n d v.s l
theorem rightV_get (n : Nat) (d : Int) : ∀ (l : List Vt) (last : Nat), rightV n d last l = true → ∀ (i : Nat) (v : Vt), l[i]? = some v → last < v.s ∧ rightB v.n v.d = true ∧ lessB v.n v.d n d = true ∧ v.v.length ≤ 100
  | [], _, _, i, v, hv => by simp at hv
  | u :: l, last, h, i, v, hv => by
    simp only [rightV, oneV, Bool.and_eq_true, Bool.not_eq_true', decide_eq_false_iff_not, Nat.not_le] at h
    obtain ⟨⟨⟨⟨h1, h2⟩, h3⟩, h4⟩, h5⟩ := h
    cases i with
    | zero =>
      simp at hv
      subst hv
      exact ⟨h1, h2, h3, by omega⟩
    | succ i =>
      obtain ⟨g1, g2⟩ := rightV_get n d l u.s h5 i v (by simpa using hv)
      exact ⟨by omega, g2⟩
theorem drop_cons {α : Type} {l : List α} {j : Nat} {p : α} (h : l[j]? = some p) : l.drop j = p :: l.drop (j + 1) := by
  obtain ⟨hlt, he⟩ := List.getElem?_eq_some_iff.1 h
  rw [List.drop_eq_getElem_cons hlt, he]

set_option maxRecDepth 100000 in
set_option maxHeartbeats 8000000 in
theorem right_v (r : Nat) (p : Ps) (sv : Value) (mb sb : Nat) (v : Value) (l : List Vt) (w : World) (h : Blk w r 80 (prC p sv mb sb)) (hf1 : 1 ≤ p.f) (hf64 : p.f < 18446744073709551616) (hl : VtL w v l (fun _ => False)) :
    Calls Try.prog 34 #[.pointer (some ⟨r, 0, none⟩), v] w fun e w' => e = .returned (.bool (rightV p.n p.d (p.f - 1) l)) ∧ Fr (fun _ => False) w w' := by
  obtain ⟨⟨A, c, rfl, hl1⟩, hl2⟩ := hl
  unfold maxLen at hl2
  have HL := Lib.hid hl1
  clear hl1
  have r5 : w.cell? ⟨r, 5, none⟩ = some (.int .u64 p.n) := h.cell 5 rfl
  have r6 : w.cell? ⟨r, 6, none⟩ = some (.int .i64 p.d) := h.cell 6 rfl
  have r7 : w.cell? ⟨r, 7, none⟩ = some (.int .u64 p.f) := h.cell 7 rfl
  clear h
  obtain ⟨qq, n, d, f, st, mu, sl⟩ := p
  simp only at hf1 hf64 r5 r6 r7 ⊢
  go_enter Try.func34, Try.ntmps34
  go_wp2_with fail
  have hw1 : ((f : Int) - 1) % 18446744073709551616 = ((f - 1 : Nat) : Int) := by omega
  go_loopg [5, 15] l.length (fun g x5 x15 wr => ∃ (j last : Nat), j + g = l.length ∧ x15 = .int .i64 j ∧ x5 = .int .u64 last ∧ rightV n d (f - 1) l = rightV n d last (l.drop j) ∧ Fr (fun _ => False) w wr)
  case atStart => exact ⟨0, f - 1, by omega, rfl, by first | rfl | (rw [hw1]) | go_num, by rw [List.drop_zero], Fr.refl _ _⟩
  case round =>
    obtain ⟨j, last, hj, rfl, rfl, hno, hfr⟩ := hrel
    have HJ := Lib.hid (And.intro hj hno)
    have hj' : j ≤ l.length := by omega
    clear hj hno hw1
    by_cases hlt : j < l.length
    · obtain ⟨p, hp⟩ : ∃ p, l[j]? = some p := ⟨_, List.getElem?_eq_getElem hlt⟩
      obtain ⟨b, off, s, rfl, -, hat, -⟩ := HL.out j p hp
      have hd := Lib.hid (drop_cons hp)
      have hat' := hat.fr hfr (fun h => h) (fun _ _ _ h => h)
      have hby := hat.by_
      obtain ⟨sa, sc, rfl, -, -⟩ := hby
      have hpl := hat.l
      unfold maxLen at hpl
      have hs64 := hat.s64
      have hn64 := hat.n64
      have q0 := hat'.c0
      have q1 := hat'.c1
      have q2 := hat'.c2
      have q3 := hat'.c3
      clear hat hat' hp
      obtain ⟨w2, hw2⟩ : ∃ w2, w2 = wr.alloc (.cells #[.int .u64 p.s, .int .u64 p.n, .int .i64 p.d, .slice sa p.v.length sc] 45) := ⟨_, rfl⟩
      have hf2 : Fr (fun _ => False) wr w2 := by rw [hw2]; exact (Fr.refl _ wr).alloc _
      have hb2 : Blk w2 wr.heap.size 45 #[.int .u64 p.s, .int .u64 p.n, .int .i64 p.d, .slice sa p.v.length sc] := by rw [hw2]; exact Blk.new _ _ _
      have HW2 := Lib.hid hw2
      have F0 := hfr.tr hf2
      clear hw2 hf2 hfr
      go_upto_region 5 with (fail)
      rw [← HW2.out]
      clear HW2 q0 q1 q2 q3
      obtain ⟨q, hq'⟩ : ∃ q, q = wr.heap.size := ⟨_, rfl⟩
      rw [← hq'] at hb2 ⊢
      clear hq'
      have F1 : Fr (fun _ => False) w2 w2.drew := (Fr.refl _ _).drew
      have hbr5 := F0.cell r5 (fun h => h)
      have hbr6 := F0.cell r6 (fun h => h)
      have hkeep : ∀ wx, Fr (fun _ => False) w2 wx → wx.cell? ⟨q, 0, none⟩ = some (.int .u64 p.s) ∧ wx.cell? ⟨q, 1, none⟩ = some (.int .u64 p.n) ∧ wx.cell? ⟨q, 2, none⟩ = some (.int .i64 p.d) ∧ wx.cell? ⟨q, 3, none⟩ = some (.slice sa p.v.length sc) ∧ wx.cell? ⟨r, 5, none⟩ = some (.int .u64 n) ∧ wx.cell? ⟨r, 6, none⟩ = some (.int .i64 d) :=
        fun wx h => ⟨(hb2.fr h (fun h => h)).cell 0 rfl, (hb2.fr h (fun h => h)).cell 1 rfl, (hb2.fr h (fun h => h)).cell 2 rfl, (hb2.fr h (fun h => h)).cell 3 rfl, h.cell hbr5 (fun h => h), h.cell hbr6 (fun h => h)⟩
      have HK := Lib.hid hkeep
      clear hkeep hbr5 hbr6
      have b0 := hb2.cell 0 rfl
      have b1 := hb2.cell 1 rfl
      have b2 := hb2.cell 2 rfl
      have b3 := hb2.cell 3 rfl
      have b4 := F0.cell r5 (fun h => h)
      have b5 := F0.cell r6 (fun h => h)
      clear r5 r6 r7 hb2
      by_cases hs : p.s ≤ last
      · have hs' : (p.s : Int) ≤ (last : Int) := by omega
        go_region
        all_goals
          clear b0 b1 b2 b3 b4 b5
          go_wp2_with fail
          go_ret
          refine ⟨?_, F0.tr F1⟩
          have h1 : oneV n d last p = false := by simp [oneV, hs]
          rw [HJ.out.2, hd.out]
          simp only [rightV]
          rw [h1]
          rfl
      · have hs' : ¬ (p.s : Int) ≤ (last : Int) := by omega
        cases hr : rightB p.n p.d with
        | false =>
          have HR := Lib.hid hr
          have HE := Lib.hid hr
          clear hr
          first
            | go_region_law (first
                | (go_simp
                   go_at_call 32
                   refine (aright_any p.n p.d _).mono ?_
                   rintro e w4 ⟨rfl, hf4⟩
                   rw [HR.out]
                   replace F1 := F1.tr hf4
                   obtain ⟨e0, e1, e2, e3, e4, e5⟩ := HK.out _ F1)
                | (go_simp
                   go_at_call 35
                   refine (less_any p.n p.d n d _).mono ?_
                   rintro e w5 ⟨rfl, hf5⟩
                   rw [HE.out]
                   replace F1 := F1.tr hf5
                   obtain ⟨d0, d1, d2, d3, d4, d5⟩ := HK.out _ F1))
            | fail
          all_goals
            clear b0 b1 b2 b3 b4 b5
            go_wp2_with fail
            go_ret
            refine ⟨?_, F0.tr F1⟩
            have h1 : oneV n d last p = false := by simp [oneV, HR.out]
            rw [HJ.out.2, hd.out]
            simp only [rightV]
            rw [h1]
            rfl
        | true =>
          have HR := Lib.hid hr
          clear hr
          cases he : lessB p.n p.d n d with
          | false =>
            have HE := Lib.hid he
            clear he
            first
              | go_region_law (first
                  | (go_simp
                     go_at_call 32
                     refine (aright_any p.n p.d _).mono ?_
                     rintro e w4 ⟨rfl, hf4⟩
                     rw [HR.out]
                     replace F1 := F1.tr hf4
                     obtain ⟨e0, e1, e2, e3, e4, e5⟩ := HK.out _ F1)
                  | (go_simp
                     go_at_call 35
                     refine (less_any p.n p.d n d _).mono ?_
                     rintro e w5 ⟨rfl, hf5⟩
                     rw [HE.out]
                     replace F1 := F1.tr hf5
                     obtain ⟨d0, d1, d2, d3, d4, d5⟩ := HK.out _ F1))
              | fail
            all_goals
              clear b0 b1 b2 b3 b4 b5
              go_wp2_with fail
              go_ret
              refine ⟨?_, F0.tr F1⟩
              have h1 : oneV n d last p = false := by simp [oneV, HE.out]
              rw [HJ.out.2, hd.out]
              simp only [rightV]
              rw [h1]
              rfl
          | true =>
            have HE := Lib.hid he
            clear he
            by_cases hv : 100 < p.v.length
            · have hv' : (100 : Int) < (p.v.length : Int) := by omega
              first
                        | go_region_held3 (fun wx => wx.cell? ⟨q, 0, none⟩ = some (.int .u64 p.s) ∧ wx.cell? ⟨q, 1, none⟩ = some (.int .u64 p.n) ∧ wx.cell? ⟨q, 2, none⟩ = some (.int .i64 p.d) ∧ wx.cell? ⟨q, 3, none⟩ = some (.slice sa p.v.length sc) ∧ wx.cell? ⟨r, 5, none⟩ = some (.int .u64 n) ∧ wx.cell? ⟨r, 6, none⟩ = some (.int .i64 d)) (first | exact ⟨b0, b1, b2, b3, b4, b5⟩ | exact hS4)
                          (first
                            | (go_at_call 32
                               refine (aright_any p.n p.d _).mono ?_
                               rintro e w4 ⟨rfl, hf4⟩
                               rw [HR.out]
                               replace F1 := F1.tr hf4
                               have hS4 := HK.out _ F1)
                            | (go_at_call 35
                               refine (less_any p.n p.d n d _).mono ?_
                               rintro e w5 ⟨rfl, hf5⟩
                               rw [HE.out]
                               replace F1 := F1.tr hf5
                               have hS4 := HK.out _ F1))
                        | fail
              all_goals
                clear b0 b1 b2 b3 b4 b5
                go_wp2_with fail
                go_ret
                refine ⟨?_, F0.tr F1⟩
                have h1 : oneV n d last p = false := by simp [oneV, hv]
                rw [HJ.out.2, hd.out]
                simp only [rightV]
                rw [h1]
                rfl
            · have hv' : ¬ (100 : Int) < (p.v.length : Int) := by omega
              first
                        | go_region_held3 (fun wx => wx.cell? ⟨q, 0, none⟩ = some (.int .u64 p.s) ∧ wx.cell? ⟨q, 1, none⟩ = some (.int .u64 p.n) ∧ wx.cell? ⟨q, 2, none⟩ = some (.int .i64 p.d) ∧ wx.cell? ⟨q, 3, none⟩ = some (.slice sa p.v.length sc) ∧ wx.cell? ⟨r, 5, none⟩ = some (.int .u64 n) ∧ wx.cell? ⟨r, 6, none⟩ = some (.int .i64 d)) (first | exact ⟨b0, b1, b2, b3, b4, b5⟩ | exact hS4)
                          (first
                            | (go_at_call 32
                               refine (aright_any p.n p.d _).mono ?_
                               rintro e w4 ⟨rfl, hf4⟩
                               rw [HR.out]
                               replace F1 := F1.tr hf4
                               have hS4 := HK.out _ F1)
                            | (go_at_call 35
                               refine (less_any p.n p.d n d _).mono ?_
                               rintro e w5 ⟨rfl, hf5⟩
                               rw [HE.out]
                               replace F1 := F1.tr hf5
                               have hS4 := HK.out _ F1))
                        | fail
              all_goals
                have b0' := (HK.out _ F1).1
                clear b0 b1 b2 b3 b4 b5 hS4
                go_wp2_with fail
                go_roundg (l.length - (j + 1))
                case measure => have := HJ.out; omega
                case rel =>
                  refine ⟨j + 1, p.s, by have := HJ.out; omega, by go_num, rfl, ?_, F0.tr F1⟩
                  rw [HJ.out.2, hd.out]
                  have h1 : oneV n d last p = true := by simp [oneV, hs, HR.out, HE.out, hv]
                  simp only [rightV]
                  rw [h1]
                  rfl
    · obtain rfl : j = l.length := by omega
      go_wp2_with fail
      go_ret
      refine ⟨?_, hfr⟩
      rw [HJ.out.2, List.drop_length]
      rfl
end Go.Proofs.Ytliljjlegofmkaa

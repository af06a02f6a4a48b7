/- sess.Sender: what it holds; new, push, left. -/
import Derived.Test.YtpffmfjphlaiaaaLH
namespace Go.Proofs.Ytpffmfjphlaiaaa
open Go.RowKit

/-- What one part of the line does to the colours: 0: nobody's; i: the part's own blocks. -/
structure Recol (i : Nat) (w w' : World) (col col' : Nat → Nat) : Prop where
  old : ∀ k, k < w.heap.size → col' k = col k
  new : ∀ k, w.heap.size ≤ k → col' k = 0 ∨ col' k = i
  cap : ∀ k, w'.heap.size ≤ k → col' k = 0
  fr : Fr (fun k => col k = i) w w'
def Cap (w : World) (col : Nat → Nat) : Prop := ∀ k, w.heap.size ≤ k → col k = 0

theorem Recol.same {i : Nat} {w w' : World} {col : Nat → Nat} (hc : Cap w col) (hf : Fr (fun k => col k = i) w w') : Recol i w w' col col :=
  ⟨fun _ _ => rfl, fun k h => .inl (hc k h), fun k h => hc k (Nat.le_trans hf.size h), hf⟩
theorem Recol.trans {i : Nat} {w w1 w2 : World} {c c1 c2 : Nat → Nat} (h : Recol i w w1 c c1) (k : Recol i w1 w2 c1 c2) : Recol i w w2 c c2 := by
  have hz := h.fr.size
  refine ⟨fun x hx => (k.old x (by omega)).trans (h.old x hx), fun x hx => ?_, k.cap, h.fr.trans k.fr (fun x hx hh => hh.elim id (fun e => by rw [h.old x hx] at e; exact e))⟩
  by_cases h1 : x < w1.heap.size
  · rw [k.old x h1]; exact h.new x hx
  · exact k.new x (by omega)

/-- Bytes in a block that nobody turns. -/
def Bd (w : World) (v : Value) (bs : List UInt8) (col : Nat → Nat) : Prop := Byt w v bs ∧ ∀ k, v.ownBlock = some k → bs ≠ [] → col k = 0
theorem Bd.fr {w w' : World} {v : Value} {bs : List UInt8} {col : Nat → Nat} {X : Nat → Prop} (h : Bd w v bs col) (hf : Fr X w w') (hx : ∀ k, X k → k < w.heap.size → col k ≠ 0) : Bd w' v bs col :=
  ⟨Byt.fr' h.1 hf (fun k hk hn hX => by
    obtain ⟨k2, hk2, hlt⟩ := h.1.lt hn
    rw [hk2] at hk
    injection hk with hk
    subst hk
    exact hx _ hX hlt (h.2 _ hk2 hn)), h.2⟩
theorem Bd.col {w : World} {v : Value} {bs : List UInt8} {col col' : Nat → Nat} (h : Bd w v bs col) (hc : ∀ k, k < w.heap.size → col' k = col k) : Bd w v bs col' :=
  ⟨h.1, fun k hk hn => by
    obtain ⟨k2, hk2, hlt⟩ := h.1.lt hn
    rw [hk2] at hk
    injection hk with hk
    subst hk
    rw [hc _ hlt]
    exact h.2 _ hk2 hn⟩
theorem Bd.recol {i : Nat} {w w' : World} {v : Value} {bs : List UInt8} {col col' : Nat → Nat} (h : Bd w v bs col) (hr : Recol i w w' col col') (hi : i ≠ 0) : Bd w' v bs col' :=
  (h.col hr.old).fr hr.fr (fun k hX hk => by rw [hr.old k hk, hX]; exact hi)

def flat2 : List Nat → List Value → List Value
  | s :: ss, v :: vs => v :: .int .i64 (s : Int) :: flat2 ss vs
  | _, _ => []
theorem flat2_length : ∀ (S : List Nat) (vs : List Value), vs.length = S.length → (flat2 S vs).length = S.length * 2
  | [], [], _ => rfl
  | s :: S, v :: vs, h => by simp only [flat2, List.length_cons]; rw [flat2_length S vs (by simpa using h)]; omega
  | [], _ :: _, h => by simp at h
  | _ :: _, [], h => by simp at h
theorem flat2_append : ∀ (S : List Nat) (vs : List Value) (S' : List Nat) (vs' : List Value), vs.length = S.length → flat2 (S ++ S') (vs ++ vs') = flat2 S vs ++ flat2 S' vs'
  | [], [], _, _, _ => by simp [flat2]
  | s :: S, v :: vs, S', vs', h => by simp only [List.cons_append, flat2]; rw [flat2_append S vs S' vs' (by simpa using h)]
  | [], _ :: _, _, _, h => by simp at h
  | _ :: _, [], _, _, h => by simp at h
theorem flat2_get : ∀ (S : List Nat) (vs : List Value) (i s : Nat) (v : Value), S[i]? = some s → vs[i]? = some v → (flat2 S vs)[i * 2]? = some v ∧ (flat2 S vs)[i * 2 + 1]? = some (.int .i64 (s : Int))
  | [], _, _, _, _, h, _ => by simp at h
  | _ :: _, [], _, _, _, _, h => by simp at h
  | q :: S, u :: vs, 0, s, v, h, h' => by
    simp at h h'
    subst h h'
    simp [flat2]
  | q :: S, u :: vs, i + 1, s, v, h, h' => by
    have := flat2_get S vs i s v (by simpa using h) (by simpa using h')
    rw [show (i + 1) * 2 = i * 2 + 2 by omega]
    simpa [flat2] using this
theorem flat2_drop : ∀ (S : List Nat) (vs : List Value) (k : Nat), vs.length = S.length → (flat2 S vs).drop (k * 2) = flat2 (S.drop k) (vs.drop k)
  | S, vs, 0, _ => by simp
  | [], [], k + 1, _ => by simp [flat2]
  | s :: S, v :: vs, k + 1, h => by
    rw [show (k + 1) * 2 = k * 2 + 2 by omega]
    simpa [flat2] using flat2_drop S vs k (by simpa using h)
  | [], _ :: _, _ + 1, h => by simp at h
  | _ :: _, [], _ + 1, h => by simp at h
theorem flat2_set : ∀ (S : List Nat) (vs : List Value) (i s : Nat), vs.length = S.length → i < S.length → (flat2 S vs).set (i * 2 + 1) (.int .i64 (s : Int)) = flat2 (S.set i s) vs
  | [], _, i, _, _, h => by simp at h
  | _ :: _, [], _, _, h, _ => by simp at h
  | q :: S, v :: vs, 0, s, _, _ => by simp [flat2]
  | q :: S, v :: vs, i + 1, s, h, h' => by
    have := flat2_set S vs i s (by simpa using h) (by simpa using h')
    rw [show (i + 1) * 2 + 1 = (i * 2 + 1) + 2 by omega]
    simp only [flat2, List.set_cons_succ]
    rw [this]
theorem flat2_one : ∀ (S : List Nat) (vs : List Value), (∀ v ∈ vs, v.oneCell' = true) → ∀ u ∈ flat2 S vs, u.oneCell' = true
  | [], _, _ => by simp [flat2]
  | _ :: _, [], _ => by simp [flat2]
  | s :: S, v :: vs, h => by
    intro u hu
    simp only [flat2, List.mem_cons] at hu
    rcases hu with rfl | rfl | hu
    · exact h _ (by simp)
    · rfl
    · exact flat2_one S vs (fun v hv => h v (by simp [hv])) u hu

/-- The pieces that wait: when each went last; the bodies are bd's, from the one behind acked on. -/
structure Pieces (w : World) (lv : Value) (acked : Nat) (S : List Nat) (vs : List Value) (bd : Nat → List UInt8) (col : Nat → Nat) : Prop where
  len : vs.length = S.length
  row : w.ownsRow 0 79 2 lv S.length (flat2 S vs)
  rin : ∀ k, lv.ownBlock = some k → col k = 1
  body : ∀ (i : Nat) (v : Value), vs[i]? = some v → Bd w v (bd (acked + i + 1)) col
structure SndR (w : World) (sb : Nat) (acked now : Nat) (S : List Nat) (bd : Nat → List UInt8) (win span : Nat) (col : Nat → Nat) : Prop where
  ex : ∃ lv vs, Blk w sb 74 #[.int .u64 3, .int .i64 (win : Int), .int .i64 (span : Int), .int .u64 (acked : Int), .int .i64 (now : Int), lv] ∧ Pieces w lv acked S vs bd col
  own : col sb = 1
  le : ∀ s ∈ S, s ≤ now
  room : S.length ≤ 100

theorem Pieces.recol {i : Nat} {w w' : World} {lv : Value} {acked : Nat} {S : List Nat} {vs : List Value} {bd : Nat → List UInt8} {col col' : Nat → Nat} (h : Pieces w lv acked S vs bd col) (hr : Recol i w w' col col') (h0 : i ≠ 0) (h1 : i ≠ 1) : Pieces w' lv acked S vs bd col' :=
  ⟨h.len, own_fr h.row hr.fr (fun k hk hX => h1 (by rw [← hX]; exact h.rin k hk)), fun k hk => by rw [hr.old k (own_lt h.row hk)]; exact h.rin k hk, fun i v hv => (h.body i v hv).recol hr h0⟩
theorem SndR.recol {i : Nat} {w w' : World} {sb acked now : Nat} {S : List Nat} {bd : Nat → List UInt8} {win span : Nat} {col col' : Nat → Nat} (h : SndR w sb acked now S bd win span col) (hr : Recol i w w' col col') (h0 : i ≠ 0) (h1 : i ≠ 1) : SndR w' sb acked now S bd win span col' := by
  obtain ⟨⟨lv, vs, hB, hP⟩, ho, hle, hro⟩ := h
  exact ⟨⟨lv, vs, hB.fr hr.fr (fun e => h1 (by rw [← e, ho])), hP.recol hr h0 h1⟩, by rw [hr.old sb hB.lt]; exact ho, hle, hro⟩
theorem Pieces.form {w : World} {lv : Value} {acked : Nat} {S : List Nat} {vs : List Value} {bd : Nat → List UInt8} {col : Nat → Nat} (h : Pieces w lv acked S vs bd col) : ∃ A c, lv = .slice A S.length c ∧ (A = none ∧ S = [] ∧ c = 0 ∨ ∃ g, A = some ⟨g, 0, none⟩) ∧ S.length ≤ c ∧ c ≤ maxLen := by
  rcases own_form h.row with ⟨rfl, h1, -⟩ | ⟨g, cap, cur, rfl, -, -, h1, h2, -⟩
  · exact ⟨none, 0, by rw [h1], .inl ⟨rfl, List.eq_nil_of_length_eq_zero h1, rfl⟩, by omega, by simp [maxLen]⟩
  · exact ⟨_, cap, rfl, .inr ⟨g, rfl⟩, h1, h2⟩

set_option maxHeartbeats 1000000 in
theorem newsnd_any (win span : Nat) (hw1 : 1 ≤ win) (hw2 : win ≤ 8) (hs1 : 1 ≤ span) (hs2 : span ≤ 4) (bd : Nat → List UInt8) (col : Nat → Nat) (w : World) (hc : Cap w col) :
    Calls Try.prog 13 #[.int .u64 3, .int .i64 (win : Int), .int .i64 (span : Int)] w fun e w' => ∃ sb col', e = .returned (.tuple #[.pointer (some ⟨sb, 0, none⟩), .int .i64 0]) ∧ SndR w' sb 0 0 [] bd win span col' ∧ Recol 1 w w' col col' := by
  have a1 : (1 : Int) ≤ (win : Int) := by omega
  have a2 : (win : Int) ≤ 64 := by omega
  have a3 : (1 : Int) ≤ (span : Int) := by omega
  have a4 : (span : Int) ≤ 1000 := by omega
  go_enter Try.func13, Try.ntmps13
  go_wp2_with fail
  go_ret2
  refine ⟨w.heap.size, fun k => if k = w.heap.size then 1 else col k, rfl, ⟨⟨.slice none 0 0, [], Blk.new _ _ _, ⟨rfl, ⟨by simp [flat2], .inl ⟨rfl, rfl⟩⟩, by simp [Value.ownBlock], by simp⟩⟩, by simp, by simp, by simp⟩, ⟨fun k hk => by simp [show k ≠ w.heap.size by omega], fun k hk => ?_, fun k hk => ?_, (Fr.refl _ w).alloc _⟩⟩
  · by_cases h : k = w.heap.size
    · right; simp [h]
    · left; simp only [if_neg h]; exact hc k hk
  · simp at hk
    simp only [if_neg (show ¬ k = w.heap.size by omega)]
    exact hc k (by omega)
set_option maxHeartbeats 1000000 in
theorem left_any (sb acked now : Nat) (S : List Nat) (bd : Nat → List UInt8) (win span : Nat) (col : Nat → Nat) (w : World) (h : SndR w sb acked now S bd win span col) :
    Calls Try.prog 12 #[.pointer (some ⟨sb, 0, none⟩)] w fun e w' => e = .returned (.int .i64 S.length) ∧ w = w' := by
  obtain ⟨⟨lv, vs, hB, hP⟩, -⟩ := h
  obtain ⟨A, c, rfl, -⟩ := hP.form
  have b5 : w.cell? ⟨sb, 5, none⟩ = some (.slice A S.length c) := hB.cell 5 rfl
  clear hB hP
  go_enter Try.func12, Try.ntmps12
  go_wp2_with fail
  go_ret
  exact ⟨rfl, rfl⟩
end Go.Proofs.Ytpffmfjphlaiaaa

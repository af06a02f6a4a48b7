/- Same, long; a Net that is not there. -/
import Derived.Test.YtpffmfjphlaiaaaNetG
namespace Go.Proofs.Ytpffmfjphlaiaaa
open Go.RowKit

theorem strOf_list (b : List UInt8) : (strOf b).toList = b := by rw [ByteArray.toList_eq]; simp [strOf]
def sameB (p q : Pk) : Bool := decide (p.f = q.f ∧ p.t = q.t ∧ p.b = q.b)
theorem sameB_refl (p : Pk) : sameB p p = true := by simp [sameB]

theorem take_nil (i : Int) (w : World) : Calls Try.prog 10 #[.pointer none, .int .i64 i] w fun e w' => e = .returned (.tuple #[.agg #[.int .i64 0, .int .i64 0, .slice none 0 0], .bool false]) ∧ Fr (fun _ => False) w w' := by
  go_enter Try.func10, Try.ntmps10
  go_wp2_with fail
  refine (there_nil i _).mono ?_
  rintro e w1 ⟨rfl, rfl⟩
  go_wp2_with fail
  refine bodyPost_ret (results_row_tmp rfl _ _ w.heap.size 40 #[.int .i64 0, .int .i64 0, .slice none 0 0] (0, 0) _ rfl ?_ Try.underlying40 rfl (by kernel_rfl)) rfl ⟨rfl, ?_⟩
  · exact Blk.new w _ _
  · exact (Fr.refl _ w).alloc _
theorem drop_nil (i : Int) (w : World) : Calls Try.prog 17 #[.pointer none, .int .i64 i] w fun e w' => e = .returned (.bool false) ∧ w = w' := by
  go_enter Try.func17, Try.ntmps17
  go_wp2_with fail
  refine (there_nil i _).mono ?_
  rintro e w1 ⟨rfl, rfl⟩
  go_wp2_with fail
  go_ret
  exact ⟨rfl, rfl⟩
theorem twice_nil (i : Int) (w : World) : Calls Try.prog 18 #[.pointer none, .int .i64 i] w fun e w' => e = .returned (.bool false) ∧ w = w' := by
  go_enter Try.func18, Try.ntmps18
  go_wp2_with fail
  refine (there_nil i _).mono ?_
  rintro e w1 ⟨rfl, rfl⟩
  go_wp2_with fail
  go_ret
  exact ⟨rfl, rfl⟩
theorem back_nil (i : Int) (w : World) : Calls Try.prog 19 #[.pointer none, .int .i64 i] w fun e w' => e = .returned (.bool false) ∧ w = w' := by
  go_enter Try.func19, Try.ntmps19
  go_wp2_with fail
  refine (there_nil i _).mono ?_
  rintro e w1 ⟨rfl, rfl⟩
  go_wp2_with fail
  go_ret
  exact ⟨rfl, rfl⟩
theorem send_nil (x : Array Value) (w : World) : Calls Try.prog 32 #[.pointer none, .agg x] w fun e w' => e = .returned (.int .i64 1) ∧ Fr (fun _ => False) w w' := by
  go_enter Try.func32, Try.ntmps32
  go_wp2_with fail
  go_ret
  exact ⟨rfl, (Fr.refl _ w).alloc _⟩

/-! ### how a net goes on -/
theorem NetR.cap {w : World} {nb : Nat} {N : Int} {L : List Pk} {A : Nat → Nat → Bool} {F : Nat → Prop} (h : NetR w nb N L A F) : NetR w nb N L A (fun k => F k ∧ k < w.heap.size) := by
  obtain ⟨⟨cs, lv, vs, h1, h2, h3, h4, h5, h6⟩, ho, a, b, c⟩ := h
  refine ⟨⟨cs, lv, vs, h1, h2, h3, h4, h5, h6.len, h6.row, fun k hk => ⟨h6.rin k hk, own_lt h6.row hk⟩, fun i p v hp hv => ?_, h6.apart⟩, ⟨ho, h1.lt⟩, a, b, c⟩
  obtain ⟨q, k, hk, hF⟩ := h6.body i p v hp hv
  exact ⟨q, k, hk, hF, own_lt q hk⟩

/-- A net whose blocks were made behind the place 'B'. -/
structure St (B : Nat) (w : World) (nb : Nat) (N : Int) (L : List Pk) (A : Nat → Nat → Bool) (F : Nat → Prop) : Prop where
  r : NetR w nb N L A F
  lo : ∀ k, F k → B ≤ k
  hi : ∀ k, F k → k < w.heap.size

/-- From one state to a later one: only the net's blocks changed; its new ones are new. -/
structure Mv (F : Nat → Prop) (w : World) (F' : Nat → Prop) (w' : World) : Prop where
  new : ∀ k, F' k → F k ∨ w.heap.size ≤ k
  fr : Fr F w w'
theorem Mv.trans {F F' F'' : Nat → Prop} {w w' w'' : World} (h : Mv F w F' w') (k : Mv F' w' F'' w'') : Mv F w F'' w'' :=
  ⟨fun x hx => by
    rcases k.new x hx with h1 | h1
    · exact h.new x h1
    · have := h.fr.size; right; omega, h.fr.trans k.fr fun b hb hx => by
    rcases hx with h1 | h1
    · exact h1
    · rcases h.new b h1 with h2 | h2
      · exact h2
      · omega⟩
theorem St.up {B : Nat} {w : World} {nb : Nat} {N : Int} {L : List Pk} {A : Nat → Nat → Bool} {F F' : Nat → Prop} {w' : World} {L' : List Pk} {A' : Nat → Nat → Bool} (h : St B w nb N L A F) (hB : B ≤ w.heap.size) (hr : NetR w' nb N L' A' F') (hF : ∀ k, F' k → F k ∨ w.heap.size ≤ k) (hf : Fr F w w') :
    ∃ G, St B w' nb N L' A' G ∧ Mv F w G w' :=
  ⟨_, ⟨hr.cap, fun k hk => by rcases hF k hk.1 with h1 | h1; exact h.lo k h1; omega, fun k hk => hk.2⟩, ⟨fun k hk => hF k hk.1, hf⟩⟩
/-- What is written elsewhere leaves the net as it is. -/
theorem St.fr {B : Nat} {w : World} {nb : Nat} {N : Int} {L : List Pk} {A : Nat → Nat → Bool} {F X : Nat → Prop} {w' : World} (h : St B w nb N L A F) (hf : Fr X w w') (hx : ∀ k, F k → ¬ X k) : St B w' nb N L A F :=
  ⟨h.r.fr hf hx, h.lo, fun k hk => Nat.lt_of_lt_of_le (h.hi k hk) hf.size⟩

theorem new_st (N : Int) (w : World) (h1 : 1 ≤ N) (h2 : N ≤ 12) (B : Nat) (hB : B ≤ w.heap.size) :
    Calls Try.prog 15 #[.int .i64 N] w fun e w' => ∃ nb F, e = .returned (.tuple #[.pointer (some ⟨nb, 0, none⟩), .int .i64 0]) ∧ St B w' nb N [] (fun _ _ => false) F ∧ (∀ k, F k → w.heap.size ≤ k) ∧ Fr (fun _ => False) w w' := by
  refine (new_ok N w h1 h2).mono ?_
  rintro e w' ⟨nb, hn, he, hr, hf⟩
  refine ⟨nb, _, he, ⟨hr, fun k hk => by omega, fun k hk => ?_⟩, fun k hk => by omega, hf⟩
  subst hk
  obtain ⟨⟨cs, lv, vs, h1, _⟩, _⟩ := hr
  exact h1.lt
section
variable (B : Nat) (nb : Nat) (N : Int) (L : List Pk) (A : Nat → Nat → Bool) (F : Nat → Prop) (w : World) (h : St B w nb N L A F) (hB : B ≤ w.heap.size)
include h hB
theorem send_st (p : Pk) (s : Value) (hs : Byt w s p.b) (hbm : p.b.length ≤ 9223372036854775807) :
    Calls Try.prog 32 #[.pointer (some ⟨nb, 0, none⟩), .agg #[.int .i64 p.f, .int .i64 p.t, s]] w fun e w' => e = .returned (.int .i64 (sendE N L p)) ∧ ∃ G, St B w' nb N (sendL N L A p) A G ∧ Mv F w G w' := by
  refine (send_any nb N L A F p s w h.r hs hbm).mono ?_
  rintro e w' ⟨he, hr, hf⟩
  exact ⟨he, h.up hB hr (fun k h => h) hf⟩
omit hB in
theorem take_st_some (i : Int) (p : Pk) (hp : at? L i = some p) :
    Calls Try.prog 10 #[.pointer (some ⟨nb, 0, none⟩), .int .i64 i] w fun e w' => ∃ g cap, e = .returned (.tuple #[.agg #[.int .i64 p.f, .int .i64 p.t, .slice (some ⟨g, 0, none⟩) p.b.length cap], .bool true]) ∧
      w'.ownsRow 0 5 1 (.slice (some ⟨g, 0, none⟩) p.b.length cap) p.b.length (u8s p.b) ∧ F g ∧ ∃ G, St B w' nb N (L.eraseIdx i.toNat) A G ∧ ¬ G g ∧ Mv F w G w' := by
  refine (take_some nb N L A F i p hp w h.r h.hi).mono ?_
  rintro e w' ⟨g, cap, he, ho, hg, hr, hf⟩
  refine ⟨g, cap, he, ho, hg, _, ⟨hr.cap, fun k hk => h.lo k hk.1.1, fun k hk => hk.2⟩, fun hk => hk.1.2 rfl, ⟨fun k hk => .inl hk.1.1, hf⟩⟩
theorem drop_st_some (i : Int) (p : Pk) (hp : at? L i = some p) :
    Calls Try.prog 17 #[.pointer (some ⟨nb, 0, none⟩), .int .i64 i] w fun e w' => e = .returned (.bool true) ∧ ∃ G, St B w' nb N (L.eraseIdx i.toNat) A G ∧ Mv F w G w' := by
  refine (drop_some nb N L A F i p hp w h.r).mono ?_
  rintro e w' ⟨he, G, hr, hG, hf⟩
  exact ⟨he, h.up hB hr (fun k h => .inl (hG k h)) hf⟩
theorem back_st_some (i : Int) (p : Pk) (hp : at? L i = some p) :
    Calls Try.prog 19 #[.pointer (some ⟨nb, 0, none⟩), .int .i64 i] w fun e w' => e = .returned (.bool true) ∧ ∃ G, St B w' nb N (L.eraseIdx i.toNat ++ [p]) A G ∧ Mv F w G w' := by
  refine (back_some nb N L A F i p hp w h.r).mono ?_
  rintro e w' ⟨he, hr, hf⟩
  exact ⟨he, h.up hB hr (fun k h => h) hf⟩
theorem twice_st_some (i : Int) (p : Pk) (hp : at? L i = some p) (hb : p.b.length ≤ 1000000) (hL : L.length < 256) :
    Calls Try.prog 18 #[.pointer (some ⟨nb, 0, none⟩), .int .i64 i] w fun e w' => e = .returned (.bool true) ∧ ∃ G, St B w' nb N (L ++ [p]) A G ∧ Mv F w G w' := by
  refine (twice_some nb N L A F i p hp hb hL w h.r).mono ?_
  rintro e w' ⟨he, hr, hf⟩
  exact ⟨he, h.up hB hr (fun k h => h) hf⟩
theorem part_st (a b : Int) :
    Calls Try.prog 20 #[.pointer (some ⟨nb, 0, none⟩), .int .i64 a, .int .i64 b] w fun e w' => e = .returned (.int .i64 (setE N a b)) ∧ ∃ G, St B w' nb N L (setP N a b A true) G ∧ Mv F w G w' := by
  refine (part_any nb N L A F a b w h.r).mono ?_
  rintro e w' ⟨he, hr, hf⟩
  exact ⟨he, h.up hB hr (fun k h => .inl h) hf⟩
theorem join_st (a b : Int) :
    Calls Try.prog 7 #[.pointer (some ⟨nb, 0, none⟩), .int .i64 a, .int .i64 b] w fun e w' => e = .returned (.int .i64 (setE N a b)) ∧ ∃ G, St B w' nb N L (setP N a b A false) G ∧ Mv F w G w' := by
  refine (join_any nb N L A F a b w h.r).mono ?_
  rintro e w' ⟨he, hr, hf⟩
  exact ⟨he, h.up hB hr (fun k h => .inl h) hf⟩
end
end Go.Proofs.Ytpffmfjphlaiaaa

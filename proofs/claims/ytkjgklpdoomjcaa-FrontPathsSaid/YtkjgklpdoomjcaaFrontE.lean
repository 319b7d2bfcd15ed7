/- CONTRACTS OF front.Front: Learn, Epoch; what a path is. -/
import Derived.Test.YtkjgklpdoomjcaaFrontD
namespace Go.Proofs.Ytkjgklpdoomjcaa
open Go.RowKit
set_option linter.unusedVariables false
set_option linter.unusedSimpArgs false
set_option maxHeartbeats 3200000
section
variable {W w w' : World} {b qb pb : Nat} {pc : Int} {ended : Bool} {l : List S} {ep : Nat} {p : P}
/-- A place of 64 bits. -/
def In64 (x : Int) : Prop := 0 ≤ x ∧ x < 18446744073709551616
/-- All that is guessed is a place of 64 bits. -/
def PW (p : P) : Prop := (∀ i, In64 (p.tg i).j.target) ∧ ∀ i, In64 (p.ring i)
theorem PW.guess {p : P} (h : PW p) (pc : Int) : In64 (p.guess pc).2 := by
  unfold P.guess guessOf
  split
  · exact np_in pc
  · split
    · exact h.2 _
    · split
      · exact np_in pc
      · exact h.1 _
theorem PW.new (seed : Int) : PW (P.new seed) := ⟨fun i => by unfold P.new In64; simp, fun i => by unfold P.new In64; simp⟩
theorem PW.learn {p : P} (h : PW p) (j : J) (ht : In64 j.target) : PW (p.learn j) := by
  have h1 : PW (p.cond j) := by unfold P.cond; split; exact ⟨h.1, h.2⟩; exact h
  have h2 : PW ((p.cond j).popped j) := by
    generalize p.cond j = q at *
    unfold P.popped; split; exact ⟨h1.1, h1.2⟩; exact h1
  have h3 : PW (((p.cond j).popped j).called j) := by
    generalize (p.cond j).popped j = q at *
    unfold P.called
    split
    · refine ⟨fun i => ?_, fun i => ?_⟩
      · unfold P.pushed; split <;> exact h2.1 i
      · unfold P.pushed
        split <;> simp only [] <;> (repeat split) <;> first | exact np_in _ | exact h2.2 _
    · exact h2
  unfold P.learn
  generalize ((p.cond j).popped j).called j = q at *
  unfold P.aimed
  split
  · refine ⟨fun i => ?_, h3.2⟩
    simp only []
    split
    · exact ht
    · exact h3.1 i
  · exact h3
theorem PW.squash {p : P} (h : PW p) : PW { p with n := 0 } := ⟨h.1, h.2⟩
set_option maxRecDepth 100000 in
theorem fepoch (h : FS W w b qb pb pc ended l ep p) : Calls Try.prog 44 #[.pointer (some ⟨b, 0, none⟩)] w fun e w' => e = .returned (.int .i64 ep) ∧ w' = w := by
  have LE := hide (lepoch h.ql)
  obtain ⟨f0, f1, f2, f3, f4, ff, fl⟩ := h.fa
  clear h
  go_enter Try.func44, Try.ntmps44
  go_wp2_with fail
  refine LE.out.mono ?_
  rintro e w1 ⟨rfl, rfl⟩
  simp only []
  go_wp2_with fail
  go_ret
  exact ⟨rfl, rfl⟩
set_option maxRecDepth 100000 in
theorem flearn (h : FS W w b qb pb pc ended l ep p) (j : J) (h0 : 0 ≤ j.pc) (h1 : j.pc < 18446744073709551616) : Calls Try.prog 43 #[.pointer (some ⟨b, 0, none⟩), .agg #[.int .u64 j.pc, .bool j.call, .bool j.ret, .bool j.cond, .bool j.taken, .int .u64 j.target]] w (FR (.tuple #[]) W b qb pb pc ended l ep (p.learn j)) := by
  have HA := hide ((h.alloc (.cells #[.int .u64 j.pc, .bool j.call, .bool j.ret, .bool j.cond, .bool j.taken, .int .u64 j.target] 44)).drew)
  have LR := hide (Learn_any pb j _ p HA.out.pa h0 h1)
  have HK := hide (fun (w9 : World) (hg : (w.alloc (.cells #[.int .u64 j.pc, .bool j.call, .bool j.ret, .bool j.cond, .bool j.taken, .int .u64 j.target] 44)).drew.grownBy w9 (some pb)) (hp : PAt w9 pb (p.learn j)) => HA.out.pred hg hp)
  obtain ⟨f0, f1, f2, f3, f4, ff, fl⟩ := h.fa
  clear h
  go_enter Try.func43, Try.ntmps43
  go_wp2_with fail
  go_region_with (go_at_call 27; refine (LR.out).mono ?_; rintro e w9 ⟨rfl, hg, hp⟩; have H9 := hide (HK.out _ hg hp); clear hg hp; simp only [])
  all_goals
    go_wp2_with fail
    go_end0
    exact ⟨rfl, H9.out⟩
/-- From a on, each one's Next is the next one's place; the last one's Next is pc; all of this epoch. -/
def Path (ep : Int) : Int → List S → Int → Prop
  | a, [], pc => a = pc
  | a, s :: l, pc => s.pc = a ∧ s.epoch = ep ∧ Path ep s.next l pc
theorem Path.snoc {ep : Int} : ∀ {a : Int} {l : List S} {pc : Int}, Path ep a l pc → ∀ (bt ft nx : Int), Path ep a (l ++ [⟨pc, bt, ft, nx, ep⟩]) nx
  | a, [], pc, h, bt, ft, nx => ⟨h.symm, rfl, rfl⟩
  | a, s :: l, pc, h, bt, ft, nx => ⟨h.1, h.2.1, h.2.2.snoc bt ft nx⟩
end
end Go.Proofs.Ytkjgklpdoomjcaa


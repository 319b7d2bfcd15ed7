/- Contracts of front.Front against any world: Take, Turn, Learn, Epoch, Peek. -/
import Derived.Test.YtkjgklpdoomjcaaFrtA
import Derived.Deep.DeepCutAuto
import Derived.Deep.CutBlock
import Derived.Deep.LoopGhost
namespace Go.Proofs.Ytkjgklpdoomjcaa.Wide
open Go.RowKit
set_option linter.unusedVariables false
set_option linter.unusedSimpArgs false
set_option maxHeartbeats 3200000
section
variable {W w w' : World} {b qb pb : Nat} {pc : Int} {ended : Bool} {l : List S} {ep : Nat} {p : P}
theorem FS.keep2 (h : FS W w b qb pb pc ended l ep p) (g : Below w.heap.size w w') : FS W w' b qb pb pc ended l ep p :=
  h.keep ⟨g.os, g.tape, g.output, g.size, fun k hk _ => g.block k hk⟩
set_option maxRecDepth 100000 in
theorem ftake_yes {s : S} (h : FS W w b qb pb pc ended (s :: l) ep p) : Calls Try.prog 41 #[.pointer (some ⟨b, 0, none⟩)] w (FR (.tuple #[.agg #[.int .u64 s.pc, .int .u32 s.bits, .int .i64 s.fault, .int .u64 s.next, .int .i64 s.epoch], .bool true]) W b qb pb pc ended l ep p) := by
  have H := hide h
  have HQ := hide (lpop_yes (h.alloc (.cells #[.int .u64 0, .int .u32 0, .int .i64 0, .int .u64 0, .int .i64 0] 34)).ql)
  obtain ⟨f0, f1, f2, f3, f4, ff, fl⟩ := h.fa
  clear h
  go_enter Try.func41, Try.ntmps41
  go_wp2_with fail
  refine HQ.out.mono ?_
  rintro e w1 ⟨rfl, hg, hq⟩
  have hqlt := H.out.ql.lt
  have hplt := H.out.pa.lt
  obtain ⟨b0, b1, b2, b3, b4, bf, hz⟩ := box5 hg (fun e => by injection e with e; omega)
  have H1 := hide ((H.out.alloc (.cells #[.int .u64 0, .int .u32 0, .int .i64 0, .int .u64 0, .int .i64 0] 34)).queue hg hq)
  have c1 : w.heap.size ≠ b := by omega
  have c2 : w.heap.size ≠ qb := by omega
  have c3 : w.heap.size ≠ pb := by omega
  have c4 : W.heap.size ≤ w.heap.size := H.out.big
  have HF := hide (fun (v0 v1 v2 v3 v4 : Value) => ((((H1.out.box (o := 0) c1 c2 c3 c4 v0).box (o := 1) c1 c2 c3 c4 v1).box (o := 2) c1 c2 c3 c4 v2).box (o := 3) c1 c2 c3 c4 v3).box (o := 4) c1 c2 c3 c4 v4)
  clear hg hq hqlt hplt c1 c2 c3 c4 f0 f1 f2 f3 f4 ff fl
  simp only []
  repeat' (first | go_values | go_skip | go_guarded | go_step | go_upon)
  refine bodyPost_ret (v := .tuple #[.agg #[.int .u64 s.pc, .int .u32 s.bits, .int .i64 s.fault, .int .u64 s.next, .int .i64 s.epoch], .bool true]) (by simp [results, Try.results41, go_sem, b0, b1, b2, b3, b4, hz]) rfl ?_
  exact ⟨rfl, HF.out _ _ _ _ _⟩
set_option maxRecDepth 100000 in
theorem fturn (h : FS W w b qb pb pc ended l ep p) (tgt : Int) (he : ep ≤ 4294967296) : Calls Try.prog 42 #[.pointer (some ⟨b, 0, none⟩), .int .u64 tgt] w (FR (.tuple #[]) W b qb pb tgt false [] (ep + 1) { p with n := 0 }) := by
  have H := hide h
  have LQ := hide (lsquash h.ql he)
  have PQ := hide (fun (w2 : World) (hp : PAt w2 pb p) => psquash_any pb w2 p hp)
  obtain ⟨f0, f1, f2, f3, f4, ff, fl⟩ := h.fa
  clear h
  go_enter Try.func42, Try.ntmps42
  go_wp2_with fail
  refine LQ.out.mono ?_
  rintro e w1 ⟨rfl, hg, hq⟩
  have H1 := hide (H.out.queue hg hq)
  clear hg hq f0 f1 f2 f3 f4 ff fl
  obtain ⟨f0, f1, f2, f3, f4, ff, fl⟩ := H1.out.fa
  simp only []
  go_wp2_with fail
  refine (PQ.out _ H1.out.pa).mono ?_
  rintro e w2 ⟨rfl, hg, hp⟩
  have H2 := hide (H1.out.pred hg hp)
  clear hg hp f0 f1 f2 f3 f4 ff fl
  obtain ⟨f0, f1, f2, f3, f4, ff, fl⟩ := H2.out.fa
  have H3 := hide (H2.out.set tgt false)
  simp only []
  go_wp2
  go_end0
  exact ⟨rfl, H3.out⟩
end
theorem np_in (pc : Int) : 0 ≤ np pc ∧ np pc < 18446744073709551616 := by
  unfold np
  rw [IntKind.wrap_u64]; omega
section
variable {W w w' : World} {b qb pb : Nat} {pc : Int} {ended : Bool} {l : List S} {ep : Nat} {p : P}
/-- A place of 64 bits. -/
def In64 (x : Int) : Prop := 0 ≤ x ∧ x < 18446744073709551616
/-- All that is guessed is a place of 64 bits. -/
def PW (p : P) : Prop := (∀ i, In64 (p.tg i).j.target) ∧ ∀ i, In64 (p.ring i)
theorem PW.guess {p : P} (h : PW p) (pc : Int) : In64 (p.guess pc).2 := by
  unfold P.guess guessOf
  split
  · exact np_in pc
  · split
    · exact h.2 _
    · split
      · exact np_in pc
      · exact h.1 _
theorem PW.new (seed : Int) : PW (P.new seed) := ⟨fun i => by unfold P.new In64; simp, fun i => by unfold P.new In64; simp⟩
theorem PW.learn {p : P} (h : PW p) (j : J) (ht : In64 j.target) : PW (p.learn j) := by
  have h1 : PW (p.cond j) := by unfold P.cond; split; exact ⟨h.1, h.2⟩; exact h
  have h2 : PW ((p.cond j).popped j) := by
    generalize p.cond j = q at *
    unfold P.popped; split; exact ⟨h1.1, h1.2⟩; exact h1
  have h3 : PW (((p.cond j).popped j).called j) := by
    generalize (p.cond j).popped j = q at *
    unfold P.called
    split
    · refine ⟨fun i => ?_, fun i => ?_⟩
      · unfold P.pushed; split <;> exact h2.1 i
      · unfold P.pushed
        split <;> simp only [] <;> (repeat split) <;> first | exact np_in _ | exact h2.2 _
    · exact h2
  unfold P.learn
  generalize ((p.cond j).popped j).called j = q at *
  unfold P.aimed
  split
  · refine ⟨fun i => ?_, h3.2⟩
    simp only []
    split
    · exact ht
    · exact h3.1 i
  · exact h3
theorem PW.squash {p : P} (h : PW p) : PW { p with n := 0 } := ⟨h.1, h.2⟩
set_option maxRecDepth 100000 in
theorem fepoch (h : FS W w b qb pb pc ended l ep p) : Calls Try.prog 44 #[.pointer (some ⟨b, 0, none⟩)] w fun e w' => e = .returned (.int .i64 ep) ∧ w' = w := by
  have LE := hide (lepoch h.ql)
  obtain ⟨f0, f1, f2, f3, f4, ff, fl⟩ := h.fa
  clear h
  go_enter Try.func44, Try.ntmps44
  go_wp2_with fail
  refine LE.out.mono ?_
  rintro e w1 ⟨rfl, rfl⟩
  simp only []
  go_wp2_with fail
  go_ret
  exact ⟨rfl, rfl⟩
set_option maxRecDepth 100000 in
theorem flearn (h : FS W w b qb pb pc ended l ep p) (j : J) (h0 : 0 ≤ j.pc) (h1 : j.pc < 18446744073709551616) : Calls Try.prog 43 #[.pointer (some ⟨b, 0, none⟩), .agg #[.int .u64 j.pc, .bool j.call, .bool j.ret, .bool j.cond, .bool j.taken, .int .u64 j.target]] w (FR (.tuple #[]) W b qb pb pc ended l ep (p.learn j)) := by
  have HA := hide ((h.alloc (.cells #[.int .u64 j.pc, .bool j.call, .bool j.ret, .bool j.cond, .bool j.taken, .int .u64 j.target] 44)).drew)
  have LR := hide (Learn_any pb j _ p HA.out.pa h0 h1)
  have HK := hide (fun (w9 : World) (hg : (w.alloc (.cells #[.int .u64 j.pc, .bool j.call, .bool j.ret, .bool j.cond, .bool j.taken, .int .u64 j.target] 44)).drew.grownBy w9 (some pb)) (hp : PAt w9 pb (p.learn j)) => HA.out.pred hg hp)
  obtain ⟨f0, f1, f2, f3, f4, ff, fl⟩ := h.fa
  clear h
  go_enter Try.func43, Try.ntmps43
  go_wp2_with fail
  go_region_with (go_at_call 27; refine (LR.out).mono ?_; rintro e w9 ⟨rfl, hg, hp⟩; have H9 := hide (HK.out _ hg hp); clear hg hp; simp only [])
  all_goals
    go_wp2_with fail
    go_end0
    exact ⟨rfl, H9.out⟩
end
section
variable {W w w' : World} {b qb pb : Nat} {pc : Int} {ended : Bool} {l : List S} {ep : Nat} {p : P}
set_option maxRecDepth 100000 in
theorem ftake_no (h : FS W w b qb pb pc ended [] ep p) : Calls Try.prog 41 #[.pointer (some ⟨b, 0, none⟩)] w (FR (.tuple #[.agg #[.int .u64 0, .int .u32 0, .int .i64 0, .int .u64 0, .int .i64 0], .bool false]) W b qb pb pc ended [] ep p) := by
  have H := hide h
  have HQ := hide (lpop_no (h.alloc (.cells #[.int .u64 0, .int .u32 0, .int .i64 0, .int .u64 0, .int .i64 0] 34)).ql)
  obtain ⟨f0, f1, f2, f3, f4, ff, fl⟩ := h.fa
  clear h
  go_enter Try.func41, Try.ntmps41
  go_wp2_with fail
  refine HQ.out.mono ?_
  rintro e w1 ⟨rfl, hg, hq⟩
  have hqlt := H.out.ql.lt
  have hplt := H.out.pa.lt
  obtain ⟨b0, b1, b2, b3, b4, bf, hz⟩ := box5 hg (by simp)
  have H1 := hide ((H.out.alloc (.cells #[.int .u64 0, .int .u32 0, .int .i64 0, .int .u64 0, .int .i64 0] 34)).keep hg)
  have c1 : w.heap.size ≠ b := by omega
  have c2 : w.heap.size ≠ qb := by omega
  have c3 : w.heap.size ≠ pb := by omega
  have c4 : W.heap.size ≤ w.heap.size := H.out.big
  have HF := hide (fun (v0 v1 v2 v3 v4 : Value) => ((((H1.out.box (o := 0) c1 c2 c3 c4 v0).box (o := 1) c1 c2 c3 c4 v1).box (o := 2) c1 c2 c3 c4 v2).box (o := 3) c1 c2 c3 c4 v3).box (o := 4) c1 c2 c3 c4 v4)
  clear hg hq hqlt hplt c1 c2 c3 c4 f0 f1 f2 f3 f4 ff fl
  simp only []
  repeat' (first | go_values | go_skip | go_guarded | go_step | go_upon)
  refine bodyPost_ret (v := .tuple #[.agg #[.int .u64 0, .int .u32 0, .int .i64 0, .int .u64 0, .int .i64 0], .bool false]) (by simp [results, Try.results41, go_sem, b0, b1, b2, b3, b4, hz]) rfl ?_
  exact ⟨rfl, HF.out _ _ _ _ _⟩
set_option maxRecDepth 100000 in
theorem fpeek_no (h : FS W w b qb pb pc ended [] ep p) : Calls Try.prog 47 #[.pointer (some ⟨b, 0, none⟩)] w (FR (.tuple #[.agg #[.int .u64 0, .int .u32 0, .int .i64 0, .int .u64 0, .int .i64 0], .bool false]) W b qb pb pc ended [] ep p) := by
  have H := hide h
  have HQ := hide (lpeek_no (h.alloc (.cells #[.int .u64 0, .int .u32 0, .int .i64 0, .int .u64 0, .int .i64 0] 34)).ql)
  obtain ⟨f0, f1, f2, f3, f4, ff, fl⟩ := h.fa
  clear h
  go_enter Try.func47, Try.ntmps47
  go_wp2_with fail
  refine HQ.out.mono ?_
  rintro e w1 ⟨rfl, hg, hq⟩
  have hqlt := H.out.ql.lt
  have hplt := H.out.pa.lt
  obtain ⟨b0, b1, b2, b3, b4, bf, hz⟩ := box5 hg (by simp)
  have H1 := hide ((H.out.alloc (.cells #[.int .u64 0, .int .u32 0, .int .i64 0, .int .u64 0, .int .i64 0] 34)).keep hg)
  have c1 : w.heap.size ≠ b := by omega
  have c2 : w.heap.size ≠ qb := by omega
  have c3 : w.heap.size ≠ pb := by omega
  have c4 : W.heap.size ≤ w.heap.size := H.out.big
  have HF := hide (fun (v0 v1 v2 v3 v4 : Value) => ((((H1.out.box (o := 0) c1 c2 c3 c4 v0).box (o := 1) c1 c2 c3 c4 v1).box (o := 2) c1 c2 c3 c4 v2).box (o := 3) c1 c2 c3 c4 v3).box (o := 4) c1 c2 c3 c4 v4)
  clear hg hq hqlt hplt c1 c2 c3 c4 f0 f1 f2 f3 f4 ff fl
  simp only []
  repeat' (first | go_values | go_skip | go_guarded | go_step | go_upon)
  refine bodyPost_ret (v := .tuple #[.agg #[.int .u64 0, .int .u32 0, .int .i64 0, .int .u64 0, .int .i64 0], .bool false]) (by simp [results, Try.results47, go_sem, b0, b1, b2, b3, b4, hz]) rfl ?_
  exact ⟨rfl, HF.out _ _ _ _ _⟩
set_option maxRecDepth 100000 in
theorem fpeek_yes {s : S} (h : FS W w b qb pb pc ended (s :: l) ep p) : Calls Try.prog 47 #[.pointer (some ⟨b, 0, none⟩)] w (FR (.tuple #[.agg #[.int .u64 s.pc, .int .u32 s.bits, .int .i64 s.fault, .int .u64 s.next, .int .i64 s.epoch], .bool true]) W b qb pb pc ended (s :: l) ep p) := by
  have H := hide h
  have HQ := hide (lpeek_yes (h.alloc (.cells #[.int .u64 0, .int .u32 0, .int .i64 0, .int .u64 0, .int .i64 0] 34)).ql)
  obtain ⟨f0, f1, f2, f3, f4, ff, fl⟩ := h.fa
  clear h
  go_enter Try.func47, Try.ntmps47
  go_wp2_with fail
  refine HQ.out.mono ?_
  rintro e w1 ⟨rfl, hg, hq⟩
  have hqlt := H.out.ql.lt
  have hplt := H.out.pa.lt
  obtain ⟨b0, b1, b2, b3, b4, bf, hz⟩ := box5 hg (by simp)
  have H1 := hide ((H.out.alloc (.cells #[.int .u64 0, .int .u32 0, .int .i64 0, .int .u64 0, .int .i64 0] 34)).keep hg)
  have c1 : w.heap.size ≠ b := by omega
  have c2 : w.heap.size ≠ qb := by omega
  have c3 : w.heap.size ≠ pb := by omega
  have c4 : W.heap.size ≤ w.heap.size := H.out.big
  have HF := hide (fun (v0 v1 v2 v3 v4 : Value) => ((((H1.out.box (o := 0) c1 c2 c3 c4 v0).box (o := 1) c1 c2 c3 c4 v1).box (o := 2) c1 c2 c3 c4 v2).box (o := 3) c1 c2 c3 c4 v3).box (o := 4) c1 c2 c3 c4 v4)
  clear hg hq hqlt hplt c1 c2 c3 c4 f0 f1 f2 f3 f4 ff fl
  simp only []
  repeat' (first | go_values | go_skip | go_guarded | go_step | go_upon)
  refine bodyPost_ret (v := .tuple #[.agg #[.int .u64 s.pc, .int .u32 s.bits, .int .i64 s.fault, .int .u64 s.next, .int .i64 s.epoch], .bool true]) (by simp [results, Try.results47, go_sem, b0, b1, b2, b3, b4, hz]) rfl ?_
  exact ⟨rfl, HF.out _ _ _ _ _⟩
end
end Go.Proofs.Ytkjgklpdoomjcaa.Wide

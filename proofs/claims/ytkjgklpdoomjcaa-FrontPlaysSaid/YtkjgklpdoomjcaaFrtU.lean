/- The front and the law's state beside it, while a step is under way: what each store and each call leaves. -/
import Derived.Test.YtkjgklpdoomjcaaFrtS
namespace Go.Proofs.Ytkjgklpdoomjcaa.Wide
open Go.RowKit
set_option linter.unusedVariables false
set_option linter.unusedSimpArgs false

theorem stc_set0 (rb : Nat) (pc : Int) (ep : Nat) (fl : Bool) (a : Option Addr) (n cap : Nat) (x : Int) (o : Nat) : upd (stc rb pc ep fl a n cap) 0 (.int .u64 x) o = stc rb x ep fl a n cap o := by
  unfold upd
  match o with
  | 0 => rfl
  | 1 => rfl
  | 2 => rfl
  | 3 => rfl
  | o + 4 => rfl
theorem stc_set1 (rb : Nat) (pc : Int) (ep : Nat) (fl : Bool) (a : Option Addr) (n cap : Nat) (x : Nat) (o : Nat) : upd (stc rb pc ep fl a n cap) 1 (.int .i64 x) o = stc rb pc x fl a n cap o := by
  unfold upd
  match o with
  | 0 => rfl
  | 1 => rfl
  | 2 => rfl
  | 3 => rfl
  | o + 4 => rfl
theorem stc_set2 (rb : Nat) (pc : Int) (ep : Nat) (fl : Bool) (a : Option Addr) (n cap : Nat) (x : Bool) (o : Nat) : upd (stc rb pc ep fl a n cap) 2 (.bool x) o = stc rb pc ep x a n cap o := by
  unfold upd
  match o with
  | 0 => rfl
  | 1 => rfl
  | 2 => rfl
  | 3 => rfl
  | o + 4 => rfl
theorem stc_set3 (rb : Nat) (pc : Int) (ep : Nat) (fl : Bool) (a : Option Addr) (n cap : Nat) (a' : Option Addr) (n' cap' : Nat) (o : Nat) : upd (stc rb pc ep fl a n cap) 3 (.slice a' n' cap') o = stc rb pc ep fl a' n' cap' o := by
  unfold upd
  match o with
  | 0 => rfl
  | 1 => rfl
  | 2 => rfl
  | 3 => rfl
  | o + 4 => rfl
theorem own_ne {a : Option Addr} {g : Nat} (h : Apart a g) : some g ≠ own a := fun e => by
  cases a with
  | none => cases e
  | some ad =>
    injection e with e
    exact h ad rfl e.symm
theorem set_only (w : World) (g o : Nat) (v : Value) : w.grownBy (w.setCell ⟨g, o, none⟩ v) (some g) := only_setCell (World.grownBy.refl _ _) (.inl rfl) v

section
variable {w w' : World} {sb rb : Nat} {pc : Int} {fl : Bool} {L : List S} {ep : Nat} {p : P} {a : Option Addr} {cap : Nat} {c : Option Addr} {k : Nat}
/-- The state's own cells are set. -/
theorem RT.put (h : RT w sb rb pc fl L ep p a cap c k) {o : Nat} {v : Value} {pc' : Int} {fl' : Bool} {ep' : Nat} (hc : CellsAt (w.setCell ⟨sb, o, none⟩ v) sb 5 (stc rb pc' ep' fl' a L.length cap)) : RT (w.setCell ⟨sb, o, none⟩ v) sb rb pc' fl' L ep' p a cap c k :=
  ⟨hc, SL.far h.sl (set_only w sb o v) h.as_, h.ra.far (set_only w sb o v) (fun e => h.sr e.symm) h.cs, h.sr, h.as_, h.ar, h.cs, h.ac⟩
theorem RT.setPc (h : RT w sb rb pc fl L ep p a cap c k) (x : Int) : RT (w.setCell ⟨sb, 0, none⟩ (.int .u64 x)) sb rb x fl L ep p a cap c k := h.put ((h.sc.set _ _).congr fun o _ => stc_set0 ..)
theorem RT.setEp (h : RT w sb rb pc fl L ep p a cap c k) (x : Nat) : RT (w.setCell ⟨sb, 1, none⟩ (.int .i64 x)) sb rb pc fl L x p a cap c k := h.put ((h.sc.set _ _).congr fun o _ => stc_set1 ..)
theorem RT.setFl (h : RT w sb rb pc fl L ep p a cap c k) (x : Bool) : RT (w.setCell ⟨sb, 2, none⟩ (.bool x)) sb rb pc x L ep p a cap c k := h.put ((h.sc.set _ _).congr fun o _ => stc_set2 ..)
theorem RT.setL (h : RT w sb rb pc fl L ep p a cap c k) {a' : Option Addr} {n' cap' : Nat} {L' : List S} (hn : L'.length = n') (hs : Slots w 0 a' cap' L') (ha : ∀ ad', a' = some ad' → ∃ ad, a = some ad ∧ ad'.block = ad.block) :
    RT (w.setCell ⟨sb, 3, none⟩ (.slice a' n' cap')) sb rb pc fl L' ep p a' cap' c k := by
  subst hn
  have h1 : Apart a' sb := fun ad' e => by obtain ⟨ad, e2, e3⟩ := ha ad' e; rw [e3]; exact h.as_ ad e2
  have h2 : Apart a' rb := fun ad' e => by obtain ⟨ad, e2, e3⟩ := ha ad' e; rw [e3]; exact h.ar ad e2
  exact ⟨(h.sc.set _ _).congr fun o _ => stc_set3 .., SL.far hs (set_only w sb 3 _) h1, h.ra.far (set_only w sb 3 _) (fun e => h.sr e.symm) h.cs, h.sr, h1, h2, h.cs, fun ad' e => by
    obtain ⟨ad, e2, e3⟩ := ha ad' e
    rw [e3]; exact h.ac ad e2⟩
theorem RT.clearS (h : RT w sb rb pc fl L ep p a cap c k) : RT (w.setCell ⟨rb, 161, none⟩ (.slice none 0 0)) sb rb pc fl L ep { p with n := 0 } a cap none 0 :=
  ⟨h.sc.grown (set_only w rb 161 _) (fun e => h.sr (by injection e)), SL.far h.sl (set_only w rb 161 _) h.ar, h.ra.setT { p with n := 0 } rfl rfl rfl rfl (Nat.zero_le _) SL.nil (Apart.none_ _), h.sr, h.as_, h.ar, Apart.none_ _, fun _ _ => Apart.none_ _⟩
theorem RT.learnt (h : RT w sb rb pc fl L ep p a cap c k) (g : w.grownBy w' (some rb)) {q : P} {c' : Option Addr} {k' : Nat} (hq : RAt w' rb c' k' q) (af : After w c c') : RT w' sb rb pc fl L ep q a cap c' k' :=
  ⟨h.sc.grown g (fun e => h.sr (by injection e)), SL.far h.sl g h.ar, hq, h.sr, h.as_, h.ar, af sb h.sc.lt h.cs, fun ad e => by
    obtain ⟨gg, off, rfl, _, hlt, _⟩ := SL.lies h.sl ad e
    exact af gg hlt (h.ac _ e)⟩
/-- A slot is appended. -/
theorem RT.app (h : RT w sb rb pc fl L ep p a cap c k) {w1 : World} {x : S} {a' : Option Addr} {N cap' : Nat} (g : w.grownBy w1 (own a)) (hN : L.length = N) (hs : SL w1 0 5 a' (N + 1) cap' (L.flatMap S.l ++ x.l)) (ho : own a' = own a ∨ own a' = some w.heap.size) :
    RT (w1.setCell ⟨sb, 3, none⟩ (.slice a' (N + 1) cap')) sb rb pc fl (L ++ [x]) ep p a' cap' c k := by
  have hap : ∀ g, g < w.heap.size → Apart a g → Apart a' g := fun g hg hx ad' e => by
    rcases ho with ho | ho
    · cases a with
      | none => rw [e] at ho; cases ho
      | some ad =>
        rw [e] at ho
        have ho : ad'.block = ad.block := by injection ho
        rw [ho]; exact hx ad rfl
    · rw [e] at ho
      have ho : ad'.block = w.heap.size := by injection ho
      omega
  have h1 : Apart a' sb := hap sb h.sc.lt h.as_
  have h2 : Apart a' rb := hap rb h.ra.lt h.ar
  have hne1 : some sb ≠ own a := own_ne h.as_
  have hne2 : some rb ≠ own a := own_ne h.ar
  have hlen : (L ++ [x]).length = N + 1 := by rw [List.length_append, hN]; rfl
  have hsl : Slots w1 0 a' cap' (L ++ [x]) := by
    unfold Slots
    rw [hlen, List.flatMap_append]
    simpa using hs
  have hra : RAt w1 rb c k p := ⟨h.ra.cells.grown g hne2, h.ra.hist, h.ra.n, h.ra.ct, SL.kept h.ra.sl g (fun ad e e2 => by
    cases a with
    | none => cases e2
    | some ad2 =>
      injection e2 with e2
      exact h.ac ad2 rfl ad e e2), h.ra.ap⟩
  refine ⟨((h.sc.grown g hne1).set _ _).congr fun o _ => (by rw [hlen]; exact stc_set3 ..), SL.far hsl (set_only w1 sb 3 _) h1, hra.far (set_only w1 sb 3 _) (fun e => h.sr e.symm) h.cs, h.sr, h1, h2, h.cs, fun ad' e => ?_⟩
  rcases ho with ho | ho
  · cases a with
    | none => rw [e] at ho; cases ho
    | some ad =>
      rw [e] at ho
      have ho : ad'.block = ad.block := by injection ho
      rw [ho]; exact h.ac ad rfl
  · rw [e] at ho
    have ho : ad'.block = w.heap.size := by injection ho
    rw [ho]
    exact SL.apart_new h.ra.sl (Nat.le_refl _)
end

/-- The front, of one state, and the law's, of another one. -/
structure FG (W : World) (b qb pb sb rb : Nat) (pc1 : Int) (fl1 : Bool) (L1 : List S) (ep1 : Nat) (p1 : P) (pc : Int) (fl : Bool) (L : List S) (ep : Nat) (p : P) (a : Option Addr) (cap : Nat) (c : Option Addr) (k : Nat) (w : World) : Prop where
  fs : FS w w b qb pb pc1 fl1 L1 ep1 p1
  rt : RT w sb rb pc fl L ep p a cap c k
  f1 : Free sb rb a c b
  f2 : Free sb rb a c qb
  f3 : Free sb rb a c pb
  gb : W.heap.size ≤ b
  gq : W.heap.size ≤ qb
  gp : W.heap.size ≤ pb
  gs : W.heap.size ≤ sb
  gr : W.heap.size ≤ rb
  ga : ∀ ad, a = some ad → W.heap.size ≤ ad.block
  bel : Below W.heap.size W w
section
variable {W w w' : World} {b qb pb sb rb : Nat} {pc1 pc pc' : Int} {fl1 fl fl' : Bool} {L1 L L' : List S} {ep1 ep ep' : Nat} {p1 p p' : P} {a a' : Option Addr} {cap cap' : Nat} {c c' : Option Addr} {k k' : Nat}
theorem FT.fg (h : FT W b qb pb sb rb pc fl L ep p a cap c k w) : FG W b qb pb sb rb pc fl L ep p pc fl L ep p a cap c k w := ⟨h.fs, h.rt, h.f1, h.f2, h.f3, h.gb, h.gq, h.gp, h.gs, h.gr, h.ga, h.bel⟩
theorem FG.ft (h : FG W b qb pb sb rb pc fl L ep p pc fl L ep p a cap c k w) (h64 : In64 pc) (hp : PW p) : FT W b qb pb sb rb pc fl L ep p a cap c k w := ⟨h.fs, h.rt, h.f1, h.f2, h.f3, h.gb, h.gq, h.gp, h.gs, h.gr, h.ga, h.bel, h64, hp⟩
theorem FG.big (h : FG W b qb pb sb rb pc1 fl1 L1 ep1 p1 pc fl L ep p a cap c k w) : W.heap.size ≤ w.heap.size := Nat.le_of_lt (Nat.lt_of_le_of_lt h.gs h.rt.sc.lt)
theorem FG.keep (h : FG W b qb pb sb rb pc1 fl1 L1 ep1 p1 pc fl L ep p a cap c k w) (g : w.grownBy w' none) : FG W b qb pb sb rb pc1 fl1 L1 ep1 p1 pc fl L ep p a cap c k w' :=
  ⟨(h.fs.keep g).base, h.rt.keep g, h.f1, h.f2, h.f3, h.gb, h.gq, h.gp, h.gs, h.gr, h.ga, below_none h.bel g h.big⟩
/-- Behind a call of the front. -/
theorem FG.front (h : FG W b qb pb sb rb pc1 fl1 L1 ep1 p1 pc fl L ep p a cap c k w) (hf : FS w w' b qb pb pc' fl' L' ep' p') : FG W b qb pb sb rb pc' fl' L' ep' p' pc fl L ep p a cap c k w' :=
  ⟨hf.base, h.rt.only3 hf.bel h.f1 h.f2 h.f3, h.f1, h.f2, h.f3, h.gb, h.gq, h.gp, h.gs, h.gr, h.ga,
    ⟨hf.bel.os.trans h.bel.os, hf.bel.tape.trans h.bel.tape, hf.bel.output.trans h.bel.output, Nat.le_trans h.bel.size hf.bel.size, fun i hi => (hf.bel.block i (Nat.lt_of_lt_of_le hi h.big) (by have := h.gb; omega) (by have := h.gq; omega) (by have := h.gp; omega)).trans (h.bel.block i hi)⟩⟩
/-- A block of the state's has turned. -/
theorem FG.turned (h : FG W b qb pb sb rb pc1 fl1 L1 ep1 p1 pc fl L ep p a cap c k w) {r : Option Nat} (g : w.grownBy w' r) (hr : ∀ x, r = some x → W.heap.size ≤ x ∧ ¬ Free sb rb a c x) (hrt : RT w' sb rb pc' fl' L' ep' p' a' cap' c' k')
    (ha : ∀ g, g < w.heap.size → Free sb rb a c g → Free sb rb a' c' g) (hga : ∀ ad, a' = some ad → W.heap.size ≤ ad.block) : FG W b qb pb sb rb pc1 fl1 L1 ep1 p1 pc' fl' L' ep' p' a' cap' c' k' w' := by
  have nb : some b ≠ r := fun e => (hr b e.symm).2 h.f1
  have nq : some qb ≠ r := fun e => (hr qb e.symm).2 h.f2
  have np : some pb ≠ r := fun e => (hr pb e.symm).2 h.f3
  refine ⟨⟨h.fs.fa.grown g nb, h.fs.ql.grown g nq, h.fs.pa.grown g np, h.fs.bq, h.fs.bp, h.fs.qp, Only3.refl _ _ _ _⟩, hrt, ha b h.fs.fa.2.2.2.2.2.2 h.f1, ha qb h.fs.ql.lt h.f2, ha pb h.fs.pa.lt h.f3, h.gb, h.gq, h.gp, h.gs, h.gr, hga, ?_⟩
  exact h.bel.grown g h.big (fun x e => (hr x e).1)
theorem FG.setPc (h : FG W b qb pb sb rb pc1 fl1 L1 ep1 p1 pc fl L ep p a cap c k w) (x : Int) : FG W b qb pb sb rb pc1 fl1 L1 ep1 p1 x fl L ep p a cap c k (w.setCell ⟨sb, 0, none⟩ (.int .u64 x)) :=
  h.turned (set_only w sb 0 _) (fun y e => by injection e with e; subst e; exact ⟨h.gs, fun f => f.s rfl⟩) (h.rt.setPc x) (fun _ _ f => f) h.ga
theorem FG.setEp (h : FG W b qb pb sb rb pc1 fl1 L1 ep1 p1 pc fl L ep p a cap c k w) (x : Nat) : FG W b qb pb sb rb pc1 fl1 L1 ep1 p1 pc fl L x p a cap c k (w.setCell ⟨sb, 1, none⟩ (.int .i64 x)) :=
  h.turned (set_only w sb 1 _) (fun y e => by injection e with e; subst e; exact ⟨h.gs, fun f => f.s rfl⟩) (h.rt.setEp x) (fun _ _ f => f) h.ga
theorem FG.setFl (h : FG W b qb pb sb rb pc1 fl1 L1 ep1 p1 pc fl L ep p a cap c k w) (x : Bool) : FG W b qb pb sb rb pc1 fl1 L1 ep1 p1 pc x L ep p a cap c k (w.setCell ⟨sb, 2, none⟩ (.bool x)) :=
  h.turned (set_only w sb 2 _) (fun y e => by injection e with e; subst e; exact ⟨h.gs, fun f => f.s rfl⟩) (h.rt.setFl x) (fun _ _ f => f) h.ga
theorem FG.setL (h : FG W b qb pb sb rb pc1 fl1 L1 ep1 p1 pc fl L ep p a cap c k w) {n' : Nat} (hn : L'.length = n') (hs : Slots w 0 a' cap' L') (ha : ∀ ad', a' = some ad' → ∃ ad, a = some ad ∧ ad'.block = ad.block) :
    FG W b qb pb sb rb pc1 fl1 L1 ep1 p1 pc fl L' ep p a' cap' c k (w.setCell ⟨sb, 3, none⟩ (.slice a' n' cap')) :=
  h.turned (set_only w sb 3 _) (fun y e => by injection e with e; subst e; exact ⟨h.gs, fun f => f.s rfl⟩) (h.rt.setL hn hs ha)
    (fun g _ f => ⟨f.s, f.r, fun ad' e => by obtain ⟨ad, e2, e3⟩ := ha ad' e; rw [e3]; exact f.a ad e2, f.c⟩) (fun ad' e => by obtain ⟨ad, e2, e3⟩ := ha ad' e; rw [e3]; exact h.ga ad e2)
theorem FG.clearS (h : FG W b qb pb sb rb pc1 fl1 L1 ep1 p1 pc fl L ep p a cap c k w) : FG W b qb pb sb rb pc1 fl1 L1 ep1 p1 pc fl L ep { p with n := 0 } a cap none 0 (w.setCell ⟨rb, 161, none⟩ (.slice none 0 0)) :=
  h.turned (set_only w rb 161 _) (fun y e => by injection e with e; subst e; exact ⟨h.gr, fun f => f.r rfl⟩) h.rt.clearS (fun g _ f => ⟨f.s, f.r, f.a, Apart.none_ _⟩) h.ga
theorem FG.learnt (h : FG W b qb pb sb rb pc1 fl1 L1 ep1 p1 pc fl L ep p a cap c k w) (g : w.grownBy w' (some rb)) {q : P} (hq : RAt w' rb c' k' q) (af : After w c c') : FG W b qb pb sb rb pc1 fl1 L1 ep1 p1 pc fl L ep q a cap c' k' w' :=
  h.turned g (fun y e => by injection e with e; subst e; exact ⟨h.gr, fun f => f.r rfl⟩) (h.rt.learnt g hq af) (fun x hx f => ⟨f.s, f.r, f.a, af x hx f.c⟩) h.ga
theorem FG.app (h : FG W b qb pb sb rb pc1 fl1 L1 ep1 p1 pc fl L ep p a cap c k w) {w1 : World} {x : S} {N : Nat} (g : w.grownBy w1 (own a)) (hN : L.length = N) (hs : SL w1 0 5 a' (N + 1) cap' (L.flatMap S.l ++ x.l)) (ho : own a' = own a ∨ own a' = some w.heap.size) :
    FG W b qb pb sb rb pc1 fl1 L1 ep1 p1 pc fl (L ++ [x]) ep p a' cap' c k (w1.setCell ⟨sb, 3, none⟩ (.slice a' (N + 1) cap')) := by
  have hh : RT w1 sb rb pc fl L ep p a cap c k ∨ True := .inr trivial
  have hg : ∀ y, own a = some y → W.heap.size ≤ y ∧ ¬ Free sb rb a c y := fun y e => by
    cases a with
    | none => cases e
    | some ad =>
      injection e with e
      subst e
      exact ⟨h.ga ad rfl, fun f => f.a ad rfl rfl⟩
  have hap : ∀ g, g < w.heap.size → Apart a g → Apart a' g := fun g hg hx ad' e => by
    rcases ho with ho | ho
    · cases a with
      | none => rw [e] at ho; cases ho
      | some ad =>
        rw [e] at ho
        have ho : ad'.block = ad.block := by injection ho
        rw [ho]; exact hx ad rfl
    · rw [e] at ho
      have ho : ad'.block = w.heap.size := by injection ho
      omega
  have nb : some b ≠ own a := fun e => (hg b e.symm).2 h.f1
  have nq : some qb ≠ own a := fun e => (hg qb e.symm).2 h.f2
  have np : some pb ≠ own a := fun e => (hg pb e.symm).2 h.f3
  have b1 := h.fs.fa.2.2.2.2.2.2
  have b2 := h.fs.ql.lt
  have b3 := h.fs.pa.lt
  have gs := set_only w1 sb 3 (.slice a' (N + 1) cap')
  have ff : ∀ g, g < w.heap.size → Free sb rb a c g → Free sb rb a' c g := fun g hg f => ⟨f.s, f.r, hap g hg f.a, f.c⟩
  refine ⟨⟨(h.fs.fa.grown g nb).grown gs (fun e => h.f1.s (by injection e)), (h.fs.ql.grown g nq).grown gs (fun e => h.f2.s (by injection e)), (h.fs.pa.grown g np).grown gs (fun e => h.f3.s (by injection e)), h.fs.bq, h.fs.bp, h.fs.qp, Only3.refl _ _ _ _⟩,
    h.rt.app g hN hs ho, ff b b1 h.f1, ff qb b2 h.f2, ff pb b3 h.f3, h.gb, h.gq, h.gp, h.gs, h.gr, fun ad' e => ?_, ?_⟩
  · rcases ho with ho | ho
    · cases a with
      | none => rw [e] at ho; cases ho
      | some ad =>
        rw [e] at ho
        have ho : ad'.block = ad.block := by injection ho
        rw [ho]; exact h.ga ad rfl
    · rw [e] at ho
      have ho : ad'.block = w.heap.size := by injection ho
      rw [ho]; exact h.big
  · have B1 := h.bel.grown g h.big (fun x e => (hg x e).1)
    exact below_only B1 gs (Nat.le_trans h.big g.size) h.gs
end
end Go.Proofs.Ytkjgklpdoomjcaa.Wide

/- CONTRACT OF THE DOCUMENT'S PRODUCT. -/
import Derived.Test.YtngegkonijljnaaMulQ
import Derived.Test.YtngegkonijljnaaMulU
namespace Go.Proofs.Ytngegkonijljnaa
open Go.RowKit
set_option linter.unusedVariables false
set_option linter.unusedSimpArgs false
set_option maxHeartbeats 1600000
theorem WB.set0 {w : World} {b : Nat} {h l : Int} (k : WB w b h l) (v : Int) : WB (w.setCell ⟨b, 0, none⟩ (.int .u64 v)) b v l := by
  obtain ⟨h0, h1, hf, hl⟩ := k
  exact ⟨setCell_same h0, setCell_off h1 (by omega), fun o => by rw [World.frozen?_setCell]; exact hf o, by rw [size_setCell]; exact hl⟩
theorem WB.set1 {w : World} {b : Nat} {h l : Int} (k : WB w b h l) (v : Int) : WB (w.setCell ⟨b, 1, none⟩ (.int .u64 v)) b h v := by
  obtain ⟨h0, h1, hf, hl⟩ := k
  exact ⟨setCell_off h0 (by omega), setCell_same h1, fun o => by rw [World.frozen?_setCell]; exact hf o, by rw [size_setCell]; exact hl⟩
theorem WB.other {w : World} {b c p : Nat} {h l : Int} (k : WB w b h l) (hne : c ≠ b) (v : Value) : WB (w.setCell ⟨c, p, none⟩ v) b h l := by
  obtain ⟨h0, h1, hf, hl⟩ := k
  exact ⟨by rw [World.cell?_setCell_other (h := by intro e; injection e with e1; exact hne e1)]; exact h0, by rw [World.cell?_setCell_other (h := by intro e; injection e with e1; exact hne e1)]; exact h1, fun o => by rw [World.frozen?_setCell]; exact hf o, by rw [size_setCell]; exact hl⟩
theorem WB.drew {w : World} {b : Nat} {h l : Int} (k : WB w b h l) : WB w.drew b h l := k
/-- Which bit of the second number a round looks at. -/
def bitAt (v : BitVec 128) (k : Nat) : Bool := decide (v.toNat / 2 ^ k % 2 = 1)
theorem bit_lo (v : BitVec 128) (k : Nat) (h : k < 64) : ((((lo v) >>> k &&& 1#64).toNat : Int) == 1) = bitAt v k := by
  rw [(bit_word (lo v) k).2, lo_nat]
  have e : v.toNat % 18446744073709551616 / 2 ^ k % 2 = v.toNat / 2 ^ k % 2 := by
    rw [← Nat.mod_mul_right_div_self (v.toNat % 18446744073709551616), Nat.mod_mod_of_dvd, Nat.mod_mul_right_div_self]
    rw [← Nat.pow_succ]
    exact (Nat.pow_dvd_pow 2 (by omega : k + 1 ≤ 64) : 2 ^ (k + 1) ∣ 2 ^ 64)
  rw [e]
  unfold bitAt
  by_cases c : v.toNat / 2 ^ k % 2 = 1
  · rw [c]; rfl
  · rw [decide_eq_false c]; exact beq_eq_false_iff_ne.2 (by omega)
theorem bit_hi (v : BitVec 128) (k : Nat) : ((((hi v) >>> k &&& 1#64).toNat : Int) == 1) = bitAt v (k + 64) := by
  rw [(bit_word (hi v) k).2, hi_nat]
  have e : v.toNat / 18446744073709551616 / 2 ^ k % 2 = v.toNat / 2 ^ (k + 64) % 2 := by
    rw [Nat.div_div_eq_div_mul, Nat.mul_comm, show (18446744073709551616 : Nat) = 2 ^ 64 from rfl, ← Nat.pow_add]
  rw [e]
  unfold bitAt
  by_cases c : v.toNat / 2 ^ (k + 64) % 2 = 1
  · rw [c]; rfl
  · rw [decide_eq_false c]; exact beq_eq_false_iff_ne.2 (by omega)
/-- Behind k rounds. -/
def Pr (u v : BitVec 128) (k : Nat) (p a : BitVec 128) : Prop := p.toNat = u.toNat * (v.toNat % 2 ^ k) % 2 ^ 128 ∧ a.toNat = u.toNat * 2 ^ k % 2 ^ 128
theorem pr_start (u v : BitVec 128) : Pr u v 0 0#128 u := by
  have := u.isLt
  refine ⟨by rw [Nat.pow_zero, Nat.mod_one]; rfl, by rw [Nat.pow_zero, Nat.mul_one, Nat.mod_eq_of_lt this]⟩
theorem pr_step (u v p a : BitVec 128) (k : Nat) (h : Pr u v k p a) : (bitAt v k = true → Pr u v (k + 1) (p + a) (a + a)) ∧ (bitAt v k = false → Pr u v (k + 1) p (a + a)) := by
  obtain ⟨h1, h2⟩ := h
  obtain ⟨s1, s2⟩ := prod_step u.toNat v.toNat k (2 ^ 128) p.toNat a.toNat h1 h2
  unfold Pr bitAt
  rw [BitVec.toNat_add, BitVec.toNat_add]
  refine ⟨fun hb => ?_, fun hb => ?_⟩
  · rw [if_pos (of_decide_eq_true hb)] at s2
    exact ⟨s2, s1⟩
  · rw [if_neg (of_decide_eq_false hb)] at s2
    exact ⟨s2, s1⟩
theorem pr_end (u v p a : BitVec 128) (h : Pr u v 128 p a) : p = u * v := by
  apply BitVec.eq_of_toNat_eq
  rw [h.1, BitVec.toNat_mul, Nat.mod_eq_of_lt v.isLt]
/-- The four blocks of a product. -/
def H4 (w wr : World) (s : Nat) (ah al vh vl ph pl : Int) : Prop := WB wr s ah al ∧ WB wr (s + 1) vh vl ∧ WB wr (s + 1 + 1) 0 0 ∧ WB wr (s + 1 + 1 + 1) ph pl ∧ Below s w wr
theorem H4.later {w wr w' : World} {s : Nat} {ah al vh vl ph pl : Int} (h : H4 w wr s ah al vh vl ph pl) (k : Below wr.heap.size wr w') : H4 w w' s ah al vh vl ph pl := by
  obtain ⟨h1, h2, h3, h4, h5⟩ := h
  exact ⟨h1.later k h1.2.2.2, h2.later k h2.2.2.2, h3.later k h3.2.2.2, h4.later k h4.2.2.2, h5.trans (k.mono (Nat.le_of_lt h1.2.2.2))⟩
theorem H4.setP {w wr : World} {s : Nat} {ah al vh vl ph pl : Int} (h : H4 w wr s ah al vh vl ph pl) (x y : Int) : H4 w ((wr.setCell ⟨s + 1 + 1 + 1, 0, none⟩ (.int .u64 x)).setCell ⟨s + 1 + 1 + 1, 1, none⟩ (.int .u64 y)) s ah al vh vl x y := by
  obtain ⟨h1, h2, h3, h4, h5⟩ := h
  exact ⟨(h1.other (by omega) _).other (by omega) _, (h2.other (by omega) _).other (by omega) _, (h3.other (by omega) _).other (by omega) _, (h4.set0 _).set1 _, (h5.setCell (show s ≤ s + 1 + 1 + 1 by omega) _).setCell (show s ≤ s + 1 + 1 + 1 by omega) _⟩
theorem H4.setA {w wr : World} {s : Nat} {ah al vh vl ph pl : Int} (h : H4 w wr s ah al vh vl ph pl) (x y : Int) : H4 w ((wr.setCell ⟨s, 0, none⟩ (.int .u64 x)).setCell ⟨s, 1, none⟩ (.int .u64 y)) s x y vh vl ph pl := by
  obtain ⟨h1, h2, h3, h4, h5⟩ := h
  exact ⟨(h1.set0 _).set1 _, (h2.other (by omega) _).other (by omega) _, (h3.other (by omega) _).other (by omega) _, (h4.other (by omega) _).other (by omega) _, (h5.setCell (by simp) _).setCell (by simp) _⟩
theorem H4.start (w : World) (ah al vh vl : Int) : H4 w ((((w.alloc (.cells #[.int .u64 ah, .int .u64 al] 51)).alloc (.cells #[.int .u64 vh, .int .u64 vl] 51)).alloc (.cells #[.int .u64 0, .int .u64 0] 51)).alloc (.cells #[.int .u64 0, .int .u64 0] 51)) w.heap.size ah al vh vl 0 0 := by
  refine ⟨?_, ?_, ?_, ?_, ?_⟩
  · exact ((((WB.new w _ _ _).later (below_alloc _ _) (by simp)).later (below_alloc _ _) (by simp; omega)).later (below_alloc _ _) (by simp; omega))
  · exact (((WB.new2 w _ _ _ _).later (below_alloc _ _) (by simp)).later (below_alloc _ _) (by simp))
  · have := WB.new2 (w.alloc (.cells #[.int .u64 ah, .int .u64 al] 51)) (.cells #[.int .u64 vh, .int .u64 vl] 51) 0 0 51
    rw [World.size_alloc] at this
    exact this.later (below_alloc _ _) (by simp)
  · have := WB.new2 ((w.alloc (.cells #[.int .u64 ah, .int .u64 al] 51)).alloc (.cells #[.int .u64 vh, .int .u64 vl] 51)) (.cells #[.int .u64 0, .int .u64 0] 51) 0 0 51
    rw [World.size_alloc, World.size_alloc] at this
    exact this
  · exact (below_alloc2 _ _ _).trans ((below_alloc2 _ _ _).mono (by simp; omega))
set_option maxRecDepth 100000 in
theorem product_c (u v : BitVec 128) (w : World) : Calls Try.prog 30 #[D u, D v] w fun e w' => e = .returned (D (u * v)) ∧ Below w.heap.size w w' := by
  have PS := hide (pr_start u v)
  have PT := hide (pr_step u v)
  have PE := hide (pr_end u v)
  have BL := hide (bit_lo v)
  have BH := hide (bit_hi v)
  have AC := add_c
  have TC := twice_c
  unfold D at AC TC ⊢
  replace AC := hide AC
  replace TC := hide TC
  have z1 : ((1#64).toNat : Int) = 1 := rfl
  have z0 : ((0#64).toNat : Int) = 0 := rfl
  have h0 : hi 0#128 = 0#64 := by decide
  have l0 : lo 0#128 = 0#64 := by decide
  generalize hres : hi (u * v) = rh at *
  generalize lres : lo (u * v) = rl at *
  have RES := hide (And.intro hres lres)
  clear hres lres
  generalize hvh : hi v = vh at *
  generalize hvl : lo v = vl at *
  clear hvh hvl
  go_enter Try.func30, Try.ntmps30
  go_wp2_with fail
  go_loopg [6, 7] 128 (fun g vk vb wr => ∃ (k : Nat) (p a : BitVec 128), Hid (k + g = 128) ∧ k ≤ 128 ∧ vk = .int .i64 k ∧ Hid (Pr u v k p a) ∧ Hid (H4 w wr w.heap.size (hi a).toNat (lo a).toNat vh.toNat vl.toNat (hi p).toNat (lo p).toNat))
  case atStart =>
    refine ⟨0, 0#128, u, by unfold Hid; omega, by omega, rfl, PS, ?_⟩
    have := H4.start w (hi u).toNat (lo u).toNat vh.toNat vl.toNat
    rw [h0, l0, z0]
    exact this
  case round =>
    obtain ⟨k, p, a, hkg, hk, rfl, hP, hH⟩ := hrel
    have PN := hide (PT.out p a k hP.out)
    obtain ⟨⟨a0, a1, af, al⟩, ⟨v0, v1, vf, vll⟩, ⟨r0, r1, rf, rl'⟩, ⟨q0, q1, qf, ql⟩, HB⟩ := hH.out
    have HB' := hide HB
    clear HB
    by_cases hk1 : k < 128
    · have dk : decide ((k : Int) < 128) = true := decide_eq_true (by omega)
      have wk : IntKind.u64.wrap (k : Int) = k := by rw [IntKind.wrap_u64]; omega
      have wk1 : wrap64 ((k : Int) + 1) = ((k + 1 : Nat) : Int) := by unfold wrap64; omega
      have s1 := shr64 vl k
      have n1 := and64 (vl >>> k) 1#64
      rw [z1] at n1
      by_cases hk2 : k < 64
      · have dk2 : decide (63 < (k : Int)) = false := decide_eq_false (by omega)
        have bt := BL.out k hk2
        generalize vl >>> k &&& 1#64 = bw at *
        generalize vl >>> k = xs at *
        cases hbb : bitAt v k
        · rw [hbb] at bt
          have hbit := hide hbb
          clear hbb
          go_wp2_with fail
          refine (TC.out a _).mono ?_
          rintro e w2 ⟨rfl, hb⟩
          have H2 := hide (hH.out.later hb)
          clear hb
          simp only []
          have HA := hide (H2.out.setA (hi (a + a)).toNat (lo (a + a)).toNat)
          obtain ⟨⟨x0, x1, xf, xl⟩, ⟨y0, y1, yf, yl⟩, _, ⟨p0, p1, pf, pl⟩, _⟩ := H2.out
          go_wp2
          go_roundg (128 - (k + 1))
          case measure => have := hkg.out; omega
          case rel => exact ⟨k + 1, p, a + a, by unfold Hid; omega, by omega, by go_num, (PN.out.2 hbit.out), HA⟩
        · rw [hbb] at bt
          have hbit := hide hbb
          clear hbb
          go_wp2_with fail
          refine (AC.out p a _).mono ?_
          rintro e w1 ⟨rfl, hb⟩
          have H1 := hide (hH.out.later hb)
          clear hb
          simp only []
          have HP := hide (H1.out.setP (hi (p + a)).toNat (lo (p + a)).toNat)
          obtain ⟨⟨x0, x1, xf, xl⟩, ⟨y0, y1, yf, yl⟩, _, ⟨p0, p1, pf, pl⟩, _⟩ := H1.out
          go_wp2_with fail
          refine (TC.out a _).mono ?_
          rintro e w2 ⟨rfl, hb⟩
          have H2 := hide (HP.out.later hb)
          clear hb x0 x1 xf xl y0 y1 yf yl p0 p1 pf pl
          simp only []
          have HA := hide (H2.out.setA (hi (a + a)).toNat (lo (a + a)).toNat)
          obtain ⟨⟨x0, x1, xf, xl⟩, ⟨y0, y1, yf, yl⟩, _, ⟨p0, p1, pf, pl⟩, _⟩ := H2.out
          go_wp2
          go_roundg (128 - (k + 1))
          case measure => have := hkg.out; omega
          case rel => exact ⟨k + 1, p + a, a + a, by unfold Hid; omega, by omega, by go_num, (PN.out.1 hbit.out), HA⟩
      · have dk2 : decide (63 < (k : Int)) = true := decide_eq_true (by omega)
        have bt := BH.out (k - 64)
        rw [show k - 64 + 64 = k from by omega] at bt
        have s2 := shr64 vh (k - 64)
        have n2 := and64 (vh >>> (k - 64)) 1#64
        rw [z1] at n2
        generalize vh >>> (k - 64) &&& 1#64 = bw at *
        generalize vh >>> (k - 64) = xs at *
        generalize vl >>> k &&& 1#64 = bw2 at *
        generalize vl >>> k = xs2 at *
        skip
        cases hbb : bitAt v k
        · rw [hbb] at bt
          have hbit := hide hbb
          clear hbb
          go_wp2_with fail
          refine (TC.out a _).mono ?_
          rintro e w2 ⟨rfl, hb⟩
          have H2 := hide (hH.out.later hb)
          clear hb
          simp only []
          have HA := hide (H2.out.setA (hi (a + a)).toNat (lo (a + a)).toNat)
          obtain ⟨⟨x0, x1, xf, xl⟩, ⟨y0, y1, yf, yl⟩, _, ⟨p0, p1, pf, pl⟩, _⟩ := H2.out
          go_wp2
          go_roundg (128 - (k + 1))
          case measure => have := hkg.out; omega
          case rel => exact ⟨k + 1, p, a + a, by unfold Hid; omega, by omega, by go_num, (PN.out.2 hbit.out), HA⟩
        · rw [hbb] at bt
          have hbit := hide hbb
          clear hbb
          go_wp2_with fail
          refine (AC.out p a _).mono ?_
          rintro e w1 ⟨rfl, hb⟩
          have H1 := hide (hH.out.later hb)
          clear hb
          simp only []
          have HP := hide (H1.out.setP (hi (p + a)).toNat (lo (p + a)).toNat)
          obtain ⟨⟨x0, x1, xf, xl⟩, ⟨y0, y1, yf, yl⟩, _, ⟨p0, p1, pf, pl⟩, _⟩ := H1.out
          go_wp2_with fail
          refine (TC.out a _).mono ?_
          rintro e w2 ⟨rfl, hb⟩
          have H2 := hide (HP.out.later hb)
          clear hb x0 x1 xf xl y0 y1 yf yl p0 p1 pf pl
          simp only []
          have HA := hide (H2.out.setA (hi (a + a)).toNat (lo (a + a)).toNat)
          obtain ⟨⟨x0, x1, xf, xl⟩, ⟨y0, y1, yf, yl⟩, _, ⟨p0, p1, pf, pl⟩, _⟩ := H2.out
          go_wp2
          go_roundg (128 - (k + 1))
          case measure => have := hkg.out; omega
          case rel => exact ⟨k + 1, p + a, a + a, by unfold Hid; omega, by omega, by go_num, (PN.out.1 hbit.out), HA⟩
    · obtain rfl : k = 128 := by omega
      have E := PE.out p a hP.out
      obtain ⟨e1, e2⟩ := RES.out
      rw [← E] at e1 e2
      subst e1 e2
      clear E hkg hk hk1
      go_wp2
      refine bodyPost_ret (v := .agg #[.int .u64 (hi p).toNat, .int .u64 (lo p).toNat]) (by simp [results, Try.results30, go_sem, *]) rfl ?_
      exact ⟨rfl, (HB'.out.setCell (by simp; omega) _).setCell (by simp; omega) _⟩
end Go.Proofs.Ytngegkonijljnaa


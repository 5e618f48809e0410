/-
  Printed by a program of this session out of the loaded functions: models and their proofs. Own text.
-/
import Derived.Test.YtbkdglcedgiogaaGreatPBits2
import Derived.Test.YtbkdglcedgiogaaGreatRXO
import Derived.Test.YtbkdglcedgiogaaGreatPLoop
/- Plain law: OptionWastes. Own work. -/
namespace Go.Proofs.YtbkdglcedgiogaaGreat.M
open Go Go.Proofs Go.Proofs.YtbkdglcedgiogaaGreat.V
open Go.IntKind (i64)
set_option linter.unusedVariables false
set_option maxRecDepth 20000
set_option maxHeartbeats 4000000

def sumCpu (l : List T_api_Pod) : Nat := (l.map fun p => p.Need.Cpu.toNat).sum
def sumMem (l : List T_api_Pod) : Nat := (l.map fun p => p.Need.Mem.toNat).sum
def wasteN (l : List T_api_Pod) (has : T_api_Res) (n : Nat) : Nat := (partN (n * has.Cpu.toNat) (sumCpu l) + partN (n * has.Mem.toNat) (sumMem l)) / 2
theorem wasteN_le (l : List T_api_Pod) (has : T_api_Res) (n : Nat) : wasteN l has n ≤ 1000 := by
  have h1 := partN_le (n * has.Cpu.toNat) (sumCpu l)
  have h2 := partN_le (n * has.Mem.toNat) (sumMem l)
  unfold wasteN; omega
theorem sum_bound {l : List T_api_Pod} (hl : l.length ≤ 60) (h : ∀ p, p ∈ l → resOK p.Need = true) : sumCpu l ≤ 60 * 1125899906842624 ∧ sumMem l ≤ 60 * 1125899906842624 := by
  have key : ∀ l : List T_api_Pod, (∀ p, p ∈ l → resOK p.Need = true) → sumCpu l ≤ l.length * 1125899906842624 ∧ sumMem l ≤ l.length * 1125899906842624 := by
    intro l
    induction l with
    | nil => intro _; exact ⟨Nat.le_refl _, Nat.le_refl _⟩
    | cons p l ih =>
      intro h
      obtain ⟨a, b⟩ := ih fun q hq => h q (List.mem_cons_of_mem _ hq)
      have hp := (resOK_iff p.Need).1 (h p (List.mem_cons_self ..))
      unfold sumCpu sumMem at *
      simp only [List.map_cons, List.sum_cons, List.length_cons]
      omega
  obtain ⟨a, b⟩ := key l h
  exact ⟨Nat.le_trans a (Nat.mul_le_mul_right _ hl), Nat.le_trans b (Nat.mul_le_mul_right _ hl)⟩
theorem waste_l2 {l : List T_api_Pod} (h : ∀ p, p ∈ l → resOK p.Need = true) : ∀ (k : Nat) (acc : Nat), acc + l.length * 1125899906842624 < 9000000000000000000 → option_Waste.l2 0 l k (acc : Int) = some ((acc + sumCpu l : Nat) : Int) ∧ option_Waste.l2 1 l k (acc : Int) = some ((acc + sumMem l : Nat) : Int) := by
  induction l with
  | nil => intro k acc _; exact ⟨rfl, rfl⟩
  | cons p l ih =>
    intro k acc hb
    rw [List.length_cons] at hb
    have hp := (resOK_iff p.Need).1 (h p (List.mem_cons_self ..))
    have ih' := ih fun q hq => h q (List.mem_cons_of_mem _ hq)
    constructor
    · rw [option_Waste.l2, show option_amount p.Need 0 = some p.Need.Cpu from rfl, Option.bind_some, show (acc : Int) + p.Need.Cpu = ((acc + p.Need.Cpu.toNat : Nat) : Int) by omega, w_eq (by omega) (by omega), (ih' (k + 1) _ (by omega)).1]
      congr 2; unfold sumCpu; simp only [List.map_cons, List.sum_cons]; omega
    · rw [option_Waste.l2, show option_amount p.Need 1 = some p.Need.Mem from rfl, Option.bind_some, show (acc : Int) + p.Need.Mem = ((acc + p.Need.Mem.toNat : Nat) : Int) by omega, w_eq (by omega) (by omega), (ih' (k + 1) _ (by omega)).2]
      congr 2; unfold sumMem; simp only [List.map_cons, List.sum_cons]; omega
theorem nhas {n : Nat} {x : Int} (hn : n ≤ 200) (h : 0 ≤ x ∧ x ≤ 1125899906842624) : i64.wrap ((n : Int) * x) = ((n * x.toNat : Nat) : Int) ∧ n * x.toNat ≤ 225179981368524800 := by
  obtain ⟨y, rfl⟩ : ∃ y : Nat, x = (y : Int) := ⟨x.toNat, by omega⟩
  rw [Int.toNat_natCast]
  have hy : y ≤ 1125899906842624 := by omega
  have hb : n * y ≤ 200 * 1125899906842624 := Nat.mul_le_mul hn hy
  obtain ⟨z, hz⟩ : ∃ z, n * y = z := ⟨_, rfl⟩
  rw [hz] at hb ⊢
  rw [← Int.natCast_mul, hz]
  exact ⟨w_eq (by omega) (by omega), by omega⟩
theorem Waste_P {l : List T_api_Pod} {like : T_api_Machine} {n : Nat} (hl : l.length ≤ 60) (h : ∀ p, p ∈ l → resOK p.Need = true) (hm : resOK like.Has = true) (hn : 1 ≤ n) (hn2 : n ≤ 200) : option_Waste l like (n : Int) = some ((wasteN l like.Has n : Nat) : Int) := by
  have hR := (resOK_iff like.Has).1 hm
  obtain ⟨s1, s2⟩ := sum_bound hl h
  obtain ⟨a1, a2⟩ := nhas hn2 hR.1
  obtain ⟨b1, b2⟩ := nhas hn2 hR.2.1
  obtain ⟨g1, g2⟩ := waste_l2 h 0 0 (by omega)
  have p1 := partN_le (n * like.Has.Cpu.toNat) (sumCpu l)
  have p2 := partN_le (n * like.Has.Mem.toNat) (sumMem l)
  unfold option_Waste
  rw [if_neg (by simp only [decide_eq_true_eq]; omega)]
  obtain ⟨f, hf⟩ := fu6
  rw [hf, option_Waste.l1, if_pos (by decide), show (0 : Int) = ((0 : Nat) : Int) from rfl] 
  rw [show ((0 : Nat) : Int) = 0 from rfl] at g1 g2 ⊢
  rw [g1, Option.bind_some, show option_amount like.Has 0 = some like.Has.Cpu from rfl, Option.bind_some, a1, part_P (by omega) (by omega), Option.bind_some, show (0 : Int) + 1 = 1 from rfl, show i64.wrap 1 = 1 from rfl]
  rw [option_Waste.l1, if_pos (by decide), g2, Option.bind_some, show option_amount like.Has 1 = some like.Has.Mem from rfl, Option.bind_some, b1, part_P (by omega) (by omega), Option.bind_some, show i64.wrap (1 + 1) = 2 from rfl]
  rw [option_Waste.l1, if_neg (by decide), Option.bind_some]
  rw [Nat.zero_add, Nat.zero_add]
  obtain ⟨x, hx⟩ : ∃ x, partN (n * like.Has.Cpu.toNat) (sumCpu l) = x := ⟨_, rfl⟩
  obtain ⟨y, hy⟩ : ∃ y, partN (n * like.Has.Mem.toNat) (sumMem l) = y := ⟨_, rfl⟩
  unfold wasteN
  rw [hx] at p1
  rw [hy] at p2
  rw [hx, hy, w_eq (x := 0 + (x : Int)) (by omega) (by omega), w_eq (x := 0 + (x : Int) + (y : Int)) (by omega) (by omega), show 0 + (x : Int) + (y : Int) = ((x + y : Nat) : Int) by omega, show (2 : Int) = ((2 : Nat) : Int) from rfl, quo_nat (by omega), Option.bind_some, w_eq (by omega) (by omega)]

/-! as the document says -/
theorem part_R {has needs : Nat} (h1 : has < 288230376151711744) (h2 : needs < 288230376151711744) : ref20_part (has : Int) (needs : Int) = some ((partN has needs : Nat) : Int) := by
  unfold ref20_part
  by_cases h : has = 0 ∨ needs ≥ has
  · rw [if_pos (by simp only [Bool.or_eq_true, decide_eq_true_eq]; omega)]
    unfold partN; rw [if_pos h]; rfl
  · rw [if_neg (by simp only [Bool.or_eq_true, decide_eq_true_eq]; omega)]
    obtain ⟨r, hr⟩ : ∃ r, r = has - needs := ⟨_, rfl⟩
    have hre : i64.wrap ((has : Int) - (needs : Int)) = (r : Int) := by rw [w_eq (by omega) (by omega)]; omega
    have key : ∀ (m i f n over z : Nat), 1000 - i ≤ m → m < f → i ≤ 1000 → n ≤ i → over < has → n * has = z → z + over = i * r → ∃ n', ref20_part.l1 (has : Int) (needs : Int) f (n : Int) (over : Int) (i : Int) = some ((n' : Nat) : Int) ∧ ∃ o, n' * has + o = 1000 * r ∧ o < has := by
      intro m
      induction m with
      | zero =>
        intro i f n over z a1 a2 a3 a4 a5 a6 a7
        obtain ⟨f, rfl⟩ : ∃ n', f = n' + 1 := ⟨f - 1, by omega⟩
        have : i = 1000 := by omega
        subst this
        rw [ref20_part.l1, if_neg (by decide)]
        exact ⟨n, rfl, over, by rw [a6]; exact a7, a5⟩
      | succ m ih =>
        intro i f n over z a1 a2 a3 a4 a5 a6 a7
        obtain ⟨f, rfl⟩ : ∃ n', f = n' + 1 := ⟨f - 1, by omega⟩
        by_cases hi : i < 1000
        · have hir : (i + 1) * r = i * r + r := by rw [Nat.add_mul]; omega
          rw [ref20_part.l1, if_pos (by simp only [decide_eq_true_eq]; omega), hre, w_eq (x := (over : Int) + (r : Int)) (by omega) (by omega), wk1 (k := i) (by omega)]
          by_cases hc : over + r ≥ has
          · rw [if_pos (by simp only [decide_eq_true_eq]; omega), wk1 (k := n) (by omega), w_eq (by omega) (by omega), show (over : Int) + (r : Int) - (has : Int) = ((over + r - has : Nat) : Int) by omega]
            refine ih (i + 1) f (n + 1) (over + r - has) (z + has) (by omega) (by omega) (by omega) (by omega) (by omega) (by rw [Nat.add_mul, a6]; omega) (by omega)
          · rw [if_neg (by simp only [decide_eq_true_eq]; omega), show (over : Int) + (r : Int) = ((over + r : Nat) : Int) by omega]
            refine ih (i + 1) f n (over + r) z (by omega) (by omega) (by omega) (by omega) (by omega) a6 (by omega)
        · have : i = 1000 := by omega
          subst this
          rw [ref20_part.l1, if_neg (by decide)]
          exact ⟨n, rfl, over, by rw [a6]; exact a7, a5⟩
    obtain ⟨n', g1, o, g2, g3⟩ := key 1000 0 FU 0 0 0 (by omega) (by unfold FU; omega) (by omega) (by omega) (by omega) (by omega) (by omega)
    rw [show ((0 : Nat) : Int) = 0 from rfl] at g1
    rw [g1, Option.bind_some]
    unfold partN
    rw [if_neg h, ← hr]
    congr 2
    symm
    rw [Nat.mul_comm r, ← g2, Nat.mul_comm n', Nat.mul_add_div (by omega), Nat.div_eq_of_lt g3]
    omega
theorem Waste_R {l : List T_api_Pod} {like : T_api_Machine} {n : Nat} (hl : l.length ≤ 60) (h : ∀ p, p ∈ l → resOK p.Need = true) (hm : resOK like.Has = true) (hn : 1 ≤ n) (hn2 : n ≤ 200) : ref20_Waste l like (n : Int) = some ((wasteN l like.Has n : Nat) : Int) := by
  have hR := (resOK_iff like.Has).1 hm
  obtain ⟨s1, s2⟩ := sum_bound hl h
  obtain ⟨a1, a2⟩ := nhas hn2 hR.1
  obtain ⟨b1, b2⟩ := nhas hn2 hR.2.1
  have p1 := partN_le (n * like.Has.Cpu.toNat) (sumCpu l)
  have p2 := partN_le (n * like.Has.Mem.toNat) (sumMem l)
  unfold ref20_Waste
  rw [if_neg (by simp only [decide_eq_true_eq]; omega)]
  have key : ∀ (m k f c e : Nat), l.length - k ≤ m → m < f → k ≤ l.length → c + sumCpu (l.drop k) = sumCpu l → e + sumMem (l.drop k) = sumMem l → ref20_Waste.l1 l f (c : Int) (e : Int) (k : Int) = some ((sumCpu l : Int), (sumMem l : Int)) := by
    intro m
    induction m with
    | zero =>
      intro k f c e h1 h2 h3 h4 h5
      obtain ⟨f, rfl⟩ : ∃ n', f = n' + 1 := ⟨f - 1, by omega⟩
      have : k = l.length := by omega
      subst this
      rw [List.drop_eq_nil_of_le (Nat.le_refl _)] at h4 h5
      rw [ref20_Waste.l1, if_neg dnl]
      have h4 : c = sumCpu l := h4
      have h5 : e = sumMem l := h5
      rw [h4, h5]
    | succ m ih =>
      intro k f c e h1 h2 h3 h4 h5
      obtain ⟨f, rfl⟩ : ∃ n', f = n' + 1 := ⟨f - 1, by omega⟩
      by_cases hk : k < l.length
      · have hp := (resOK_iff l[k].Need).1 (h _ (List.getElem_mem hk))
        rw [List.drop_eq_getElem_cons hk] at h4 h5
        have h4 : c + (l[k].Need.Cpu.toNat + sumCpu (l.drop (k + 1))) = sumCpu l := by rw [← h4]; unfold sumCpu; simp only [List.map_cons, List.sum_cons]
        have h5 : e + (l[k].Need.Mem.toNat + sumMem (l.drop (k + 1))) = sumMem l := by rw [← h5]; unfold sumMem; simp only [List.map_cons, List.sum_cons]
        rw [ref20_Waste.l1, if_pos (dlt hk), glk hk, wk1 (by omega)]
        simp only [Option.bind_some]
        rw [show (c : Int) + l[k].Need.Cpu = ((c + l[k].Need.Cpu.toNat : Nat) : Int) by omega, show (e : Int) + l[k].Need.Mem = ((e + l[k].Need.Mem.toNat : Nat) : Int) by omega, w_eq (by omega) (by omega), w_eq (by omega) (by omega)]
        exact ih (k + 1) f _ _ (by omega) (by omega) (by omega) (by omega) (by omega)
      · have : k = l.length := by omega
        subst this
        rw [List.drop_eq_nil_of_le (Nat.le_refl _)] at h4 h5
        rw [ref20_Waste.l1, if_neg dnl]
        have h4 : c = sumCpu l := h4
        have h5 : e = sumMem l := h5
        rw [h4, h5]
  have hk := key l.length 0 FU 0 0 (by omega) (by unfold FU; omega) (by omega) (by simp) (by simp)
  rw [show ((0 : Nat) : Int) = 0 from rfl] at hk
  rw [hk, Option.bind_some]
  simp only
  rw [a1, b1, part_R (by omega) (by omega), Option.bind_some, part_R (by omega) (by omega), Option.bind_some]
  obtain ⟨x, hx⟩ : ∃ x, partN (n * like.Has.Cpu.toNat) (sumCpu l) = x := ⟨_, rfl⟩
  obtain ⟨y, hy⟩ : ∃ y, partN (n * like.Has.Mem.toNat) (sumMem l) = y := ⟨_, rfl⟩
  unfold wasteN
  rw [hx] at p1
  rw [hy] at p2
  rw [hx, hy, w_eq (x := (x : Int) + (y : Int)) (by omega) (by omega), show (x : Int) + (y : Int) = ((x + y : Nat) : Int) by omega, show (2 : Int) = ((2 : Nat) : Int) from rfl, quo_nat (by omega), Option.bind_some, w_eq (by omega) (by omega)]

theorem known20_true : law20_known = some true := by kernel_rfl
theorem OptionWastes_true {a b c : Prop} (l : List T_api_Pod) (like : T_api_Machine) (n : Int) (_ : a) (_ : b) (_ : c) : law20_OptionWastes l like n = some true := by
  unfold law20_OptionWastes
  rw [known20_true]
  by_cases h1 : (decide ((l.length : Int) > 60) || decide (n > 200)) = true
  · rw [if_pos h1]; rfl
  · rw [if_neg h1]
    simp only [Bool.or_eq_true, decide_eq_true_eq, not_or] at h1
    obtain ⟨b, hb, hl⟩ := ref07_LightMachine_eq like
    rw [hb]
    cases b with
    | false => rfl
    | true =>
      have hl := hl rfl
      obtain ⟨b, hr⟩ := RMach_tot hl
      simp only [Option.bind_some, Bool.not_true, Bool.false_eq_true, if_false]
      rw [hr]
      cases b with
      | false => rfl
      | true =>
        simp only [Option.bind_some, Bool.not_true, Bool.false_eq_true, if_false]
        rcases loopI (F := fun f i => law20_OptionWastes.l1 l f i) (Q := fun r => r = true) (S := fun k => ∀ h : k < l.length, resOK l[k].Need = true) (len := l.length) (by omega) (fun f k hk => by
            rw [law20_OptionWastes.l1, if_pos (dlt hk), glk hk, wk1 (by omega), known20_true]
            simp only [Option.bind_some]
            obtain ⟨b, hb, hp⟩ := ref07_LightPod_eq l[k]
            rw [hb]
            cases b with
            | false => exact .inl ⟨true, rfl, rfl⟩
            | true =>
              have hp := hp rfl
              obtain ⟨b, hr⟩ := RPod_tot hp
              simp only [Option.bind_some, Bool.not_true, Bool.false_eq_true, if_false]
              rw [hr]
              cases b with
              | false => exact .inl ⟨true, rfl, rfl⟩
              | true => exact .inr ⟨rfl, fun _ => (RPod_need hp hr).1⟩) (fun f => by rw [law20_OptionWastes.l1, if_neg dnl]) with ⟨r, g1, g2⟩ | ⟨g1, g2⟩
        · rw [g1, g2]; rfl
        · rw [g1]
          simp only [Option.bind_some, Out.on]
          by_cases hn : n < 1
          · have e1 : option_Waste l like n = some 0 := by unfold option_Waste; rw [if_pos (by simpa using hn)]
            have e2 : ref20_Waste l like n = some 0 := by unfold ref20_Waste; rw [if_pos (by simpa using hn)]
            rw [e1, e2]; rfl
          · obtain ⟨k, rfl⟩ : ∃ k : Nat, n = (k : Int) := ⟨n.toNat, by omega⟩
            have hp : ∀ p, p ∈ l → resOK p.Need = true := fun p hp => by
              obtain ⟨i, hi, rfl⟩ := List.getElem_of_mem hp
              exact g2 i hi hi
            have hm := RMach_has hl hr
            rw [Waste_P (by omega) hp hm (by omega) (by omega), Waste_R (by omega) hp hm (by omega) (by omega)]
            have hw := wasteN_le l like.Has k
            simp only [Option.bind_some]
            rw [if_pos]
            · rfl
            simp only [Bool.and_eq_true, decide_eq_true_eq, beq_self_eq_true]
            exact ⟨⟨trivial, by omega⟩, by omega⟩
end Go.Proofs.YtbkdglcedgiogaaGreat.M
/-
  Plain Lean: loops that go on while something is so. Own text.
-/
namespace Go.Proofs.YtbkdglcedgiogaaGreat.M
open Go Go.Proofs Go.Proofs.YtbkdglcedgiogaaGreat.V
set_option linter.unusedVariables false

def allN (n : Nat) (q : Nat → Bool) : Bool := (List.range n).all q
theorem allN_iff {n : Nat} {q : Nat → Bool} : allN n q = true ↔ ∀ k, k < n → q k = true := by simp [allN]
theorem allN_not {n : Nat} {q : Nat → Bool} : allN n q = false ↔ ∃ k, k < n ∧ q k = false := by simp [allN]

/-- A loop by an index, that goes on while something is so. -/
theorem idxAll {ρ : Type} {F : Nat → Int → Option (Out ρ Unit)} {len : Nat} {r0 : ρ} (q : Nat → Bool) (hl : len < 1000000000000)
    (hs : ∀ n (k : Nat), k < len → F (n + 1) (k : Int) = if q k = true then F n ((k + 1 : Nat) : Int) else some (Out.ret r0))
    (he : ∀ n, F (n + 1) (len : Int) = some (Out.go ())) : F FU 0 = some (if allN len q = true then Out.go () else Out.ret r0) := by
  rcases loopI (Q := fun r => r = r0 ∧ allN len q = false) (S := fun k => k < len → q k = true) hl (fun n k hk => by
      rw [hs n k hk]
      cases h : q k with
      | true => exact .inr ⟨rfl, fun _ => rfl⟩
      | false => exact .inl ⟨_, rfl, rfl, allN_not.2 ⟨k, hk, h⟩⟩) he with ⟨r, h1, rfl, h3⟩ | ⟨h1, h2⟩
  · rw [h1, if_neg (by rw [h3]; simp)]
  · rw [h1, if_pos (allN_iff.2 fun k hk => h2 k hk hk)]

/-- A loop over a row. -/
theorem rowAll {α ρ : Type} {G : List α → Nat → Option (Out ρ Unit)} {l : List α} {r0 : ρ} (q : Nat → Bool)
    (hs : ∀ (k : Nat) (hk : k < l.length), G (l[k] :: l.drop (k + 1)) k = if q k = true then G (l.drop (k + 1)) (k + 1) else some (Out.ret r0))
    (he : ∀ k, G [] k = some (Out.go ())) : G l 0 = some (if allN l.length q = true then Out.go () else Out.ret r0) := by
  have key : ∀ (m k : Nat), l.length - k = m → ((∀ j, k ≤ j → j < l.length → q j = true) → G (l.drop k) k = some (Out.go ())) ∧ ((∃ j, k ≤ j ∧ j < l.length ∧ q j = false) → G (l.drop k) k = some (Out.ret r0)) := by
    intro m
    induction m with
    | zero =>
      intro k hk
      refine ⟨fun _ => ?_, fun ⟨j, h1, h2, _⟩ => by omega⟩
      rw [List.drop_eq_nil_of_le (by omega)]; exact he k
    | succ m ih =>
      intro k hk
      have hkl : k < l.length := by omega
      obtain ⟨i1, i2⟩ := ih (k + 1) (by omega)
      rw [List.drop_eq_getElem_cons hkl, hs k hkl]
      refine ⟨fun h => ?_, fun ⟨j, h1, h2, h3⟩ => ?_⟩
      · rw [if_pos (h k (Nat.le_refl _) hkl)]
        exact i1 fun j a b => h j (by omega) b
      · by_cases hq : q k = true
        · rw [if_pos hq]
          refine i2 ⟨j, ?_, h2, h3⟩
          by_cases e : j = k
          · subst e; rw [hq] at h3; cases h3
          · omega
        · rw [if_neg hq]
  obtain ⟨h1, h2⟩ := key l.length 0 rfl
  rw [List.drop_zero] at h1 h2
  cases h : allN l.length q with
  | true => rw [if_pos rfl]; exact h1 fun j _ hj => allN_iff.1 h j hj
  | false => obtain ⟨k, a, b⟩ := allN_not.1 h; rw [if_neg (by simp)]; exact h2 ⟨k, Nat.zero_le _, a, b⟩

end Go.Proofs.YtbkdglcedgiogaaGreat.M
/-
  Plain laws: rows in order. Own text.
-/
namespace Go.Proofs.YtbkdglcedgiogaaGreat.M
open Go Go.Proofs Go.Proofs.YtbkdglcedgiogaaGreat.V
set_option linter.unusedVariables false

def Rk (rk : Int → Int) (a b : Int) : Prop := rk a > rk b ∨ (rk a = rk b ∧ a < b)
/-- Two rows in order, with the same in them, are the same. -/
theorem sorted_unique {α : Type} {R : α → α → Prop} (hirr : ∀ a, ¬ R a a) (htr : ∀ a b, R a b → ¬ R b a) : ∀ {l m : List α}, l.Pairwise R → m.Pairwise R → l.Perm m → l = m
  | [], m, _, _, hp => (List.nil_perm.1 hp).symm
  | x :: l, [], _, _, hp => absurd hp.length_eq (by simp)
  | x :: l, y :: m, hl, hm, hp => by
    have hxy : x = y := by
      have h1 : x ∈ y :: m := hp.mem_iff.1 (List.mem_cons_self ..)
      have h2 : y ∈ x :: l := hp.mem_iff.2 (List.mem_cons_self ..)
      rcases List.mem_cons.1 h1 with h1 | h1
      · exact h1
      · rcases List.mem_cons.1 h2 with h2 | h2
        · exact h2.symm
        · exact absurd ((List.pairwise_cons.1 hm).1 x h1) (htr _ _ ((List.pairwise_cons.1 hl).1 y h2))
    subst hxy
    rw [sorted_unique hirr htr (List.pairwise_cons.1 hl).2 (List.pairwise_cons.1 hm).2 (List.Perm.cons_inv hp)]

end Go.Proofs.YtbkdglcedgiogaaGreat.M

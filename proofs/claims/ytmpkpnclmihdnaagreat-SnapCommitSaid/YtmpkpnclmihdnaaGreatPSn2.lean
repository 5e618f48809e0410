/-
  Printed by a program of this session out of the loaded functions: models and their proofs. Own text.
-/
import Derived.Test.YtmpkpnclmihdnaaGreatPRef4
import Derived.Test.YtmpkpnclmihdnaaGreatPWordE
import Derived.Test.YtmpkpnclmihdnaaGreatPFit0
import Derived.Test.YtmpkpnclmihdnaaGreatPOn9
/-
  Plain laws: whether too many would stand in a zone, and why a pod cannot run, told alike by the program and the document. Own text.
-/
namespace Go.Proofs.YtmpkpnclmihdnaaGreat.M
open Go Go.Proofs Go.Proofs.YtmpkpnclmihdnaaGreat.V
set_option linter.unusedVariables false

/-- The least count, and that of one's own zone. -/
def mstep (my : Option ByteArray) (cnt : ByteArray → Int) (s : Bool × Int × Int) (z : ByteArray) : Bool × Int × Int := if my = some z then (true, cnt z, min s.2.2 (cnt z)) else (s.1, s.2.1, min s.2.2 (cnt z))

theorem many_fold (my : Option ByteArray) (cnt : ByteArray → Int) : ∀ (l : List ByteArray) (s : Bool × Int × Int), (l.foldl (mstep my cnt) s).1 = (s.1 || l.any fun z => decide (my = some z)) ∧ (l.foldl (mstep my cnt) s).2.2 = l.foldl (fun a z => min a (cnt z)) s.2.2 ∧
    (l.foldl (mstep my cnt) s).2.1 = (if (l.any fun z => decide (my = some z)) = true then cnt (my.getD ⟨#[]⟩) else s.2.1)
  | [], s => by simp
  | z :: l, s => by
    obtain ⟨h1, h2, h3⟩ := many_fold my cnt l (mstep my cnt s z)
    rw [List.foldl_cons, h1, h2, h3, List.any_cons, List.foldl_cons]
    unfold mstep
    by_cases e : my = some z
    · rw [if_pos e]
      simp [e]
    · rw [if_neg e]
      have e' : decide (my = some z) = false := by simpa using e
      rw [e', Bool.false_or]
      exact ⟨rfl, rfl, rfl⟩

theorem min_fold {cnt : ByteArray → Int} (l : List ByteArray) : ∀ (a : Int), (l.foldl (fun a z => min a (cnt z)) a) ≤ a ∧ (∀ z, z ∈ l → (l.foldl (fun a z => min a (cnt z)) a) ≤ cnt z) ∧ ((l.foldl (fun a z => min a (cnt z)) a) = a ∨ ∃ z, z ∈ l ∧ (l.foldl (fun a z => min a (cnt z)) a) = cnt z) := by
  induction l with
  | nil => intro a; exact ⟨Int.le_refl _, fun z h => (by cases h), .inl rfl⟩
  | cons x l ih =>
    intro a
    obtain ⟨h1, h2, h3⟩ := ih (min a (cnt x))
    rw [List.foldl_cons]
    generalize List.foldl (fun a z => min a (cnt z)) (min a (cnt x)) l = R at *
    refine ⟨by omega, fun z hz => ?_, ?_⟩
    · rcases List.mem_cons.1 hz with rfl | hz
      · omega
      · exact h2 z hz
    · rcases h3 with h3 | ⟨z, hz, h3⟩
      · by_cases e : a ≤ cnt x
        · left; omega
        · right; exact ⟨x, List.mem_cons_self .., by omega⟩
      · right; exact ⟨z, List.mem_cons_of_mem _ hz, h3⟩

theorem Many_ref {ms : List T_api_Machine} {bs : List T_api_Bound} {p : T_api_Pod} (on : ByteArray) (hl : ms.length ≤ 400) (hbl : bs.length ≤ 400) (hm : ∀ m, m ∈ ms → GM m) (hn : (ms.map (·.Name)).Nodup) (hb : ∀ b, b ∈ bs → GP b.Pod) (hp : GP p) : ref11_Many ms bs p on = some (manyV ms bs p on) := by
  rw [← many_V bs p on (by omega)]
  unfold ref11_Many apart_Many
  obtain ⟨r, hr, hf⟩ := Find9_eq ms on (by omega)
  obtain ⟨r', hr', hf'⟩ := Find_first ms on (by omega)
  have hrr : decide (r < (0 : Int)) = decide (r' < (0 : Int)) := by
    rw [decide_eq_decide]
    rcases hf with ⟨q, rfl, b, c, e⟩ | ⟨rfl, b⟩
    · rcases hf' with ⟨q', rfl, b', c', e'⟩ | ⟨rfl, b'⟩
      · omega
      · exact absurd c (b' q b)
    · rcases hf' with ⟨q', rfl, b', c', e'⟩ | ⟨rfl, b'⟩
      · exact absurd c' (b q' b')
      · exact Iff.rfl
  rw [hr, hr']
  simp only [Option.bind_some, hrr]
  have hlp := hp.lp.labels.1
  have hsp := hp.lp.spread.1
  by_cases hs : p.Spread.length = 0
  · rw [hs]; rfl
  have hs' : ((p.Spread.length : Int) == 0) = false := by
    have : ¬ (p.Spread.length : Int) = 0 := by omega
    simpa using this
  rw [hs']
  simp only [Bool.false_eq_true, if_false, Option.bind_some]
  by_cases hneg : r' < 0
  · rw [if_pos (by simpa using hneg), if_pos (by simpa using hneg)]
  rw [if_neg (by simpa using hneg), if_neg (by simpa using hneg)]
  rw [zone11_eq on (by omega) hm, Counts11_eq (by omega) (by omega) hm hb hp, zones_V, Counts_eq p (by omega) (by omega) hm hn, Has5_B (by omega) (by omega) hp.labels, has_B]
  simp only [Option.bind_some]
  have hcr := cntZ_range ms bs p
  have hzl := zonesL_len ms
  have hsk := hp.skew hs
  have hzmg : V.mg (zonesV ms) on = zoneS ms on := zones_mg hm hn on
  generalize hcnt : cntZ ms bs p = cnt at *
  generalize hzz : zonesL ms = zl at *
  -- the program's round
  have hP : ∀ (l : List ByteArray) (k : Nat) (s : Bool × Int × Int), zl.drop k = l → apart_Many.l1 on (zonesV ms) (zl, zl.map cnt) l k s.1 s.2.1 s.2.2 = some (l.foldl (mstep (zoneS ms on) cnt) s) := by
    intro l
    induction l with
    | nil => intro k s _; rfl
    | cons z l ih =>
      intro k s hd
      have hk : k < zl.length := by
        have := congrArg List.length hd
        rw [List.length_drop, List.length_cons] at this
        omega
      have hx : zl[k] = z := by
        rw [List.drop_eq_getElem_cons hk] at hd
        exact (List.cons.inj hd).1
      have hd2 : zl.drop (k + 1) = l := by
        rw [List.drop_eq_getElem_cons hk] at hd
        exact (List.cons.inj hd).2
      have hg : V.gl (zl.map cnt) (k : Int) = some (cnt z) := by rw [glk (by simpa using hk)]; simp [hx]
      rw [apart_Many.l1]
      simp only [hg, Option.bind_some, hzmg, seq_eq]
      rw [List.foldl_cons]
      cases hz : zoneS ms on with
      | none =>
        simp only [Option.isSome_none, Bool.false_and, Bool.false_eq_true, if_false]
        rw [hz] at ih
        have := ih (k + 1) (mstep none cnt s z) hd2
        unfold mstep at this ⊢
        rw [if_neg (by simp)] at this ⊢
        exact this
      | some y =>
        rw [hz] at ih
        have := ih (k + 1) (mstep (some y) cnt s z) hd2
        simp only [Option.isSome_some, Bool.true_and, Option.getD_some]
        unfold mstep at this ⊢
        by_cases e : z = y
        · subst e
          rw [if_pos (by simp)]
          rw [if_pos rfl] at this ⊢
          exact this
        · have e' : ¬ (some y = some z) := fun q => e (by injection q with q; exact q.symm)
          rw [if_neg (by simpa using e)]
          rw [if_neg e'] at this ⊢
          exact this
  rw [show apart_Many.l1 on (zonesV ms) (zl, zl.map cnt) zl 0 false 0 401 = _ from hP zl 0 (false, 0, 401) rfl]
  -- the document's
  have hstep : ∀ (n : Nat) (s : Bool × Int × Int) (k : Nat) (hk : k < zl.length), 1 ≤ k → ref11_Many.l1 ((zoneS ms on).getD ⟨#[]⟩, (zoneS ms on).isSome) (zl, zl.map cnt) (n + 1) s.2.1 s.2.2 (k : Int) = ref11_Many.l1 ((zoneS ms on).getD ⟨#[]⟩, (zoneS ms on).isSome) (zl, zl.map cnt) n (mstep (zoneS ms on) cnt s zl[k]).2.1 (mstep (zoneS ms on) cnt s zl[k]).2.2 ((k + 1 : Nat) : Int) := by
    intro n s k hk h1
    have hg : V.gl (zl.map cnt) (k : Int) = some (cnt zl[k]) := by rw [glk (by simpa using hk)]; simp
    rw [ref11_Many.l1, if_pos (dlt hk), wk1 (by omega)]
    have hk0 : ((k : Int) == 0) = false := by
      have : ¬ (k : Int) = 0 := by omega
      simpa using this
    simp only [hk0, hg, glk hk, Bool.false_eq_true, if_false, Option.bind_some, seq_eq]
    unfold mstep
    cases hz : zoneS ms on with
    | none =>
      simp only [Option.isSome_none, Bool.false_eq_true, if_false, Option.bind_some]
      rw [if_neg (show ¬ ((none : Option ByteArray) = some zl[k]) by simp)]
      by_cases hlt : cnt zl[k] < s.2.2
      · rw [if_pos (by simpa using hlt), show min s.2.2 (cnt zl[k]) = cnt zl[k] by omega]
      · rw [if_neg (by simpa using hlt), show min s.2.2 (cnt zl[k]) = s.2.2 by omega]
    | some y =>
      simp only [Option.isSome_some, if_true, Option.bind_some, Option.getD_some]
      by_cases e : zl[k] = y
      · subst e
        rw [if_pos rfl]
        by_cases hlt : cnt zl[k] < s.2.2
        · simp only [hlt, decide_true, if_true]; rw [show min s.2.2 (cnt zl[k]) = cnt zl[k] by omega]
        · simp only [hlt, decide_false, Bool.false_eq_true, if_false, decide_true, if_true]; rw [show min s.2.2 (cnt zl[k]) = s.2.2 by omega]
      · have e' : ¬ (some y = some zl[k]) := fun q => e (by injection q with q; exact q.symm)
        rw [if_neg e']
        by_cases hlt : cnt zl[k] < s.2.2
        · simp only [hlt, e, decide_true, decide_false, Bool.false_eq_true, if_true, if_false]; rw [show min s.2.2 (cnt zl[k]) = cnt zl[k] by omega]
        · simp only [hlt, e, decide_false, Bool.false_eq_true, if_false]; rw [show min s.2.2 (cnt zl[k]) = s.2.2 by omega]
  have hend : ∀ n a b, ref11_Many.l1 ((zoneS ms on).getD ⟨#[]⟩, (zoneS ms on).isSome) (zl, zl.map cnt) (n + 1) a b (zl.length : Int) = some (a, b) := fun n a b => by rw [ref11_Many.l1, if_neg dnl]
  cases hzl0 : zl with
  | nil =>
    have h0 : ref11_Many.l1 ((zoneS ms on).getD ⟨#[]⟩, (zoneS ms on).isSome) ([], [].map cnt) FU (-1) 0 0 = some (-1, 0) := rfl
    rw [h0]
    simp only [Option.bind_some]
    rw [if_pos (by decide)]
    cases hasB p.Labels p.Spread <;> rfl
  | cons z zs =>
    have hpos : 0 < zl.length := by rw [hzl0]; simp
    have hz0 : zl[0] = z := by simp [hzl0]
    obtain ⟨F, hF⟩ : ∃ F, FU = F + 1 := ⟨FU - 1, rfl⟩
    -- the first round
    have hfirst : ref11_Many.l1 ((zoneS ms on).getD ⟨#[]⟩, (zoneS ms on).isSome) (zl, zl.map cnt) FU (-1) 0 0 = ref11_Many.l1 ((zoneS ms on).getD ⟨#[]⟩, (zoneS ms on).isSome) (zl, zl.map cnt) F (mstep (zoneS ms on) cnt (false, -1, cnt z) z).2.1 (mstep (zoneS ms on) cnt (false, -1, cnt z) z).2.2 ((0 + 1 : Nat) : Int) := by
      have hg : V.gl (zl.map cnt) ((0 : Nat) : Int) = some (cnt z) := by rw [glk (by simpa using hpos)]; simp [hz0]
      have hg' : V.gl zl ((0 : Nat) : Int) = some z := by rw [glk hpos, hz0]
      rw [hF, show (0 : Int) = ((0 : Nat) : Int) from rfl, ref11_Many.l1, if_pos (dlt hpos), wk1 (by omega)]
      have hk0 : (((0 : Nat) : Int) == ((0 : Nat) : Int)) = true := by simp
      have hk1 : (((0 : Nat) : Int) == (0 : Int)) = true := rfl
      simp only [hk0, hk1, hg, hg', if_true, Option.bind_some, seq_eq]
      unfold mstep
      cases hz : zoneS ms on with
      | none =>
        simp only [Option.isSome_none, Bool.false_eq_true, if_false, Option.bind_some]
        rw [if_neg (show ¬ ((none : Option ByteArray) = some z) by simp), show min (cnt z) (cnt z) = cnt z by omega]
      | some y =>
        simp only [Option.isSome_some, if_true, Option.bind_some, Option.getD_some]
        by_cases e : z = y
        · subst e
          simp only [decide_true, if_true]; rw [show min (cnt z) (cnt z) = cnt z by omega]
        · have e' : ¬ (some y = some z) := fun q => e (by injection q with q; exact q.symm)
          rw [if_neg e']
          simp only [e, decide_false, Bool.false_eq_true, if_false]; rw [show min (cnt z) (cnt z) = cnt z by omega]
    have hrest : ∀ (m k n : Nat) (s : Bool × Int × Int), zl.length - k ≤ m → m < n → k ≤ zl.length → 1 ≤ k → ref11_Many.l1 ((zoneS ms on).getD ⟨#[]⟩, (zoneS ms on).isSome) (zl, zl.map cnt) n s.2.1 s.2.2 (k : Int) = some (((zl.drop k).foldl (mstep (zoneS ms on) cnt) s).2.1, ((zl.drop k).foldl (mstep (zoneS ms on) cnt) s).2.2) := by
      intro m
      induction m with
      | zero =>
        intro k n s h1 h2 h3 h4
        obtain ⟨n, rfl⟩ : ∃ q, n = q + 1 := ⟨n - 1, by omega⟩
        obtain rfl : k = zl.length := by omega
        rw [hend, List.drop_eq_nil_of_le (Nat.le_refl _)]; rfl
      | succ m ih =>
        intro k n s h1 h2 h3 h4
        obtain ⟨n, rfl⟩ : ∃ q, n = q + 1 := ⟨n - 1, by omega⟩
        by_cases hk : k < zl.length
        · rw [hstep n s k hk h4, ih (k + 1) n _ (by omega) (by omega) (by omega) (by omega), List.drop_eq_getElem_cons hk]; rfl
        · obtain rfl : k = zl.length := by omega
          rw [hend, List.drop_eq_nil_of_le (Nat.le_refl _)]; rfl
    have hFU : zl.length < F := by
      have : F = FU - 1 := by omega
      rw [this]; unfold FU; omega
    have hdoc := hrest zl.length 1 F (mstep (zoneS ms on) cnt (false, -1, cnt z) z) (by omega) hFU (by omega) (Nat.le_refl _)
    have hd1 : zl.drop 1 = zs := by rw [hzl0]; rfl
    rw [hd1] at hdoc
    rw [← hzl0, hfirst, show ((0 + 1 : Nat) : Int) = ((1 : Nat) : Int) from rfl, hdoc]
    rw [show zs.foldl (mstep (zoneS ms on) cnt) (mstep (zoneS ms on) cnt (false, -1, cnt z) z) = zl.foldl (mstep (zoneS ms on) cnt) (false, -1, cnt z) by rw [hzl0]; rfl]
    simp only [Option.bind_some]
    obtain ⟨a1, a2, a3⟩ := many_fold (zoneS ms on) cnt zl (false, 0, 401)
    obtain ⟨b1, b2, b3⟩ := many_fold (zoneS ms on) cnt zl (false, -1, cnt z)
    simp only at a1 a2 a3 b1 b2 b3
    rw [a1, a2, a3, b2, b3, Bool.false_or]
    have hle : ∀ y, cnt y ≤ 400 := fun y => by have := (hcr y).2; omega
    have hmin : zl.foldl (fun a z => min a (cnt z)) 401 = zl.foldl (fun a z => min a (cnt z)) (cnt z) := by
      obtain ⟨u1, u2, u3⟩ := min_fold (cnt := cnt) zl 401
      obtain ⟨v1, v2, v3⟩ := min_fold (cnt := cnt) zl (cnt z)
      have hzin : z ∈ zl := by rw [hzl0]; exact List.mem_cons_self ..
      have w1 := u2 z hzin
      have w2 := hle z
      rcases u3 with u3 | ⟨y, hy, u3⟩
      · omega
      · have := v2 y hy
        rcases v3 with v3 | ⟨y', hy', v3⟩
        · omega
        · have := u2 y' hy'
          omega
    rw [hmin]
    have hLr : 0 ≤ zl.foldl (fun a z => min a (cnt z)) (cnt z) ∧ zl.foldl (fun a z => min a (cnt z)) (cnt z) ≤ 400 := by
      obtain ⟨v1, v2, v3⟩ := min_fold (cnt := cnt) zl (cnt z)
      have := hle z
      refine ⟨?_, by omega⟩
      rcases v3 with v3 | ⟨y', _, v3⟩
      · have := (hcr z).1; omega
      · have := (hcr y').1; omega
    generalize zl.foldl (fun a z => min a (cnt z)) (cnt z) = L at *
    cases hmet : zl.any fun z => decide (zoneS ms on = some z) with
    | false =>
      simp only [Bool.false_eq_true, if_false]
      rw [if_pos (by decide)]
      cases hasB p.Labels p.Spread <;> rfl
    | true =>
      simp only [if_true]
      have hmr := hcr ((zoneS ms on).getD ⟨#[]⟩)
      have hml := hle ((zoneS ms on).getD ⟨#[]⟩)
      generalize cnt ((zoneS ms on).getD ⟨#[]⟩) = M at *
      rw [if_neg (by simp; omega), w_eq (x := M + 1) (by omega) (by omega), w_eq (x := M + 1 - L) (by omega) (by omega), w_eq (x := M - L) (by omega) (by omega), w_eq (x := L + p.Skew) (by omega) (by omega)]
      have e1 : decide (M + 1 - L > p.Skew) = decide (M + 1 > L + p.Skew) := by rw [decide_eq_decide]; omega
      have e2 : decide (M - L > p.Skew) = decide (M > L + p.Skew) := by rw [decide_eq_decide]; omega
      rw [e1, e2]
      cases hasB p.Labels p.Spread <;> simp

theorem Why12_eq {ms : List T_api_Machine} {bs : List T_api_Bound} {p : T_api_Pod} {m : T_api_Machine} (hl : ms.length ≤ 400) (hbl : bs.length ≤ 400) (hms : ∀ m, m ∈ ms → GM m) (hn : (ms.map (·.Name)).Nodup) (hb : ∀ b, b ∈ bs → GP b.Pod) (hp : GP p) (hm : m ∈ ms) :
    ref12_Why ms bs p m.Name = some (whyV ms bs p m) := by
  unfold ref12_Why
  obtain ⟨r, hr, hf⟩ := Find9_eq ms m.Name (by omega)
  rw [hr]
  simp only [Option.bind_some]
  rcases hf with ⟨k, rfl, hk, ⟨_, he⟩, _⟩ | ⟨rfl, b⟩
  · have hmk : ms[k] = m := by
      obtain ⟨i, hi, rfl⟩ := List.getElem_of_mem hm
      by_cases e : k = i
      · subst e; rfl
      · exfalso
        have hnd := (show (ms.map (·.Name)).Nodup ↔ _ from List.pairwise_iff_getElem).1 hn
        by_cases hlt : k < i
        · exact hnd k i (by simpa using hk) (by simpa using hi) hlt (by simpa using he)
        · exact hnd i k (by simpa using hi) (by simpa using hk) (by omega) (by simpa using he.symm)
    rw [if_neg (by simp), glk hk, hmk]
    simp only [Option.bind_some]
    rw [Suits_ref (hms m hm) hp (by omega) hb]
    unfold whyV
    simp only [Option.bind_some]
    by_cases h : suitV m bs p = 0
    · rw [if_neg (by simp [h]), if_pos h]
      unfold ref11_Why
      rw [near_ref (by omega) (by omega) hms hn hb hp hm, Many_ref m.Name hl hbl hms hn hb hp]
      cases nearB (zonesV ms) bs p m.Name <;> cases manyV ms bs p m.Name <;> rfl
    · rw [if_pos (by simpa using h), if_neg h]
  · obtain ⟨i, hi, rfl⟩ := List.getElem_of_mem hm
    exact absurd ⟨hi, rfl⟩ (b i hi)

end Go.Proofs.YtmpkpnclmihdnaaGreat.M
/- Plain law: what is shown of a pod ends, whatever it is; a pod, a machine, and a yard are the same as themselves. Own work. -/
namespace Go.Proofs.YtmpkpnclmihdnaaGreat.M
open Go Go.Proofs Go.Proofs.YtmpkpnclmihdnaaGreat.V
open Go.IntKind (i64)
set_option linter.unusedVariables false
set_option maxRecDepth 20000
set_option maxHeartbeats 4000000

def isB (o : Option ByteArray) (n : Nat) : Prop := ∃ r, o = some r ∧ r.size ≤ n
theorem isB.s {o : Option ByteArray} {n : Nat} (h : isB o n) : isS o := by obtain ⟨r, h, _⟩ := h; exact ⟨r, h⟩
theorem isB.mono {o : Option ByteArray} {n m : Nat} (h : isB o n) (k : n ≤ m) : isB o m := by obtain ⟨r, h, j⟩ := h; exact ⟨r, h, by omega⟩
theorem isB.bind {α : Type} {o : Option α} {f : α → Option ByteArray} {n : Nat} (h : isS o) (k : ∀ x, o = some x → isB (f x) n) : isB (o.bind f) n := by obtain ⟨x, rfl⟩ := h; exact k x rfl
theorem isB.bindB {o : Option ByteArray} {f : ByteArray → Option ByteArray} {n m : Nat} (h : isB o m) (k : ∀ x : ByteArray, x.size ≤ m → isB (f x) n) : isB (o.bind f) n := by obtain ⟨x, rfl, e⟩ := h; exact k x e
theorem isB.ite {c : Prop} [Decidable c] {a b : Option ByteArray} {n : Nat} (h : c → isB a n) (k : ¬c → isB b n) : isB (if c then a else b) n := by
  split
  · exact h ‹_›
  · exact k ‹_›
theorem isB.pure {x : ByteArray} {n : Nat} (h : x.size ≤ n) : isB (some x) n := ⟨x, rfl, h⟩
theorem isB.cat {s t : ByteArray} {f : ByteArray → Option ByteArray} {n i j : Nat} (hs : s.size ≤ i) (ht : t.size ≤ j) (hb : i + j ≤ 1000000000) (k : ∀ r : ByteArray, r.size ≤ i + j → isB (f r) n) : isB ((V.cat s t).bind f) n := by
  unfold V.cat; rw [if_pos (by unfold maxLen; omega)]
  exact k _ (by rw [ByteArray.size_append]; omega)
theorem isB.on {o : Option (Out ByteArray Unit)} {f : Unit → Option ByteArray} {n : Nat} (h : ∃ x, o = Option.some x ∧ ∀ r, x = Out.ret r → r.size ≤ n) (k : isB (f ()) n) : isB (o.bind fun x => x.on f) n := by
  obtain ⟨x, rfl, h⟩ := h
  cases x with
  | ret r => exact ⟨r, rfl, h r rfl⟩
  | go u => exact k

/-- A loop that lengthens a text. -/
theorem isB.loop {α : Type} {F : Nat → ByteArray → Int → Option ByteArray} {l : List α} (c : Nat) (hl : l.length ≤ 1000)
    (hs : ∀ n (k : Nat) (hk : k < l.length) (s : ByteArray) (b : Nat), s.size ≤ b → b + c ≤ 100000000 → (∀ r : ByteArray, r.size ≤ b + c → isB (F n r (((k : Nat) : Int) + 1)) (b + c + (l.length - (k + 1)) * c)) → isB (F (n + 1) s (k : Int)) (b + c + (l.length - (k + 1)) * c))
    (he : ∀ n s, F (n + 1) s (l.length : Int) = some s) : ∀ {s : ByteArray} {b : Nat}, s.size ≤ b → b + l.length * c ≤ 100000000 → isB (F FU s 0) (b + l.length * c) := by
  have key : ∀ (m k n : Nat) (s : ByteArray) (b : Nat), l.length - k ≤ m → m < n → k ≤ l.length → s.size ≤ b → b + (l.length - k) * c ≤ 100000000 → isB (F n s (k : Int)) (b + (l.length - k) * c) := by
    intro m
    induction m with
    | zero =>
      intro k n s b h1 h2 h3 h4 _
      obtain ⟨n, rfl⟩ : ∃ n', n = n' + 1 := ⟨n - 1, by omega⟩
      have : k = l.length := by omega
      subst this
      rw [he]; exact ⟨s, rfl, by omega⟩
    | succ m ih =>
      intro k n s b h1 h2 h3 h4 h5
      obtain ⟨n, rfl⟩ : ∃ n', n = n' + 1 := ⟨n - 1, by omega⟩
      by_cases hk : k < l.length
      · have e : l.length - k = (l.length - (k + 1)) + 1 := by omega
        have e2 : (l.length - k) * c = c + (l.length - (k + 1)) * c := by rw [e, Nat.add_mul]; omega
        rw [e2, ← Nat.add_assoc]
        refine hs n k hk s b h4 (by have : 0 ≤ (l.length - (k + 1)) * c := Nat.zero_le _; omega) fun r hr => ?_
        have := ih (k + 1) n r (b + c) (by omega) (by omega) (by omega) hr (by omega)
        exact this
      · have : k = l.length := by omega
        subst this
        rw [he]; exact ⟨s, rfl, by omega⟩
  intro s b h1 h2
  have := key l.length 0 FU s b (by omega) (by unfold FU; omega) (by omega) h1 (by omega)
  simpa using this

theorem numsz (x : Int) : (strOfNums [x]).size = 1 := rfl
theorem digits_B : ∀ (d f : Nat) (n : Int), n < (10 : Int) ^ (d + 1) → n < 9223372036854775808 → d < f → d < 1000 → isB (ref01_Digits f n) (d + 1) := by
  intro d
  induction d with
  | zero =>
    intro f n h1 _ h2 _
    obtain ⟨f, rfl⟩ : ∃ n', f = n' + 1 := ⟨f - 1, by omega⟩
    rw [ref01_Digits, if_pos (by simp only [decide_eq_true_eq]; omega)]
    exact ⟨_, rfl, by rw [numsz]; omega⟩
  | succ d ih =>
    intro f n h1 h3 h2 h4
    obtain ⟨f, rfl⟩ : ∃ n', f = n' + 1 := ⟨f - 1, by omega⟩
    rw [ref01_Digits]
    refine isB.ite (fun _ => ⟨_, rfl, by rw [numsz]; omega⟩) fun hn => ?_
    have hn : 10 ≤ n := by simpa using hn
    have hq : V.quo n 10 = some (n / 10) := by unfold V.quo; rw [if_neg (by omega), Int.tdiv_eq_ediv_of_nonneg (by omega)]
    have hr : V.rem n 10 = some (n % 10) := by unfold V.rem; rw [if_neg (by omega), Int.tmod_eq_emod_of_nonneg (by omega)]
    rw [hq, hr]
    simp only [Option.bind_some]
    have e : (10 : Int) ^ (d + 1 + 1) = 10 * (10 : Int) ^ (d + 1) := by rw [Int.pow_succ]; omega
    rw [w_eq (by omega) (by omega)]
    refine isB.bindB (ih f _ (by omega) (by omega) (by omega) (by omega)) fun r hr => ?_
    exact isB.cat (j := 1) hr (by rw [numsz]; omega) (by omega) fun r hr => ⟨r, rfl, by omega⟩
theorem wlt (n : Int) : i64.wrap n < 9223372036854775808 := by rw [IntKind.wrap_i64]; omega
theorem Digits_B (n : Int) : isB (ref01_Digits FU n) 21 := by
  obtain ⟨f, hf⟩ : ∃ f, FU = f + 30 := ⟨1152921504606846946, rfl⟩
  rw [hf]
  by_cases hn : n < 10
  · exact (digits_B 0 (f + 30) n (by omega) (by omega) (by omega) (by omega)).mono (by omega)
  · rw [ref01_Digits, if_neg (by simpa using hn)]
    have hq : V.quo n 10 = some (n / 10) := by unfold V.quo; rw [if_neg (by omega), Int.tdiv_eq_ediv_of_nonneg (by omega)]
    have hr : V.rem n 10 = some (n % 10) := by unfold V.rem; rw [if_neg (by omega), Int.tmod_eq_emod_of_nonneg (by omega)]
    rw [hq, hr]
    simp only [Option.bind_some]
    refine isB.bindB (digits_B 19 (f + 29) _ (by have := wlt (n / 10); omega) (wlt _) (by omega) (by omega)) fun r hr => ?_
    exact isB.cat (j := 1) hr (by rw [numsz]; omega) (by omega) fun r hr => ⟨r, rfl, by omega⟩
theorem lit1 {k : Nat} {a : Array UInt8} (k0 : (a.size).ble k = true) : (ByteArray.mk a).size ≤ k := Nat.le_of_ble_eq_true k0
theorem Milli_B (n : Int) : isB (ref03_ShowMilli n) 30 := by
  unfold ref03_ShowMilli
  refine isB.ite (fun _ => ⟨_, rfl, lit1 rfl⟩) fun hn => ?_
  refine isB.bind ⟨_, rfl⟩ fun v _ => isB.ite (fun _ => ?_) fun _ => ?_
  · exact isB.bind ⟨_, rfl⟩ fun v _ => isB.bindB (Digits_B _) fun r hr => ⟨r, rfl, by omega⟩
  · exact isB.bindB (Digits_B _) fun r hr => isB.cat hr (lit1 (k := 1) rfl) (by omega) fun r hr => ⟨r, rfl, by omega⟩
theorem show3_step (n v : Int) (hv : v ≠ 0) (x : ByteArray) (hx : x.size ≤ 2) (rest : Option (Out ByteArray Unit)) :
    (∃ r, ((if decide (n > 0) = true then (V.rem n v).bind fun v2 => some (v2 == 0) else some false).bind fun c => if c = true then (V.quo n v).bind fun v3 => (some x : Option ByteArray).bind fun x => (ref01_Digits FU (i64.wrap v3)).bind fun r => (V.cat r x).bind fun v4 => some (Out.ret v4) else rest) = some (Out.ret r) ∧ r.size ≤ 30) ∨
    (((if decide (n > 0) = true then (V.rem n v).bind fun v2 => some (v2 == 0) else some false).bind fun c => if c = true then (V.quo n v).bind fun v3 => (some x : Option ByteArray).bind fun x => (ref01_Digits FU (i64.wrap v3)).bind fun r => (V.cat r x).bind fun v4 => some (Out.ret v4) else rest) = rest ∧ True) := by
  obtain ⟨c, hc⟩ : isS (if decide (n > 0) = true then (V.rem n v).bind fun v2 => some (v2 == 0) else some false) := T.ite (fun _ => T.bind ⟨_, by unfold V.rem; rw [if_neg hv]⟩ fun _ _ => ⟨_, rfl⟩) fun _ => ⟨_, rfl⟩
  rw [hc]
  simp only [Option.bind_some]
  cases c with
  | false => exact .inr ⟨rfl, trivial⟩
  | true =>
    left
    obtain ⟨r, h1, h2⟩ := Digits_B (i64.wrap (n.tdiv v))
    refine ⟨r ++ x, ?_, by rw [ByteArray.size_append]; omega⟩
    rw [if_pos rfl, show V.quo n v = some (n.tdiv v) by unfold V.quo; rw [if_neg hv]]
    simp only [Option.bind_some]
    rw [h1]
    simp only [Option.bind_some]
    unfold V.cat
    rw [if_pos (by unfold maxLen; omega)]
    rfl
theorem Show3_B (n : Int) : isB (ref03_Show n) 30 := by
  unfold ref03_Show
  refine isB.ite (fun _ => ⟨_, rfl, lit1 rfl⟩) fun hn => isB.on ?_ (isB.bindB (Digits_B _) fun r hr => ⟨r, rfl, by omega⟩)
  rcases loopI (F := fun f i => ref03_Show.l1 n f i) (Q := fun r => r.size ≤ 30) (S := fun k => True) (len := 4) (by omega) (fun f k hk => by
      rw [ref03_Show.l1, if_pos (by simp; omega), wk1 (by omega)]
      rcases (by omega : k = 0 ∨ k = 1 ∨ k = 2 ∨ k = 3) with rfl | rfl | rfl | rfl
      · exact show3_step n 1099511627776 (by omega) _ (lit1 rfl) _
      · exact show3_step n 1073741824 (by omega) _ (lit1 rfl) _
      · exact show3_step n 1048576 (by omega) _ (lit1 rfl) _
      · exact show3_step n 1024 (by omega) _ (lit1 rfl) _) (fun f => by rw [ref03_Show.l1, if_neg (by simp)]) with ⟨r, h1, h2⟩ | ⟨h1, _⟩
  · exact ⟨_, h1, fun r' e => by injection e with e; rw [← e]; exact h2⟩
  · exact ⟨_, h1, fun r' e => by cases e⟩

theorem atom_B {s : ByteArray} {n : Nat} (h : s.size ≤ n) (h2 : 2 ≤ n) : isB (ref07_atom s) n := by
  unfold ref07_atom
  exact isB.ite (fun _ => ⟨_, rfl, Nat.le_trans (lit1 (k := 2) rfl) h2⟩) fun _ => ⟨_, rfl, h⟩
theorem number_B (name : ByteArray) (h : name.size ≤ 20) (n : Int) : isB (ref07_number name n) 100 := by
  unfold ref07_number
  refine isB.ite (fun _ => ⟨_, rfl, lit1 rfl⟩) fun _ => ?_
  exact isB.cat (lit1 (k := 2) rfl) h (by omega) fun r hr => isB.cat hr (lit1 (k := 1) rfl) (by omega) fun r hr => isB.bindB (Digits_B n) fun d hd => isB.cat hr hd (by omega) fun r hr => isB.cat hr (lit1 (k := 1) rfl) (by omega) fun r hr => ⟨r, rfl, by omega⟩
theorem flag_B (name : ByteArray) (h : name.size ≤ 20) (b : Bool) : isB (ref07_flag name b) 100 := by
  unfold ref07_flag
  refine isB.ite (fun _ => ?_) fun _ => ⟨_, rfl, lit1 rfl⟩
  exact isB.cat (lit1 (k := 1) rfl) h (by omega) fun r hr => ⟨r, rfl, by omega⟩
theorem pairs_B (name : ByteArray) (h : name.size ≤ 20) {l : List T_api_Label} (hl : LL l) : isB (ref07_pairs name l) 40000 := by
  unfold ref07_pairs
  have hn := hl.1
  have := isB.loop (F := fun f s i => ref07_pairs.l1 name l f s i) (l := l) 700 (by omega) (fun n k hk s b hs hb c => by
      rw [ref07_pairs.l1, if_pos (dlt hk)]
      obtain ⟨h1, h2⟩ := hl.2 k hk
      refine isB.cat hs (lit1 (k := 2) rfl) (by omega) fun r hr => isB.cat hr h (by omega) fun r hr => isB.cat hr (lit1 (k := 1) rfl) (by omega) fun r hr => ?_
      rw [glk hk]
      simp only [Option.bind_some]
      refine isB.cat hr h1 (by omega) fun r hr => isB.cat hr (lit1 (k := 1) rfl) (by omega) fun r hr => isB.bindB (atom_B h2 (by omega)) fun a ha => isB.cat hr ha (by omega) fun r hr => isB.cat hr (lit1 (k := 1) rfl) (by omega) fun r hr => ?_
      rw [w_eq (by omega) (by omega)]
      exact c r (by omega)) (fun n s => by rw [ref07_pairs.l1, if_neg dnl]) (s := ⟨#[]⟩) (b := 0) (lit1 rfl) (by omega)
  exact isB.bindB (this.mono (by omega)) fun r hr => ⟨r, rfl, hr⟩

/-- A right pod's tolerations have known effects. -/
theorem bears_of {l : List T_api_Toleration} (hl : LB l) (h : ref06_RightBears l = some true) : ∀ k (hk : k < l.length), 0 ≤ l[k].Effect ∧ l[k].Effect ≤ 3 := by
  have hn := hl.1
  unfold ref06_RightBears at h
  split at h
  · cases h
  rcases loopI (F := fun n i => ref06_RightBears.l1 l n i) (Q := fun r => r = false) (S := fun k => ∀ hk : k < l.length, 0 ≤ l[k].Effect ∧ l[k].Effect ≤ 3) (len := l.length) (by omega) (fun n k hk => by
      rw [ref06_RightBears.l1, if_pos (dlt hk), glk hk, wk1 (by omega)]
      simp only [Option.bind_some]
      obtain ⟨c, hc⟩ : isS (if (!true) = true then some true else some false) := ⟨_, rfl⟩
      obtain ⟨a, ha⟩ := maybe6_tot (hl.2 k hk).1
      obtain ⟨b, hb⟩ := maybe6_tot (hl.2 k hk).2
      rw [ha, hb]
      simp only [Option.bind_some]
      cases a with
      | false => exact .inl ⟨false, rfl, rfl⟩
      | true =>
        cases b with
        | false => exact .inl ⟨false, rfl, rfl⟩
        | true =>
          simp only [Bool.not_true, Bool.false_eq_true, if_false, Option.bind_some]
          unfold ref06_effect
          by_cases he : l[k].Effect = 0
          · rw [show (l[k].Effect != 0) = false by simp [he]]
            simp only [Bool.false_eq_true, if_false, Option.bind_some, Bool.false_or]
            cases ((l[k].Any && !V.seq l[k].Val ⟨#[]⟩) || (V.seq l[k].Key ⟨#[]⟩ && !l[k].Any))
            · exact .inr ⟨rfl, fun _ => by omega⟩
            · exact .inl ⟨false, rfl, rfl⟩
          · rw [show (l[k].Effect != 0) = true by simp [he]]
            simp only [if_true, Option.bind_some]
            by_cases h1 : l[k].Effect ≥ 1 ∧ l[k].Effect ≤ 3
            · rw [decide_eq_true h1.1, decide_eq_true h1.2]
              simp only [Bool.and_self, Bool.not_true, Bool.false_or]
              cases ((l[k].Any && !V.seq l[k].Val ⟨#[]⟩) || (V.seq l[k].Key ⟨#[]⟩ && !l[k].Any))
              · exact .inr ⟨rfl, fun _ => by omega⟩
              · exact .inl ⟨false, rfl, rfl⟩
            · rw [show (decide (l[k].Effect ≥ 1) && decide (l[k].Effect ≤ 3)) = false by rw [← Bool.decide_and]; exact decide_eq_false h1]
              exact .inl ⟨false, rfl, rfl⟩) (fun n => by rw [ref06_RightBears.l1, if_neg dnl]) with ⟨r, h1, h2⟩ | ⟨h1, h2⟩
  · rw [h1, h2] at h; cases h
  · exact fun k hk => h2 k hk hk

theorem bears7 {p : T_api_Pod} (hp : LP p) (h : ref07_RightPod p = some true) : ref06_RightBears p.Bears = some true := by
  unfold ref07_RightPod at h
  obtain ⟨_, _, h⟩ := Option.bind_eq_some_iff.1 h
  obtain ⟨_, _, h⟩ := Option.bind_eq_some_iff.1 h
  obtain ⟨_, _, h⟩ := Option.bind_eq_some_iff.1 h
  obtain ⟨_, _, h⟩ := Option.bind_eq_some_iff.1 h
  split at h
  · cases h
  obtain ⟨o, ho, h⟩ := Option.bind_eq_some_iff.1 h
  cases o with
  | ret r =>
    exfalso
    have hn := hp.nterms
    simp only [Out.on, Option.some.injEq] at h
    rcases loopI (F := fun n i => ref07_RightPod.l1 p n i) (Q := fun r => r = false) (S := fun k => True) (len := p.Terms.length) (by omega) (fun n k hk => by
        rw [ref07_RightPod.l1, if_pos (dlt hk), glk hk, wk1 (by omega)]
        simp only [Option.bind_some]
        obtain ⟨b, hb⟩ := Term5_tot (hp.terms k hk)
        rw [hb]
        cases b with
        | false => exact .inl ⟨false, rfl, rfl⟩
        | true => exact .inr ⟨rfl, trivial⟩) (fun n => by rw [ref07_RightPod.l1, if_neg dnl]) with ⟨r', h1, h2⟩ | ⟨h1, _⟩
    · rw [h1] at ho
      injection ho with ho
      injection ho with ho
      rw [← ho, h2] at h
      cases h
    · rw [h1] at ho; cases ho
  | go u =>
    simp only [Out.on] at h
    obtain ⟨o, ho, h⟩ := Option.bind_eq_some_iff.1 h
    cases o with
    | ret r =>
      exfalso
      have hn := hp.nports
      simp only [Option.some.injEq] at h
      rcases loopI (F := fun n i => ref07_RightPod.l2 p n i) (Q := fun r => r = false) (S := fun k => True) (len := p.Ports.length) (by omega) (fun n k hk => by
          rw [ref07_RightPod.l2, if_pos (dlt hk), glk hk, wk1 (by omega)]
          simp only [Option.bind_some, ref07_in]
          by_cases h0 : 0 < k
          · have h0' : (decide ((k : Int) > 0)) = true := by simp; omega
            simp only [h0', if_true, glp hk h0 (by omega), Option.bind_some]
            cases (decide (p.Ports[k] ≥ (1 : Int)) && decide (p.Ports[k] ≤ (65535 : Int)))
            · exact .inl ⟨false, rfl, rfl⟩
            · by_cases hle : p.Ports[k] ≤ p.Ports[k - 1]
              · rw [decide_eq_true hle]; exact .inl ⟨false, rfl, rfl⟩
              · rw [decide_eq_false hle]; exact .inr ⟨rfl, trivial⟩
          · have h0' : (decide ((k : Int) > 0)) = false := by simp; omega
            simp only [h0', Bool.false_eq_true, if_false, Option.bind_some]
            cases (decide (p.Ports[k] ≥ (1 : Int)) && decide (p.Ports[k] ≤ (65535 : Int)))
            · exact .inl ⟨false, rfl, rfl⟩
            · exact .inr ⟨rfl, trivial⟩) (fun n => by rw [ref07_RightPod.l2, if_neg dnl]) with ⟨r', h1, h2⟩ | ⟨h1, _⟩
      · rw [h1] at ho
        injection ho with ho
        injection ho with ho
        rw [← ho, h2] at h
        cases h
      · rw [h1] at ho; cases ho
    | go u =>
      simp only at h
      obtain ⟨_, _, h⟩ := Option.bind_eq_some_iff.1 h
      split at h
      · cases h
      obtain ⟨_, _, h⟩ := Option.bind_eq_some_iff.1 h
      obtain ⟨_, _, h⟩ := Option.bind_eq_some_iff.1 h
      obtain ⟨_, _, h⟩ := Option.bind_eq_some_iff.1 h
      obtain ⟨_, _, h⟩ := Option.bind_eq_some_iff.1 h
      obtain ⟨c, hc, h⟩ := Option.bind_eq_some_iff.1 h
      simp only [Option.some.injEq] at h
      subst h
      split at hc
      · obtain ⟨d, hd, hc⟩ := Option.bind_eq_some_iff.1 hc
        simp only [Option.some.injEq] at hc
        rw [hd, hc]
      · cases hc

theorem ShowPod_B {p : T_api_Pod} (h : LP p) : isB (ref07_ShowPod p) 10000000 := by
  have hnt := h.nterms
  have hnp := h.nports
  have hnb := h.bears.1
  obtain ⟨b, hb⟩ := RPod_tot h
  unfold ref07_ShowPod
  rw [hb]
  cases b with
  | false => exact ⟨_, rfl, lit1 rfl⟩
  | true =>
    have hg := gp_of h hb
    have hbe := bears_of h.bears (bears7 h hb)
    rw [Option.bind_some, if_neg (by decide)]
    refine isB.cat (lit1 (k := 100) rfl) h.name (by omega) fun r hr => isB.cat hr (lit1 (k := 100) rfl) (by omega) fun r hr => ?_
    refine isB.bindB (Milli_B _) fun d hd => isB.cat hr hd (by omega) fun r hr => isB.cat hr (lit1 (k := 100) rfl) (by omega) fun r hr => ?_
    refine isB.bindB (Show3_B _) fun d hd => isB.cat hr hd (by omega) fun r hr => isB.cat hr (lit1 (k := 100) rfl) (by omega) fun r hr => ?_
    refine isB.bindB (Show3_B _) fun d hd => isB.cat hr hd (by omega) fun r hr => isB.cat hr (lit1 (k := 100) rfl) (by omega) fun r hr => ?_
    refine isB.bindB (Digits_B _) fun d hd => isB.cat hr hd (by omega) fun r hr => isB.cat hr (lit1 (k := 100) rfl) (by omega) fun r hr => ?_
    refine isB.bindB (pairs_B _ (lit1 rfl) h.labels) fun d hd => isB.cat hr hd (by omega) fun r hr => ?_
    refine isB.bindB (pairs_B _ (lit1 rfl) h.select) fun d hd => isB.cat hr hd (by omega) fun r hr => ?_
    refine isB.bindB (pairs_B _ (lit1 rfl) h.apart) fun d hd => isB.cat hr hd (by omega) fun r hr => ?_
    have hr1 : r.size ≤ 200000 := by omega
    refine isB.bindB (m := 1000000) ?_ fun r hr => ?_
    · refine (isB.loop (F := fun f s i => ref07_ShowPod.l1 p f s i) (l := p.Terms) 20000 (by omega) (fun n k hk s b hs hb c => ?_) (fun n s => by rw [ref07_ShowPod.l1, if_neg dnl]) hr1 (by omega)).mono (by omega)
      obtain ⟨hv, hk1, hk2⟩ := h.terms k hk
      obtain ⟨ho, _⟩ := term_right (h.terms k hk) (hg.terms k hk)
      rw [ref07_ShowPod.l1, if_pos (dlt hk), glk hk, Option.bind_some]
      refine isB.cat hs (lit1 (k := 100) rfl) (by omega) fun r hr => isB.cat hr hk1 (by omega) fun r hr => isB.cat hr (lit1 (k := 100) rfl) (by omega) fun r hr => ?_
      rw [show ref07_ops = some _ from rfl, Option.bind_some]
      refine isB.bindB (m := 100) (by rcases ho with e | e | e | e | e | e <;> rw [e] <;> exact ⟨_, rfl, lit1 rfl⟩) fun d hd => isB.cat hr hd (by omega) fun r hr => ?_
      refine isB.bindB (m := b + 19000) ?_ fun r hr => isB.cat hr (lit1 (k := 100) rfl) (by omega) fun r hr => by rw [w_eq (by omega) (by omega)]; exact c r (by omega)
      refine ((isB.loop (F := fun f s i => ref07_ShowPod.l2 p.Terms[k] f s i) (l := p.Terms[k].Vals) 400 (by omega) (fun n j hj s b hs hb c => ?_) (fun n s => by rw [ref07_ShowPod.l2, if_neg dnl]) hr (by omega)).mono (by omega))
      rw [ref07_ShowPod.l2, if_pos (dlt hj)]
      refine isB.cat hs (lit1 (k := 10) rfl) (by omega) fun r hr => ?_
      rw [glk hj, Option.bind_some]
      refine isB.bindB (atom_B (hk2 j hj) (by omega)) fun d hd => isB.cat hr hd (by omega) fun r hr => by rw [w_eq (by omega) (by omega)]; exact c r (by omega)
    refine isB.bindB (m := 1200000) ?_ fun r hr => ?_
    · refine (isB.loop (F := fun f s i => ref07_ShowPod.l3 p f s i) (l := p.Bears) 2000 (by omega) (fun n k hk s b hs hb c => ?_) (fun n s => by rw [ref07_ShowPod.l3, if_neg dnl]) hr (by omega)).mono (by omega)
      obtain ⟨hk1, hk2⟩ := h.bears.2 k hk
      obtain ⟨e0, e3⟩ := hbe k hk
      rw [ref07_ShowPod.l3, if_pos (dlt hk), glk hk, Option.bind_some]
      have he : ∀ r : ByteArray, isB (V.gl ([(⟨#[97, 110, 121]⟩ : ByteArray), (⟨#[110, 111]⟩ : ByteArray), (⟨#[112, 114, 101, 102, 101, 114]⟩ : ByteArray), (⟨#[111, 117, 116]⟩ : ByteArray)]) p.Bears[k].Effect) 100 := fun _ => by
        rcases (by omega : p.Bears[k].Effect = 0 ∨ p.Bears[k].Effect = 1 ∨ p.Bears[k].Effect = 2 ∨ p.Bears[k].Effect = 3) with e | e | e | e <;> rw [e] <;> exact ⟨_, rfl, lit1 rfl⟩
      refine isB.ite (fun _ => ?_) fun _ => ?_
      · refine isB.cat hs (lit1 (k := 100) rfl) (by omega) fun r hr => isB.bindB (atom_B hk1 (by omega)) fun d hd => isB.cat hr hd (by omega) fun r hr => isB.cat hr (lit1 (k := 100) rfl) (by omega) fun r hr => ?_
        rw [show ref07_effects = some _ from rfl, Option.bind_some]
        refine isB.bindB (he r) fun d hd => isB.cat hr hd (by omega) fun r hr => isB.cat hr (lit1 (k := 100) rfl) (by omega) fun r hr => by rw [w_eq (by omega) (by omega)]; exact c r (by omega)
      · refine isB.cat hs (lit1 (k := 100) rfl) (by omega) fun r hr => isB.bindB (atom_B hk1 (by omega)) fun d hd => isB.cat hr hd (by omega) fun r hr => isB.cat hr (lit1 (k := 100) rfl) (by omega) fun r hr => isB.bindB (atom_B hk2 (by omega)) fun d hd => isB.cat hr hd (by omega) fun r hr => isB.cat hr (lit1 (k := 100) rfl) (by omega) fun r hr => ?_
        rw [show ref07_effects = some _ from rfl, Option.bind_some]
        refine isB.bindB (he r) fun d hd => isB.cat hr hd (by omega) fun r hr => isB.cat hr (lit1 (k := 100) rfl) (by omega) fun r hr => by rw [w_eq (by omega) (by omega)]; exact c r (by omega)
    refine isB.bindB (m := 1300000) ?_ fun r hr => ?_
    · refine (isB.loop (F := fun f s i => ref07_ShowPod.l4 p f s i) (l := p.Ports) 200 (by omega) (fun n k hk s b hs hb c => ?_) (fun n s => by rw [ref07_ShowPod.l4, if_neg dnl]) hr (by omega)).mono (by omega)
      rw [ref07_ShowPod.l4, if_pos (dlt hk), glk hk, Option.bind_some]
      refine isB.bindB (number_B _ (lit1 rfl) _) fun d hd => isB.cat hs hd (by omega) fun r hr => by rw [w_eq (by omega) (by omega)]; exact c r (by omega)
    refine isB.bindB (number_B _ (lit1 rfl) _) fun d hd => isB.cat hr hd (by omega) fun r hr => ?_
    refine isB.bindB (pairs_B _ (lit1 rfl) h.spread) fun d hd => isB.cat hr hd (by omega) fun r hr => ?_
    refine isB.bindB (number_B _ (lit1 rfl) _) fun d hd => isB.cat hr hd (by omega) fun r hr => ?_
    have tail : ∀ (r : ByteArray), r.size ≤ 2000000 → isB ((ref07_flag (⟨#[119, 105, 100, 101]⟩ : ByteArray) p.Wide).bind fun r20 => (V.cat r r20).bind fun v40 => (ref07_flag (⟨#[100, 97, 101, 109, 111, 110]⟩ : ByteArray) p.Daemon).bind fun r21 => (V.cat v40 r21).bind fun v41 => (ref07_flag (⟨#[112, 105, 110, 110, 101, 100]⟩ : ByteArray) p.Pinned).bind fun r22 => (V.cat v41 r22).bind fun v42 => (ref07_flag (⟨#[108, 111, 99, 97, 108]⟩ : ByteArray) p.Local).bind fun r23 => (V.cat v42 r23).bind fun v43 => (V.cat v43 (⟨#[41]⟩ : ByteArray)).bind fun v44 => some v44) 10000000 := fun r hr =>
      isB.bindB (flag_B _ (lit1 rfl) _) fun d hd => isB.cat hr hd (by omega) fun r hr => isB.bindB (flag_B _ (lit1 rfl) _) fun d hd => isB.cat hr hd (by omega) fun r hr => isB.bindB (flag_B _ (lit1 rfl) _) fun d hd => isB.cat hr hd (by omega) fun r hr => isB.bindB (flag_B _ (lit1 rfl) _) fun d hd => isB.cat hr hd (by omega) fun r hr => isB.cat hr (lit1 (k := 100) rfl) (by omega) fun r hr => ⟨r, rfl, by omega⟩
    refine isB.ite (fun _ => ?_) fun _ => tail r (by omega)
    exact isB.cat hr (lit1 (k := 100) rfl) (by omega) fun r hr => isB.cat hr h.owner (by omega) fun r hr => isB.cat hr (lit1 (k := 100) rfl) (by omega) fun r hr => tail r (by omega)

theorem SamePod_self {p : T_api_Pod} (h : LP p) : ref07_SamePod p p = some true := by
  unfold ref07_SamePod
  obtain ⟨r, hr, _⟩ := ShowPod_B h
  rw [hr]
  simp [seq_eq]
theorem Same9_self {bs : List T_api_Bound} (hn : bs.length ≤ 1000) (h : ∀ b, b ∈ bs → LP b.Pod) : ref09_Same [] bs [] bs = some true := by
  unfold ref09_Same
  rw [if_neg (by simp)]
  rw [show ref09_Same.l1 [] [] FU 0 = some (Out.go ()) from rfl]
  simp only [Option.bind_some, Out.on]
  rcases loopI (F := fun n i => ref09_Same.l2 bs bs n i) (Q := fun r => False) (S := fun k => True) (len := bs.length) (by omega) (fun n k hk => by
      rw [ref09_Same.l2, if_pos (dlt hk), glk hk, wk1 (by omega)]
      simp only [Option.bind_some, seq_eq]
      rw [SamePod_self (h _ (List.getElem_mem hk))]
      right
      simp) (fun n => by rw [ref09_Same.l2, if_neg dnl]) with ⟨r, _, h2⟩ | ⟨h1, _⟩
  · exact h2.elim
  · rw [h1]; rfl
end Go.Proofs.YtmpkpnclmihdnaaGreat.M
/-
  Plain laws of the snapshot: its yards, what is copied, machines and pods by their names. Own text.
-/
namespace Go.Proofs.YtmpkpnclmihdnaaGreat.M
open Go Go.Proofs Go.Proofs.YtmpkpnclmihdnaaGreat.V
open Go.IntKind (i64)
set_option linter.unusedVariables false
set_option maxRecDepth 20000

theorem refFilter {α : Type} {F : Nat → List α → Int → Option (List α)} {l : List α} (q : α → Bool) (hl : l.length ≤ 1000)
    (hs : ∀ n s (k : Nat) (hk : k < l.length), s.length ≤ k → F (n + 1) s (k : Int) = F n (if q l[k] = true then s ++ [l[k]] else s) ((k + 1 : Nat) : Int))
    (he : ∀ n s, F (n + 1) s (l.length : Int) = some s) : F FU [] 0 = some (l.filter q) := by
  have key : ∀ (m k f : Nat) (s : List α), l.length - k ≤ m → m < f → k ≤ l.length → s.length ≤ k → F f s (k : Int) = some (s ++ (l.drop k).filter q) := by
    intro m
    induction m with
    | zero =>
      intro k f s h1 h2 h3 h4
      obtain ⟨f, rfl⟩ : ∃ g, f = g + 1 := ⟨f - 1, by omega⟩
      obtain rfl : k = l.length := by omega
      rw [he, List.drop_length]; simp
    | succ m ih =>
      intro k f s h1 h2 h3 h4
      obtain ⟨f, rfl⟩ : ∃ g, f = g + 1 := ⟨f - 1, by omega⟩
      by_cases hk : k < l.length
      · rw [hs f s k hk h4, List.drop_eq_getElem_cons hk]
        by_cases hq : q l[k] = true
        · rw [if_pos hq, ih (k + 1) f _ (by omega) (by omega) (by omega) (by simp; omega), List.filter_cons_of_pos hq]; simp
        · rw [if_neg hq, ih (k + 1) f _ (by omega) (by omega) (by omega) (by omega), List.filter_cons_of_neg hq]
      · obtain rfl : k = l.length := by omega
        rw [he, List.drop_length]; simp
  have := key l.length 0 FU [] (by omega) (by unfold FU; omega) (Nat.zero_le _) (Nat.zero_le _)
  simpa using this

theorem rowFilter {α : Type} {G : List α → Nat → List α → Option (List α)} (q : α → Bool)
    (hs : ∀ x r k s, s.length ≤ 1000 → G (x :: r) k s = G r (k + 1) (if q x = true then s ++ [x] else s))
    (he : ∀ k s, G [] k s = some s) : ∀ (l : List α) (k : Nat) (s : List α), s.length + l.length ≤ 1000 → G l k s = some (s ++ l.filter q)
  | [], k, s, _ => by rw [he]; simp
  | x :: l, k, s, h => by
    simp only [List.length_cons] at h
    rw [hs x l k s (by omega)]
    by_cases hq : q x = true
    · rw [if_pos hq, rowFilter q hs he l (k + 1) _ (by simp; omega), List.filter_cons_of_pos hq]; simp
    · rw [if_neg hq, rowFilter q hs he l (k + 1) _ (by omega), List.filter_cons_of_neg hq]

theorem map_inj {α β : Type} {f : α → β} : ∀ {l : List α}, (l.map f).Nodup → ∀ {x y : α}, x ∈ l → y ∈ l → f x = f y → x = y
  | [], _, _, _, h, _, _ => by cases h
  | a :: l, hn, x, y, hx, hy, e => by
    rw [List.map_cons, List.nodup_cons] at hn
    rcases List.mem_cons.1 hx with e1 | h1 <;> rcases List.mem_cons.1 hy with e2 | h2
    · rw [e1, e2]
    · exact absurd (List.mem_map.2 ⟨y, h2, by rw [← e, e1]⟩) hn.1
    · exact absurd (List.mem_map.2 ⟨x, h1, by rw [e, e2]⟩) hn.1
    · exact map_inj hn.2 h1 h2 e

theorem Check9_zero {ms : List T_api_Machine} {bs : List T_api_Bound} (hnm : ms.length ≤ 200) (hnb : bs.length ≤ 400) (hr : RY ms bs) : ref09_Check ms bs = some 0 := by
  unfold ref09_Check
  rw [if_neg (by simp; omega)]
  have l1 := idxAll (F := fun n i => ref09_Check.l1 ms n i) (len := ms.length) (r0 := 0) (fun _ => true) (by omega) (fun n k hk => by
    rw [ref09_Check.l1, if_pos (dlt hk), glk hk, wk1 (by omega)]
    obtain ⟨h1, h2⟩ := hr.rm k hk
    simp only [Option.bind_some, seq_eq, h2, h1, decide_false, Bool.false_eq_true, if_false, if_true, Bool.not_true]) (fun n => by rw [ref09_Check.l1, if_neg dnl])
  have l2 := idxAll (F := fun n i => ref09_Check.l2 bs n i) (len := bs.length) (r0 := 0) (fun _ => true) (by omega) (fun n k hk => by
    rw [ref09_Check.l2, if_pos (dlt hk), glk hk, wk1 (by omega)]
    simp only [Option.bind_some, hr.rb k hk, Bool.not_true, Bool.false_eq_true, if_false, if_true]) (fun n => by rw [ref09_Check.l2, if_neg dnl])
  have l3 := idxAll (F := fun n i => ref09_Check.l3 ms n i) (len := ms.length) (r0 := 0) (fun _ => true) (by omega) (fun n k hk => by
    obtain ⟨r, h1, h2⟩ := Find9_eq ms ms[k].Name (by omega)
    rw [ref09_Check.l3, if_pos (dlt hk), glk hk, wk1 (by omega)]
    have : r = (k : Int) := by
      rcases h2 with ⟨q, rfl, b, ⟨c, d⟩, e⟩ | ⟨rfl, b⟩
      · rw [hr.mu q k c hk d]
      · exact absurd ⟨hk, rfl⟩ (b k hk)
    simp only [Option.bind_some, h1, this]
    rw [if_neg (by simp)]; rfl) (fun n => by rw [ref09_Check.l3, if_neg dnl])
  have l4 := idxAll (F := fun n i => ref09_Check.l4 bs n i) (len := bs.length) (r0 := 0) (fun _ => true) (by omega) (fun n k hk => by
    obtain ⟨r, h1, h2⟩ := Place9_eq bs bs[k].Pod.Name (by omega)
    rw [ref09_Check.l4, if_pos (dlt hk), glk hk, wk1 (by omega)]
    have : r = (k : Int) := by
      rcases h2 with ⟨q, rfl, b, ⟨c, d⟩, e⟩ | ⟨rfl, b⟩
      · rw [hr.bu q k c hk d]
      · exact absurd ⟨hk, rfl⟩ (b k hk)
    simp only [Option.bind_some, h1, this]
    rw [if_neg (by simp)]; rfl) (fun n => by rw [ref09_Check.l4, if_neg dnl])
  have l5 := idxAll (F := fun n i => ref09_Check.l5 ms bs n i) (len := bs.length) (r0 := 0) (fun _ => true) (by omega) (fun n k hk => by
    rw [ref09_Check.l5, if_pos (dlt hk), glk hk, wk1 (by omega)]
    simp only [Option.bind_some, seq_eq]
    by_cases e : bs[k].On = ⟨#[]⟩
    · rw [if_neg (by simp [e])]; rfl
    · rw [if_pos (by simpa using e)]
      obtain ⟨r, h1, h2⟩ := Find9_eq ms bs[k].On (by omega)
      obtain ⟨j, hj, hje⟩ := hr.on k hk e
      have : ¬ r < 0 := by
        rcases h2 with ⟨q, rfl, b, ⟨c, d⟩, e⟩ | ⟨rfl, b⟩
        · omega
        · exact absurd ⟨hj, hje⟩ (b j hj)
      simp only [h1, Option.bind_some]
      rw [if_neg (by simpa using this)]; rfl) (fun n => by rw [ref09_Check.l5, if_neg dnl])
  have all : ∀ n, allN n (fun _ => true) = true := fun n => allN_iff.2 fun _ _ => rfl
  rw [show ref09_Check.l1 ms FU 0 = _ from l1, show ref09_Check.l2 bs FU 0 = _ from l2, show ref09_Check.l3 ms FU 0 = _ from l3, show ref09_Check.l4 bs FU 0 = _ from l4, show ref09_Check.l5 ms bs FU 0 = _ from l5]
  simp only [all, if_true, Option.bind_some, Out.on]

theorem ba_beq (a : ByteArray) : (a == a) = true := by
  obtain ⟨a⟩ := a
  show (a == a) = true
  simp
theorem SameL_self {l : List T_api_Label} (hl : l.length ≤ 1000) : ref05_Same l l = some true := by
  unfold ref05_Same
  rw [if_neg (by simp)]
  rcases loopI (F := fun n i => ref05_Same.l1 l l n i) (Q := fun r => False) (S := fun k => True) (len := l.length) (by omega) (fun n k hk => by
      rw [ref05_Same.l1, if_pos (dlt hk), glk hk, wk1 (by omega)]
      right; simp [ba_beq]) (fun n => by rw [ref05_Same.l1, if_neg dnl]) with ⟨r, _, h2⟩ | ⟨h1, _⟩
  · exact h2.elim
  · rw [h1]; rfl
theorem SameT_self {l : List T_api_Taint} (hl : l.length ≤ 1000) : ref06_Same l l = some true := by
  unfold ref06_Same
  rw [if_neg (by simp)]
  rcases loopI (F := fun n i => ref06_Same.l1 l l n i) (Q := fun r => False) (S := fun k => True) (len := l.length) (by omega) (fun n k hk => by
      rw [ref06_Same.l1, if_pos (dlt hk), glk hk, wk1 (by omega)]
      right; simp [ba_beq]) (fun n => by rw [ref06_Same.l1, if_neg dnl]) with ⟨r, _, h2⟩ | ⟨h1, _⟩
  · exact h2.elim
  · rw [h1]; rfl
theorem SameMachine_self {m : T_api_Machine} (h : LM m) : ref07_SameMachine m m = some true := by
  have h1 := h.labels.1
  have h2 := h.taints.1
  unfold ref07_SameMachine
  rw [SameL_self (by omega), SameT_self (by omega)]
  simp [seq_eq]
theorem Same9_all {ms : List T_api_Machine} {bs : List T_api_Bound} (hn : ms.length ≤ 1000) (hbn : bs.length ≤ 1000) (h : ∀ m, m ∈ ms → LM m) (hb : ∀ b, b ∈ bs → LP b.Pod) : ref09_Same ms bs ms bs = some true := by
  unfold ref09_Same
  rw [if_neg (by simp)]
  rcases loopI (F := fun n i => ref09_Same.l1 ms ms n i) (Q := fun r => False) (S := fun k => True) (len := ms.length) (by omega) (fun n k hk => by
      rw [ref09_Same.l1, if_pos (dlt hk), glk hk, wk1 (by omega)]
      simp only [Option.bind_some]
      rw [SameMachine_self (h _ (List.getElem_mem hk))]
      right
      simp) (fun n => by rw [ref09_Same.l1, if_neg dnl]) with ⟨r, _, h2⟩ | ⟨h1, _⟩
  · exact h2.elim
  · rcases loopI (F := fun n i => ref09_Same.l2 bs bs n i) (Q := fun r => False) (S := fun k => True) (len := bs.length) (by omega) (fun n k hk => by
      rw [ref09_Same.l2, if_pos (dlt hk), glk hk, wk1 (by omega)]
      simp only [Option.bind_some, seq_eq]
      rw [SamePod_self (hb _ (List.getElem_mem hk))]
      right
      simp) (fun n => by rw [ref09_Same.l2, if_neg dnl]) with ⟨r, _, h2⟩ | ⟨h3, _⟩
    · exact h2.elim
    · rw [h1]
      simp only [Option.bind_some, Out.on]
      rw [h3]; rfl

/-! copies are the same -/
theorem snap_mach {m : T_api_Machine} (h : LM m) : snap_machine m = some m := by
  have h1 := h.labels.1
  have h2 := h.taints.1
  unfold snap_machine
  rw [ap_ok (by omega) (by simp; omega), ap_ok (by omega) (by simp; omega)]
  rfl
theorem snap_pod_eq {p : T_api_Pod} (h : LP p) : snap_pod p = some p := by
  have h1 := h.labels.1
  have h2 := h.select.1
  have h3 := h.apart.1
  have h4 := h.spread.1
  have h5 := h.bears.1
  have h6 := h.nports
  have h7 := h.nterms
  unfold snap_pod
  have key : ∀ (l : List T_api_Term) (k : Nat) (q : T_api_Pod) (acc : List T_api_Term), (∀ t, t ∈ l → t.Vals.length ≤ 40) → acc.length + l.length ≤ 1000 → snap_pod.l1 l k q acc = some (q, acc ++ l) := by
    intro l
    induction l with
    | nil => intro k q acc _ _; simp [snap_pod.l1]
    | cons x l ih =>
      intro k q acc hv hl
      rw [List.length_cons] at hl
      have hx := hv x (List.mem_cons_self ..)
      rw [snap_pod.l1, ap_ok (by omega) (by simp; omega)]
      simp only [Option.bind_some, List.nil_append]
      rw [ap_ok (by omega) (by simp; omega)]
      simp only [Option.bind_some]
      rw [ih _ _ _ (fun t ht => hv t (List.mem_cons_of_mem _ ht)) (by simp; omega)]
      simp
  rw [ap_ok (by omega) (by simp; omega), ap_ok (by omega) (by simp; omega), ap_ok (by omega) (by simp; omega), ap_ok (by omega) (by simp; omega), ap_ok (by omega) (by simp; omega), ap_ok (by omega) (by simp; omega)]
  simp only [Option.bind_some, List.nil_append]
  rw [key p.Terms 0 _ [] (fun t ht => by
    obtain ⟨i, hi, rfl⟩ := List.getElem_of_mem ht
    exact (h.terms i hi).1) (by simp; omega)]
  rfl
theorem snap_ms {ms : List T_api_Machine} (hl : ms.length ≤ 1000) (h : ∀ m, m ∈ ms → LM m) : snap_machines ms = some ms := by
  unfold snap_machines
  have key : ∀ (l : List T_api_Machine) (k : Nat) (acc : List T_api_Machine), (∀ m, m ∈ l → LM m) → acc.length + l.length ≤ 1000 → snap_machines.l1 l k acc = some (acc ++ l) := by
    intro l
    induction l with
    | nil => intro k acc _ _; simp [snap_machines.l1]
    | cons x l ih =>
      intro k acc hv hl
      rw [List.length_cons] at hl
      rw [snap_machines.l1, snap_mach (hv x (List.mem_cons_self ..))]
      simp only [Option.bind_some]
      rw [ap_ok (by omega) (by simp; omega)]
      simp only [Option.bind_some]
      rw [ih _ _ (fun t ht => hv t (List.mem_cons_of_mem _ ht)) (by simp; omega)]
      simp
  rw [key ms 0 [] h (by simpa using hl)]
  rfl
theorem snap_bs {bs : List T_api_Bound} (hl : bs.length ≤ 1000) (h : ∀ b, b ∈ bs → LP b.Pod) : snap_bounds bs = some bs := by
  unfold snap_bounds
  have key : ∀ (l : List T_api_Bound) (k : Nat) (acc : List T_api_Bound), (∀ b, b ∈ l → LP b.Pod) → acc.length + l.length ≤ 1000 → snap_bounds.l1 l k acc = some (acc ++ l) := by
    intro l
    induction l with
    | nil => intro k acc _ _; simp [snap_bounds.l1]
    | cons x l ih =>
      intro k acc hv hl
      rw [List.length_cons] at hl
      rw [snap_bounds.l1, snap_pod_eq (hv x (List.mem_cons_self ..))]
      simp only [Option.bind_some]
      rw [ap_ok (by omega) (by simp; omega)]
      simp only [Option.bind_some]
      rw [ih _ _ (fun t ht => hv t (List.mem_cons_of_mem _ ht)) (by simp; omega)]
      simp
  rw [key bs 0 [] h (by simpa using hl)]
  rfl

/-! by name -/
theorem first_same {len : Nat} {p : Nat → Prop} {r r' : Int} (h2 : firstAt len p r) (h4 : firstAt len p r') : r = r' := by
  rcases h2 with ⟨q, rfl, q1, q2, q3⟩ | ⟨rfl, q1⟩ <;> rcases h4 with ⟨q', rfl, q4, q5, q6⟩ | ⟨rfl, q4⟩
  · have : ¬ q < q' := fun h => q6 q h q2
    have : ¬ q' < q := fun h => q3 q' h q5
    omega
  · exact absurd q2 (q4 q q1)
  · exact absurd q5 (q1 q' q4)
  · rfl
theorem find_d (ms : List T_api_Machine) (name : ByteArray) (hl : ms.length ≤ 1000) : ∃ r, yard_Find ms name = some r ∧ ref09_Find ms name = some r ∧ ((r = -1 ∧ name ∉ ms.map (·.Name)) ∨ ∃ k : Nat, r = (k : Int) ∧ ∃ h : k < ms.length, ms[k].Name = name) := by
  obtain ⟨r, h1, h2⟩ := Find_first ms name hl
  obtain ⟨r', h3, h4⟩ := Find9_eq ms name (by omega)
  have e := first_same h2 h4
  subst e
  refine ⟨r, h1, h3, ?_⟩
  rcases h2 with ⟨q, rfl, q1, ⟨q2, q3⟩, _⟩ | ⟨rfl, q1⟩
  · exact .inr ⟨q, rfl, q2, q3⟩
  · refine .inl ⟨rfl, fun h => ?_⟩
    obtain ⟨m, hm, e⟩ := List.mem_map.1 h
    obtain ⟨i, hi, rfl⟩ := List.getElem_of_mem hm
    exact q1 i hi ⟨hi, e⟩
theorem Place_first (bs : List T_api_Bound) (name : ByteArray) (hl : bs.length ≤ 1000) : ∃ r, yard_Place bs name = some r ∧ firstAt bs.length (fun k => ∃ h : k < bs.length, bs[k].Pod.Name = name) r := by
  unfold yard_Place yard_first_yard_Place_1
  obtain ⟨r, h1, h2⟩ := loopF (p := fun k => ∃ h : k < bs.length, bs[k].Pod.Name = name) (F := fun n i => yard_first_yard_Place_1.l1 (bs.length : Int) bs name n i) (len := bs.length) (by omega) (fun n k hk => by
    rw [yard_first_yard_Place_1.l1, if_pos (dlt hk), wk1 (by omega)]
    unfold yard_Place_1
    rw [glk hk]
    simp only [Option.bind_some, seq_eq]
    by_cases h : bs[k].Pod.Name = name
    · rw [if_pos (by simpa using h)]; exact .inl ⟨rfl, hk, h⟩
    · rw [if_neg (by simpa using h)]; exact .inr ⟨rfl, fun ⟨_, h'⟩ => h h'⟩) (fun n => by rw [yard_first_yard_Place_1.l1, if_neg dnl])
  exact ⟨r, (congrArg (fun o => Option.bind o fun r => some r) h1).trans rfl, h2⟩
theorem place_d (bs : List T_api_Bound) (name : ByteArray) (hl : bs.length ≤ 1000) : ∃ r, yard_Place bs name = some r ∧ ref09_Place bs name = some r ∧ ((r = -1 ∧ name ∉ bs.map (·.Pod.Name)) ∨ ∃ k : Nat, r = (k : Int) ∧ ∃ h : k < bs.length, bs[k].Pod.Name = name) := by
  obtain ⟨r, h1, h2⟩ := Place_first bs name hl
  obtain ⟨r', h3, h4⟩ := Place9_eq bs name (by omega)
  have e := first_same h2 h4
  subst e
  refine ⟨r, h1, h3, ?_⟩
  rcases h2 with ⟨q, rfl, q1, ⟨q2, q3⟩, _⟩ | ⟨rfl, q1⟩
  · exact .inr ⟨q, rfl, q2, q3⟩
  · refine .inl ⟨rfl, fun h => ?_⟩
    obtain ⟨m, hm, e⟩ := List.mem_map.1 h
    obtain ⟨i, hi, rfl⟩ := List.getElem_of_mem hm
    exact q1 i hi ⟨hi, e⟩
theorem fit_put (bs : List T_api_Bound) (p : T_api_Pod) (on : ByteArray) (hl : bs.length ≤ 900) : fit_Put bs p on = some (othersS bs p.Name ++ [⟨p, on⟩]) ∧ ref12_Put bs p on = some (othersS bs p.Name ++ [⟨p, on⟩]) := by
  have hol : (othersS bs p.Name).length ≤ bs.length := List.length_filter_le _ _
  constructor
  · unfold fit_Put
    rw [rowFilter (G := fun l k s => fit_Put.l1 p l k s) (fun b => !decide (b.Pod.Name = p.Name)) (fun x r k s hs => by
      rw [fit_Put.l1, seq_eq]
      by_cases h : x.Pod.Name = p.Name
      · rw [if_neg (by simp [h]), if_neg (by simp [h])]
      · rw [if_pos (by simp [h]), if_pos (by simp [h]), ap_ok (by omega) (by simp; omega)]; rfl) (fun k s => rfl) bs 0 [] (by simp; omega)]
    simp only [Option.bind_some, List.nil_append]
    have e : (bs.filter fun b => !decide (b.Pod.Name = p.Name)) = othersS bs p.Name := by
      unfold othersS
      exact List.filter_congr fun b _ => by simp
    rw [e]
    rw [ap_ok (by omega) (by simp; omega)]
    rfl
  · unfold ref12_Put
    rw [Others_ref bs p.Name (by omega)]
    simp only [Option.bind_some]
    rw [ap_ok (by omega) (by simp; omega)]
    rfl
end Go.Proofs.YtmpkpnclmihdnaaGreat.M

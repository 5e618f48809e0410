/-
  Printed by a program of this session out of the loaded functions: models and their proofs. Own text.
-/
import Derived.Test.YtmpkpnclmihdnaaGreatPRef4
import Derived.Test.YtmpkpnclmihdnaaGreatPRef9
/-
  Plain laws: whether too many would stand in a zone, and why a pod cannot run, told alike by the program and the document. Own text.
-/
namespace Go.Proofs.YtmpkpnclmihdnaaGreat.M
open Go Go.Proofs Go.Proofs.YtmpkpnclmihdnaaGreat.V
set_option linter.unusedVariables false

/-- The least count, and that of one's own zone. -/
def mstep (my : Option ByteArray) (cnt : ByteArray → Int) (s : Bool × Int × Int) (z : ByteArray) : Bool × Int × Int := if my = some z then (true, cnt z, min s.2.2 (cnt z)) else (s.1, s.2.1, min s.2.2 (cnt z))

theorem many_fold (my : Option ByteArray) (cnt : ByteArray → Int) : ∀ (l : List ByteArray) (s : Bool × Int × Int), (l.foldl (mstep my cnt) s).1 = (s.1 || l.any fun z => decide (my = some z)) ∧ (l.foldl (mstep my cnt) s).2.2 = l.foldl (fun a z => min a (cnt z)) s.2.2 ∧
    (l.foldl (mstep my cnt) s).2.1 = (if (l.any fun z => decide (my = some z)) = true then cnt (my.getD ⟨#[]⟩) else s.2.1)
  | [], s => by simp
  | z :: l, s => by
    obtain ⟨h1, h2, h3⟩ := many_fold my cnt l (mstep my cnt s z)
    rw [List.foldl_cons, h1, h2, h3, List.any_cons, List.foldl_cons]
    unfold mstep
    by_cases e : my = some z
    · rw [if_pos e]
      simp [e]
    · rw [if_neg e]
      have e' : decide (my = some z) = false := by simpa using e
      rw [e', Bool.false_or]
      exact ⟨rfl, rfl, rfl⟩

theorem min_fold {cnt : ByteArray → Int} (l : List ByteArray) : ∀ (a : Int), (l.foldl (fun a z => min a (cnt z)) a) ≤ a ∧ (∀ z, z ∈ l → (l.foldl (fun a z => min a (cnt z)) a) ≤ cnt z) ∧ ((l.foldl (fun a z => min a (cnt z)) a) = a ∨ ∃ z, z ∈ l ∧ (l.foldl (fun a z => min a (cnt z)) a) = cnt z) := by
  induction l with
  | nil => intro a; exact ⟨Int.le_refl _, fun z h => (by cases h), .inl rfl⟩
  | cons x l ih =>
    intro a
    obtain ⟨h1, h2, h3⟩ := ih (min a (cnt x))
    rw [List.foldl_cons]
    generalize List.foldl (fun a z => min a (cnt z)) (min a (cnt x)) l = R at *
    refine ⟨by omega, fun z hz => ?_, ?_⟩
    · rcases List.mem_cons.1 hz with rfl | hz
      · omega
      · exact h2 z hz
    · rcases h3 with h3 | ⟨z, hz, h3⟩
      · by_cases e : a ≤ cnt x
        · left; omega
        · right; exact ⟨x, List.mem_cons_self .., by omega⟩
      · right; exact ⟨z, List.mem_cons_of_mem _ hz, h3⟩

theorem Many_ref {ms : List T_api_Machine} {bs : List T_api_Bound} {p : T_api_Pod} (on : ByteArray) (hl : ms.length ≤ 400) (hbl : bs.length ≤ 400) (hm : ∀ m, m ∈ ms → GM m) (hn : (ms.map (·.Name)).Nodup) (hb : ∀ b, b ∈ bs → GP b.Pod) (hp : GP p) : ref11_Many ms bs p on = some (manyV ms bs p on) := by
  rw [← many_V bs p on (by omega)]
  unfold ref11_Many apart_Many
  obtain ⟨r, hr, hf⟩ := Find9_eq ms on (by omega)
  obtain ⟨r', hr', hf'⟩ := Find_first ms on (by omega)
  have hrr : decide (r < (0 : Int)) = decide (r' < (0 : Int)) := by
    rw [decide_eq_decide]
    rcases hf with ⟨q, rfl, b, c, e⟩ | ⟨rfl, b⟩
    · rcases hf' with ⟨q', rfl, b', c', e'⟩ | ⟨rfl, b'⟩
      · omega
      · exact absurd c (b' q b)
    · rcases hf' with ⟨q', rfl, b', c', e'⟩ | ⟨rfl, b'⟩
      · exact absurd c' (b q' b')
      · exact Iff.rfl
  rw [hr, hr']
  simp only [Option.bind_some, hrr]
  have hlp := hp.lp.labels.1
  have hsp := hp.lp.spread.1
  by_cases hs : p.Spread.length = 0
  · rw [hs]; rfl
  have hs' : ((p.Spread.length : Int) == 0) = false := by
    have : ¬ (p.Spread.length : Int) = 0 := by omega
    simpa using this
  rw [hs']
  simp only [Bool.false_eq_true, if_false, Option.bind_some]
  by_cases hneg : r' < 0
  · rw [if_pos (by simpa using hneg), if_pos (by simpa using hneg)]
  rw [if_neg (by simpa using hneg), if_neg (by simpa using hneg)]
  rw [zone11_eq on (by omega) hm, Counts11_eq (by omega) (by omega) hm hb hp, zones_V, Counts_eq p (by omega) (by omega) hm hn, Has5_B (by omega) (by omega) hp.labels, has_B]
  simp only [Option.bind_some]
  have hcr := cntZ_range ms bs p
  have hzl := zonesL_len ms
  have hsk := hp.skew hs
  have hzmg : V.mg (zonesV ms) on = zoneS ms on := zones_mg hm hn on
  generalize hcnt : cntZ ms bs p = cnt at *
  generalize hzz : zonesL ms = zl at *
  -- the program's round
  have hP : ∀ (l : List ByteArray) (k : Nat) (s : Bool × Int × Int), zl.drop k = l → apart_Many.l1 on (zonesV ms) (zl, zl.map cnt) l k s.1 s.2.1 s.2.2 = some (l.foldl (mstep (zoneS ms on) cnt) s) := by
    intro l
    induction l with
    | nil => intro k s _; rfl
    | cons z l ih =>
      intro k s hd
      have hk : k < zl.length := by
        have := congrArg List.length hd
        rw [List.length_drop, List.length_cons] at this
        omega
      have hx : zl[k] = z := by
        rw [List.drop_eq_getElem_cons hk] at hd
        exact (List.cons.inj hd).1
      have hd2 : zl.drop (k + 1) = l := by
        rw [List.drop_eq_getElem_cons hk] at hd
        exact (List.cons.inj hd).2
      have hg : V.gl (zl.map cnt) (k : Int) = some (cnt z) := by rw [glk (by simpa using hk)]; simp [hx]
      rw [apart_Many.l1]
      simp only [hg, Option.bind_some, hzmg, seq_eq]
      rw [List.foldl_cons]
      cases hz : zoneS ms on with
      | none =>
        simp only [Option.isSome_none, Bool.false_and, Bool.false_eq_true, if_false]
        rw [hz] at ih
        have := ih (k + 1) (mstep none cnt s z) hd2
        unfold mstep at this ⊢
        rw [if_neg (by simp)] at this ⊢
        exact this
      | some y =>
        rw [hz] at ih
        have := ih (k + 1) (mstep (some y) cnt s z) hd2
        simp only [Option.isSome_some, Bool.true_and, Option.getD_some]
        unfold mstep at this ⊢
        by_cases e : z = y
        · subst e
          rw [if_pos (by simp)]
          rw [if_pos rfl] at this ⊢
          exact this
        · have e' : ¬ (some y = some z) := fun q => e (by injection q with q; exact q.symm)
          rw [if_neg (by simpa using e)]
          rw [if_neg e'] at this ⊢
          exact this
  rw [show apart_Many.l1 on (zonesV ms) (zl, zl.map cnt) zl 0 false 0 401 = _ from hP zl 0 (false, 0, 401) rfl]
  -- the document's
  have hstep : ∀ (n : Nat) (s : Bool × Int × Int) (k : Nat) (hk : k < zl.length), 1 ≤ k → ref11_Many.l1 ((zoneS ms on).getD ⟨#[]⟩, (zoneS ms on).isSome) (zl, zl.map cnt) (n + 1) s.2.1 s.2.2 (k : Int) = ref11_Many.l1 ((zoneS ms on).getD ⟨#[]⟩, (zoneS ms on).isSome) (zl, zl.map cnt) n (mstep (zoneS ms on) cnt s zl[k]).2.1 (mstep (zoneS ms on) cnt s zl[k]).2.2 ((k + 1 : Nat) : Int) := by
    intro n s k hk h1
    have hg : V.gl (zl.map cnt) (k : Int) = some (cnt zl[k]) := by rw [glk (by simpa using hk)]; simp
    rw [ref11_Many.l1, if_pos (dlt hk), wk1 (by omega)]
    have hk0 : ((k : Int) == 0) = false := by
      have : ¬ (k : Int) = 0 := by omega
      simpa using this
    simp only [hk0, hg, glk hk, Bool.false_eq_true, if_false, Option.bind_some, seq_eq]
    unfold mstep
    cases hz : zoneS ms on with
    | none =>
      simp only [Option.isSome_none, Bool.false_eq_true, if_false, Option.bind_some]
      rw [if_neg (show ¬ ((none : Option ByteArray) = some zl[k]) by simp)]
      by_cases hlt : cnt zl[k] < s.2.2
      · rw [if_pos (by simpa using hlt), show min s.2.2 (cnt zl[k]) = cnt zl[k] by omega]
      · rw [if_neg (by simpa using hlt), show min s.2.2 (cnt zl[k]) = s.2.2 by omega]
    | some y =>
      simp only [Option.isSome_some, if_true, Option.bind_some, Option.getD_some]
      by_cases e : zl[k] = y
      · subst e
        rw [if_pos rfl]
        by_cases hlt : cnt zl[k] < s.2.2
        · simp only [hlt, decide_true, if_true]; rw [show min s.2.2 (cnt zl[k]) = cnt zl[k] by omega]
        · simp only [hlt, decide_false, Bool.false_eq_true, if_false, decide_true, if_true]; rw [show min s.2.2 (cnt zl[k]) = s.2.2 by omega]
      · have e' : ¬ (some y = some zl[k]) := fun q => e (by injection q with q; exact q.symm)
        rw [if_neg e']
        by_cases hlt : cnt zl[k] < s.2.2
        · simp only [hlt, e, decide_true, decide_false, Bool.false_eq_true, if_true, if_false]; rw [show min s.2.2 (cnt zl[k]) = cnt zl[k] by omega]
        · simp only [hlt, e, decide_false, Bool.false_eq_true, if_false]; rw [show min s.2.2 (cnt zl[k]) = s.2.2 by omega]
  have hend : ∀ n a b, ref11_Many.l1 ((zoneS ms on).getD ⟨#[]⟩, (zoneS ms on).isSome) (zl, zl.map cnt) (n + 1) a b (zl.length : Int) = some (a, b) := fun n a b => by rw [ref11_Many.l1, if_neg dnl]
  cases hzl0 : zl with
  | nil =>
    have h0 : ref11_Many.l1 ((zoneS ms on).getD ⟨#[]⟩, (zoneS ms on).isSome) ([], [].map cnt) FU (-1) 0 0 = some (-1, 0) := rfl
    rw [h0]
    simp only [Option.bind_some]
    rw [if_pos (by decide)]
    cases hasB p.Labels p.Spread <;> rfl
  | cons z zs =>
    have hpos : 0 < zl.length := by rw [hzl0]; simp
    have hz0 : zl[0] = z := by simp [hzl0]
    obtain ⟨F, hF⟩ : ∃ F, FU = F + 1 := ⟨FU - 1, rfl⟩
    -- the first round
    have hfirst : ref11_Many.l1 ((zoneS ms on).getD ⟨#[]⟩, (zoneS ms on).isSome) (zl, zl.map cnt) FU (-1) 0 0 = ref11_Many.l1 ((zoneS ms on).getD ⟨#[]⟩, (zoneS ms on).isSome) (zl, zl.map cnt) F (mstep (zoneS ms on) cnt (false, -1, cnt z) z).2.1 (mstep (zoneS ms on) cnt (false, -1, cnt z) z).2.2 ((0 + 1 : Nat) : Int) := by
      have hg : V.gl (zl.map cnt) ((0 : Nat) : Int) = some (cnt z) := by rw [glk (by simpa using hpos)]; simp [hz0]
      have hg' : V.gl zl ((0 : Nat) : Int) = some z := by rw [glk hpos, hz0]
      rw [hF, show (0 : Int) = ((0 : Nat) : Int) from rfl, ref11_Many.l1, if_pos (dlt hpos), wk1 (by omega)]
      have hk0 : (((0 : Nat) : Int) == ((0 : Nat) : Int)) = true := by simp
      have hk1 : (((0 : Nat) : Int) == (0 : Int)) = true := rfl
      simp only [hk0, hk1, hg, hg', if_true, Option.bind_some, seq_eq]
      unfold mstep
      cases hz : zoneS ms on with
      | none =>
        simp only [Option.isSome_none, Bool.false_eq_true, if_false, Option.bind_some]
        rw [if_neg (show ¬ ((none : Option ByteArray) = some z) by simp), show min (cnt z) (cnt z) = cnt z by omega]
      | some y =>
        simp only [Option.isSome_some, if_true, Option.bind_some, Option.getD_some]
        by_cases e : z = y
        · subst e
          simp only [decide_true, if_true]; rw [show min (cnt z) (cnt z) = cnt z by omega]
        · have e' : ¬ (some y = some z) := fun q => e (by injection q with q; exact q.symm)
          rw [if_neg e']
          simp only [e, decide_false, Bool.false_eq_true, if_false]; rw [show min (cnt z) (cnt z) = cnt z by omega]
    have hrest : ∀ (m k n : Nat) (s : Bool × Int × Int), zl.length - k ≤ m → m < n → k ≤ zl.length → 1 ≤ k → ref11_Many.l1 ((zoneS ms on).getD ⟨#[]⟩, (zoneS ms on).isSome) (zl, zl.map cnt) n s.2.1 s.2.2 (k : Int) = some (((zl.drop k).foldl (mstep (zoneS ms on) cnt) s).2.1, ((zl.drop k).foldl (mstep (zoneS ms on) cnt) s).2.2) := by
      intro m
      induction m with
      | zero =>
        intro k n s h1 h2 h3 h4
        obtain ⟨n, rfl⟩ : ∃ q, n = q + 1 := ⟨n - 1, by omega⟩
        obtain rfl : k = zl.length := by omega
        rw [hend, List.drop_eq_nil_of_le (Nat.le_refl _)]; rfl
      | succ m ih =>
        intro k n s h1 h2 h3 h4
        obtain ⟨n, rfl⟩ : ∃ q, n = q + 1 := ⟨n - 1, by omega⟩
        by_cases hk : k < zl.length
        · rw [hstep n s k hk h4, ih (k + 1) n _ (by omega) (by omega) (by omega) (by omega), List.drop_eq_getElem_cons hk]; rfl
        · obtain rfl : k = zl.length := by omega
          rw [hend, List.drop_eq_nil_of_le (Nat.le_refl _)]; rfl
    have hFU : zl.length < F := by
      have : F = FU - 1 := by omega
      rw [this]; unfold FU; omega
    have hdoc := hrest zl.length 1 F (mstep (zoneS ms on) cnt (false, -1, cnt z) z) (by omega) hFU (by omega) (Nat.le_refl _)
    have hd1 : zl.drop 1 = zs := by rw [hzl0]; rfl
    rw [hd1] at hdoc
    rw [← hzl0, hfirst, show ((0 + 1 : Nat) : Int) = ((1 : Nat) : Int) from rfl, hdoc]
    rw [show zs.foldl (mstep (zoneS ms on) cnt) (mstep (zoneS ms on) cnt (false, -1, cnt z) z) = zl.foldl (mstep (zoneS ms on) cnt) (false, -1, cnt z) by rw [hzl0]; rfl]
    simp only [Option.bind_some]
    obtain ⟨a1, a2, a3⟩ := many_fold (zoneS ms on) cnt zl (false, 0, 401)
    obtain ⟨b1, b2, b3⟩ := many_fold (zoneS ms on) cnt zl (false, -1, cnt z)
    simp only at a1 a2 a3 b1 b2 b3
    rw [a1, a2, a3, b2, b3, Bool.false_or]
    have hle : ∀ y, cnt y ≤ 400 := fun y => by have := (hcr y).2; omega
    have hmin : zl.foldl (fun a z => min a (cnt z)) 401 = zl.foldl (fun a z => min a (cnt z)) (cnt z) := by
      obtain ⟨u1, u2, u3⟩ := min_fold (cnt := cnt) zl 401
      obtain ⟨v1, v2, v3⟩ := min_fold (cnt := cnt) zl (cnt z)
      have hzin : z ∈ zl := by rw [hzl0]; exact List.mem_cons_self ..
      have w1 := u2 z hzin
      have w2 := hle z
      rcases u3 with u3 | ⟨y, hy, u3⟩
      · omega
      · have := v2 y hy
        rcases v3 with v3 | ⟨y', hy', v3⟩
        · omega
        · have := u2 y' hy'
          omega
    rw [hmin]
    have hLr : 0 ≤ zl.foldl (fun a z => min a (cnt z)) (cnt z) ∧ zl.foldl (fun a z => min a (cnt z)) (cnt z) ≤ 400 := by
      obtain ⟨v1, v2, v3⟩ := min_fold (cnt := cnt) zl (cnt z)
      have := hle z
      refine ⟨?_, by omega⟩
      rcases v3 with v3 | ⟨y', _, v3⟩
      · have := (hcr z).1; omega
      · have := (hcr y').1; omega
    generalize zl.foldl (fun a z => min a (cnt z)) (cnt z) = L at *
    cases hmet : zl.any fun z => decide (zoneS ms on = some z) with
    | false =>
      simp only [Bool.false_eq_true, if_false]
      rw [if_pos (by decide)]
      cases hasB p.Labels p.Spread <;> rfl
    | true =>
      simp only [if_true]
      have hmr := hcr ((zoneS ms on).getD ⟨#[]⟩)
      have hml := hle ((zoneS ms on).getD ⟨#[]⟩)
      generalize cnt ((zoneS ms on).getD ⟨#[]⟩) = M at *
      rw [if_neg (by simp; omega), w_eq (x := M + 1) (by omega) (by omega), w_eq (x := M + 1 - L) (by omega) (by omega), w_eq (x := M - L) (by omega) (by omega), w_eq (x := L + p.Skew) (by omega) (by omega)]
      have e1 : decide (M + 1 - L > p.Skew) = decide (M + 1 > L + p.Skew) := by rw [decide_eq_decide]; omega
      have e2 : decide (M - L > p.Skew) = decide (M > L + p.Skew) := by rw [decide_eq_decide]; omega
      rw [e1, e2]
      cases hasB p.Labels p.Spread <;> simp

theorem Why12_eq {ms : List T_api_Machine} {bs : List T_api_Bound} {p : T_api_Pod} {m : T_api_Machine} (hl : ms.length ≤ 400) (hbl : bs.length ≤ 400) (hms : ∀ m, m ∈ ms → GM m) (hn : (ms.map (·.Name)).Nodup) (hb : ∀ b, b ∈ bs → GP b.Pod) (hp : GP p) (hm : m ∈ ms) :
    ref12_Why ms bs p m.Name = some (whyV ms bs p m) := by
  unfold ref12_Why
  obtain ⟨r, hr, hf⟩ := Find9_eq ms m.Name (by omega)
  rw [hr]
  simp only [Option.bind_some]
  rcases hf with ⟨k, rfl, hk, ⟨_, he⟩, _⟩ | ⟨rfl, b⟩
  · have hmk : ms[k] = m := by
      obtain ⟨i, hi, rfl⟩ := List.getElem_of_mem hm
      by_cases e : k = i
      · subst e; rfl
      · exfalso
        have hnd := (show (ms.map (·.Name)).Nodup ↔ _ from List.pairwise_iff_getElem).1 hn
        by_cases hlt : k < i
        · exact hnd k i (by simpa using hk) (by simpa using hi) hlt (by simpa using he)
        · exact hnd i k (by simpa using hi) (by simpa using hk) (by omega) (by simpa using he.symm)
    rw [if_neg (by simp), glk hk, hmk]
    simp only [Option.bind_some]
    rw [Suits_ref (hms m hm) hp (by omega) hb]
    unfold whyV
    simp only [Option.bind_some]
    by_cases h : suitV m bs p = 0
    · rw [if_neg (by simp [h]), if_pos h]
      unfold ref11_Why
      rw [near_ref (by omega) (by omega) hms hn hb hp hm, Many_ref m.Name hl hbl hms hn hb hp]
      cases nearB (zonesV ms) bs p m.Name <;> cases manyV ms bs p m.Name <;> rfl
    · rw [if_pos (by simpa using h), if_neg h]
  · obtain ⟨i, hi, rfl⟩ := List.getElem_of_mem hm
    exact absurd ⟨hi, rfl⟩ (b i hi)

end Go.Proofs.YtmpkpnclmihdnaaGreat.M
/-
  Plain laws: where a pod can be. Own text.
-/
namespace Go.Proofs.YtmpkpnclmihdnaaGreat.M
open Go Go.Proofs Go.Proofs.YtmpkpnclmihdnaaGreat.V
set_option linter.unusedVariables false
set_option maxRecDepth 20000
set_option maxHeartbeats 4000000

theorem Where12_eq {ms : List T_api_Machine} {bs : List T_api_Bound} {p : T_api_Pod} (hl : ms.length ≤ 400) (hbl : bs.length ≤ 400) (hms : ∀ m, m ∈ ms → GM m) (hn : (ms.map (·.Name)).Nodup) (hb : ∀ b, b ∈ bs → GP b.Pod) (hp : GP p) :
    ref12_Where ms bs p = some ((ms.filter fun m => decide (whyV ms bs p m = 0)).map (·.Name)) := by
  unfold ref12_Where
  have := idxFoldL (F := fun n s i => ref12_Where.l1 ms bs p n s i) (l := ms) (fun acc m => if whyV ms bs p m = 0 then acc ++ [m.Name] else acc) id (fun k s => s.length ≤ k) (by omega) (fun n s k hk hI => by
    rw [ref12_Where.l1, if_pos (dlt hk), glk hk, wk1 (by omega)]
    simp only [Option.bind_some]
    rw [Why12_eq hl hbl hms hn hb hp (List.getElem_mem hk)]
    simp only [Option.bind_some]
    by_cases h : whyV ms bs p ms[k] = 0
    · rw [if_pos (by simpa using h), if_pos h, ap_ok (by omega) (by simp; omega)]; exact ⟨rfl, by simp; omega⟩
    · rw [if_neg (by simpa using h), if_neg h]; exact ⟨rfl, by omega⟩) (fun n s => by rw [ref12_Where.l1, if_neg dnl]; rfl) [] (by simp)
  rw [show ref12_Where.l1 ms bs p FU [] 0 = _ from this]
  simp only [Option.bind_some, id]
  congr 1
  have key : ∀ (l : List T_api_Machine) (acc : List ByteArray), l.foldl (fun acc m => if whyV ms bs p m = 0 then acc ++ [m.Name] else acc) acc = acc ++ (l.filter fun m => decide (whyV ms bs p m = 0)).map (·.Name) := by
    intro l
    induction l with
    | nil => intro acc; simp
    | cons x l ih =>
      intro acc
      rw [List.foldl_cons, ih]
      by_cases h : whyV ms bs p x = 0
      · rw [if_pos h, List.filter_cons_of_pos (by simpa using h)]; simp
      · rw [if_neg h, List.filter_cons_of_neg (by simpa using h)]
  rw [key, List.nil_append]
end Go.Proofs.YtmpkpnclmihdnaaGreat.M
/-
  Plain laws: shares, as the document says. Own text.
-/
namespace Go.Proofs.YtmpkpnclmihdnaaGreat.M
open Go Go.Proofs Go.Proofs.YtmpkpnclmihdnaaGreat.V
open Go.IntKind (i64)
set_option linter.unusedVariables false
set_option maxRecDepth 20000
set_option maxHeartbeats 4000000

theorem part_same {a b : Int} (ha : rOK a = true) (hb : rOK b = true) : res_part a b = ref04_part a b ∧ isS (ref04_part a b) := by
  rw [rOK_iff] at ha hb
  unfold res_part ref04_part
  by_cases h0 : b = 0
  · subst h0
    by_cases h1 : a = 0
    · subst h1; exact ⟨rfl, 0, rfl⟩
    · rw [if_neg (by decide), if_pos (by rw [decide_eq_true_eq]; omega), if_pos (by rfl), if_neg (by simpa using h1)]
      exact ⟨rfl, _, rfl⟩
  · rw [if_pos (by rw [decide_eq_true_eq]; omega), if_neg (by simpa using h0)]
    refine ⟨rfl, ?_⟩
    unfold V.quo
    rw [if_neg h0]
    exact ⟨_, rfl⟩
theorem Share_same (a b : T_api_Res) : ref04_Share a b = res_Share a b ∧ isS (res_Share a b) := by
  unfold ref04_Share res_Share
  simp only [ref04_Right_eq, res_Right_eq, Option.bind_some]
  cases ha : resOK a with
  | false => exact ⟨rfl, _, rfl⟩
  | true =>
    cases hb : resOK b with
    | false => exact ⟨rfl, _, rfl⟩
    | true =>
      obtain ⟨a1, a2, _⟩ := resOK_split ha
      obtain ⟨b1, b2, _⟩ := resOK_split hb
      obtain ⟨c1, x, c2⟩ := part_same a1 b1
      obtain ⟨d1, y, d2⟩ := part_same a2 b2
      simp only [Bool.not_true, Bool.false_eq_true, if_false, Option.bind_some]
      rw [c1, d1, c2, d2]
      exact ⟨rfl, _, rfl⟩
theorem share_R (a b : T_api_Res) : ref04_Share a b = some (shareV a b) := by rw [(Share_same a b).1, share_V]
end Go.Proofs.YtmpkpnclmihdnaaGreat.M

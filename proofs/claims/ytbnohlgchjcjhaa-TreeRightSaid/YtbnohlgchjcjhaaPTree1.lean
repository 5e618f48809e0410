/-
  Plain laws of trees: forests, their nodes in a row, and where trees and kids stand. Own text.
-/
import Derived.Test.YtbnohlgchjcjhaaPL12
import Derived.Test.YtbnohlgchjcjhaaPAll
namespace Go.Proofs.Ytbnohlgchjcjhaa.M
open Go Go.Proofs Go.Proofs.Ytbnohlgchjcjhaa.V
set_option linter.unusedVariables false

/-- Trees, one behind the other: the first one's kind, text, place and kids, and the rest. -/
inductive Fo where
  | nil
  | nd (k : Int) (s : ByteArray) (a : Int) (c r : Fo)

def Fo.cnt : Fo → Nat
  | .nil => 0
  | .nd _ _ _ _ r => r.cnt + 1
def Fo.flat : Fo → List T_api_Node
  | .nil => []
  | .nd k s a c r => ⟨k, s, (c.cnt : Int), a⟩ :: (c.flat ++ r.flat)
def Fo.dep : Fo → Nat
  | .nil => 0
  | .nd k _ _ c r => max (if k = 5 then c.dep + 1 else c.dep) r.dep
def Fo.app : Fo → Fo → Fo
  | .nil, g => g
  | .nd k s a c r, g => .nd k s a c (r.app g)
def Fo.strip : Fo → Fo
  | .nil => .nil
  | .nd k s _ c r => .nd k s 0 c.strip r.strip
def Fo.toks : Fo → List (Int × List Int)
  | .nil => []
  | .nd k s _ c r => if k = 5 then (1, [40]) :: (c.toks ++ (2, [41]) :: r.toks) else (k, bytesL s) :: r.toks
/-- Lists have no text of their own, all else no kids. -/
def Fo.wf : Fo → Prop
  | .nil => True
  | .nd k s _ c r => ((k = 5 ∧ s = ⟨#[]⟩) ∨ ((k = 3 ∨ k = 4) ∧ c = .nil)) ∧ c.wf ∧ r.wf

theorem Fo.cnt_app : ∀ (f g : Fo), (f.app g).cnt = f.cnt + g.cnt
  | .nil, g => by simp [Fo.app, Fo.cnt]
  | .nd k s a c r, g => by rw [Fo.app, Fo.cnt, Fo.cnt, Fo.cnt_app r g]; omega
theorem Fo.flat_app : ∀ (f g : Fo), (f.app g).flat = f.flat ++ g.flat
  | .nil, g => rfl
  | .nd k s a c r, g => by rw [Fo.app, Fo.flat, Fo.flat, Fo.flat_app r g]; simp
theorem Fo.toks_app : ∀ (f g : Fo), (f.app g).toks = f.toks ++ g.toks
  | .nil, g => rfl
  | .nd k s a c r, g => by
    rw [Fo.app, Fo.toks, Fo.toks, Fo.toks_app r g]
    split <;> simp
theorem Fo.dep_app : ∀ (f g : Fo), (f.app g).dep = max f.dep g.dep
  | .nil, g => by simp [Fo.app, Fo.dep]
  | .nd k s a c r, g => by rw [Fo.app, Fo.dep, Fo.dep, Fo.dep_app r g]; omega
theorem Fo.wf_app : ∀ (f g : Fo), f.wf → g.wf → (f.app g).wf
  | .nil, g, _, h => h
  | .nd k s a c r, g, h1, h2 => ⟨h1.1, h1.2.1, Fo.wf_app r g h1.2.2 h2⟩
theorem Fo.cnt_flat : ∀ (f : Fo), f.cnt ≤ f.flat.length
  | .nil => Nat.le_refl _
  | .nd k s a c r => by
    have := Fo.cnt_flat r
    rw [Fo.cnt, Fo.flat, List.length_cons, List.length_append]; omega
theorem Fo.strip_cnt : ∀ (f g : Fo), f.strip = g.strip → f.cnt = g.cnt
  | .nil, .nil, _ => rfl
  | .nil, .nd .., h => by simp [Fo.strip] at h
  | .nd .., .nil, h => by simp [Fo.strip] at h
  | .nd k s a c r, .nd k' s' a' c' r', h => by
    simp only [Fo.strip, Fo.nd.injEq] at h
    rw [Fo.cnt, Fo.cnt, Fo.strip_cnt r r' h.2.2.2.2]
theorem Fo.strip_app : ∀ (f g : Fo), (f.app g).strip = f.strip.app g.strip
  | .nil, g => rfl
  | .nd k s a c r, g => by rw [Fo.app, Fo.strip, Fo.strip, Fo.app, Fo.strip_app r g]
def nodeZ (x : T_api_Node) : Int × ByteArray × Int := (x.Kind, x.Text, x.Kids)
theorem Fo.strip_flat : ∀ (f g : Fo), f.strip = g.strip → f.flat.map nodeZ = g.flat.map nodeZ
  | .nil, .nil, _ => rfl
  | .nil, .nd .., h => by simp [Fo.strip] at h
  | .nd .., .nil, h => by simp [Fo.strip] at h
  | .nd k s a c r, .nd k' s' a' c' r', h => by
    simp only [Fo.strip, Fo.nd.injEq] at h
    obtain ⟨rfl, rfl, _, h1, h2⟩ := h
    rw [Fo.flat, Fo.flat, List.map_cons, List.map_cons, List.map_append, List.map_append, Fo.strip_flat c c' h1, Fo.strip_flat r r' h2]
    simp only [nodeZ, Fo.strip_cnt c c' h1]

/-! two rows of nodes, alike but for their places -/
theorem SameN {a b : List T_api_Node} (h : a.map nodeZ = b.map nodeZ) (hl : a.length < 1000000000) : ref02_Same a b false = some true := by
  have hlen : a.length = b.length := by simpa using congrArg List.length h
  unfold ref02_Same
  rw [if_neg (by simp [hlen])]
  have := idxAll (F := fun n i => ref02_Same.l1 a b false n i) (len := a.length) (r0 := false) (fun _ => true) (by omega) (fun n k hk => by
    have hkb : k < b.length := by omega
    have e : nodeZ a[k] = nodeZ b[k] := by
      have : (a.map nodeZ)[k]'(by simpa using hk) = (b.map nodeZ)[k]'(by simpa using hkb) := by congr 1
      simpa using this
    unfold nodeZ at e
    simp only [Prod.mk.injEq] at e
    rw [ref02_Same.l1, if_pos (dlt hk), wk1 (by omega)]
    simp only [glk hk, glk hkb, Option.bind_some, e.1, e.2.1, e.2.2, bne_self_eq_false, Bool.false_eq_true, if_false, seq_eq, decide_true, Bool.not_true, if_true]) (fun n => by rw [ref02_Same.l1, if_neg dnl])
  rw [show ref02_Same.l1 a b false FU 0 = _ from this, if_pos (allN_iff.2 fun _ _ => rfl)]
  rfl

/-! where a tree ends -/
theorem end_l1 : ∀ (f : Fo) (pre post l : List T_api_Node) (w n : Nat), l = pre ++ (f.flat ++ post) → l.length ≤ 1000000 → w + f.flat.length * 1000000 ≤ 1000000000000000 →
    (f.cnt < w → tree_End.l1 l (n + f.flat.length) (pre.length : Int) (w : Int) = tree_End.l1 l n ((pre.length + f.flat.length : Nat) : Int) ((w - f.cnt : Nat) : Int)) ∧
    (w = f.cnt → f ≠ .nil → tree_End.l1 l (n + f.flat.length) (pre.length : Int) (w : Int) = some (Out.ret ((pre.length + f.flat.length : Nat) : Int)))
  | .nil, pre, post, l, w, n, hl, h1, h2 => by simp [Fo.cnt, Fo.flat]
  | .nd k s a c r, pre, post, l, w, n, hl, h1, h2 => by
    have hlen : l.length = pre.length + (c.flat.length + r.flat.length + 1) + post.length := by
      rw [hl]; simp [Fo.flat]; omega
    have hpl : pre.length < l.length := by omega
    have hget : l[pre.length] = ⟨k, s, (c.cnt : Int), a⟩ := by simp [hl, Fo.flat]
    have hcc := Fo.cnt_flat c
    have hrc := Fo.cnt_flat r
    have hc := end_l1 c (pre ++ [⟨k, s, (c.cnt : Int), a⟩]) (r.flat ++ post) l
    have hr := end_l1 r (pre ++ (⟨k, s, (c.cnt : Int), a⟩ :: c.flat)) post l
    have e1 : l = (pre ++ [⟨k, s, (c.cnt : Int), a⟩]) ++ (c.flat ++ (r.flat ++ post)) := by rw [hl]; simp [Fo.flat]
    have e2 : l = (pre ++ (⟨k, s, (c.cnt : Int), a⟩ :: c.flat)) ++ (r.flat ++ post) := by rw [hl]; simp [Fo.flat]
    have hfl : (Fo.nd k s a c r).flat.length = c.flat.length + r.flat.length + 1 := by simp [Fo.flat]
    have hcnt : (Fo.nd k s a c r).cnt = r.cnt + 1 := rfl
    rw [hfl] at h2
    rw [hfl, hcnt]
    have step : ∀ m : Nat, 1 ≤ w → tree_End.l1 l (m + 1) (pre.length : Int) (w : Int) = if w - 1 + c.cnt = 0 then some (Out.ret ((pre.length + 1 : Nat) : Int)) else tree_End.l1 l m ((pre.length + 1 : Nat) : Int) ((w - 1 + c.cnt : Nat) : Int) := by
      intro m hw
      rw [tree_End.l1, if_pos (dlt hpl), glk hpl, hget]
      simp only [Option.bind_some]
      have a1 : decide ((c.cnt : Int) < 0) = false := by simp
      have a2 : decide ((c.cnt : Int) > (l.length : Int)) = false := by simp; omega
      rw [a1, a2, wk1 (by omega), w_eq (x := (c.cnt : Int) - 1) (by omega) (by omega), w_eq (x := (w : Int) + ((c.cnt : Int) - 1)) (by omega) (by omega)]
      simp only [Bool.or_self, Bool.false_eq_true, if_false]
      by_cases h0 : w - 1 + c.cnt = 0
      · rw [if_pos h0, if_pos]
        have : (w : Int) + ((c.cnt : Int) - 1) = 0 := by omega
        simpa using this
      · rw [if_neg h0, if_neg]
        · congr 1; omega
        · have : ¬ (w : Int) + ((c.cnt : Int) - 1) = 0 := by omega
          simpa using this
    have hp1 : (pre ++ [(⟨k, s, (c.cnt : Int), a⟩ : T_api_Node)]).length = pre.length + 1 := by simp
    have hp2 : (pre ++ ((⟨k, s, (c.cnt : Int), a⟩ : T_api_Node) :: c.flat)).length = pre.length + 1 + c.flat.length := by simp; omega
    constructor
    · intro hw
      rw [show n + (c.flat.length + r.flat.length + 1) = (n + r.flat.length + c.flat.length) + 1 by omega, step _ (by omega), if_neg (by omega)]
      have c1 := (hc (w - 1 + c.cnt) (n + r.flat.length) e1 h1 (by omega)).1 (by omega)
      rw [hp1] at c1
      rw [c1]
      have r1 := (hr (w - 1 + c.cnt - c.cnt) n e2 h1 (by omega)).1 (by omega)
      rw [hp2] at r1
      rw [r1]
      congr 1 <;> omega
    · intro hw _
      rw [show n + (c.flat.length + r.flat.length + 1) = (n + r.flat.length + c.flat.length) + 1 by omega, step _ (by omega)]
      cases hrn : r with
      | nil =>
        subst hrn
        have hw1 : w = 1 := by rw [hw]; rfl
        subst hw1
        by_cases hc0 : c = .nil
        · subst hc0; simp [Fo.cnt, Fo.flat]
        · have hcp : 0 < c.cnt := by cases c with | nil => exact absurd rfl hc0 | nd => simp [Fo.cnt]
          rw [if_neg (by omega)]
          have c1 := (hc (1 - 1 + c.cnt) (n + Fo.nil.flat.length) e1 h1 (by omega)).2 (by omega) hc0
          rw [hp1] at c1
          rw [c1]
          congr 3
          simp [Fo.flat]; omega
      | nd k' s' a' c' r' =>
        rw [hrn] at hw hr e2 hc e1 h2
        have hrp : 0 < (Fo.nd k' s' a' c' r').cnt := by simp [Fo.cnt]
        rw [if_neg (by omega)]
        have c1 := (hc (w - 1 + c.cnt) (n + (Fo.nd k' s' a' c' r').flat.length) e1 h1 (by omega)).1 (by omega)
        rw [hp1] at c1
        rw [c1]
        have r1 := (hr (w - 1 + c.cnt - c.cnt) n e2 h1 (by omega)).2 (by omega) (by simp)
        rw [hp2] at r1
        rw [r1]
        congr 3
        omega

/-- The first tree's end. -/
theorem End_tree {k : Int} {s : ByteArray} {a : Int} {c : Fo} {pre post l : List T_api_Node} (hl : l = pre ++ ((Fo.nd k s a c .nil).flat ++ post)) (h1 : l.length ≤ 1000000) : tree_End l (pre.length : Int) = some ((pre.length + (c.flat.length + 1) : Nat) : Int) := by
  unfold tree_End
  rw [if_neg (by simp)]
  have hfl : (Fo.nd k s a c .nil).flat.length = c.flat.length + 1 := by simp [Fo.flat]
  have hlen : (Fo.nd k s a c .nil).flat.length ≤ l.length := by rw [hl]; simp; omega
  obtain ⟨n, hn⟩ : ∃ n, FU = n + (Fo.nd k s a c .nil).flat.length := ⟨FU - (Fo.nd k s a c .nil).flat.length, by unfold FU; omega⟩
  have := (end_l1 (Fo.nd k s a c .nil) pre post l 1 n hl h1 (by omega)).2 rfl (by simp)
  rw [← hn, hfl] at this
  rw [show tree_End.l1 l FU (pre.length : Int) 1 = _ from this]
  rfl

/-- The places of trees. -/
def posF (p : Nat) : Fo → List Int
  | .nil => []
  | .nd _ _ _ c r => (p : Int) :: posF (p + 1 + c.flat.length) r
theorem posF_len : ∀ (f : Fo) (p : Nat), (posF p f).length = f.cnt
  | .nil, _ => rfl
  | .nd _ _ _ c r, p => by rw [posF, List.length_cons, posF_len r, Fo.cnt]

theorem walk_pos : ∀ (f : Fo) (pre post l : List T_api_Node) (n : Nat) (acc : List Int), l = pre ++ (f.flat ++ post) → l.length ≤ 1000000 → acc.length + f.cnt ≤ 10000000 → f.cnt < n →
    tree_walk_tree_places_1.l1 l ((pre.length + f.flat.length : Nat) : Int) n (pre.length : Int) acc = some (Out.go (acc ++ posF pre.length f))
  | .nil, pre, post, l, n, acc, hl, h1, h2, h3 => by
    obtain ⟨n, rfl⟩ : ∃ q, n = q + 1 := ⟨n - 1, by omega⟩
    rw [tree_walk_tree_places_1.l1, if_neg (by simp [Fo.flat])]
    simp [posF]
  | .nd k s a c r, pre, post, l, n, acc, hl, h1, h2, h3 => by
    obtain ⟨n, rfl⟩ : ∃ q, n = q + 1 := ⟨n - 1, by omega⟩
    have hfl : (Fo.nd k s a c r).flat.length = c.flat.length + r.flat.length + 1 := by simp [Fo.flat]
    rw [Fo.cnt] at h2 h3
    have e1 : l = pre ++ ((Fo.nd k s a c .nil).flat ++ (r.flat ++ post)) := by rw [hl]; simp [Fo.flat]
    have hend := End_tree e1 h1
    have hbig : acc.length + 1 ≤ 10000000 := by omega
    rw [tree_walk_tree_places_1.l1, if_pos (by rw [decide_eq_true_eq, hfl]; omega), hend]
    simp only [Option.bind_some]
    rw [if_neg (by rw [decide_eq_true_eq]; omega)]
    unfold tree_places_1
    have hap : V.ap 8 acc [(pre.length : Int)] = some (acc ++ [(pre.length : Int)]) := by
      unfold V.ap
      rw [if_pos]
      simp only [List.length_cons, List.length_nil]
      refine ⟨by unfold maxLen; omega, by omega⟩
    rw [hap]
    simp only [Option.bind_some]
    have e2 : l = (pre ++ (⟨k, s, (c.cnt : Int), a⟩ :: c.flat)) ++ (r.flat ++ post) := by rw [hl]; simp [Fo.flat]
    have hp2 : (pre ++ ((⟨k, s, (c.cnt : Int), a⟩ : T_api_Node) :: c.flat)).length = pre.length + (c.flat.length + 1) := by simp
    have ih := walk_pos r (pre ++ (⟨k, s, (c.cnt : Int), a⟩ :: c.flat)) post l n (acc ++ [(pre.length : Int)]) e2 h1 (by simp; omega) (by omega)
    rw [hp2] at ih
    rw [hfl, show pre.length + (c.flat.length + r.flat.length + 1) = pre.length + (c.flat.length + 1) + r.flat.length by omega, ih, posF]
    congr 2
    rw [List.append_assoc, List.singleton_append, show pre.length + (c.flat.length + 1) = pre.length + 1 + c.flat.length by omega]

theorem Tops_flat (f : Fo) (h : f.flat.length ≤ 1000000) : tree_Tops f.flat = some (posF 0 f) := by
  unfold tree_Tops tree_places tree_walk_tree_places_1
  have hc := Fo.cnt_flat f
  have := walk_pos f [] [] f.flat FU [] (by simp) h (by simp; omega) (by unfold FU; omega)
  rw [List.length_nil, Nat.zero_add, List.nil_append] at this
  rw [show tree_walk_tree_places_1.l1 f.flat (f.flat.length : Int) FU 0 [] = _ from this]
  rfl
end Go.Proofs.Ytbnohlgchjcjhaa.M

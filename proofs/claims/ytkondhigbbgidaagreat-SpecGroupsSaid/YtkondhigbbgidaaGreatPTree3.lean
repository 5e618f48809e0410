/-
  Printed by a program of this session out of the loaded functions: models and their proofs. Own text.
-/
import Derived.Test.YtkondhigbbgidaaGreatPAll
/-
  Plain laws of trees: forests, their nodes in a row, and where trees and kids stand. Own text.
-/
namespace Go.Proofs.YtkondhigbbgidaaGreat.M
open Go Go.Proofs Go.Proofs.YtkondhigbbgidaaGreat.V
set_option linter.unusedVariables false
set_option linter.unusedSimpArgs false
inductive Fo where
 | nil
 | nd (k : Int) (s : ByteArray) (a : Int) (c r : Fo)
def Fo.cnt : Fo→Nat
 | .nil =>0
 | .nd _ _ _ _ r =>r.cnt + 1
def Fo.flat : Fo→List T_api_Node
 | .nil =>[]
 | .nd k s a c r =>⟨k,s,(c.cnt : Int),a⟩ :: (c.flat++r.flat)
def Fo.dep : Fo→Nat
 | .nil =>0
 | .nd k _ _ c r =>max (if k = 5 then c.dep + 1 else c.dep) r.dep
def Fo.app : Fo→Fo→Fo
 | .nil,g =>g
 | .nd k s a c r,g =>.nd k s a c (r.app g)
def Fo.strip : Fo→Fo
 | .nil =>.nil
 | .nd k s _ c r =>.nd k s 0 c.strip r.strip
def Fo.toks : Fo→List (Int × List Int)
 | .nil =>[]
 | .nd k s _ c r =>if k = 5 then (1,[40]) :: (c.toks++(2,[41]) :: r.toks) else (k,bytesL s) :: r.toks
def Fo.wf : Fo→Prop
 | .nil =>True
 | .nd k s _ c r =>((k = 5∧s = ⟨#[]⟩)∨((k = 3∨k = 4)∧c = .nil))∧c.wf∧r.wf
theorem Fo.cnt_app : ∀ (f g : Fo),(f.app g).cnt = f.cnt + g.cnt
 | .nil,g =>by simp [Fo.app,Fo.cnt]
 | .nd k s a c r,g =>by rw [Fo.app,Fo.cnt,Fo.cnt,Fo.cnt_app r g]; omega
theorem Fo.flat_app : ∀ (f g : Fo),(f.app g).flat = f.flat++g.flat
 | .nil,g =>rfl
 | .nd k s a c r,g =>by rw [Fo.app,Fo.flat,Fo.flat,Fo.flat_app r g]; simp
theorem Fo.cnt_flat : ∀ (f : Fo),f.cnt≤f.flat.length
 | .nil =>Nat.le_refl _
 | .nd k s a c r =>by
  have:=Fo.cnt_flat r
  rw [Fo.cnt,Fo.flat,List.length_cons,List.length_append]; omega
theorem Fo.strip_cnt : ∀ (f g : Fo),f.strip = g.strip→f.cnt = g.cnt
 | .nil,.nil,_ =>rfl
 | .nil,.nd ..,h =>by simp [Fo.strip] at h
 | .nd ..,.nil,h =>by simp [Fo.strip] at h
 | .nd k s a c r,.nd k' s' a' c' r',h =>by
  simp only [Fo.strip,Fo.nd.injEq] at h
  rw [Fo.cnt,Fo.cnt,Fo.strip_cnt r r' h.2.2.2.2]
def nodeZ (x : T_api_Node) : Int × ByteArray × Int:=(x.Kind,x.Text,x.Kids)
theorem Fo.strip_flat : ∀ (f g : Fo),f.strip = g.strip→f.flat.map nodeZ = g.flat.map nodeZ
 | .nil,.nil,_ =>rfl
 | .nil,.nd ..,h =>by simp [Fo.strip] at h
 | .nd ..,.nil,h =>by simp [Fo.strip] at h
 | .nd k s a c r,.nd k' s' a' c' r',h =>by
  simp only [Fo.strip,Fo.nd.injEq] at h
  obtain ⟨rfl,rfl,_,h1,h2⟩:=h
  rw [Fo.flat,Fo.flat,List.map_cons,List.map_cons,List.map_append,List.map_append,Fo.strip_flat c c' h1,Fo.strip_flat r r' h2]
  simp only [nodeZ,Fo.strip_cnt c c' h1]
theorem end_l1 : ∀ (f : Fo) (pre post l : List T_api_Node) (w n : Nat),l = pre++(f.flat++post)→l.length≤1000000→w + f.flat.length * 1000000≤1000000000000000 →
  (f.cnt < w→tree_End.l1 l (n + f.flat.length) (pre.length : Int) (w : Int) = tree_End.l1 l n ((pre.length + f.flat.length : Nat) : Int) ((w - f.cnt : Nat) : Int)) ∧
  (w = f.cnt→f≠.nil→tree_End.l1 l (n + f.flat.length) (pre.length : Int) (w : Int) = some (Out.ret ((pre.length + f.flat.length : Nat) : Int)))
 | .nil,pre,post,l,w,n,hl,h1,h2 =>by simp [Fo.cnt,Fo.flat]
 | .nd k s a c r,pre,post,l,w,n,hl,h1,h2 =>by
  have hlen : l.length = pre.length + (c.flat.length + r.flat.length + 1) + post.length:=by
   rw [hl]; simp [Fo.flat]; omega
  have hpl : pre.length < l.length:=by omega
  have hget : l[pre.length] = ⟨k,s,(c.cnt : Int),a⟩:=by simp [hl,Fo.flat]
  have hcc:=Fo.cnt_flat c
  have hrc:=Fo.cnt_flat r
  have hc:=end_l1 c (pre++[⟨k,s,(c.cnt : Int),a⟩]) (r.flat++post) l
  have hr:=end_l1 r (pre++(⟨k,s,(c.cnt : Int),a⟩ :: c.flat)) post l
  have e1 : l = (pre++[⟨k,s,(c.cnt : Int),a⟩])++(c.flat++(r.flat++post)):=by rw [hl]; simp [Fo.flat]
  have e2 : l = (pre++(⟨k,s,(c.cnt : Int),a⟩ :: c.flat))++(r.flat++post):=by rw [hl]; simp [Fo.flat]
  have hfl : (Fo.nd k s a c r).flat.length = c.flat.length + r.flat.length + 1:=by simp [Fo.flat]
  have hcnt : (Fo.nd k s a c r).cnt = r.cnt + 1:=rfl
  rw [hfl] at h2
  rw [hfl,hcnt]
  have step : ∀ m : Nat,1≤w→tree_End.l1 l (m + 1) (pre.length : Int) (w : Int) = if w - 1 + c.cnt = 0 then some (Out.ret ((pre.length + 1 : Nat) : Int)) else tree_End.l1 l m ((pre.length + 1 : Nat) : Int) ((w - 1 + c.cnt : Nat) : Int):=by
   intro m hw
   rw [tree_End.l1,if_pos (dlt hpl),glk hpl,hget]
   simp only [Option.bind_some]
   have a1 : decide ((c.cnt : Int) < 0) = false:=by simp
   have a2 : decide ((c.cnt : Int) > (l.length : Int)) = false:=by simp; omega
   rw [a1,a2,wk1 (by omega),w_eq (x:=(c.cnt : Int) - 1) (by omega) (by omega),w_eq (x:=(w : Int) + ((c.cnt : Int) - 1)) (by omega) (by omega)]
   simp only [Bool.or_self,Bool.false_eq_true,if_false]
   by_cases h0 : w - 1 + c.cnt = 0
   ·rw [if_pos h0,if_pos]
    have : (w : Int) + ((c.cnt : Int) - 1) = 0:=by omega
    simpa using this
   ·rw [if_neg h0,if_neg]
    ·congr 1; omega
    ·have : ¬ (w : Int) + ((c.cnt : Int) - 1) = 0:=by omega
     simpa using this
  have hp1 : (pre++[(⟨k,s,(c.cnt : Int),a⟩ : T_api_Node)]).length = pre.length + 1:=by simp
  have hp2 : (pre++((⟨k,s,(c.cnt : Int),a⟩ : T_api_Node) :: c.flat)).length = pre.length + 1 + c.flat.length:=by simp; omega
  constructor
  ·intro hw
   rw [show n + (c.flat.length + r.flat.length + 1) = (n + r.flat.length + c.flat.length) + 1 by omega,step _ (by omega),if_neg (by omega)]
   have c1:=(hc (w - 1 + c.cnt) (n + r.flat.length) e1 h1 (by omega)).1 (by omega)
   rw [hp1] at c1
   rw [c1]
   have r1:=(hr (w - 1 + c.cnt - c.cnt) n e2 h1 (by omega)).1 (by omega)
   rw [hp2] at r1
   rw [r1]
   congr 1<;>omega
  ·intro hw _
   rw [show n + (c.flat.length + r.flat.length + 1) = (n + r.flat.length + c.flat.length) + 1 by omega,step _ (by omega)]
   cases hrn : r with
   | nil =>
    subst hrn
    have hw1 : w = 1:=by rw [hw]; rfl
    subst hw1
    by_cases hc0 : c = .nil
    ·subst hc0; simp [Fo.cnt,Fo.flat]
    ·have hcp : 0 < c.cnt:=by cases c with | nil =>exact absurd rfl hc0 | nd =>simp [Fo.cnt]
     rw [if_neg (by omega)]
     have c1:=(hc (1 - 1 + c.cnt) (n + Fo.nil.flat.length) e1 h1 (by omega)).2 (by omega) hc0
     rw [hp1] at c1
     rw [c1]
     congr 3
     simp [Fo.flat]; omega
   | nd k' s' a' c' r' =>
    rw [hrn] at hw hr e2 hc e1 h2
    have hrp : 0 < (Fo.nd k' s' a' c' r').cnt:=by simp [Fo.cnt]
    rw [if_neg (by omega)]
    have c1:=(hc (w - 1 + c.cnt) (n + (Fo.nd k' s' a' c' r').flat.length) e1 h1 (by omega)).1 (by omega)
    rw [hp1] at c1
    rw [c1]
    have r1:=(hr (w - 1 + c.cnt - c.cnt) n e2 h1 (by omega)).2 (by omega) (by simp)
    rw [hp2] at r1
    rw [r1]
    congr 3
    omega
theorem End_tree {k : Int} {s : ByteArray} {a : Int} {c : Fo} {pre post l : List T_api_Node} (hl : l = pre++((Fo.nd k s a c .nil).flat++post)) (h1 : l.length≤1000000) : tree_End l (pre.length : Int) = some ((pre.length + (c.flat.length + 1) : Nat) : Int):=by
 unfold tree_End
 rw [if_neg (by simp)]
 have hfl : (Fo.nd k s a c .nil).flat.length = c.flat.length + 1:=by simp [Fo.flat]
 have hlen : (Fo.nd k s a c .nil).flat.length≤l.length:=by rw [hl]; simp; omega
 obtain ⟨n,hn⟩ : ∃ n,FU = n + (Fo.nd k s a c .nil).flat.length:=⟨FU - (Fo.nd k s a c .nil).flat.length,by unfold FU; omega⟩
 have:=(end_l1 (Fo.nd k s a c .nil) pre post l 1 n hl h1 (by omega)).2 rfl (by simp)
 rw [← hn,hfl] at this
 rw [show tree_End.l1 l FU (pre.length : Int) 1 = _ from this]
 rfl
def posF (p : Nat) : Fo→List Int
 | .nil =>[]
 | .nd _ _ _ c r =>(p : Int) :: posF (p + 1 + c.flat.length) r
theorem posF_len : ∀ (f : Fo) (p : Nat),(posF p f).length = f.cnt
 | .nil,_ =>rfl
 | .nd _ _ _ c r,p =>by rw [posF,List.length_cons,posF_len r,Fo.cnt]
theorem walk_pos : ∀ (f : Fo) (pre post l : List T_api_Node) (n : Nat) (acc : List Int),l = pre++(f.flat++post)→l.length≤1000000→acc.length + f.cnt≤10000000→f.cnt < n →
  tree_walk_tree_places_1.l1 l ((pre.length + f.flat.length : Nat) : Int) n (pre.length : Int) acc = some (Out.go (acc++posF pre.length f))
 | .nil,pre,post,l,n,acc,hl,h1,h2,h3 =>by
  obtain ⟨n,rfl⟩ : ∃ q,n = q + 1:=⟨n - 1,by omega⟩
  rw [tree_walk_tree_places_1.l1,if_neg (by simp [Fo.flat])]
  simp [posF]
 | .nd k s a c r,pre,post,l,n,acc,hl,h1,h2,h3 =>by
  obtain ⟨n,rfl⟩ : ∃ q,n = q + 1:=⟨n - 1,by omega⟩
  have hfl : (Fo.nd k s a c r).flat.length = c.flat.length + r.flat.length + 1:=by simp [Fo.flat]
  rw [Fo.cnt] at h2 h3
  have e1 : l = pre++((Fo.nd k s a c .nil).flat++(r.flat++post)):=by rw [hl]; simp [Fo.flat]
  have hend:=End_tree e1 h1
  have hbig : acc.length + 1≤10000000:=by omega
  rw [tree_walk_tree_places_1.l1,if_pos (by rw [decide_eq_true_eq,hfl]; omega),hend]
  simp only [Option.bind_some]
  rw [if_neg (by rw [decide_eq_true_eq]; omega)]
  unfold tree_places_1
  have hap : V.ap 8 acc [(pre.length : Int)] = some (acc++[(pre.length : Int)]):=by
   unfold V.ap
   rw [if_pos]
   simp only [List.length_cons,List.length_nil]
   refine ⟨by unfold maxLen; omega,by omega⟩
  rw [hap]
  simp only [Option.bind_some]
  have e2 : l = (pre++(⟨k,s,(c.cnt : Int),a⟩ :: c.flat))++(r.flat++post):=by rw [hl]; simp [Fo.flat]
  have hp2 : (pre++((⟨k,s,(c.cnt : Int),a⟩ : T_api_Node) :: c.flat)).length = pre.length + (c.flat.length + 1):=by simp
  have ih:=walk_pos r (pre++(⟨k,s,(c.cnt : Int),a⟩ :: c.flat)) post l n (acc++[(pre.length : Int)]) e2 h1 (by simp; omega) (by omega)
  rw [hp2] at ih
  rw [hfl,show pre.length + (c.flat.length + r.flat.length + 1) = pre.length + (c.flat.length + 1) + r.flat.length by omega,ih,posF]
  congr 2
  rw [List.append_assoc,List.singleton_append,show pre.length + (c.flat.length + 1) = pre.length + 1 + c.flat.length by omega]
end Go.Proofs.YtkondhigbbgidaaGreat.M
/-
  Plain laws of trees: what is read of tokens. Own text.
-/
namespace Go.Proofs.YtkondhigbbgidaaGreat.M
open Go Go.Proofs Go.Proofs.YtkondhigbbgidaaGreat.V
set_option linter.unusedVariables false
set_option linter.unusedSimpArgs false
def encR : List (Fo × Int)→Fo→Nat→List T_api_Node
 | [],f,_ =>f.flat
 | (g,a) :: Z,f,e =>encR Z g 1++(⟨5,⟨#[]⟩,((f.cnt + e : Nat) : Int),a⟩ :: f.flat)
def openR : List (Fo × Int)→List Int
 | [] =>[]
 | (g,a) :: Z =>openR Z++[((encR Z g 1).length : Int)]
theorem openR_len : ∀ Z : List (Fo × Int),(openR Z).length = Z.length
 | [] =>rfl
 | (g,a) :: Z =>by rw [openR,List.length_append,openR_len Z]; rfl
theorem encR_len (Z : List (Fo × Int)) (f : Fo) (e e' : Nat) : (encR Z f e).length = (encR Z f e').length:=by
 cases Z with
 | nil =>rfl
 | cons p Z =>obtain ⟨g,a⟩:=p; simp [encR]
theorem encR_snoc (Z : List (Fo × Int)) (f t : Fo) (ht : t.cnt = 1) (e : Nat) : encR Z (f.app t) e = encR Z f (e + 1)++t.flat:=by
 cases Z with
 | nil =>rw [encR,encR,Fo.flat_app]
 | cons p Z =>obtain ⟨g,a⟩:=p; rw [encR,encR,Fo.flat_app,Fo.cnt_app,ht]; simp; omega
def pstep (Z : List (Fo × Int)) (f : Fo) (t : T_api_Token) : Option (List (Fo × Int) × Fo) :=
 if t.Kind = 2 then (match Z with | [] =>none | (g,a) :: Z' =>some (Z',g.app (.nd 5 ⟨#[]⟩ a f .nil)))
 else if (encR Z f 0).length = 4000∨(t.Kind = 1∧Z.length = 20) then none
 else if t.Kind = 1 then some ((f,t.At) :: Z,.nil)
 else some (Z,f.app (.nd t.Kind t.Text t.At .nil .nil))
def prun : List T_api_Token→List (Fo × Int)→Fo→Option (List (Fo × Int) × Fo)
 | [],Z,f =>some (Z,f)
 | t :: ts,Z,f =>match pstep Z f t with | none =>none | some p =>prun ts p.1 p.2
theorem close_enc (Z : List (Fo × Int)) (g f : Fo) (a : Int) : encR ((g,a) :: Z) f 0 = encR Z (g.app (.nd 5 ⟨#[]⟩ a f .nil)) 0:=by
 rw [encR_snoc Z g _ (by simp [Fo.cnt]),encR]
 simp [Fo.flat]
theorem set_mid {α : Type} (u v : List α) (x y : α) : (u++x :: v).set u.length y = u++y :: v:=by
 rw [List.set_append_right _ _ (Nat.le_refl _)]; simp
theorem prun_app (ts us : List T_api_Token) : ∀ (Z : List (Fo × Int)) (f : Fo) (Z' : List (Fo × Int)) (f' : Fo),prun ts Z f = some (Z',f')→prun (ts++us) Z f = prun us Z' f':=by
 induction ts with
 | nil =>intro Z f Z' f' h; simp only [prun,Option.some.injEq,Prod.mk.injEq] at h; rw [List.nil_append,h.1,h.2]
 | cons t ts ih =>
  intro Z f Z' f' h
  rw [List.cons_append,prun]
  rw [prun] at h
  cases hp : pstep Z f t with
  | none =>rw [hp] at h; simp at h
  | some p =>rw [hp] at h; exact ih p.1 p.2 Z' f' h
theorem app_nil (f : Fo) : f.app .nil = f:=by
 induction f with
 | nil =>rfl
 | nd k s a c r _ ih =>rw [Fo.app,ih]
theorem app_assoc (f g h : Fo) : (f.app g).app h = f.app (g.app h):=by
 induction f with
 | nil =>rfl
 | nd k s a c r _ ih =>rw [Fo.app,Fo.app,Fo.app,ih]
theorem prun_complete : ∀ (φ : Fo),φ.wf→∀ (ts : List T_api_Token) (Z : List (Fo × Int)) (g : Fo),ts.map tk = φ.toks→φ.dep + Z.length≤20→(encR Z g 0).length + φ.flat.length≤4000→∃ φ',φ'.strip = φ.strip∧prun ts Z g = some (Z,g.app φ')
 | .nil,_,ts,Z,g,ht,_,_ =>by
  have : ts = []:=by simpa [Fo.toks] using ht
  subst this
  exact ⟨.nil,rfl,by rw [app_nil]; rfl⟩
 | .nd k s a c r,hw,ts,Z,g,ht,hd,hl =>by
  have hfl : (Fo.nd k s a c r).flat.length = c.flat.length + r.flat.length + 1:=by simp [Fo.flat]
  rw [hfl] at hl
  rw [Fo.toks] at ht
  rw [Fo.dep] at hd
  by_cases h5 : k = 5
  ·rw [if_pos h5] at ht hd
   obtain ⟨t0,ts0,rfl,e0,e1⟩:=List.map_eq_cons_iff.1 ht
   obtain ⟨tc,ts1,rfl,e2,e3⟩:=List.map_eq_append_iff.1 e1
   obtain ⟨t2,tr,rfl,e4,e5⟩:=List.map_eq_cons_iff.1 e3
   have hk0 : t0.Kind = 1:=congrArg Prod.fst e0
   have hk2 : t2.Kind = 2:=congrArg Prod.fst e4
   have hs : s = ⟨#[]⟩:=by
    rcases hw.1 with h | h
    ·exact h.2
    ·omega
   have hlen : (encR ((g,t0.At) :: Z) .nil 0).length = (encR Z g 0).length + 1:=by simp [encR,Fo.flat,encR_len Z g 1 0]
   obtain ⟨c',hc1,hc2⟩:=prun_complete c hw.2.1 tc ((g,t0.At) :: Z) .nil e2 (by simp; omega) (by rw [hlen]; omega)
   have hcc : c'.flat.length = c.flat.length:=by simpa using congrArg List.length (Fo.strip_flat c' c hc1)
   have hlen2 : (encR Z (g.app (.nd 5 ⟨#[]⟩ t0.At c' .nil)) 0).length = (encR Z g 0).length + 1 + c.flat.length:=by
    rw [encR_snoc Z g _ (by simp [Fo.cnt])]; simp [Fo.flat,encR_len Z g (0 + 1) 0,hcc]; omega
   obtain ⟨r',hr1,hr2⟩:=prun_complete r hw.2.2 tr Z (g.app (.nd 5 ⟨#[]⟩ t0.At c' .nil)) e5 (by omega) (by rw [hlen2]; omega)
   refine ⟨.nd 5 ⟨#[]⟩ t0.At c' r',by rw [Fo.strip,Fo.strip,hc1,hr1,h5,hs],?_⟩
   rw [prun]
   have p0 : pstep Z g t0 = some ((g,t0.At) :: Z,.nil):=by
    unfold pstep
    rw [if_neg (by omega),if_neg (by rintro (q | ⟨_,q⟩)<;>omega),if_pos hk0]
   rw [p0]
   simp only
   rw [prun_app tc (t2 :: tr) _ _ _ _ hc2,prun]
   have p2 : pstep ((g,t0.At) :: Z) (Fo.nil.app c') t2 = some (Z,g.app (.nd 5 ⟨#[]⟩ t0.At c' .nil)):=by
    unfold pstep
    rw [if_pos hk2]
    rfl
   rw [p2]
   simp only
   rw [hr2,app_assoc]
   rfl
  ·rw [if_neg h5] at ht hd
   obtain ⟨t0,tr,rfl,e0,e1⟩:=List.map_eq_cons_iff.1 ht
   have hk0 : t0.Kind = k:=congrArg Prod.fst e0
   have hs0 : t0.Text = s:=bytesL_inj (congrArg Prod.snd e0)
   have hk : (k = 3∨k = 4)∧c = .nil:=by
    rcases hw.1 with h | h
    ·exact absurd h.1 h5
    ·exact h
   have hlen2 : (encR Z (g.app (.nd k s t0.At .nil .nil)) 0).length = (encR Z g 0).length + 1:=by
    rw [encR_snoc Z g _ (by simp [Fo.cnt])]; simp [Fo.flat,encR_len Z g (0 + 1) 0]
   obtain ⟨r',hr1,hr2⟩:=prun_complete r hw.2.2 tr Z (g.app (.nd k s t0.At .nil .nil)) e1 (by omega) (by rw [hlen2]; omega)
   refine ⟨.nd k s t0.At .nil r',by simp only [Fo.strip,hr1,hk.2],?_⟩
   rw [prun]
   have p0 : pstep Z g t0 = some (Z,g.app (.nd k s t0.At .nil .nil)):=by
    unfold pstep
    rw [if_neg (by omega),if_neg (by rintro (q | ⟨_,q⟩)<;>omega),if_neg (by omega),hk0,hs0]
   rw [p0]
   simp only
   rw [hr2,app_assoc]
   rfl
end Go.Proofs.YtkondhigbbgidaaGreat.M
/-
  Plain law: TreeJoins answers true; what a text is read as. Own text.
-/
namespace Go.Proofs.YtkondhigbbgidaaGreat.M
open Go Go.Proofs Go.Proofs.YtkondhigbbgidaaGreat.V
set_option linter.unusedVariables false
set_option linter.unusedSimpArgs false
end Go.Proofs.YtkondhigbbgidaaGreat.M

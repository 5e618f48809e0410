/-
  Printed by a program of this session out of the loaded functions: models and their proofs. Own text.
-/
import Derived.Test.YtkondhigbbgidaaGreatPLoop
/-
  Plain laws of resources: what the program's and the document's functions tell, by definition. Own text.
-/
namespace Go.Proofs.YtkondhigbbgidaaGreat.M
open Go Go.Proofs Go.Proofs.YtkondhigbbgidaaGreat.V
set_option linter.unusedVariables false
def rOK (x : Int) : Bool:=decide (0≤x) && decide (x≤1125899906842624)
def resOK (a : T_api_Res) : Bool:=rOK a.Cpu && (rOK a.Mem && (rOK a.Disk && (rOK a.Pods && rOK a.Dev)))
def r0 : T_api_Res:=⟨0,0,0,0,0⟩
theorem ref04_one_eq (n : Int) : ref04_one n = some (rOK n):=by
 unfold ref04_one rOK
 simp only [ge_iff_le]
theorem ref04_Right_eq (a : T_api_Res) : ref04_Right a = some (resOK a):=by
 unfold ref04_Right resOK
 simp only [ref04_one_eq,Option.bind_some]
 cases rOK a.Cpu<;>cases rOK a.Mem<;>cases rOK a.Disk<;>cases rOK a.Pods<;>cases rOK a.Dev<;>rfl
end Go.Proofs.YtkondhigbbgidaaGreat.M
/-
  Plain laws: what is told at all, of the document's checks of yards, machines and pods. Own text.
-/
namespace Go.Proofs.YtkondhigbbgidaaGreat.M
open Go Go.Proofs Go.Proofs.YtkondhigbbgidaaGreat.V
set_option linter.unusedVariables false
def isS {α : Type} (o : Option α) : Prop:=∃ r,o = some r
theorem T.pure {α : Type} (x : α) : isS (some x):=⟨x,rfl⟩
theorem T.bind {α β : Type} {o : Option α} {f : α→Option β} (h : isS o) (k : ∀ x,o = some x→isS (f x)) : isS (o.bind f):=by
  obtain ⟨r,rfl⟩:=h; exact k r rfl
theorem T.ite {α : Type} {c : Prop} [Decidable c] {a b : Option α} (h : c→isS a) (k : ¬c→isS b) : isS (if c then a else b):=by
  by_cases hc : c
  · rw [if_pos hc]; exact h hc
  · rw [if_neg hc]; exact k hc
theorem T.on {ρ σ : Type} (o : Out ρ σ) {f : σ→Option ρ} (h : ∀ s,isS (f s)) : isS (o.on f):=by
  cases o with
  | ret r =>exact ⟨r,rfl⟩
  | go s =>exact h s
theorem T.loop {ρ : Type} {F : Nat→Int→Option ρ} {len : Nat} (hl : len < 1000000000000) (hs : ∀ n (k : Nat),k < len→isS (F n ((k + 1 : Nat) : Int))→isS (F (n + 1) (k : Int))) (he : ∀ n,isS (F (n + 1) (len : Int))) : isS (F FU 0):=by
  have key : ∀ (m k f : Nat),len - k≤m→m < f→k≤len→isS (F f (k : Int)):=by
    intro m
    induction m with
    | zero =>
      intro k f h1 h2 h3
      obtain ⟨f,rfl⟩ : ∃ q,f = q + 1:=⟨f - 1,by omega⟩
      obtain rfl : k = len:=by omega
      exact he f
    | succ m ih =>
      intro k f h1 h2 h3
      obtain ⟨f,rfl⟩ : ∃ q,f = q + 1:=⟨f - 1,by omega⟩
      by_cases hk : k < len
      · exact hs f k hk (ih (k + 1) f (by omega) (by omega) (by omega))
      · obtain rfl : k = len:=by omega
        exact he f
  exact key len 0 FU (by omega) (by unfold FU; omega) (Nat.zero_le _)
theorem T.loop2 {ρ σ : Type} {F : Nat→σ→Int→Option ρ} {len : Nat} (hl : len < 1000000000000) (hs : ∀ n s (k : Nat),k < len→(∀ s',isS (F n s' ((k + 1 : Nat) : Int)))→isS (F (n + 1) s (k : Int))) (he : ∀ n s,isS (F (n + 1) s (len : Int))) (s : σ) : isS (F FU s 0):=by
  classical
  have:=T.loop (F:=fun n i =>(if ∀ s,isS (F n s i) then some () else none)) hl (fun n k hk h =>by
    obtain ⟨r,hr⟩:=h
    split at hr
    · rename_i h; rw [if_pos (fun s =>hs n s k hk h)]; exact ⟨_,rfl⟩
    · cases hr) (fun n =>by rw [if_pos (fun s =>he n s)]; exact ⟨_,rfl⟩)
  obtain ⟨r,hr⟩:=this
  split at hr
  · rename_i h; exact h s
  · cases hr
def LL (l : List T_api_Label) : Prop:=l.length≤40∧∀ k (h : k < l.length),l[k].Key.size≤300∧l[k].Val.size≤300
def LT (t : T_api_Term) : Prop:=t.Vals.length≤40∧t.Key.size≤300∧∀ k (h : k < t.Vals.length),t.Vals[k].size≤300
def LB (l : List T_api_Toleration) : Prop:=l.length≤40∧∀ k (h : k < l.length),l[k].Key.size≤300∧l[k].Val.size≤300
def LX (l : List T_api_Taint) : Prop:=l.length≤40∧∀ k (h : k < l.length),l[k].Key.size≤300∧l[k].Val.size≤300
structure LM (m : T_api_Machine) : Prop where
  name : m.Name.size≤300
  group : m.Group.size≤300
  labels : LL m.Labels
  taints : LX m.Taints
structure LP (p : T_api_Pod) : Prop where
  name : p.Name.size≤300
  owner : p.Owner.size≤300
  nterms : p.Terms.length≤30
  nports : p.Ports.length≤30
  labels : LL p.Labels
  select : LL p.Select
  apart : LL p.Apart
  spread : LL p.Spread
  bears : LB p.Bears
  terms : ∀ k (h : k < p.Terms.length),LT p.Terms[k]
structure LY (ms : List T_api_Machine) (bs : List T_api_Bound) : Prop where
  nm : ms.length≤20
  nb : bs.length≤40
  ms : ∀ k (h : k < ms.length),LM ms[k]
  bs : ∀ k (h : k < bs.length),LP bs[k].Pod∧bs[k].On.size≤300
theorem ref05_Light_eq (l : List T_api_Label) : ∃ b,ref05_Light l = some b∧(b = true→LL l):=by
  unfold ref05_Light
  by_cases h : (l.length : Int) > 40
  · rw [if_pos (by simpa using h)]; exact ⟨false,rfl,by simp⟩
  · rw [if_neg (by simpa using h)]
    have hl : l.length≤40:=by omega
    rcases loopI (F:=fun n i =>ref05_Light.l1 l n i) (Q:=fun r =>r = false) (S:=fun k =>∀ h : k < l.length,l[k].Key.size≤300∧l[k].Val.size≤300) (len:=l.length) (by omega) (fun n k hk =>by
        rw [ref05_Light.l1,if_pos (dlt hk),glk hk,wk1 (by omega)]
        simp only [Option.bind_some]
        by_cases h1 : (l[k].Key.size : Int) > 300
        · rw [if_pos (by simpa using h1)]; exact .inl ⟨false,rfl,rfl⟩
        · rw [if_neg (by simpa using h1)]
          simp only [Option.bind_some]
          by_cases h2 : (l[k].Val.size : Int) > 300
          · rw [if_pos (by simpa using h2)]; exact .inl ⟨false,rfl,rfl⟩
          · rw [if_neg (by simpa using h2)]; exact .inr ⟨rfl,fun _ =>by omega⟩) (fun n =>by rw [ref05_Light.l1,if_neg dnl]) with ⟨r,h1,rfl⟩ | ⟨h1,h2⟩
    · rw [h1]; exact ⟨false,rfl,by simp⟩
    · rw [h1]; exact ⟨true,rfl,fun _ =>⟨hl,fun k hk =>h2 k hk hk⟩⟩
theorem ref06_Light_eq (l : List T_api_Toleration) (x : List T_api_Taint) : ∃ b,ref06_Light l x = some b∧(b = true→LB l∧LX x):=by
  unfold ref06_Light
  by_cases h : (l.length : Int) > 40∨(x.length : Int) > 40
  · rw [if_pos (by simpa using h)]; exact ⟨false,rfl,by simp⟩
  · rw [if_neg (by simpa using h)]
    have hl : l.length≤40:=by omega
    have hx : x.length≤40:=by omega
    rcases loopI (F:=fun n i =>ref06_Light.l1 l n i) (Q:=fun r =>r = false) (S:=fun k =>∀ h : k < l.length,l[k].Key.size≤300∧l[k].Val.size≤300) (len:=l.length) (by omega) (fun n k hk =>by
        rw [ref06_Light.l1,if_pos (dlt hk),glk hk,wk1 (by omega)]
        simp only [Option.bind_some]
        by_cases h1 : (l[k].Key.size : Int) > 300
        · rw [if_pos (by simpa using h1)]; exact .inl ⟨false,rfl,rfl⟩
        · rw [if_neg (by simpa using h1)]
          simp only [Option.bind_some]
          by_cases h2 : (l[k].Val.size : Int) > 300
          · rw [if_pos (by simpa using h2)]; exact .inl ⟨false,rfl,rfl⟩
          · rw [if_neg (by simpa using h2)]; exact .inr ⟨rfl,fun _ =>by omega⟩) (fun n =>by rw [ref06_Light.l1,if_neg dnl]) with ⟨r,h1,rfl⟩ | ⟨h1,h2⟩
    · rw [h1]; exact ⟨false,rfl,by simp⟩
    · rw [h1]
      simp only [Option.bind_some,Out.on]
      rcases loopI (F:=fun n i =>ref06_Light.l2 x n i) (Q:=fun r =>r = false) (S:=fun k =>∀ h : k < x.length,x[k].Key.size≤300∧x[k].Val.size≤300) (len:=x.length) (by omega) (fun n k hk =>by
          rw [ref06_Light.l2,if_pos (dlt hk),glk hk,wk1 (by omega)]
          simp only [Option.bind_some]
          by_cases h1 : (x[k].Key.size : Int) > 300
          · rw [if_pos (by simpa using h1)]; exact .inl ⟨false,rfl,rfl⟩
          · rw [if_neg (by simpa using h1)]
            simp only [Option.bind_some]
            by_cases h2 : (x[k].Val.size : Int) > 300
            · rw [if_pos (by simpa using h2)]; exact .inl ⟨false,rfl,rfl⟩
            · rw [if_neg (by simpa using h2)]; exact .inr ⟨rfl,fun _ =>by omega⟩) (fun n =>by rw [ref06_Light.l2,if_neg dnl]) with ⟨r,h3,rfl⟩ | ⟨h3,h4⟩
      · rw [h3]; exact ⟨false,rfl,by simp⟩
      · rw [h3]; exact ⟨true,rfl,fun _ =>⟨⟨hl,fun k hk =>h2 k hk hk⟩,⟨hx,fun k hk =>h4 k hk hk⟩⟩⟩
theorem ref07_LightMachine_eq (m : T_api_Machine) : ∃ b,ref07_LightMachine m = some b∧(b = true→LM m):=by
  unfold ref07_LightMachine
  obtain ⟨b1,e1,f1⟩:=ref05_Light_eq m.Labels
  obtain ⟨b2,e2,f2⟩:=ref06_Light_eq [] m.Taints
  rw [e1,e2]
  by_cases h : (m.Name.size : Int)≤300∧(m.Group.size : Int)≤300
  · rw [if_pos (by simpa using h)]
    cases b1 with
    | false =>exact ⟨false,rfl,by simp⟩
    | true =>
      cases b2 with
      | false =>exact ⟨false,rfl,by simp⟩
      | true =>exact ⟨true,rfl,fun _ =>⟨by omega,by omega,f1 rfl,(f2 rfl).2⟩⟩
  · rw [if_neg (by simpa using h)]
    exact ⟨false,rfl,by simp⟩
theorem ref05_LightTerm_eq (t : T_api_Term) : ∃ b,ref05_LightTerm t = some b∧(b = true→LT t):=by
  unfold ref05_LightTerm
  by_cases h : (t.Vals.length : Int) > 40∨(t.Key.size : Int) > 300
  · rw [if_pos (by simpa using h)]; exact ⟨false,rfl,by simp⟩
  · rw [if_neg (by simpa using h)]
    rcases loopI (F:=fun n i =>ref05_LightTerm.l1 t n i) (Q:=fun r =>r = false) (S:=fun k =>∀ h : k < t.Vals.length,t.Vals[k].size≤300) (len:=t.Vals.length) (by omega) (fun n k hk =>by
        rw [ref05_LightTerm.l1,if_pos (dlt hk),glk hk,wk1 (by omega)]
        simp only [Option.bind_some]
        by_cases h1 : (t.Vals[k].size : Int) > 300
        · rw [if_pos (by simpa using h1)]; exact .inl ⟨false,rfl,rfl⟩
        · rw [if_neg (by simpa using h1)]; exact .inr ⟨rfl,fun _ =>by omega⟩) (fun n =>by rw [ref05_LightTerm.l1,if_neg dnl]) with ⟨r,h1,rfl⟩ | ⟨h1,h2⟩
    · rw [h1]; exact ⟨false,rfl,by simp⟩
    · rw [h1]; exact ⟨true,rfl,fun _ =>⟨by omega,by omega,fun k hk =>h2 k hk hk⟩⟩
theorem ref07_LightPod_eq (p : T_api_Pod) : ∃ b,ref07_LightPod p = some b∧(b = true→LP p):=by
  unfold ref07_LightPod
  obtain ⟨b1,e1,f1⟩:=ref05_Light_eq p.Labels
  obtain ⟨b2,e2,f2⟩:=ref05_Light_eq p.Select
  obtain ⟨b3,e3,f3⟩:=ref05_Light_eq p.Apart
  obtain ⟨b4,e4,f4⟩:=ref05_Light_eq p.Spread
  obtain ⟨b5,e5,f5⟩:=ref06_Light_eq p.Bears []
  rw [e1,e2,e3,e4,e5]
  by_cases h : (p.Name.size : Int) > 300∨(p.Owner.size : Int) > 300∨(p.Terms.length : Int) > 30∨(p.Ports.length : Int) > 30
  · rw [if_pos (by simpa [or_assoc] using h)]
    exact ⟨false,rfl,by simp⟩
  · rw [if_neg (by simpa [or_assoc] using h)]
    cases b1 with
    | false =>exact ⟨false,rfl,by simp⟩
    | true =>
    cases b2 with
    | false =>exact ⟨false,rfl,by simp⟩
    | true =>
    cases b3 with
    | false =>exact ⟨false,rfl,by simp⟩
    | true =>
    cases b4 with
    | false =>exact ⟨false,rfl,by simp⟩
    | true =>
    cases b5 with
    | false =>exact ⟨false,rfl,by simp⟩
    | true =>
      simp only [Option.bind_some,Bool.not_true,Bool.false_eq_true,if_false]
      rcases loopI (F:=fun n i =>ref07_LightPod.l1 p n i) (Q:=fun r =>r = false) (S:=fun k =>∀ h : k < p.Terms.length,LT p.Terms[k]) (len:=p.Terms.length) (by omega) (fun n k hk =>by
          rw [ref07_LightPod.l1,if_pos (dlt hk),glk hk,wk1 (by omega)]
          simp only [Option.bind_some]
          obtain ⟨b,e,f⟩:=ref05_LightTerm_eq p.Terms[k]
          rw [e]
          cases b with
          | false =>exact .inl ⟨false,rfl,rfl⟩
          | true =>exact .inr ⟨rfl,fun _ =>f rfl⟩) (fun n =>by rw [ref07_LightPod.l1,if_neg dnl]) with ⟨r,h1,rfl⟩ | ⟨h1,h2⟩
      · rw [h1]; exact ⟨false,rfl,by simp⟩
      · rw [h1]
        exact ⟨true,rfl,fun _ =>⟨by omega,by omega,by omega,by omega,f1 rfl,f2 rfl,f3 rfl,f4 rfl,(f5 rfl).1,fun k hk =>h2 k hk hk⟩⟩
theorem ref09_Light_eq (ms : List T_api_Machine) (bs : List T_api_Bound) : ∃ b,ref09_Light ms bs = some b∧(b = true→LY ms bs):=by
  unfold ref09_Light
  by_cases h : (ms.length : Int) > 20∨(bs.length : Int) > 40
  · rw [if_pos (by simpa using h)]; exact ⟨false,rfl,by simp⟩
  · rw [if_neg (by simpa using h)]
    rcases loopI (F:=fun n i =>ref09_Light.l1 ms n i) (Q:=fun r =>r = false) (S:=fun k =>∀ h : k < ms.length,LM ms[k]) (len:=ms.length) (by omega) (fun n k hk =>by
        rw [ref09_Light.l1,if_pos (dlt hk),glk hk,wk1 (by omega)]
        simp only [Option.bind_some]
        obtain ⟨b,e,f⟩:=ref07_LightMachine_eq ms[k]
        rw [e]
        cases b with
        | false =>exact .inl ⟨false,rfl,rfl⟩
        | true =>exact .inr ⟨rfl,fun _ =>f rfl⟩) (fun n =>by rw [ref09_Light.l1,if_neg dnl]) with ⟨r,h1,rfl⟩ | ⟨h1,h2⟩
    · rw [h1]; exact ⟨false,rfl,by simp⟩
    · rw [h1]
      simp only [Option.bind_some,Out.on]
      rcases loopI (F:=fun n i =>ref09_Light.l2 bs n i) (Q:=fun r =>r = false) (S:=fun k =>∀ h : k < bs.length,LP bs[k].Pod∧bs[k].On.size≤300) (len:=bs.length) (by omega) (fun n k hk =>by
          rw [ref09_Light.l2,if_pos (dlt hk),glk hk,wk1 (by omega)]
          simp only [Option.bind_some]
          obtain ⟨b,e,f⟩:=ref07_LightPod_eq bs[k].Pod
          rw [e]
          cases b with
          | false =>exact .inl ⟨false,rfl,rfl⟩
          | true =>
            simp only [Option.bind_some,Bool.not_true,Bool.false_eq_true,if_false]
            by_cases h2 : (bs[k].On.size : Int) > 300
            · rw [if_pos (by simpa using h2)]; exact .inl ⟨false,rfl,rfl⟩
            · rw [if_neg (by simpa using h2)]; exact .inr ⟨rfl,fun _ =>⟨f rfl,by omega⟩⟩) (fun n =>by rw [ref09_Light.l2,if_neg dnl]) with ⟨r,h3,rfl⟩ | ⟨h3,h4⟩
      · rw [h3]; exact ⟨false,rfl,by simp⟩
      · rw [h3]; exact ⟨true,rfl,fun _ =>⟨by omega,by omega,fun k hk =>h2 k hk hk,fun k hk =>h4 k hk hk⟩⟩
end Go.Proofs.YtkondhigbbgidaaGreat.M
/-
  Plain laws: the document's checks of yards, machines and pods tell something of what is light. Own text.
-/
namespace Go.Proofs.YtkondhigbbgidaaGreat.M
open Go Go.Proofs Go.Proofs.YtkondhigbbgidaaGreat.V
set_option linter.unusedVariables false
theorem glp {α : Type} {l : List α} {k : Nat} (h : k < l.length) (h0 : 0 < k) (hb : l.length < 1000000000000) : V.gl l (IntKind.i64.wrap ((k : Int) - 1)) = some (l[k - 1]'(by omega)):=by
 rw [w_eq (by omega) (by omega),show (k : Int) - 1 = ((k - 1 : Nat) : Int) by omega,glk (by omega)]
theorem maybe5_tot {s : ByteArray} (h : s.size≤300) : isS (ref05_maybe s):=by
 unfold ref05_maybe
 exact T.bind (T.ite (fun _ =>T.pure _) (fun _ =>T.bind (Word_tot (by omega)) (fun _ _ =>T.pure _))) (fun _ _ =>T.pure _)
theorem maybe6_tot {s : ByteArray} (h : s.size≤300) : isS (ref06_maybe s):=by
 unfold ref06_maybe
 exact T.bind (T.ite (fun _ =>T.pure _) (fun _ =>T.bind (Word_tot (by omega)) (fun _ _ =>T.pure _))) (fun _ _ =>T.pure _)
theorem maybe7_tot {s : ByteArray} (h : s.size≤300) : isS (ref07_maybe s):=by
 unfold ref07_maybe
 exact T.bind (T.ite (fun _ =>T.pure _) (fun _ =>T.bind (Word_tot (by omega)) (fun _ _ =>T.pure _))) (fun _ _ =>T.pure _)
theorem Less_tot {a b : ByteArray} (ha : a.size≤300) (hb : b.size≤300) : isS (ref05_Less a b):=by
 unfold ref05_Less
 refine T.bind (T.loop (F:=fun n i =>ref05_Less.l1 a b n i) (len:=min a.size b.size) (by omega) (fun n k hk ih =>?_) (fun n =>?_)) (fun o _ =>T.on o (fun _ =>T.pure _))
 ·rw [ref05_Less.l1,if_pos (by simp; omega),gi_nat (by omega),gi_nat (by omega),wk1 (by omega)]
  simp only [Option.bind_some]
  exact T.ite (fun _ =>T.pure _) (fun _ =>ih)
 ·rw [ref05_Less.l1,if_neg (by simp; omega)]
  exact T.pure _
theorem Right5_tot {l : List T_api_Label} (h : LL l) : isS (ref05_Right l):=by
 unfold ref05_Right
 refine T.ite (fun _ =>T.pure _) (fun _ =>T.bind (T.loop (F:=fun n i =>ref05_Right.l1 l n i) (len:=l.length) (by have:=h.1; omega) (fun n k hk ih =>?_) (fun n =>?_)) (fun o _ =>T.on o (fun _ =>T.pure _)))
 ·have hs:=h.2 k hk
  have hl:=h.1
  rw [ref05_Right.l1,if_pos (dlt hk),glk hk,wk1 (by omega)]
  simp only [Option.bind_some]
  refine T.bind (Word_tot (by omega)) fun r _ =>T.bind (T.ite (fun _ =>T.pure _) fun _ =>T.bind (maybe5_tot hs.2) fun _ _ =>T.pure _) fun c _ =>?_
  refine T.bind (T.ite (fun _ =>T.pure _) fun _ =>T.bind (T.ite (fun h0 =>?_) fun _ =>T.pure _) fun _ _ =>T.pure _) fun _ _ =>T.ite (fun _ =>T.pure _) fun _ =>ih
  have h0' : 0 < k:=by simpa using h0
  rw [glp hk h0' (by omega)]
  simp only [Option.bind_some]
  exact T.bind (Less_tot (h.2 (k - 1) (by omega)).1 hs.1) fun _ _ =>T.pure _
 ·rw [ref05_Right.l1,if_neg dnl]; exact T.pure _
theorem Right6_tot {l : List T_api_Taint} (h : LX l) : isS (ref06_Right l):=by
 unfold ref06_Right
 refine T.ite (fun _ =>T.pure _) (fun _ =>T.bind (T.loop (F:=fun n i =>ref06_Right.l1 l n i) (len:=l.length) (by have:=h.1; omega) (fun n k hk ih =>?_) (fun n =>?_)) (fun o _ =>T.on o (fun _ =>T.pure _)))
 ·have hs:=h.2 k hk
  have hl:=h.1
  rw [ref06_Right.l1,if_pos (dlt hk),glk hk,wk1 (by omega)]
  simp only [Option.bind_some]
  refine T.bind (Word_tot (by omega)) fun r _ =>T.bind (T.ite (fun _ =>T.pure _) fun _ =>T.bind (maybe6_tot hs.2) fun _ _ =>T.pure _) fun c _ =>?_
  refine T.bind (T.ite (fun _ =>T.pure _) fun _ =>T.bind ⟨_,rfl⟩ fun _ _ =>T.pure _) fun _ _ =>T.ite (fun _ =>T.pure _) fun _ =>?_
  refine T.bind (T.loop (F:=fun n i =>ref06_Right.l2 l (k : Int) n i) (len:=k) (by omega) (fun n2 j hj ih2 =>?_) (fun n2 =>?_)) fun o _ =>T.on o (fun _ =>ih)
  ·rw [ref06_Right.l2,if_pos (by simp; omega),glk (by omega),glk hk,wk1 (by omega)]
   simp only [Option.bind_some]
   exact T.bind (T.ite (fun _ =>T.pure _) fun _ =>T.pure _) fun _ _ =>T.ite (fun _ =>T.pure _) fun _ =>ih2
  ·rw [ref06_Right.l2,if_neg (by simp)]; exact T.pure _
 ·rw [ref06_Right.l1,if_neg dnl]; exact T.pure _
theorem Bears6_tot {l : List T_api_Toleration} (h : LB l) : isS (ref06_RightBears l):=by
 unfold ref06_RightBears
 refine T.ite (fun _ =>T.pure _) (fun _ =>T.bind (T.loop (F:=fun n i =>ref06_RightBears.l1 l n i) (len:=l.length) (by have:=h.1; omega) (fun n k hk ih =>?_) (fun n =>?_)) (fun o _ =>T.on o (fun _ =>T.pure _)))
 ·have hs:=h.2 k hk
  have hl:=h.1
  rw [ref06_RightBears.l1,if_pos (dlt hk),glk hk,wk1 (by omega)]
  simp only [Option.bind_some]
  refine T.bind (maybe6_tot hs.1) fun r _ =>T.bind (T.ite (fun _ =>T.pure _) fun _ =>T.bind (maybe6_tot hs.2) fun _ _ =>T.pure _) fun c _ =>?_
  exact T.bind (T.ite (fun _ =>T.pure _) fun _ =>T.bind (T.ite (fun _ =>T.bind ⟨_,rfl⟩ fun _ _ =>T.pure _) fun _ =>T.pure _) fun _ _ =>T.pure _) fun _ _ =>T.ite (fun _ =>T.pure _) fun _ =>ih
 ·rw [ref06_RightBears.l1,if_neg dnl]; exact T.pure _
theorem Number3_tot {s : ByteArray} (h : s.size≤300) : isS (ref03_Number s):=by
 unfold ref03_Number
 refine T.bind (T.ite (fun _ =>T.pure _) fun _ =>T.bind ?_ fun _ _ =>T.pure _) fun c _ =>T.ite (fun _ =>T.pure _) fun _ =>T.bind ?_ fun _ _ =>T.ite (fun _ =>T.pure _) fun _ =>T.pure _
 ·unfold ref03_digits
  refine T.bind (T.loop (F:=fun n i =>ref03_digits.l1 s n i) (len:=s.size) (by omega) (fun n k hk ih =>?_) (fun n =>?_)) fun _ _ =>T.pure _
  ·rw [ref03_digits.l1,if_pos (by simp; omega),gi_nat hk,wk1 (by omega)]
   simp only [Option.bind_some]
   exact T.bind (T.bind ⟨_,rfl⟩ fun _ _ =>T.pure _) fun _ _ =>T.ite (fun _ =>ih) fun _ =>T.pure _
  ·rw [ref03_digits.l1,if_neg (by simp)]
   exact T.bind (T.pure _) fun _ _ =>T.ite (fun h =>by simp_all) fun _ =>T.pure _
 ·unfold ref03_value
  refine T.bind (T.loop2 (F:=fun n c i =>ref03_value.l1 s n c i) (len:=s.size) (by omega) (fun n c k hk ih =>?_) (fun n c =>?_) 0) fun _ _ =>T.pure _
  ·rw [ref03_value.l1,if_pos (by simp; omega),gi_nat hk,wk1 (by omega)]
   simp only [Option.bind_some]
   exact ih _
  ·rw [ref03_value.l1,if_neg (by simp)]; exact T.pure _
theorem Term5_tot {t : T_api_Term} (h : LT t) : isS (ref05_RightTerm t):=by
 obtain ⟨h1,h2,h3⟩:=h
 unfold ref05_RightTerm
 refine T.bind (Word_tot (by omega)) fun r _ =>T.ite (fun _ =>T.pure _) fun _ =>T.bind (T.ite (fun _ =>T.pure _) fun _ =>T.pure _) fun v _ =>T.ite (fun _ =>?_) fun _ =>?_
 ·refine T.bind (T.loop (F:=fun n i =>ref05_RightTerm.l1 t n i) (len:=t.Vals.length) (by omega) (fun n k hk ih =>?_) (fun n =>?_)) fun o _ =>T.on o (fun _ =>T.pure _)
  ·rw [ref05_RightTerm.l1,if_pos (dlt hk),glk hk,wk1 (by omega)]
   simp only [Option.bind_some]
   exact T.bind (maybe5_tot (h3 k hk)) fun _ _ =>T.ite (fun _ =>T.pure _) fun _ =>ih
  ·rw [ref05_RightTerm.l1,if_neg dnl]; exact T.pure _
 ·refine T.bind (T.ite (fun _ =>T.pure _) fun _ =>T.pure _) fun v _ =>T.ite (fun _ =>T.pure _) fun _ =>T.bind (T.ite (fun _ =>T.pure _) fun _ =>T.pure _) fun v _ =>T.ite (fun _ =>T.ite (fun _ =>T.pure _) fun hv =>?_) fun _ =>T.pure _
  have hlen : t.Vals.length = 1:=by
   have : ¬ ¬ ((t.Vals.length : Int) = 1):=by simpa using hv
   omega
  rw [show (0 : Int) = ((0 : Nat) : Int) from rfl,glk (by omega)]
  simp only [Option.bind_some]
  exact T.bind (Number3_tot (h3 0 (by omega))) fun _ _ =>T.pure _
theorem RMach_tot {m : T_api_Machine} (h : LM m) : isS (ref07_RightMachine m):=by
 unfold ref07_RightMachine
 rw [ref04_Right_eq]
 exact T.bind (maybe7_tot h.name) fun _ _ =>T.bind (T.ite (fun _ =>T.bind (maybe7_tot h.group) fun _ _ =>T.pure _) fun _ =>T.pure _) fun _ _ =>T.bind (T.ite (fun _ =>T.bind (T.pure _) fun _ _ =>T.pure _) fun _ =>T.pure _) fun _ _ =>
  T.bind (T.ite (fun _ =>T.bind (Right5_tot h.labels) fun _ _ =>T.pure _) fun _ =>T.pure _) fun _ _ =>T.bind (T.ite (fun _ =>T.bind (Right6_tot h.taints) fun _ _ =>T.pure _) fun _ =>T.pure _) fun _ _ =>T.pure _
theorem RPod_tot {p : T_api_Pod} (h : LP p) : isS (ref07_RightPod p):=by
 have hn:=h.nterms
 have hp:=h.nports
 have hnm:=h.name
 unfold ref07_RightPod
 rw [ref04_Right_eq]
 refine T.bind (Word_tot (by omega)) fun _ _ =>T.bind (T.ite (fun _ =>T.pure _) fun _ =>T.bind (T.pure _) fun _ _ =>T.pure _) fun _ _ =>T.bind (T.ite (fun _ =>T.pure _) fun _ =>T.bind (maybe7_tot h.owner) fun _ _ =>T.pure _) fun _ _ =>
  T.bind (T.ite (fun _ =>T.pure _) fun _ =>T.bind ⟨_,rfl⟩ fun _ _ =>T.pure _) fun _ _ =>T.ite (fun _ =>T.pure _) fun _ =>T.bind ?_ fun o _ =>T.on o fun _ =>T.bind ?_ fun o _ =>T.on o fun _ =>?_
 ·refine T.loop (F:=fun n i =>ref07_RightPod.l1 p n i) (len:=p.Terms.length) (by omega) (fun n k hk ih =>?_) (fun n =>?_)
  ·rw [ref07_RightPod.l1,if_pos (dlt hk),glk hk,wk1 (by omega)]
   simp only [Option.bind_some]
   exact T.bind (Term5_tot (h.terms k hk)) fun _ _ =>T.ite (fun _ =>T.pure _) fun _ =>ih
  ·rw [ref07_RightPod.l1,if_neg dnl]; exact T.pure _
 ·refine T.loop (F:=fun n i =>ref07_RightPod.l2 p n i) (len:=p.Ports.length) (by omega) (fun n k hk ih =>?_) (fun n =>?_)
  ·rw [ref07_RightPod.l2,if_pos (dlt hk),glk hk,wk1 (by omega)]
   simp only [Option.bind_some]
   refine T.bind ⟨_,rfl⟩ fun _ _ =>T.bind (T.ite (fun _ =>T.pure _) fun _ =>T.bind (T.ite (fun h0 =>?_) fun _ =>T.pure _) fun _ _ =>T.pure _) fun _ _ =>T.ite (fun _ =>T.pure _) fun _ =>ih
   have h0' : 0 < k:=by simpa using h0
   rw [glp hk h0' (by omega)]
   exact T.bind (T.pure _) fun _ _ =>T.pure _
  ·rw [ref07_RightPod.l2,if_neg dnl]; exact T.pure _
 ·refine T.bind (T.ite (fun _ =>T.pure _) fun _ =>T.bind (T.ite (fun _ =>T.bind ⟨_,rfl⟩ fun _ _ =>T.pure _) fun _ =>T.pure _) fun _ _ =>T.pure _) fun _ _ =>T.ite (fun _ =>T.pure _) fun _ =>?_
  exact T.bind (Right5_tot h.labels) fun _ _ =>T.bind (T.ite (fun _ =>T.bind (Right5_tot h.select) fun _ _ =>T.pure _) fun _ =>T.pure _) fun _ _ =>T.bind (T.ite (fun _ =>T.bind (Right5_tot h.apart) fun _ _ =>T.pure _) fun _ =>T.pure _) fun _ _ =>
   T.bind (T.ite (fun _ =>T.bind (Right5_tot h.spread) fun _ _ =>T.pure _) fun _ =>T.pure _) fun _ _ =>T.bind (T.ite (fun _ =>T.bind (Bears6_tot h.bears) fun _ _ =>T.pure _) fun _ =>T.pure _) fun _ _ =>T.pure _
end Go.Proofs.YtkondhigbbgidaaGreat.M

/-
  Printed by a program of this session out of the loaded functions: models and their proofs. Own text.
-/
import Derived.Test.YtkondhigbbgidaaGreatPWord
/-
  Plain laws of resources: what the program's and the document's functions tell, by definition. Own text.
-/
namespace Go.Proofs.YtkondhigbbgidaaGreat.M
open Go Go.Proofs Go.Proofs.YtkondhigbbgidaaGreat.V
set_option linter.unusedVariables false
set_option linter.unusedSimpArgs false
def rOK (x : Int) : Bool:=decide (0≤x) && decide (x≤1125899906842624)
def resOK (a : T_api_Res) : Bool:=rOK a.Cpu && (rOK a.Mem && (rOK a.Disk && (rOK a.Pods && rOK a.Dev)))
def r0 : T_api_Res:=⟨0,0,0,0,0⟩
theorem fu6 : ∃ n,FU = n + 6:=⟨1152921504606846970,rfl⟩
theorem rbad (x : Int) : ((decide (x < (0 : Int))) || (decide (x > (1125899906842624 : Int)))) = !rOK x:=by
 unfold rOK
 by_cases h1 : x < 0<;>by_cases h2 : x > 1125899906842624<;>simp [h1,h2]<;>omega
theorem res_Right_eq (a : T_api_Res) : res_Right a = some (resOK a):=by
 obtain ⟨n,hn⟩:=fu6
 unfold res_Right res_row
 rw [hn]
 have e : res_Right.l1 (⟨a.Cpu,a.Mem,a.Disk,a.Pods,a.Dev⟩ : Arr5_Int) (n + 6) 0 =
   if ((decide (a.Cpu < (0 : Int))) || (decide (a.Cpu > (1125899906842624 : Int)))) = true then some (Out.ret false) else
   if ((decide (a.Mem < (0 : Int))) || (decide (a.Mem > (1125899906842624 : Int)))) = true then some (Out.ret false) else
   if ((decide (a.Disk < (0 : Int))) || (decide (a.Disk > (1125899906842624 : Int)))) = true then some (Out.ret false) else
   if ((decide (a.Pods < (0 : Int))) || (decide (a.Pods > (1125899906842624 : Int)))) = true then some (Out.ret false) else
   if ((decide (a.Dev < (0 : Int))) || (decide (a.Dev > (1125899906842624 : Int)))) = true then some (Out.ret false) else some (Out.go ()):=rfl
 simp only [Option.bind_some]
 rw [e]
 simp only [rbad]
 unfold resOK
 cases rOK a.Cpu<;>cases rOK a.Mem<;>cases rOK a.Disk<;>cases rOK a.Pods<;>cases rOK a.Dev<;>rfl
theorem ref04_one_eq (n : Int) : ref04_one n = some (rOK n):=by
 unfold ref04_one rOK
 simp only [ge_iff_le]
theorem ref04_Right_eq (a : T_api_Res) : ref04_Right a = some (resOK a):=by
 unfold ref04_Right resOK
 simp only [ref04_one_eq,Option.bind_some]
 cases rOK a.Cpu<;>cases rOK a.Mem<;>cases rOK a.Disk<;>cases rOK a.Pods<;>cases rOK a.Dev<;>rfl
end Go.Proofs.YtkondhigbbgidaaGreat.M
/-
  Plain laws: what is told at all, of the document's checks of yards, machines and pods. Own text.
-/
namespace Go.Proofs.YtkondhigbbgidaaGreat.M
open Go Go.Proofs Go.Proofs.YtkondhigbbgidaaGreat.V
set_option linter.unusedVariables false
set_option linter.unusedSimpArgs false
def isS {α : Type} (o : Option α) : Prop:=∃ r,o = some r
theorem T.pure {α : Type} (x : α) : isS (some x):=⟨x,rfl⟩
theorem T.bind {α β : Type} {o : Option α} {f : α→Option β} (h : isS o) (k : ∀ x,o = some x→isS (f x)) : isS (o.bind f):=by
  obtain ⟨r,rfl⟩:=h; exact k r rfl
theorem T.ite {α : Type} {c : Prop} [Decidable c] {a b : Option α} (h : c→isS a) (k : ¬c→isS b) : isS (if c then a else b):=by
  by_cases hc : c
  · rw [if_pos hc]; exact h hc
  · rw [if_neg hc]; exact k hc
theorem T.on {ρ σ : Type} (o : Out ρ σ) {f : σ→Option ρ} (h : ∀ s,isS (f s)) : isS (o.on f):=by
  cases o with
  | ret r =>exact ⟨r,rfl⟩
  | go s =>exact h s
theorem T.loop {ρ : Type} {F : Nat→Int→Option ρ} {len : Nat} (hl : len < 1000000000000) (hs : ∀ n (k : Nat),k < len→isS (F n ((k + 1 : Nat) : Int))→isS (F (n + 1) (k : Int))) (he : ∀ n,isS (F (n + 1) (len : Int))) : isS (F FU 0):=by
  have key : ∀ (m k f : Nat),len - k≤m→m < f→k≤len→isS (F f (k : Int)):=by
    intro m
    induction m with
    | zero =>
      intro k f h1 h2 h3
      obtain ⟨f,rfl⟩ : ∃ q,f = q + 1:=⟨f - 1,by omega⟩
      obtain rfl : k = len:=by omega
      exact he f
    | succ m ih =>
      intro k f h1 h2 h3
      obtain ⟨f,rfl⟩ : ∃ q,f = q + 1:=⟨f - 1,by omega⟩
      by_cases hk : k < len
      · exact hs f k hk (ih (k + 1) f (by omega) (by omega) (by omega))
      · obtain rfl : k = len:=by omega
        exact he f
  exact key len 0 FU (by omega) (by unfold FU; omega) (Nat.zero_le _)
def LL (l : List T_api_Label) : Prop:=l.length≤40∧∀ k (h : k < l.length),l[k].Key.size≤300∧l[k].Val.size≤300
def LB (l : List T_api_Toleration) : Prop:=l.length≤40∧∀ k (h : k < l.length),l[k].Key.size≤300∧l[k].Val.size≤300
def LX (l : List T_api_Taint) : Prop:=l.length≤40∧∀ k (h : k < l.length),l[k].Key.size≤300∧l[k].Val.size≤300
structure LM (m : T_api_Machine) : Prop where
  name : m.Name.size≤300
  group : m.Group.size≤300
  labels : LL m.Labels
  taints : LX m.Taints
theorem ref05_Light_eq (l : List T_api_Label) : ∃ b,ref05_Light l = some b∧(b = true→LL l):=by
  unfold ref05_Light
  by_cases h : (l.length : Int) > 40
  · rw [if_pos (by simpa using h)]; exact ⟨false,rfl,by simp⟩
  · rw [if_neg (by simpa using h)]
    have hl : l.length≤40:=by omega
    rcases loopI (F:=fun n i =>ref05_Light.l1 l n i) (Q:=fun r =>r = false) (S:=fun k =>∀ h : k < l.length,l[k].Key.size≤300∧l[k].Val.size≤300) (len:=l.length) (by omega) (fun n k hk =>by
        rw [ref05_Light.l1,if_pos (dlt hk),glk hk,wk1 (by omega)]
        simp only [Option.bind_some]
        by_cases h1 : (l[k].Key.size : Int) > 300
        · rw [if_pos (by simpa using h1)]; exact .inl ⟨false,rfl,rfl⟩
        · rw [if_neg (by simpa using h1)]
          simp only [Option.bind_some]
          by_cases h2 : (l[k].Val.size : Int) > 300
          · rw [if_pos (by simpa using h2)]; exact .inl ⟨false,rfl,rfl⟩
          · rw [if_neg (by simpa using h2)]; exact .inr ⟨rfl,fun _ =>by omega⟩) (fun n =>by rw [ref05_Light.l1,if_neg dnl]) with ⟨r,h1,rfl⟩ | ⟨h1,h2⟩
    · rw [h1]; exact ⟨false,rfl,by simp⟩
    · rw [h1]; exact ⟨true,rfl,fun _ =>⟨hl,fun k hk =>h2 k hk hk⟩⟩
theorem ref06_Light_eq (l : List T_api_Toleration) (x : List T_api_Taint) : ∃ b,ref06_Light l x = some b∧(b = true→LB l∧LX x):=by
  unfold ref06_Light
  by_cases h : (l.length : Int) > 40∨(x.length : Int) > 40
  · rw [if_pos (by simpa using h)]; exact ⟨false,rfl,by simp⟩
  · rw [if_neg (by simpa using h)]
    have hl : l.length≤40:=by omega
    have hx : x.length≤40:=by omega
    rcases loopI (F:=fun n i =>ref06_Light.l1 l n i) (Q:=fun r =>r = false) (S:=fun k =>∀ h : k < l.length,l[k].Key.size≤300∧l[k].Val.size≤300) (len:=l.length) (by omega) (fun n k hk =>by
        rw [ref06_Light.l1,if_pos (dlt hk),glk hk,wk1 (by omega)]
        simp only [Option.bind_some]
        by_cases h1 : (l[k].Key.size : Int) > 300
        · rw [if_pos (by simpa using h1)]; exact .inl ⟨false,rfl,rfl⟩
        · rw [if_neg (by simpa using h1)]
          simp only [Option.bind_some]
          by_cases h2 : (l[k].Val.size : Int) > 300
          · rw [if_pos (by simpa using h2)]; exact .inl ⟨false,rfl,rfl⟩
          · rw [if_neg (by simpa using h2)]; exact .inr ⟨rfl,fun _ =>by omega⟩) (fun n =>by rw [ref06_Light.l1,if_neg dnl]) with ⟨r,h1,rfl⟩ | ⟨h1,h2⟩
    · rw [h1]; exact ⟨false,rfl,by simp⟩
    · rw [h1]
      simp only [Option.bind_some,Out.on]
      rcases loopI (F:=fun n i =>ref06_Light.l2 x n i) (Q:=fun r =>r = false) (S:=fun k =>∀ h : k < x.length,x[k].Key.size≤300∧x[k].Val.size≤300) (len:=x.length) (by omega) (fun n k hk =>by
          rw [ref06_Light.l2,if_pos (dlt hk),glk hk,wk1 (by omega)]
          simp only [Option.bind_some]
          by_cases h1 : (x[k].Key.size : Int) > 300
          · rw [if_pos (by simpa using h1)]; exact .inl ⟨false,rfl,rfl⟩
          · rw [if_neg (by simpa using h1)]
            simp only [Option.bind_some]
            by_cases h2 : (x[k].Val.size : Int) > 300
            · rw [if_pos (by simpa using h2)]; exact .inl ⟨false,rfl,rfl⟩
            · rw [if_neg (by simpa using h2)]; exact .inr ⟨rfl,fun _ =>by omega⟩) (fun n =>by rw [ref06_Light.l2,if_neg dnl]) with ⟨r,h3,rfl⟩ | ⟨h3,h4⟩
      · rw [h3]; exact ⟨false,rfl,by simp⟩
      · rw [h3]; exact ⟨true,rfl,fun _ =>⟨⟨hl,fun k hk =>h2 k hk hk⟩,⟨hx,fun k hk =>h4 k hk hk⟩⟩⟩
theorem ref07_LightMachine_eq (m : T_api_Machine) : ∃ b,ref07_LightMachine m = some b∧(b = true→LM m):=by
  unfold ref07_LightMachine
  obtain ⟨b1,e1,f1⟩:=ref05_Light_eq m.Labels
  obtain ⟨b2,e2,f2⟩:=ref06_Light_eq [] m.Taints
  rw [e1,e2]
  by_cases h : (m.Name.size : Int)≤300∧(m.Group.size : Int)≤300
  · rw [if_pos (by simpa using h)]
    cases b1 with
    | false =>exact ⟨false,rfl,by simp⟩
    | true =>
      cases b2 with
      | false =>exact ⟨false,rfl,by simp⟩
      | true =>exact ⟨true,rfl,fun _ =>⟨by omega,by omega,f1 rfl,(f2 rfl).2⟩⟩
  · rw [if_neg (by simpa using h)]
    exact ⟨false,rfl,by simp⟩
end Go.Proofs.YtkondhigbbgidaaGreat.M
/-
  Plain laws: the document's checks of yards, machines and pods tell something of what is light. Own text.
-/
namespace Go.Proofs.YtkondhigbbgidaaGreat.M
open Go Go.Proofs Go.Proofs.YtkondhigbbgidaaGreat.V
set_option linter.unusedVariables false
set_option linter.unusedSimpArgs false
theorem glp {α : Type} {l : List α} {k : Nat} (h : k < l.length) (h0 : 0 < k) (hb : l.length < 1000000000000) : V.gl l (IntKind.i64.wrap ((k : Int) - 1)) = some (l[k - 1]'(by omega)):=by
 rw [w_eq (by omega) (by omega),show (k : Int) - 1 = ((k - 1 : Nat) : Int) by omega,glk (by omega)]
theorem maybe5_tot {s : ByteArray} (h : s.size≤300) : isS (ref05_maybe s):=by
 unfold ref05_maybe
 exact T.bind (T.ite (fun _ =>T.pure _) (fun _ =>T.bind (Word_tot (by omega)) (fun _ _ =>T.pure _))) (fun _ _ =>T.pure _)
theorem Less_tot {a b : ByteArray} (ha : a.size≤300) (hb : b.size≤300) : isS (ref05_Less a b):=by
 unfold ref05_Less
 refine T.bind (T.loop (F:=fun n i =>ref05_Less.l1 a b n i) (len:=min a.size b.size) (by omega) (fun n k hk ih =>?_) (fun n =>?_)) (fun o _ =>T.on o (fun _ =>T.pure _))
 ·rw [ref05_Less.l1,if_pos (by simp; omega),gi_nat (by omega),gi_nat (by omega),wk1 (by omega)]
  simp only [Option.bind_some]
  exact T.ite (fun _ =>T.pure _) (fun _ =>ih)
 ·rw [ref05_Less.l1,if_neg (by simp; omega)]
  exact T.pure _
theorem Right5_tot {l : List T_api_Label} (h : LL l) : isS (ref05_Right l):=by
 unfold ref05_Right
 refine T.ite (fun _ =>T.pure _) (fun _ =>T.bind (T.loop (F:=fun n i =>ref05_Right.l1 l n i) (len:=l.length) (by have:=h.1; omega) (fun n k hk ih =>?_) (fun n =>?_)) (fun o _ =>T.on o (fun _ =>T.pure _)))
 ·have hs:=h.2 k hk
  have hl:=h.1
  rw [ref05_Right.l1,if_pos (dlt hk),glk hk,wk1 (by omega)]
  simp only [Option.bind_some]
  refine T.bind (Word_tot (by omega)) fun r _ =>T.bind (T.ite (fun _ =>T.pure _) fun _ =>T.bind (maybe5_tot hs.2) fun _ _ =>T.pure _) fun c _ =>?_
  refine T.bind (T.ite (fun _ =>T.pure _) fun _ =>T.bind (T.ite (fun h0 =>?_) fun _ =>T.pure _) fun _ _ =>T.pure _) fun _ _ =>T.ite (fun _ =>T.pure _) fun _ =>ih
  have h0' : 0 < k:=by simpa using h0
  rw [glp hk h0' (by omega)]
  simp only [Option.bind_some]
  exact T.bind (Less_tot (h.2 (k - 1) (by omega)).1 hs.1) fun _ _ =>T.pure _
 ·rw [ref05_Right.l1,if_neg dnl]; exact T.pure _
end Go.Proofs.YtkondhigbbgidaaGreat.M

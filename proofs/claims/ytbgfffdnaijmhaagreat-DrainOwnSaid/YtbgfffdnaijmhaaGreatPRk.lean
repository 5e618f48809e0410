/-
  Printed by a program of this session out of the loaded functions: models and their proofs. Own text.
-/
import Derived.Test.YtbgfffdnaijmhaaGreatPBor
import Derived.Test.YtbgfffdnaijmhaaGreatPYard
/-
  Plain laws: shares. Own text.
-/
namespace Go.Proofs.YtbgfffdnaijmhaaGreat.M
open Go Go.Proofs Go.Proofs.YtbgfffdnaijmhaaGreat.V
set_option linter.unusedVariables false
theorem part_tot (a b : Int) : isS (res_part a b):=by
 unfold res_part
 by_cases h : b > 0
 ·rw [if_pos (by simpa using h)]
  unfold V.quo
  rw [if_neg (by omega)]
  exact ⟨_,rfl⟩
 ·rw [if_neg (by simpa using h)]
  exact T.ite (fun _ =>T.pure _) fun _ =>T.pure _
theorem Share_tot (a b : T_api_Res) : isS (res_Share a b):=by
 unfold res_Share
 simp only [res_Right_eq,Option.bind_some]
 exact T.bind (T.ite (fun _ =>T.pure _) fun _ =>T.pure _) fun _ _ =>T.ite (fun _ =>T.pure _) fun _ =>T.bind (part_tot _ _) fun _ _ =>T.bind (part_tot _ _) fun _ _ =>T.pure _
def shareV (a b : T_api_Res) : Int:=(res_Share a b).getD 0
theorem share_V (a b : T_api_Res) : res_Share a b = some (shareV a b):=isD (Share_tot a b) 0
end Go.Proofs.YtbgfffdnaijmhaaGreat.M
/-
  Plain laws: the machine that the program takes for a pod. Own text.
-/
namespace Go.Proofs.YtbgfffdnaijmhaaGreat.M
open Go Go.Proofs Go.Proofs.YtbgfffdnaijmhaaGreat.V
set_option linter.unusedVariables false
def prefV (m : T_api_Machine) (p : T_api_Pod) : Int:=((m.Taints.filter fun x =>decide (x.Effect = 2) && !borneB p.Bears x).length : Int)
theorem pref_V {m : T_api_Machine} {p : T_api_Pod} (hm : LM m) : suit_Prefers m p = some (prefV m p):=by
 have:=hm.taints.1
 unfold suit_Prefers taints_Prefers prefV
 rw [Unborne_eq _ _ 2 (by omega)]
 simp
def scoreV (bs : List T_api_Bound) (p : T_api_Pod) (m : T_api_Machine) : T_sched_score:=⟨prefV m p,shareV (usedS (onS (othersS bs p.Name) m.Name)).1 m.Has⟩
theorem othersS_len2 (bs : List T_api_Bound) (n : ByteArray) : (othersS bs n).length≤bs.length:=List.length_filter_le _ _
theorem of_V {m : T_api_Machine} {bs : List T_api_Bound} {p : T_api_Pod} (hm : LM m) (hl : bs.length≤1000) : sched_of m bs p = some (scoreV bs p m):=by
 unfold sched_of scoreV
 have key : ∀ (l : List T_api_Bound) (k : Nat) (acc : List T_api_Bound),l.length + acc.length≤1000→sched_of.l1 p l k acc = some (acc++othersS l p.Name):=by
  intro l
  induction l with
  | nil =>intro k acc _; simp [sched_of.l1,othersS]
  | cons x l ih =>
   intro k acc h
   rw [List.length_cons] at h
   rw [sched_of.l1,seq_eq]
   unfold othersS at ih ⊢
   by_cases e : x.Pod.Name = p.Name
   ·rw [if_neg (by simp [e]),ih (k + 1) acc (by omega),List.filter_cons_of_neg (by simp [e])]
   ·rw [if_pos (by simp [e]),ap_ok (by omega) (by simp; omega)]
    simp only [Option.bind_some]
    rw [ih (k + 1) _ (by simp; omega),List.filter_cons_of_pos (by simp [e])]
    simp
 have hol:=othersS_len2 bs p.Name
 rw [key bs 0 [] (by simpa using hl),List.nil_append]
 simp only [Option.bind_some]
 rw [Used_eq _ _ (by omega),pref_V hm]
 simp only [Option.bind_some,share_V]
def lessB (a b : T_sched_score) : Bool:=if a.prefers = b.prefers then decide (a.share < b.share) else decide (a.prefers < b.prefers)
def bstep (sc : T_api_Machine→T_sched_score) (s : ByteArray × T_sched_score) (m : T_api_Machine) : ByteArray × T_sched_score:=if (decide (s.1 = ⟨#[]⟩) || lessB (sc m) s.2) = true then (m.Name,sc m) else s
def bestL (sc : T_api_Machine→T_sched_score) (l : List T_api_Machine) : ByteArray:=(l.foldl (bstep sc) (⟨#[]⟩,⟨0,0⟩)).1
def okM (ms : List T_api_Machine) (bs : List T_api_Bound) (p : T_api_Pod) : List T_api_Machine:=ms.filter fun m =>decide (whyV ms bs p m = 0)
def bestV (ms : List T_api_Machine) (bs : List T_api_Bound) (p : T_api_Pod) : ByteArray:=bestL (scoreV bs p) (okM ms bs p)
theorem less_eq (a b : T_sched_score) : sched_score_less a b = some (lessB a b):=by
 unfold sched_score_less lessB
 by_cases h : a.prefers = b.prefers
 ·rw [if_neg (by simp [h]),if_pos h]
 ·rw [if_pos (by simpa using h),if_neg h]
theorem find_mem {ms : List T_api_Machine} (hl : ms.length≤1000) (hu : (ms.map (·.Name)).Nodup) {m : T_api_Machine} (hm : m ∈ ms) {r : Int} (hf : firstAt ms.length (fun k =>∃ h : k < ms.length,ms[k].Name = m.Name) r) : V.gl ms r = some m:=by
 obtain ⟨i,hi,rfl⟩:=List.getElem_of_mem hm
 rcases hf with ⟨q,rfl,b,⟨c,d⟩,e⟩ | ⟨rfl,b⟩
 ·have : q = i:=by
   by_cases h1 : q = i
   ·exact h1
   ·exfalso
    have hnd:=(show (ms.map (·.Name)).Nodup↔_ from List.pairwise_iff_getElem).1 hu
    by_cases hlt : q < i
    ·exact hnd q i (by simpa using c) (by simpa using hi) hlt (by simpa using d)
    ·exact hnd i q (by simpa using hi) (by simpa using c) (by omega) (by simpa using d.symm)
  subst this
  rw [glk c]
 ·exact absurd ⟨hi,rfl⟩ (b i hi)
theorem best_P {ms : List T_api_Machine} {bs : List T_api_Bound} {p : T_api_Pod} (hl : ms.length≤400) (hbl : bs.length≤400) (hms : ∀ m,m ∈ ms→LM m) (hn : (ms.map (·.Name)).Nodup) (hb : ∀ b,b ∈ bs→LP b.Pod) (hp : LP p) :
  sched_Best ms bs p = some (bestV ms bs p):=by
 unfold sched_Best bestV bestL
 rw [where_V (by omega) (by omega) hms hb hp]
 simp only [Option.bind_some]
 have key : ∀ (l : List T_api_Machine) (k : Nat) (b : ByteArray) (s : T_sched_score),(∀ m,m ∈ l→m ∈ ms)→sched_Best.l1 ms bs p (l.map (·.Name)) k b s = some (l.foldl (bstep (scoreV bs p)) (b,s)).1:=by
  intro l
  induction l with
  | nil =>intro k b s _; rfl
  | cons x l ih =>
   intro k b s hx
   have hxm:=hx x (List.mem_cons_self ..)
   have hml : ∀ m,m ∈ l→m ∈ ms:=fun m h =>hx m (List.mem_cons_of_mem _ h)
   obtain ⟨r,h1,h2⟩:=Find_first ms x.Name (by omega)
   rw [List.map_cons,sched_Best.l1,h1]
   simp only [Option.bind_some,find_mem (by omega) hn hxm h2,of_V (hms x hxm) (show bs.length≤1000 by omega),less_eq,seq_eq]
   rw [List.foldl_cons]
   unfold bstep
   simp only
   by_cases e : b = ⟨#[]⟩
   ·simp only [e,decide_true,if_true,Option.bind_some,Bool.true_or]
    exact ih (k + 1) x.Name _ hml
   ·simp only [e,decide_false,Bool.false_eq_true,if_false,Option.bind_some,Bool.false_or]
    cases lessB (scoreV bs p x) s with
    | true =>simp only [if_true]; exact ih (k + 1) x.Name _ hml
    | false =>simp only [Bool.false_eq_true,if_false]; exact ih (k + 1) b s hml
 show ((sched_Best.l1 ms bs p ((okM ms bs p).map (·.Name)) 0 ⟨#[]⟩ ⟨0,0⟩).bind fun best32 =>some best32) = _
 rw [key (okM ms bs p) 0 _ _ (fun m h =>(List.mem_filter.1 h).1)]
 rfl
theorem bestL_mem (sc : T_api_Machine→T_sched_score) (l : List T_api_Machine) (hne : ∀ m,m ∈ l→m.Name≠⟨#[]⟩) : (l = []∧bestL sc l = ⟨#[]⟩)∨(∃ m,m ∈ l∧m.Name = bestL sc l∧bestL sc l≠⟨#[]⟩):=by
 have key : ∀ (l : List T_api_Machine) (s : ByteArray × T_sched_score),(∀ m,m ∈ l→m.Name≠⟨#[]⟩)→s.1≠⟨#[]⟩→(l.foldl (bstep sc) s).1 = s.1∨∃ m,m ∈ l∧m.Name = (l.foldl (bstep sc) s).1:=by
  intro l
  induction l with
  | nil =>intro s _ _; exact .inl rfl
  | cons x l ih =>
   intro s hx hs
   have hxn:=hx x (List.mem_cons_self ..)
   rw [List.foldl_cons]
   by_cases hc : (decide (s.1 = ⟨#[]⟩) || lessB (sc x) s.2) = true
   ·have e : bstep sc s x = (x.Name,sc x):=by unfold bstep; rw [if_pos hc]
    rw [e]
    rcases ih (x.Name,sc x) (fun m h =>hx m (List.mem_cons_of_mem _ h)) hxn with h | ⟨m,h1,h2⟩
    ·exact .inr ⟨x,List.mem_cons_self ..,h.symm⟩
    ·exact .inr ⟨m,List.mem_cons_of_mem _ h1,h2⟩
   ·have e : bstep sc s x = s:=by unfold bstep; rw [if_neg hc]
    rw [e]
    rcases ih s (fun m h =>hx m (List.mem_cons_of_mem _ h)) hs with h | ⟨m,h1,h2⟩
    ·exact .inl h
    ·exact .inr ⟨m,List.mem_cons_of_mem _ h1,h2⟩
 cases l with
 | nil =>exact .inl ⟨rfl,rfl⟩
 | cons x l =>
  right
  have hxn:=hne x (List.mem_cons_self ..)
  unfold bestL
  rw [List.foldl_cons]
  have e : bstep sc (⟨#[]⟩,⟨0,0⟩) x = (x.Name,sc x):=by unfold bstep; rw [if_pos (by simp)]
  rw [e]
  rcases key l (x.Name,sc x) (fun m h =>hne m (List.mem_cons_of_mem _ h)) hxn with h | ⟨m,h1,h2⟩
  ·rw [h]; exact ⟨x,List.mem_cons_self ..,rfl,hxn⟩
  ·refine ⟨m,List.mem_cons_of_mem _ h1,h2,?_⟩
   rw [← h2]
   exact hne m (List.mem_cons_of_mem _ h1)
end Go.Proofs.YtbgfffdnaijmhaaGreat.M
/-
  Plain laws: rows in order. Own text.
-/
namespace Go.Proofs.YtbgfffdnaijmhaaGreat.M
open Go Go.Proofs Go.Proofs.YtbgfffdnaijmhaaGreat.V
set_option linter.unusedVariables false
def Rk (rk : Int→Int) (a b : Int) : Prop:=rk a > rk b∨(rk a = rk b∧a < b)
end Go.Proofs.YtbgfffdnaijmhaaGreat.M

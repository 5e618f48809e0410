/-
  Printed by a program of this session out of the loaded functions: models and their proofs. Own text.
-/
import Derived.Test.YtkondhigbbgidaaGreatPRef4
import Derived.Test.YtkondhigbbgidaaGreatPWordE
import Derived.Test.YtkondhigbbgidaaGreatPFit0
import Derived.Test.YtkondhigbbgidaaGreatPOn9
/-
  Plain laws: whether too many would stand in a zone, and why a pod cannot run, told alike by the program and the document. Own text.
-/
namespace Go.Proofs.YtkondhigbbgidaaGreat.M
open Go Go.Proofs Go.Proofs.YtkondhigbbgidaaGreat.V
set_option linter.unusedVariables false
end Go.Proofs.YtkondhigbbgidaaGreat.M
/- Plain law: what is shown of a pod ends, whatever it is; a pod, a machine, and a yard are the same as themselves. Own work. -/
namespace Go.Proofs.YtkondhigbbgidaaGreat.M
open Go Go.Proofs Go.Proofs.YtkondhigbbgidaaGreat.V
open Go.IntKind (i64)
set_option linter.unusedVariables false
set_option maxRecDepth 20000
set_option maxHeartbeats 4000000
def isB (o : Option ByteArray) (n : Nat) : Prop:=∃ r,o = some r∧r.size≤n
theorem isB.s {o : Option ByteArray} {n : Nat} (h : isB o n) : isS o:=by obtain ⟨r,h,_⟩:=h; exact ⟨r,h⟩
theorem isB.mono {o : Option ByteArray} {n m : Nat} (h : isB o n) (k : n≤m) : isB o m:=by obtain ⟨r,h,j⟩:=h; exact ⟨r,h,by omega⟩
theorem isB.bind {α : Type} {o : Option α} {f : α→Option ByteArray} {n : Nat} (h : isS o) (k : ∀ x,o = some x→isB (f x) n) : isB (o.bind f) n:=by obtain ⟨x,rfl⟩:=h; exact k x rfl
theorem isB.ite {c : Prop} [Decidable c] {a b : Option ByteArray} {n : Nat} (h : c→isB a n) (k : ¬c→isB b n) : isB (if c then a else b) n:=by
 split
 ·exact h ‹_›
 ·exact k ‹_›
theorem isB.pure {x : ByteArray} {n : Nat} (h : x.size≤n) : isB (some x) n:=⟨x,rfl,h⟩
theorem isB.cat {s t : ByteArray} {f : ByteArray→Option ByteArray} {n i j : Nat} (hs : s.size≤i) (ht : t.size≤j) (hb : i + j≤1000000000) (k : ∀ r : ByteArray,r.size≤i + j→isB (f r) n) : isB ((V.cat s t).bind f) n:=by
 unfold V.cat; rw [if_pos (by unfold maxLen; omega)]
 exact k _ (by rw [ByteArray.size_append]; omega)
theorem isB.on {o : Option (Out ByteArray Unit)} {f : Unit→Option ByteArray} {n : Nat} (h : ∃ x,o = Option.some x∧∀ r,x = Out.ret r→r.size≤n) (k : isB (f ()) n) : isB (o.bind fun x =>x.on f) n:=by
 obtain ⟨x,rfl,h⟩:=h
 cases x with
 | ret r =>exact ⟨r,rfl,h r rfl⟩
 | go u =>exact k
theorem isB.loop {α : Type} {F : Nat→ByteArray→Int→Option ByteArray} {l : List α} (c : Nat) (hl : l.length≤1000)
  (hs : ∀ n (k : Nat) (hk : k < l.length) (s : ByteArray) (b : Nat),s.size≤b→b + c≤100000000→(∀ r : ByteArray,r.size≤b + c→isB (F n r (((k : Nat) : Int) + 1)) (b + c + (l.length - (k + 1)) * c))→isB (F (n + 1) s (k : Int)) (b + c + (l.length - (k + 1)) * c))
  (he : ∀ n s,F (n + 1) s (l.length : Int) = some s) : ∀ {s : ByteArray} {b : Nat},s.size≤b→b + l.length * c≤100000000→isB (F FU s 0) (b + l.length * c):=by
 have key : ∀ (m k n : Nat) (s : ByteArray) (b : Nat),l.length - k≤m→m < n→k≤l.length→s.size≤b→b + (l.length - k) * c≤100000000→isB (F n s (k : Int)) (b + (l.length - k) * c):=by
  intro m
  induction m with
  | zero =>
   intro k n s b h1 h2 h3 h4 _
   obtain ⟨n,rfl⟩ : ∃ n',n = n' + 1:=⟨n - 1,by omega⟩
   have : k = l.length:=by omega
   subst this
   rw [he]; exact ⟨s,rfl,by omega⟩
  | succ m ih =>
   intro k n s b h1 h2 h3 h4 h5
   obtain ⟨n,rfl⟩ : ∃ n',n = n' + 1:=⟨n - 1,by omega⟩
   by_cases hk : k < l.length
   ·have e : l.length - k = (l.length - (k + 1)) + 1:=by omega
    have e2 : (l.length - k) * c = c + (l.length - (k + 1)) * c:=by rw [e,Nat.add_mul]; omega
    rw [e2,← Nat.add_assoc]
    refine hs n k hk s b h4 (by have : 0≤(l.length - (k + 1)) * c:=Nat.zero_le _; omega) fun r hr =>?_
    have:=ih (k + 1) n r (b + c) (by omega) (by omega) (by omega) hr (by omega)
    exact this
   ·have : k = l.length:=by omega
    subst this
    rw [he]; exact ⟨s,rfl,by omega⟩
 intro s b h1 h2
 have:=key l.length 0 FU s b (by omega) (by unfold FU; omega) (by omega) h1 (by omega)
 simpa using this
end Go.Proofs.YtkondhigbbgidaaGreat.M
/-
  Plain laws of the snapshot: its yards, what is copied, machines and pods by their names. Own text.
-/
namespace Go.Proofs.YtkondhigbbgidaaGreat.M
open Go Go.Proofs Go.Proofs.YtkondhigbbgidaaGreat.V
open Go.IntKind (i64)
set_option linter.unusedVariables false
set_option maxRecDepth 20000
theorem first_same {len : Nat} {p : Nat→Prop} {r r' : Int} (h2 : firstAt len p r) (h4 : firstAt len p r') : r = r':=by
 rcases h2 with ⟨q,rfl,q1,q2,q3⟩ | ⟨rfl,q1⟩<;>rcases h4 with ⟨q',rfl,q4,q5,q6⟩ | ⟨rfl,q4⟩
 ·have : ¬ q < q':=fun h =>q6 q h q2
  have : ¬ q' < q:=fun h =>q3 q' h q5
  omega
 ·exact absurd q2 (q4 q q1)
 ·exact absurd q5 (q1 q' q4)
 ·rfl
theorem find_d (ms : List T_api_Machine) (name : ByteArray) (hl : ms.length≤1000) : ∃ r,yard_Find ms name = some r∧ref09_Find ms name = some r∧((r = -1∧name ∉ ms.map (·.Name))∨∃ k : Nat,r = (k : Int)∧∃ h : k < ms.length,ms[k].Name = name):=by
 obtain ⟨r,h1,h2⟩:=Find_first ms name hl
 obtain ⟨r',h3,h4⟩:=Find9_eq ms name (by omega)
 have e:=first_same h2 h4
 subst e
 refine ⟨r,h1,h3,?_⟩
 rcases h2 with ⟨q,rfl,q1,⟨q2,q3⟩,_⟩ | ⟨rfl,q1⟩
 ·exact .inr ⟨q,rfl,q2,q3⟩
 ·refine .inl ⟨rfl,fun h =>?_⟩
  obtain ⟨m,hm,e⟩:=List.mem_map.1 h
  obtain ⟨i,hi,rfl⟩:=List.getElem_of_mem hm
  exact q1 i hi ⟨hi,e⟩
theorem Place_first (bs : List T_api_Bound) (name : ByteArray) (hl : bs.length≤1000) : ∃ r,yard_Place bs name = some r∧firstAt bs.length (fun k =>∃ h : k < bs.length,bs[k].Pod.Name = name) r:=by
 unfold yard_Place yard_first_yard_Place_1
 obtain ⟨r,h1,h2⟩:=loopF (p:=fun k =>∃ h : k < bs.length,bs[k].Pod.Name = name) (F:=fun n i =>yard_first_yard_Place_1.l1 (bs.length : Int) bs name n i) (len:=bs.length) (by omega) (fun n k hk =>by
  rw [yard_first_yard_Place_1.l1,if_pos (dlt hk),wk1 (by omega)]
  unfold yard_Place_1
  rw [glk hk]
  simp only [Option.bind_some,seq_eq]
  by_cases h : bs[k].Pod.Name = name
  ·rw [if_pos (by simpa using h)]; exact .inl ⟨rfl,hk,h⟩
  ·rw [if_neg (by simpa using h)]; exact .inr ⟨rfl,fun ⟨_,h'⟩ =>h h'⟩) (fun n =>by rw [yard_first_yard_Place_1.l1,if_neg dnl])
 exact ⟨r,(congrArg (fun o =>Option.bind o fun r =>some r) h1).trans rfl,h2⟩
theorem place_d (bs : List T_api_Bound) (name : ByteArray) (hl : bs.length≤1000) : ∃ r,yard_Place bs name = some r∧ref09_Place bs name = some r∧((r = -1∧name ∉ bs.map (·.Pod.Name))∨∃ k : Nat,r = (k : Int)∧∃ h : k < bs.length,bs[k].Pod.Name = name):=by
 obtain ⟨r,h1,h2⟩:=Place_first bs name hl
 obtain ⟨r',h3,h4⟩:=Place9_eq bs name (by omega)
 have e:=first_same h2 h4
 subst e
 refine ⟨r,h1,h3,?_⟩
 rcases h2 with ⟨q,rfl,q1,⟨q2,q3⟩,_⟩ | ⟨rfl,q1⟩
 ·exact .inr ⟨q,rfl,q2,q3⟩
 ·refine .inl ⟨rfl,fun h =>?_⟩
  obtain ⟨m,hm,e⟩:=List.mem_map.1 h
  obtain ⟨i,hi,rfl⟩:=List.getElem_of_mem hm
  exact q1 i hi ⟨hi,e⟩
end Go.Proofs.YtkondhigbbgidaaGreat.M

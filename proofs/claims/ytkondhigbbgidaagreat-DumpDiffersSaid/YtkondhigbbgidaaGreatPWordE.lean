/-
  Printed by a program of this session out of the loaded functions: models and their proofs. Own text.
-/
import Derived.Test.YtkondhigbbgidaaGreatPTot2
import Derived.Test.YtkondhigbbgidaaGreatPLoop
/-
  Plain laws: what the document's check of a yard says of it. Own text.
-/
namespace Go.Proofs.YtkondhigbbgidaaGreat.M
open Go Go.Proofs Go.Proofs.YtkondhigbbgidaaGreat.V
set_option linter.unusedVariables false
def firstAt (len : Nat) (p : Nat→Prop) (r : Int) : Prop:=(∃ k : Nat,r = (k : Int)∧k < len∧p k∧∀ j,j < k→¬ p j)∨(r = -1∧∀ j,j < len→¬ p j)
theorem loopF {F : Nat→Int→Option (Out Int Unit)} {len : Nat} {p : Nat→Prop} (hl : len < 1000000000000)
    (hs : ∀ n (k : Nat),k < len→(F (n + 1) (k : Int) = some (Out.ret (k : Int))∧p k)∨(F (n + 1) (k : Int) = F n ((k + 1 : Nat) : Int)∧¬ p k))
    (he : ∀ n,F (n + 1) (len : Int) = some (Out.go ())) : ∃ r,((F FU 0).bind fun o =>o.on fun _ =>some (-1 : Int)) = some r∧firstAt len p r:=by
  have key : ∀ (m k f : Nat),len - k≤m→m < f→k≤len→(∃ q : Nat,F f (k : Int) = some (Out.ret (q : Int))∧k≤q∧q < len∧p q∧∀ j,k≤j→j < q→¬ p j)∨(F f (k : Int) = some (Out.go ())∧∀ j,k≤j→j < len→¬ p j):=by
    intro m
    induction m with
    | zero =>
      intro k f h1 h2 h3
      obtain ⟨f,rfl⟩ : ∃ q,f = q + 1:=⟨f - 1,by omega⟩
      obtain rfl : k = len:=by omega
      exact .inr ⟨he f,fun j h4 h5 =>by omega⟩
    | succ m ih =>
      intro k f h1 h2 h3
      obtain ⟨f,rfl⟩ : ∃ q,f = q + 1:=⟨f - 1,by omega⟩
      by_cases hk : k < len
      · rcases hs f k hk with ⟨h4,h5⟩ | ⟨h4,h5⟩
        · exact .inl ⟨k,h4,Nat.le_refl _,hk,h5,fun j a b =>by omega⟩
        · rw [h4]
          rcases ih (k + 1) f (by omega) (by omega) (by omega) with ⟨q,a,b,c,d,e⟩ | ⟨h6,h7⟩
          · exact .inl ⟨q,a,by omega,c,d,fun j x y =>by
              by_cases ee : j = k
              · subst ee; exact h5
              · exact e j (by omega) y⟩
          · exact .inr ⟨h6,fun j x y =>by
              by_cases ee : j = k
              · subst ee; exact h5
              · exact h7 j (by omega) y⟩
      · obtain rfl : k = len:=by omega
        exact .inr ⟨he f,fun j h4 h5 =>by omega⟩
  rcases key len 0 FU (by omega) (by unfold FU; omega) (Nat.zero_le _) with ⟨q,a,b,c,d,e⟩ | ⟨h1,h2⟩
  · have a' : F FU 0 = some (Out.ret (q : Int)):=a
    exact ⟨(q : Int),by rw [a']; rfl,.inl ⟨q,rfl,c,d,fun j hj =>e j (Nat.zero_le _) hj⟩⟩
  · have a' : F FU 0 = some (Out.go ()):=h1
    exact ⟨-1,by rw [a']; rfl,.inr ⟨rfl,fun j hj =>h2 j (Nat.zero_le _) hj⟩⟩
theorem Find9_eq (ms : List T_api_Machine) (name : ByteArray) (hl : ms.length < 1000000000000) : ∃ r,ref09_Find ms name = some r∧firstAt ms.length (fun k =>∃ h : k < ms.length,ms[k].Name = name) r:=by
  unfold ref09_Find
  refine loopF (F:=fun n i =>ref09_Find.l1 ms name n i) hl (fun n k hk =>?_) (fun n =>by rw [ref09_Find.l1,if_neg dnl])
  rw [ref09_Find.l1,if_pos (dlt hk),glk hk,wk1 (by omega)]
  simp only [Option.bind_some,seq_eq]
  by_cases h : ms[k].Name = name
  · rw [if_pos (by simpa using h)]; exact .inl ⟨rfl,hk,h⟩
  · rw [if_neg (by simpa using h)]; exact .inr ⟨rfl,fun ⟨_,h'⟩ =>h h'⟩
theorem Place9_eq (bs : List T_api_Bound) (name : ByteArray) (hl : bs.length < 1000000000000) : ∃ r,ref09_Place bs name = some r∧firstAt bs.length (fun k =>∃ h : k < bs.length,bs[k].Pod.Name = name) r:=by
  unfold ref09_Place
  refine loopF (F:=fun n i =>ref09_Place.l1 bs name n i) hl (fun n k hk =>?_) (fun n =>by rw [ref09_Place.l1,if_neg dnl])
  rw [ref09_Place.l1,if_pos (dlt hk),glk hk,wk1 (by omega)]
  simp only [Option.bind_some,seq_eq]
  by_cases h : bs[k].Pod.Name = name
  · rw [if_pos (by simpa using h)]; exact .inl ⟨rfl,hk,h⟩
  · rw [if_neg (by simpa using h)]; exact .inr ⟨rfl,fun ⟨_,h'⟩ =>h h'⟩
structure RY (ms : List T_api_Machine) (bs : List T_api_Bound) : Prop where
  rm : ∀ k (h : k < ms.length),ms[k].Name≠⟨#[]⟩∧ref07_RightMachine ms[k] = some true
  rb : ∀ k (h : k < bs.length),ref07_RightPod bs[k].Pod = some true
  mu : ∀ j k (h : j < ms.length) (h' : k < ms.length),ms[j].Name = ms[k].Name→j = k
  bu : ∀ j k (h : j < bs.length) (h' : k < bs.length),bs[j].Pod.Name = bs[k].Pod.Name→j = k
  on : ∀ k (h : k < bs.length),bs[k].On≠⟨#[]⟩→∃ j,∃ h' : j < ms.length,ms[j].Name = bs[k].On
theorem first_self {len : Nat} {p : Nat→Nat→Prop} {k : Nat} {r : Int} (hk : k < len) (hp : p k k) (h : firstAt len (fun j =>p j k) r) : (r = (k : Int)∧∀ j,j < k→¬ p j k)∨(r≠(k : Int)):=by
  rcases h with ⟨q,rfl,h1,h2,h3⟩ | ⟨rfl,h1⟩
  · by_cases e : q = k
    · subst e; exact .inl ⟨rfl,h3⟩
    · exact .inr (by omega)
  · exact absurd hp (h1 k hk)
theorem Check9_eq {ms : List T_api_Machine} {bs : List T_api_Bound} (hy : LY ms bs) : ∃ r,ref09_Check ms bs = some r∧(r = 0→RY ms bs):=by
  have hnm:=hy.nm
  have hnb:=hy.nb
  unfold ref09_Check
  rw [if_neg (by simp; omega)]
  rcases loopI (F:=fun n i =>ref09_Check.l1 ms n i) (Q:=fun r =>r = 12) (S:=fun k =>∀ h : k < ms.length,ms[k].Name≠⟨#[]⟩∧ref07_RightMachine ms[k] = some true) (len:=ms.length) (by omega) (fun n k hk =>by
      rw [ref09_Check.l1,if_pos (dlt hk),glk hk,wk1 (by omega)]
      simp only [Option.bind_some,seq_eq]
      obtain ⟨b,hb⟩:=RMach_tot (hy.ms k hk)
      by_cases h : ms[k].Name = ⟨#[]⟩
      · rw [if_pos (by simpa using h)]; exact .inl ⟨12,rfl,rfl⟩
      · rw [if_neg (by simpa using h),hb]
        cases b with
        | false =>exact .inl ⟨12,rfl,rfl⟩
        | true =>exact .inr ⟨rfl,fun _ =>⟨h,hb⟩⟩) (fun n =>by rw [ref09_Check.l1,if_neg dnl]) with ⟨r,h1,rfl⟩ | ⟨h1,g1⟩
  · rw [h1]; exact ⟨12,rfl,fun h =>absurd h (by decide)⟩
  rw [h1]
  simp only [Option.bind_some,Out.on]
  rcases loopI (F:=fun n i =>ref09_Check.l2 bs n i) (Q:=fun r =>r = 12) (S:=fun k =>∀ h : k < bs.length,ref07_RightPod bs[k].Pod = some true) (len:=bs.length) (by omega) (fun n k hk =>by
      rw [ref09_Check.l2,if_pos (dlt hk),glk hk,wk1 (by omega)]
      simp only [Option.bind_some]
      obtain ⟨b,hb⟩:=RPod_tot (hy.bs k hk).1
      rw [hb]
      cases b with
      | false =>exact .inl ⟨12,rfl,rfl⟩
      | true =>exact .inr ⟨rfl,fun _ =>hb⟩) (fun n =>by rw [ref09_Check.l2,if_neg dnl]) with ⟨r,h2,rfl⟩ | ⟨h2,g2⟩
  · rw [h2]; exact ⟨12,rfl,fun h =>absurd h (by decide)⟩
  rw [h2]
  simp only [Option.bind_some]
  rcases loopI (F:=fun n i =>ref09_Check.l3 ms n i) (Q:=fun r =>r = 15) (S:=fun k =>∀ h : k < ms.length,∀ j (h' : j < ms.length),j < k→ms[j].Name≠ms[k].Name) (len:=ms.length) (by omega) (fun n k hk =>by
      rw [ref09_Check.l3,if_pos (dlt hk),glk hk,wk1 (by omega)]
      simp only [Option.bind_some]
      obtain ⟨r,hr,hf⟩:=Find9_eq ms ms[k].Name (by omega)
      rw [hr]
      simp only [Option.bind_some]
      rcases first_self (p:=fun j k =>∃ (h : j < ms.length) (h' : k < ms.length),ms[j].Name = ms[k].Name) hk ⟨hk,hk,rfl⟩ (by
        refine (show firstAt ms.length _ r→firstAt ms.length _ r from fun h =>?_) hf
        rcases h with ⟨q,a,b,⟨c,d⟩,e⟩ | ⟨a,b⟩
        · exact .inl ⟨q,a,b,⟨c,hk,d⟩,fun j hj ⟨x,_,y⟩ =>e j hj ⟨x,y⟩⟩
        · exact .inr ⟨a,fun j hj ⟨x,_,y⟩ =>b j hj ⟨x,y⟩⟩) with ⟨rfl,h⟩ | h
      · rw [if_neg (by simp)]; exact .inr ⟨rfl,fun _ j hj hjk e =>h j hjk ⟨hj,hk,e⟩⟩
      · rw [if_pos (by simpa using h)]; exact .inl ⟨15,rfl,rfl⟩) (fun n =>by rw [ref09_Check.l3,if_neg dnl]) with ⟨r,h3,rfl⟩ | ⟨h3,g3⟩
  · rw [h3]; exact ⟨15,rfl,fun h =>absurd h (by decide)⟩
  rw [h3]
  simp only [Option.bind_some]
  rcases loopI (F:=fun n i =>ref09_Check.l4 bs n i) (Q:=fun r =>r = 15) (S:=fun k =>∀ h : k < bs.length,∀ j (h' : j < bs.length),j < k→bs[j].Pod.Name≠bs[k].Pod.Name) (len:=bs.length) (by omega) (fun n k hk =>by
      rw [ref09_Check.l4,if_pos (dlt hk),glk hk,wk1 (by omega)]
      simp only [Option.bind_some]
      obtain ⟨r,hr,hf⟩:=Place9_eq bs bs[k].Pod.Name (by omega)
      rw [hr]
      simp only [Option.bind_some]
      rcases first_self (p:=fun j k =>∃ (h : j < bs.length) (h' : k < bs.length),bs[j].Pod.Name = bs[k].Pod.Name) hk ⟨hk,hk,rfl⟩ (by
        refine (show firstAt bs.length _ r→firstAt bs.length _ r from fun h =>?_) hf
        rcases h with ⟨q,a,b,⟨c,d⟩,e⟩ | ⟨a,b⟩
        · exact .inl ⟨q,a,b,⟨c,hk,d⟩,fun j hj ⟨x,_,y⟩ =>e j hj ⟨x,y⟩⟩
        · exact .inr ⟨a,fun j hj ⟨x,_,y⟩ =>b j hj ⟨x,y⟩⟩) with ⟨rfl,h⟩ | h
      · rw [if_neg (by simp)]; exact .inr ⟨rfl,fun _ j hj hjk e =>h j hjk ⟨hj,hk,e⟩⟩
      · rw [if_pos (by simpa using h)]; exact .inl ⟨15,rfl,rfl⟩) (fun n =>by rw [ref09_Check.l4,if_neg dnl]) with ⟨r,h4,rfl⟩ | ⟨h4,g4⟩
  · rw [h4]; exact ⟨15,rfl,fun h =>absurd h (by decide)⟩
  rw [h4]
  simp only [Option.bind_some]
  rcases loopI (F:=fun n i =>ref09_Check.l5 ms bs n i) (Q:=fun r =>r = 16) (S:=fun k =>∀ h : k < bs.length,bs[k].On≠⟨#[]⟩→∃ j,∃ h' : j < ms.length,ms[j].Name = bs[k].On) (len:=bs.length) (by omega) (fun n k hk =>by
      rw [ref09_Check.l5,if_pos (dlt hk),glk hk,wk1 (by omega)]
      simp only [Option.bind_some,seq_eq]
      obtain ⟨r,hr,hf⟩:=Find9_eq ms bs[k].On (by omega)
      by_cases h : bs[k].On = ⟨#[]⟩
      · rw [if_neg (by simpa using h)]; exact .inr ⟨rfl,fun _ h' =>absurd h h'⟩
      · rw [if_pos (by simpa using h),hr]
        simp only [Option.bind_some]
        rcases hf with ⟨q,rfl,b,⟨c,d⟩,e⟩ | ⟨rfl,b⟩
        · rw [if_neg (by simp)]; exact .inr ⟨rfl,fun _ _ =>⟨q,c,d⟩⟩
        · exact .inl ⟨16,rfl,rfl⟩) (fun n =>by rw [ref09_Check.l5,if_neg dnl]) with ⟨r,h5,rfl⟩ | ⟨h5,g5⟩
  · rw [h5]; exact ⟨16,rfl,fun h =>absurd h (by decide)⟩
  rw [h5]
  refine ⟨0,rfl,fun _ =>⟨fun k hk =>g1 k hk hk,fun k hk =>g2 k hk hk,fun j k hj hk e =>?_,fun j k hj hk e =>?_,fun k hk =>g5 k hk hk⟩⟩
  · by_cases h1 : j < k
    · exact absurd e (g3 k hk hk j hj h1)
    · by_cases h2 : k < j
      · exact absurd e.symm (g3 j hj hj k hk h2)
      · omega
  · by_cases h1 : j < k
    · exact absurd e (g4 k hk hk j hj h1)
    · by_cases h2 : k < j
      · exact absurd e.symm (g4 j hj hj k hk h2)
      · omega
end Go.Proofs.YtkondhigbbgidaaGreat.M
/-
  Plain laws of the snapshot: what is light; SnapNil. Own text.
-/
namespace Go.Proofs.YtkondhigbbgidaaGreat.M
open Go Go.Proofs Go.Proofs.YtkondhigbbgidaaGreat.V
open Go.IntKind (i64)
set_option linter.unusedVariables false
set_option maxRecDepth 20000
end Go.Proofs.YtkondhigbbgidaaGreat.M
/-
  Plain laws of words: the program's and the document's are alike. Own text.
-/
namespace Go.Proofs.YtkondhigbbgidaaGreat.M
open Go Go.Proofs Go.Proofs.YtkondhigbbgidaaGreat.V
set_option linter.unusedVariables false
end Go.Proofs.YtkondhigbbgidaaGreat.M

/-
  Printed by a program of this session out of the loaded functions: models and their proofs. Own text.
-/
import Derived.Test.YtkondhigbbgidaaGreatPL8
/-
  Plain laws of lex: LexWords, LexQuotes, LexJoins. Own text.
-/
namespace Go.Proofs.YtkondhigbbgidaaGreat.M
open Go Go.Proofs Go.Proofs.YtkondhigbbgidaaGreat.V
set_option linter.unusedVariables false
set_option linter.unusedSimpArgs false
theorem map_ok {α β : Type} {f : α→β} {r : Res α} {y : β} (h : r.map f = .ok y) : ∃ x,r = .ok x∧y = f x:=by
 cases r with
 | ok a =>simp only [Res.map,Res.ok.injEq] at h; exact ⟨a,rfl,h.symm⟩
 | err e =>simp [Res.map] at h
def wordL (l : List Int) : Bool:=((headL plainB l).2 && (headL plainB l).1 == l.length && decide (0 < (headL plainB l).1)) && !longB (cnt l)
theorem plain_first {l : List Int} {c : Int} {w : Nat} (h : rl l = some (c,w)) (hp : plainB c = true) : ∃ b t,l = b :: t∧wrdB b = true:=by
 rcases (rl_some h).2.2 with ⟨t,rfl,_,_⟩ | ⟨_,_,⟨b,t,rfl,hb⟩,_⟩
 ·refine ⟨c,t,rfl,?_⟩
  unfold plainB at hp
  unfold wrdB blankB
  simp only [Bool.and_eq_true,decide_eq_true_eq,bne_iff_ne,ne_eq,Bool.not_eq_true',Bool.or_eq_false_iff,beq_eq_false_iff_ne] at hp ⊢
  omega
 ·refine ⟨b,t,rfl,?_⟩
  unfold wrdB blankB
  simp only [Bool.and_eq_true,bne_iff_ne,ne_eq,Bool.not_eq_true',Bool.or_eq_false_iff,beq_eq_false_iff_ne]
  omega
theorem bytesL_inj {a b : ByteArray} (h : bytesL a = bytesL b) : a = b:=by
 unfold bytesL at h
 have h2 : a.data.toList = b.data.toList:=by
  refine (List.map_inj_right (f:=fun (b : UInt8) =>(b.toNat : Int)) ?_).1 h
  intro x y hxy
  have : x.toNat = y.toNat:=Int.ofNat_inj.1 hxy
  exact UInt8.toNat_inj.1 this
 cases a; cases b
 congr 1
 exact Array.toList_inj.1 h2
theorem seq_iff (a b : ByteArray) : V.seq a b = decide (bytesL a = bytesL b):=by
 by_cases h : bytesL a = bytesL b
 ·have:=bytesL_inj h
  subst this
  simp [V.seq]
 ·have : ¬ a.toList = b.toList:=fun e =>h (by
   have : a = b:=by
    have h1 : a.data.toList = b.data.toList:=by simpa [ByteArray.toList_eq] using e
    cases a; cases b
    congr 1
    exact Array.toList_inj.1 h1
   rw [this])
  simp [V.seq,h,this]
theorem Word_list {s : ByteArray} (hs : s.size < 70368744177664) : lex_Word s = some (wordL (bytesL s)):=by
 unfold lex_Word wordL
 rw [headP_eq (by omega)]
 simp only [Option.bind_some,bytesL_length]
 have hle:=headL_le plainB _ (bytesL s) (Nat.le_refl _)
 have hc:=cnt_headL plainB _ (bytesL s) (Nat.le_refl _)
 generalize headL plainB (bytesL s) = q at *
 obtain ⟨n,b⟩:=q
 simp only at *
 cases b with
 | false =>simp
 | true =>
  by_cases h1 : n = s.size
  ·subst h1
   by_cases h2 : 0 < s.size
   ·have hc : cnt (bytesL s)≠none:=by rwa [← bytesL_length,List.take_length] at hc
    rw [if_pos (by simp; omega),Runes_cnt (by omega)]
    cases hq : cnt (bytesL s) with
    | none =>exact absurd hq hc
    | some m =>
     by_cases h6 : 64 < m
     ·simp [longB,runesI,h2,h6]; omega
     ·simp [longB,runesI,h2,h6]; omega
   ·rw [if_neg (by simpa using h2)]
    simp [h2]
  ·have : ¬ (n : Int) = (s.size : Int):=by omega
   simp [h1,this]
end Go.Proofs.YtkondhigbbgidaaGreat.M
/-
  Plain laws of lex: LexQuotes, LexJoins. Own text.
-/
namespace Go.Proofs.YtkondhigbbgidaaGreat.M
open Go Go.Proofs Go.Proofs.YtkondhigbbgidaaGreat.V
set_option linter.unusedVariables false
set_option linter.unusedSimpArgs false
def quoteL : List Int→List Int
 | [] =>[]
 | b :: t =>if b = 10 then 92 :: 110 :: quoteL t else if b = 34∨b = 92 then 92 :: b :: quoteL t else b :: quoteL t
theorem quoteL_append (u v : List Int) : quoteL (u++v) = quoteL u++quoteL v:=by
 induction u with
 | nil =>rfl
 | cons b t ih =>
  simp only [List.cons_append,quoteL,ih]
  split
  ·rfl
  ·split<;>rfl
theorem quoteL_high {u : List Int} (h : ∀ b,b ∈ u→128≤b) : quoteL u = u:=by
 induction u with
 | nil =>rfl
 | cons b t ih =>
  have hb:=h b (by simp)
  rw [quoteL,if_neg (by omega),if_neg (by omega),ih (fun b hb =>h b (by simp [hb]))]
def good (l : List Int) : Prop:=cnt l≠none∧∀ b,b ∈ l→ctl b = false
theorem ctl_high {b : Int} (h : 128≤b) : ctl b = false:=by
 unfold ctl
 simp only [Bool.or_eq_false_iff,Bool.and_eq_false_iff,decide_eq_false_iff_not,beq_eq_false_iff_ne,bne_eq_false_iff_eq]
 omega
theorem take_high {l : List Int} {c : Int} {w : Nat} (h : rl l = some (c,w)) (hc : ¬ c < 128) : ∀ b,b ∈ l.take w→128≤b:=by
 intro b hb
 obtain ⟨j,hj⟩:=List.getElem?_of_mem hb
 rw [List.getElem?_take] at hj
 split at hj
 ·rcases (rl_some h).2.2 with ⟨t,_,h1,_⟩ | ⟨_,_,_,h2⟩
  ·omega
  ·exact h2 j b (by assumption) hj
 ·cases hj
theorem good_nil : good []:=⟨by rw [cnt_nil]; simp,by simp⟩
theorem good_low {c : Int} {t : List Int} (hc : c < 128) : good (c :: t)↔ctl c = false∧good t:=by
 unfold good
 rw [cnt_go (rl_ascii hc)]
 simp only [List.drop_succ_cons,List.drop_zero,List.mem_cons,ne_eq,Option.map_eq_none_iff]
 constructor
 ·rintro ⟨h1,h2⟩; exact ⟨h2 c (.inl rfl),h1,fun b hb =>h2 b (.inr hb)⟩
 ·rintro ⟨h1,h2,h3⟩; exact ⟨h2,fun b hb =>by rcases hb with rfl | hb; exact h1; exact h3 b hb⟩
theorem good_high {l : List Int} {c : Int} {w : Nat} (h : rl l = some (c,w)) (hc : ¬ c < 128) : good l↔good (l.drop w):=by
 unfold good
 rw [cnt_go h]
 simp only [ne_eq,Option.map_eq_none_iff]
 constructor
 ·rintro ⟨h1,h2⟩; exact ⟨h1,fun b hb =>h2 b (List.mem_of_mem_drop hb)⟩
 ·rintro ⟨h1,h2⟩
  refine ⟨h1,fun b hb =>?_⟩
  rw [← List.take_append_drop w l] at hb
  rcases List.mem_append.1 hb with hb | hb
  ·exact ctl_high (take_high h hc b hb)
  ·exact h2 b hb
theorem low_cons {l : List Int} {c : Int} {w : Nat} (h : rl l = some (c,w)) (hc : c < 128) : ∃ t,l = c :: t∧w = 1:=by
 rcases (rl_some h).2.2 with ⟨t,h0,h1,h2⟩ | ⟨h1,_⟩
 ·exact ⟨t,h0,h2⟩
 ·omega
theorem quote_high {l m : List Int} {c : Int} {w : Nat} (h : rl l = some (c,w)) (hc : ¬ c < 128) : rl (quoteL l++m) = some (c,w)∧(quoteL l++m).take w = l.take w∧(quoteL l++m).drop w = quoteL (l.drop w)++m∧(quoteL l).length = w + (quoteL (l.drop w)).length:=by
 have hw:=(rl_some h).2.1
 have e : quoteL l = l.take w++quoteL (l.drop w):=by
  rw [← quoteL_high (take_high h hc),← quoteL_append,List.take_append_drop]
 have hl : (l.take w).length = w:=by rw [List.length_take]; omega
 rw [e,List.append_assoc]
 refine ⟨rl_take h,?_,?_,by rw [List.length_append,hl]⟩
 ·rw [List.take_append_of_le_length (by omega),List.take_of_length_le (by omega)]
 ·rw [List.drop_append_of_le_length (by omega),List.drop_eq_nil_of_le (by omega),List.nil_append]
theorem text_quote : ∀ (k : Nat) (l m : List Int),l.length≤k→good l→textL (quoteL l++34 :: m) = .ok (l,(quoteL l).length + 1):=by
 intro k
 induction k with
 | zero =>
  intro l m h _
  obtain rfl:=List.eq_nil_of_length_eq_zero (Nat.le_zero.1 h)
  exact textL_end m
 | succ k ih =>
  intro l m h hg
  by_cases hl : l = []
  ·subst hl; exact textL_end m
  cases hr : rl l with
  | none =>exact absurd (cnt_none hl hr) hg.1
  | some q =>
   obtain ⟨c,w⟩:=q
   have hw:=rl_some hr
   by_cases hc : c < 128
   ·obtain ⟨t,rfl,rfl⟩:=low_cons hr hc
    obtain ⟨h1,h2⟩:=(good_low hc).1 hg
    simp only [List.length_cons] at h
    have:=ih t m (by omega) h2
    by_cases q1 : c = 10
    ·subst q1
     rw [quoteL,if_pos rfl]
     simp only [List.cons_append]
     rw [textL_esc,show mask 110 = some 10 from rfl]
     simp only [this,Res.map,List.length_cons]
    ·by_cases q2 : c = 34∨c = 92
     ·rw [quoteL,if_neg q1,if_pos q2]
      simp only [List.cons_append]
      rw [textL_esc,show mask c = some c by unfold mask; rw [if_neg (by omega),if_pos q2]]
      simp only [this,Res.map,List.length_cons]
     ·rw [quoteL,if_neg q1,if_neg q2]
      simp only [List.cons_append]
      rw [textL_go (rl_ascii hc) h1 (by omega) (by omega)]
      simp only [List.drop_succ_cons,List.drop_zero,this,Res.map,List.take_succ_cons,List.take_zero,List.length_cons,List.cons_append,List.nil_append]
   ·obtain ⟨e1,e2,e3,e4⟩:=quote_high (m:=34 :: m) hr hc
    rw [textL_go e1 (ctl_high (by omega)) (by omega) (by omega),e2,e3,ih (l.drop w) m (by rw [List.length_drop]; omega) ((good_high hr hc).1 hg)]
    simp only [Res.map,List.take_append_drop,e4]
    congr 2
    omega
end Go.Proofs.YtkondhigbbgidaaGreat.M
/-
  Plain laws of lex: LexJoins. Own text.
-/
namespace Go.Proofs.YtkondhigbbgidaaGreat.M
open Go Go.Proofs Go.Proofs.YtkondhigbbgidaaGreat.V
set_option linter.unusedVariables false
set_option linter.unusedSimpArgs false
def stops (p : Int→Bool) (r : List Int) : Prop:=r = []∨∃ d r',r = d :: r'∧d < 128∧p d = false
theorem headL_stops {p : Int→Bool} {r : List Int} (h : stops p r) : headL p r = (0,true):=by
 rcases h with rfl | ⟨d,r',rfl,h1,h2⟩
 ·exact headL_nil p
 ·exact headL_stop (rl_ascii h1) h2
theorem headL_app {p : Int→Bool} {r : List Int} (hs : stops p r) : ∀ (k : Nat) (l : List Int) (n : Nat),l.length≤k→headL p l = (n,true)→headL p (l++r) = (n,true):=by
 intro k
 induction k with
 | zero =>
  intro l n h hh
  obtain rfl:=List.eq_nil_of_length_eq_zero (Nat.le_zero.1 h)
  rw [headL_nil] at hh; cases hh
  exact headL_stops hs
 | succ k ih =>
  intro l n h hh
  by_cases hl : l = []
  ·subst hl
   rw [headL_nil] at hh; cases hh
   exact headL_stops hs
  cases hr : rl l with
  | none =>rw [headL_none hl hr] at hh; cases hh
  | some q =>
   obtain ⟨c,w⟩:=q
   have hw:=rl_some hr
   cases hp : p c with
   | false =>rw [headL_stop hr hp] at hh; cases hh; exact headL_stop (rl_append hr) hp
   | true =>
    rw [headL_go hr hp] at hh
    rw [headL_go (rl_append hr) hp,List.drop_append_of_le_length hw.2.1]
    simp only [Prod.mk.injEq] at hh
    rw [ih (l.drop w) (headL p (l.drop w)).1 (by rw [List.length_drop]; omega) (Prod.ext rfl hh.2),← hh.1]
theorem bytesL_append (a b : ByteArray) : bytesL (a++b) = bytesL a++bytesL b:=by
 unfold bytesL
 rw [ByteArray.data_append,Array.toList_append,List.map_append]
end Go.Proofs.YtkondhigbbgidaaGreat.M

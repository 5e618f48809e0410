/-
  Printed by a program of this session out of the loaded functions: models and their proofs. Own text.
-/
import Derived.Test.YtbgfffdnaijmhaaGreatPRl
/-
  Plain laws of words: the program's and the document's are alike. Own text.
-/
namespace Go.Proofs.YtbgfffdnaijmhaaGreat.M
open Go Go.Proofs Go.Proofs.YtbgfffdnaijmhaaGreat.V
set_option linter.unusedVariables false
theorem right_eq {s : ByteArray} {i : Nat} (h : i < s.size) (hs : s.size < 281474976710656) : lex_right s (i : Int) ((Utf8.decode s i).1 : Int) = some (rune s i).isSome:=by
  have b0:=bt_range s i
  have b1:=bt_range s (i + 1)
  have b2:=bt_range s (i + 2)
  have b3:=bt_range s (i + 3)
  have e1 : IntKind.i64.wrap ((i : Int) + 1) = ((i + 1 : Nat) : Int):=by rw [w_eq (by omega) (by omega)]; omega
  have e2 : IntKind.i64.wrap ((i : Int) + 2) = ((i + 2 : Nat) : Int):=by rw [w_eq (by omega) (by omega)]; omega
  have g1 : goes s (i + 1) = true→_:=goes_spec
  have g2 : goes s (i + 2) = true→_:=goes_spec
  have g3 : goes s (i + 3) = true→_:=goes_spec
  -- the three bytes of the rune that a decoder tells for what is wrong
  have key : lex_right s (i : Int) 65533 = some (decide (i + 2 < s.size∧bt s i = 239∧bt s (i + 1) = 191∧bt s (i + 2) = 189)):=by
    unfold lex_right
    simp only [e1,e2,bne_self_eq_false,Bool.false_eq_true,if_false]
    by_cases q : i + 2 < s.size
    · have q1 : i + 1 < s.size:=by omega
      simp only [show (((i + 2 : Nat) : Int) < (s.size : Int)) by omega,decide_true,if_true,gi_nat h,gi_nat q,gi_nat q1,Option.bind_some,q,true_and]
      by_cases z0 : bt s i = 239<;>by_cases z1 : bt s (i + 1) = 191<;>by_cases z2 : bt s (i + 2) = 189<;>simp [z0,z1,z2]
    · simp only [show ¬ (((i + 2 : Nat) : Int) < (s.size : Int)) by omega,decide_false,Bool.false_eq_true,if_false,Option.bind_some,q,false_and]
  cases hr : rune s i with
  | none =>
    rw [decode_rune,hr]
    show lex_right s (i : Int) 65533 = _
    rw [key]
    simp only [Option.isSome_none,Option.some.injEq,decide_eq_false_iff_not]
    rintro ⟨q,z0,z1,z2⟩
    have c1 : goes s (i + 1) = true:=by unfold goes; simp; omega
    have c2 : goes s (i + 2) = true:=by unfold goes; simp; omega
    unfold rune runeN at hr
    simp [z0,z1,z2,c1,c2] at hr
  | some p =>
    obtain ⟨c,w⟩:=p
    have hc:=rune_some h hr
    rw [decode_rune,hr]
    show lex_right s (i : Int) ((c.toNat : Nat) : Int) = _
    rw [Int.toNat_of_nonneg hc.1]
    by_cases z : c = 65533
    · subst z
      rw [key]
      simp only [Option.isSome_some,Option.some.injEq,decide_eq_true_eq]
      unfold rune runeN at hr
      split at hr
      · simp only [Option.some.injEq,Prod.mk.injEq] at hr; omega
      split at hr
      · rename_i q
        have:=g1 q.2.2
        split at hr
        · simp only [Option.some.injEq,Prod.mk.injEq] at hr; omega
        · cases hr
      split at hr
      · rename_i q
        have:=g1 q.2.2.1
        have:=g2 q.2.2.2
        split at hr
        · simp only [Option.some.injEq,Prod.mk.injEq] at hr; omega
        · cases hr
      split at hr
      · rename_i q
        have:=g1 q.2.2.1
        have:=g2 q.2.2.2.1
        have:=g3 q.2.2.2.2
        split at hr
        · simp only [Option.some.injEq,Prod.mk.injEq] at hr; omega
        · cases hr
      · cases hr
    · unfold lex_right
      simp [z]
theorem plain_eq (c : Int) : lex_plain c = ref01_plain c:=by
  unfold lex_plain ref01_plain
  by_cases h1 : c = 40
  · subst h1; rfl
  by_cases h2 : c = 41
  · subst h2; rfl
  by_cases h3 : c = 34
  · subst h3; rfl
  by_cases h4 : c = 59
  · subst h4; rfl
  by_cases h5 : c = 127
  · subst h5; rfl
  have e1 : (c != 40) = true:=by simpa using h1
  have e2 : (c != 41) = true:=by simpa using h2
  have e3 : (c != 34) = true:=by simpa using h3
  have e4 : (c != 59) = true:=by simpa using h4
  have e5 : (c != 127) = true:=by simpa using h5
  simp only [e1,e2,e3,e4,e5,Bool.and_true]
  simp [h1,h2,h3,h4,h5]
theorem Word_loop {s : ByteArray} (hs : s.size < 281474976710656) : ∀ (k pos : Nat) (n : Int) (f1 f2 f3 : Nat),s.size - pos≤k→k < f1→k < f2→k < f3→pos≤s.size→0≤n→n + k < 4611686018427387904 →
    (∃ m : Nat,lex_head_lex_plain.l1 s f1 pos = some (Out.go ())∧ref01_Word.l1 s f2 n (pos : Int) = some (Out.go (n + m))∧lex_Runes.l1 s f3 n pos = some (Out.go (n + m))∧(pos < s.size→1≤m)∧(pos = s.size→m = 0)) ∨
    (∃ p b,lex_head_lex_plain.l1 s f1 pos = some (Out.ret (p,b))∧(b = false∨p < s.size)∧ref01_Word.l1 s f2 n (pos : Int) = some (Out.ret false)):=by
  intro k
  induction k with
  | zero =>
    intro pos n f1 f2 f3 h1 h2 h3 h4 h5 h6 h7
    obtain ⟨f1,rfl⟩ : ∃ q,f1 = q + 1:=⟨f1 - 1,by omega⟩
    obtain ⟨f2,rfl⟩ : ∃ q,f2 = q + 1:=⟨f2 - 1,by omega⟩
    obtain ⟨f3,rfl⟩ : ∃ q,f3 = q + 1:=⟨f3 - 1,by omega⟩
    refine .inl ⟨0,?_,?_,?_,by omega,by omega⟩
    · rw [lex_head_lex_plain.l1,if_neg (by omega)]
    · rw [ref01_Word.l1,if_neg (by simp; omega)]; simp
    · rw [lex_Runes.l1,if_neg (by omega)]; simp
  | succ k ih =>
    intro pos n f1 f2 f3 h1 h2 h3 h4 h5 h6 h7
    obtain ⟨f1,rfl⟩ : ∃ q,f1 = q + 1:=⟨f1 - 1,by omega⟩
    obtain ⟨f2,rfl⟩ : ∃ q,f2 = q + 1:=⟨f2 - 1,by omega⟩
    obtain ⟨f3,rfl⟩ : ∃ q,f3 = q + 1:=⟨f3 - 1,by omega⟩
    by_cases hp : pos < s.size
    · rw [lex_head_lex_plain.l1,ref01_Word.l1,lex_Runes.l1,if_pos hp,if_pos (show (decide ((pos : Int) < (s.size : Int))) = true by simp; omega),if_pos hp,right_eq hp hs,Rune_eq hp hs,decode_rune]
      cases hr : rune s pos with
      | none =>exact .inr ⟨_,_,rfl,.inl rfl,rfl⟩
      | some p =>
        obtain ⟨c,w⟩:=p
        have hw:=rune_some hp hr
        have e : IntKind.i64.wrap ((pos : Int) + (w : Int)) = ((pos + w : Nat) : Int):=by rw [w_eq (by omega) (by omega)]; omega
        have en : IntKind.i64.wrap (n + 1) = n + 1:=w_eq (by omega) (by omega)
        have ec : ((c.toNat : Nat) : Int) = c:=Int.toNat_of_nonneg hw.1
        simp only [rdv,rv,Option.isSome_some,Option.bind_some,Bool.not_true,Bool.false_eq_true,if_false,ec,rv2 hp hr,plain_eq,e,en]
        obtain ⟨b,hb⟩ : ∃ b,ref01_plain c = some b:=⟨_,rfl⟩
        simp only [hb,Option.bind_some]
        cases b with
        | false =>exact .inr ⟨_,_,rfl,.inr (by simpa using hp),rfl⟩
        | true =>
          simp only [Bool.not_true,Bool.false_eq_true,if_false]
          rcases ih (pos + w) (n + 1) f1 f2 f3 (by omega) (by omega) (by omega) (by omega) (by omega) (by omega) (by omega) with ⟨m,g1,g2,g3,g4,g5⟩ | ⟨p,b,g1,g2,g3⟩
          · refine .inl ⟨m + 1,g1,?_,?_,by omega,by omega⟩
            · rw [g2,show n + 1 + (m : Int) = n + ((m + 1 : Nat) : Int) by omega]
            · rw [g3,show n + 1 + (m : Int) = n + ((m + 1 : Nat) : Int) by omega]
          · exact .inr ⟨p,b,g1,g2,g3⟩
    · refine .inl ⟨0,?_,?_,?_,by omega,by omega⟩
      · rw [lex_head_lex_plain.l1,if_neg hp]
      · rw [ref01_Word.l1,if_neg (by simp; omega)]; simp
      · rw [lex_Runes.l1,if_neg hp]; simp
theorem Word_eq {s : ByteArray} (hs : s.size < 281474976710656) : ∃ b,lex_Word s = some b∧ref01_Word s = some b:=by
  have hz : (0 : Int) = ((0 : Nat) : Int):=rfl
  unfold lex_Word ref01_Word lex_head_lex_plain lex_Runes
  rcases Word_loop hs s.size 0 0 FU FU FU (by omega) (by unfold FU; omega) (by unfold FU; omega) (by unfold FU; omega) (by omega) (by omega) (by omega) with ⟨m,g1,g2,g3,g4,g5⟩ | ⟨p,b,g1,g2,g3⟩
  · have g2' : ref01_Word.l1 s FU 0 0 = some (Out.go (0 + (m : Int))):=g2
    rw [g1,g2',g3]
    simp only [Option.bind_some,Out.on,beq_self_eq_true,Bool.and_true,Bool.true_and]
    by_cases hp : 0 < s.size
    · have:=g4 hp
      refine ⟨decide ((m : Int)≤64),?_,?_⟩
      · simp [hp]
      · simp; omega
    · have:=g5 (by omega)
      refine ⟨false,?_,?_⟩
      · simp [hp]
      · simp [this]
  · have g3' : ref01_Word.l1 s FU 0 0 = some (Out.ret false):=g3
    rw [g1,g3']
    simp only [Option.bind_some,Out.on]
    refine ⟨false,?_,rfl⟩
    rcases g2 with rfl | g2
    · simp
    · simp [show ¬ p = (s.size : Int) by omega]
end Go.Proofs.YtbgfffdnaijmhaaGreat.M
/-
  Plain Lean: loops by an index, rows. Own text.
-/
namespace Go.Proofs.YtbgfffdnaijmhaaGreat.M
open Go Go.Proofs Go.Proofs.YtbgfffdnaijmhaaGreat.V
set_option linter.unusedVariables false
theorem loopI {ρ : Type} {F : Nat→Int→Option (Out ρ Unit)} {len : Nat} {Q : ρ→Prop} {S : Nat→Prop} (hl : len < 1000000000000)
  (hs : ∀ n (k : Nat),k < len→(∃ r,F (n + 1) (k : Int) = some (Out.ret r)∧Q r)∨(F (n + 1) (k : Int) = F n ((k + 1 : Nat) : Int)∧S k))
  (he : ∀ n,F (n + 1) (len : Int) = some (Out.go ())) : (∃ r,F FU 0 = some (Out.ret r)∧Q r)∨(F FU 0 = some (Out.go ())∧∀ k,k < len→S k):=by
 have key : ∀ (m k f : Nat),len - k≤m→m < f→k≤len→(∃ r,F f (k : Int) = some (Out.ret r)∧Q r)∨(F f (k : Int) = some (Out.go ())∧∀ j,k≤j→j < len→S j):=by
  intro m
  induction m with
  | zero =>
   intro k f h1 h2 h3
   obtain ⟨f,rfl⟩ : ∃ q,f = q + 1:=⟨f - 1,by omega⟩
   obtain rfl : k = len:=by omega
   exact .inr ⟨he f,fun j h4 h5 =>by omega⟩
  | succ m ih =>
   intro k f h1 h2 h3
   obtain ⟨f,rfl⟩ : ∃ q,f = q + 1:=⟨f - 1,by omega⟩
   by_cases hk : k < len
   ·rcases hs f k hk with h | ⟨h4,h5⟩
    ·exact .inl h
    ·rw [h4]
     rcases ih (k + 1) f (by omega) (by omega) (by omega) with h | ⟨h6,h7⟩
     ·exact .inl h
     ·refine .inr ⟨h6,fun j h8 h9 =>?_⟩
      by_cases e : j = k
      ·subst e; exact h5
      ·exact h7 j (by omega) h9
   ·obtain rfl : k = len:=by omega
    exact .inr ⟨he f,fun j h4 h5 =>by omega⟩
 have:=key len 0 FU (by omega) (by unfold FU; omega) (Nat.zero_le _)
 rcases this with h | ⟨h1,h2⟩
 ·exact .inl h
 ·exact .inr ⟨h1,fun k hk =>h2 k (Nat.zero_le _) hk⟩
theorem dlt {α : Type} {l : List α} {k : Nat} (h : k < l.length) : (decide ((k : Int) < (l.length : Int))) = true:=by simp; omega
theorem dnl {α : Type} {l : List α} : ¬ (decide ((l.length : Int) < (l.length : Int))) = true:=by simp
theorem wk1 {k : Nat} (h : k < 1000000000000) : IntKind.i64.wrap ((k : Int) + 1) = ((k + 1 : Nat) : Int):=by rw [w_eq (by omega) (by omega)]; omega
theorem glk {α : Type} {l : List α} {k : Nat} (h : k < l.length) : V.gl l (k : Int) = some l[k]:=by
 unfold V.gl
 rw [if_pos (by omega)]
 simp [List.getElem?_eq_getElem h]
theorem toList_inj {a b : ByteArray} (h : a.toList = b.toList) : a = b:=by
 have h1 : a.data.toList = b.data.toList:=by simpa [ByteArray.toList_eq] using h
 cases a; cases b
 congr 1
 exact Array.toList_inj.1 h1
theorem seq_eq (a b : ByteArray) : V.seq a b = decide (a = b):=by
 by_cases h : a = b
 ·subst h; simp [V.seq]
 ·have : ¬ a.toList = b.toList:=fun e =>h (toList_inj e)
  simp [V.seq,h,this]
end Go.Proofs.YtbgfffdnaijmhaaGreat.M
/-
  Plain laws of resources: what the program's and the document's functions tell, by definition. Own text.
-/
namespace Go.Proofs.YtbgfffdnaijmhaaGreat.M
open Go Go.Proofs Go.Proofs.YtbgfffdnaijmhaaGreat.V
set_option linter.unusedVariables false
def rOK (x : Int) : Bool:=decide (0≤x) && decide (x≤1125899906842624)
def resOK (a : T_api_Res) : Bool:=rOK a.Cpu && (rOK a.Mem && (rOK a.Disk && (rOK a.Pods && rOK a.Dev)))
def r0 : T_api_Res:=⟨0,0,0,0,0⟩
def radd (a b : T_api_Res) : T_api_Res:=⟨a.Cpu + b.Cpu,a.Mem + b.Mem,a.Disk + b.Disk,a.Pods + b.Pods,a.Dev + b.Dev⟩
def rsub (a b : T_api_Res) : T_api_Res:=⟨a.Cpu - b.Cpu,a.Mem - b.Mem,a.Disk - b.Disk,a.Pods - b.Pods,a.Dev - b.Dev⟩
def rmin (a b : T_api_Res) : T_api_Res:=⟨min a.Cpu b.Cpu,min a.Mem b.Mem,min a.Disk b.Disk,min a.Pods b.Pods,min a.Dev b.Dev⟩
def rle (a b : T_api_Res) : Bool:=decide (a.Cpu≤b.Cpu) && (decide (a.Mem≤b.Mem) && (decide (a.Disk≤b.Disk) && (decide (a.Pods≤b.Pods) && decide (a.Dev≤b.Dev))))
theorem rOK_iff (x : Int) : rOK x = true↔0≤x∧x≤1125899906842624:=by unfold rOK; simp
theorem resOK_iff (a : T_api_Res) : resOK a = true↔(0≤a.Cpu∧a.Cpu≤1125899906842624)∧(0≤a.Mem∧a.Mem≤1125899906842624)∧(0≤a.Disk∧a.Disk≤1125899906842624)∧(0≤a.Pods∧a.Pods≤1125899906842624)∧(0≤a.Dev∧a.Dev≤1125899906842624):=by
 unfold resOK; simp only [Bool.and_eq_true,rOK_iff]
theorem rle_iff (a b : T_api_Res) : rle a b = true↔a.Cpu≤b.Cpu∧a.Mem≤b.Mem∧a.Disk≤b.Disk∧a.Pods≤b.Pods∧a.Dev≤b.Dev:=by
 unfold rle; simp only [Bool.and_eq_true,decide_eq_true_eq]
theorem fu6 : ∃ n,FU = n + 6:=⟨1152921504606846970,rfl⟩
theorem rbad (x : Int) : ((decide (x < (0 : Int))) || (decide (x > (1125899906842624 : Int)))) = !rOK x:=by
 unfold rOK
 by_cases h1 : x < 0<;>by_cases h2 : x > 1125899906842624<;>simp [h1,h2]<;>omega
theorem res_Right_eq (a : T_api_Res) : res_Right a = some (resOK a):=by
 obtain ⟨n,hn⟩:=fu6
 unfold res_Right res_row
 rw [hn]
 have e : res_Right.l1 (⟨a.Cpu,a.Mem,a.Disk,a.Pods,a.Dev⟩ : Arr5_Int) (n + 6) 0 =
   if ((decide (a.Cpu < (0 : Int))) || (decide (a.Cpu > (1125899906842624 : Int)))) = true then some (Out.ret false) else
   if ((decide (a.Mem < (0 : Int))) || (decide (a.Mem > (1125899906842624 : Int)))) = true then some (Out.ret false) else
   if ((decide (a.Disk < (0 : Int))) || (decide (a.Disk > (1125899906842624 : Int)))) = true then some (Out.ret false) else
   if ((decide (a.Pods < (0 : Int))) || (decide (a.Pods > (1125899906842624 : Int)))) = true then some (Out.ret false) else
   if ((decide (a.Dev < (0 : Int))) || (decide (a.Dev > (1125899906842624 : Int)))) = true then some (Out.ret false) else some (Out.go ()):=rfl
 simp only [Option.bind_some]
 rw [e]
 simp only [rbad]
 unfold resOK
 cases rOK a.Cpu<;>cases rOK a.Mem<;>cases rOK a.Disk<;>cases rOK a.Pods<;>cases rOK a.Dev<;>rfl
theorem w_add {x y : Int} (hx : rOK x = true) (hy : rOK y = true) : IntKind.i64.wrap (x + y) = x + y:=by
 rw [rOK_iff] at hx hy; exact w_eq (by omega) (by omega)
theorem w_sub {x y : Int} (hx : rOK x = true) (hy : rOK y = true) : IntKind.i64.wrap (x - y) = x - y:=by
 rw [rOK_iff] at hx hy; exact w_eq (by omega) (by omega)
theorem resOK_split {a : T_api_Res} (h : resOK a = true) : rOK a.Cpu = true∧rOK a.Mem = true∧rOK a.Disk = true∧rOK a.Pods = true∧rOK a.Dev = true:=by
 unfold resOK at h; simpa only [Bool.and_eq_true] using h
theorem res_Add_eq (a b : T_api_Res) : res_Add a b = some (if (resOK a && resOK b) = true then (if resOK (radd a b) = true then (radd a b,0) else (r0,10)) else (r0,1)):=by
 unfold res_Add res_each_res_Add_1
 simp only [res_Right_eq,Option.bind_some]
 cases ha : resOK a with
 | false =>rfl
 | true =>
  cases hb : resOK b with
  | false =>rfl
  | true =>
   obtain ⟨a1,a2,a3,a4,a5⟩:=resOK_split ha
   obtain ⟨b1,b2,b3,b4,b5⟩:=resOK_split hb
   obtain ⟨n,hn⟩:=fu6
   unfold res_row
   rw [hn]
   have e : res_each_res_Add_1.l1 ((⟨a.Cpu,a.Mem,a.Disk,a.Pods,a.Dev⟩ : Arr5_Int),(⟨b.Cpu,b.Mem,b.Disk,b.Pods,b.Dev⟩ : Arr5_Int)) (n + 6) (⟨a.Cpu,a.Mem,a.Disk,a.Pods,a.Dev⟩ : Arr5_Int) 0 =
    some (⟨IntKind.i64.wrap (a.Cpu + b.Cpu),IntKind.i64.wrap (a.Mem + b.Mem),IntKind.i64.wrap (a.Disk + b.Disk),IntKind.i64.wrap (a.Pods + b.Pods),IntKind.i64.wrap (a.Dev + b.Dev)⟩ : Arr5_Int):=rfl
   simp only [Bool.not_true,Bool.false_eq_true,if_false,Option.bind_some,e,w_add a1 b1,w_add a2 b2,w_add a3 b3,w_add a4 b4,w_add a5 b5,res_back,res_Right_eq,Bool.and_self,if_true]
   show (if resOK (radd a b) = true then some (radd a b,(0 : Int)) else some (r0,10)).bind _ = _
   cases resOK (radd a b)<;>rfl
theorem res_Sub_eq (a b : T_api_Res) : res_Sub a b = some (if (resOK a && resOK b) = true then (if resOK (rsub a b) = true then (rsub a b,0) else (r0,11)) else (r0,1)):=by
 unfold res_Sub res_each_res_Sub_1
 simp only [res_Right_eq,Option.bind_some]
 cases ha : resOK a with
 | false =>rfl
 | true =>
  cases hb : resOK b with
  | false =>rfl
  | true =>
   obtain ⟨a1,a2,a3,a4,a5⟩:=resOK_split ha
   obtain ⟨b1,b2,b3,b4,b5⟩:=resOK_split hb
   obtain ⟨n,hn⟩:=fu6
   unfold res_row
   rw [hn]
   have e : res_each_res_Sub_1.l1 ((⟨a.Cpu,a.Mem,a.Disk,a.Pods,a.Dev⟩ : Arr5_Int),(⟨b.Cpu,b.Mem,b.Disk,b.Pods,b.Dev⟩ : Arr5_Int)) (n + 6) (⟨a.Cpu,a.Mem,a.Disk,a.Pods,a.Dev⟩ : Arr5_Int) 0 =
    some (⟨IntKind.i64.wrap (a.Cpu - b.Cpu),IntKind.i64.wrap (a.Mem - b.Mem),IntKind.i64.wrap (a.Disk - b.Disk),IntKind.i64.wrap (a.Pods - b.Pods),IntKind.i64.wrap (a.Dev - b.Dev)⟩ : Arr5_Int):=rfl
   simp only [Bool.not_true,Bool.false_eq_true,if_false,Option.bind_some,e,w_sub a1 b1,w_sub a2 b2,w_sub a3 b3,w_sub a4 b4,w_sub a5 b5,res_back,res_Right_eq,Bool.and_self,if_true]
   show (if resOK (rsub a b) = true then some (rsub a b,(0 : Int)) else some (r0,11)).bind _ = _
   cases resOK (rsub a b)<;>rfl
theorem resOK_min {a b : T_api_Res} (ha : resOK a = true) (hb : resOK b = true) : resOK (rmin a b) = true:=by
 rw [resOK_iff] at ha hb ⊢
 unfold rmin
 simp only
 omega
theorem res_Least_eq (a b : T_api_Res) : res_Least a b = some (if (resOK a && resOK b) = true then rmin a b else r0):=by
 unfold res_Least res_each_res_Least_1
 simp only [res_Right_eq,Option.bind_some]
 cases ha : resOK a with
 | false =>rfl
 | true =>
  cases hb : resOK b with
  | false =>rfl
  | true =>
   obtain ⟨n,hn⟩:=fu6
   unfold res_row
   rw [hn]
   have e : res_each_res_Least_1.l1 ((⟨a.Cpu,a.Mem,a.Disk,a.Pods,a.Dev⟩ : Arr5_Int),(⟨b.Cpu,b.Mem,b.Disk,b.Pods,b.Dev⟩ : Arr5_Int)) (n + 6) (⟨a.Cpu,a.Mem,a.Disk,a.Pods,a.Dev⟩ : Arr5_Int) 0 =
    some (⟨min a.Cpu b.Cpu,min a.Mem b.Mem,min a.Disk b.Disk,min a.Pods b.Pods,min a.Dev b.Dev⟩ : Arr5_Int):=rfl
   simp only [Bool.not_true,Bool.false_eq_true,if_false,Option.bind_some,e,res_back,res_Right_eq,Bool.and_self,if_true]
   show (if resOK (rmin a b) = true then some (rmin a b,(0 : Int)) else some (r0,10)).bind _ = _
   rw [resOK_min ha hb]; rfl
theorem resOK_sub {a b : T_api_Res} (ha : resOK a = true) (hb : resOK b = true) : resOK (rsub a b) = rle b a:=by
 rw [Bool.eq_iff_iff,resOK_iff,rle_iff]
 rw [resOK_iff] at ha hb
 unfold rsub
 simp only
 omega
end Go.Proofs.YtbgfffdnaijmhaaGreat.M

/-
  Printed by a program of this session out of the loaded functions: models and their proofs. Own text.
-/
import Derived.Test.YtbgfffdnaijmhaaGreatPRl
import Derived.Test.YtbgfffdnaijmhaaGreatPYard
import Derived.Test.YtbgfffdnaijmhaaGreatPChk
/-
  Plain facts for the world's laws: a word with a dash and digits behind it is a word; names of machines. Own text.
-/
namespace Go.Proofs.YtbgfffdnaijmhaaGreat.M
open Go Go.Proofs Go.Proofs.YtbgfffdnaijmhaaGreat.V
set_option linter.unusedVariables false
theorem bytesL_app (a b : ByteArray) : bytesL (a++b) = bytesL a++bytesL b:=by unfold bytesL; simp
theorem rune_app {a t : ByteArray} {i : Nat} {c : Int} {w : Nat} (hi : i < a.size) (h : rune a i = some (c,w)) : rune (a++t) i = some (c,w):=by
  rw [rune_rl (by rw [ByteArray.size_append]; omega),bytesL_app,List.drop_append_of_le_length (by rw [bytesL_length]; omega)]
  rw [rune_rl hi] at h
  exact rl_append h
theorem rune_asc {s : ByteArray} {i : Nat} (hi : i < s.size) (h : bt s i < 128) : rune s i = some (bt s i,1):=by
  rw [rune_rl hi]
  have e : (bytesL s).drop i = bt s i :: (bytesL s).drop (i + 1):=by
    rw [List.drop_eq_getElem_cons (by rw [bytesL_length]; omega)]
    congr 1
    have:=bytesL_get hi
    rw [List.getElem?_eq_getElem (by rw [bytesL_length]; omega)] at this
    exact Option.some.inj this
  rw [e,rl_ascii h]
def pb (b : Int) : Prop:=32 < b∧b < 127∧b≠40∧b≠41∧b≠34∧b≠59
theorem plain_pb {b : Int} (h : pb b) : ref01_plain b = some true:=by
  obtain ⟨h1,h2,h3,h4,h5,h6⟩:=h
  unfold ref01_plain
  have : b≠127:=by omega
  simp [h1,h3,h4,h5,h6,this]
theorem Word_tail {s : ByteArray} (hs : s.size < 1000000) : ∀ (k pos : Nat) (n f : Nat),s.size - pos = k→k < f→pos≤s.size→n + k < 1000000→(∀ i,pos≤i→i < s.size→pb (bt s i))→ref01_Word.l1 s f (n : Int) (pos : Int) = some (.go ((n + k : Nat) : Int)):=by
  intro k
  induction k with
  | zero =>
    intro pos n f h1 h2 h3 h4 h5
    obtain ⟨f,rfl⟩ : ∃ q,f = q + 1:=⟨f - 1,by omega⟩
    rw [ref01_Word.l1,if_neg (by simp; omega)]; rfl
  | succ k ih =>
    intro pos n f h1 h2 h3 h4 h5
    obtain ⟨f,rfl⟩ : ∃ q,f = q + 1:=⟨f - 1,by omega⟩
    have hp : pos < s.size:=by omega
    have hb:=h5 pos (Nat.le_refl _) hp
    rw [ref01_Word.l1,if_pos (show (decide ((pos : Int) < (s.size : Int))) = true by simp; omega),Rune_eq hp (by omega),rune_asc hp (by unfold pb at hb; omega)]
    have e1 : IntKind.i64.wrap ((pos : Int) + ((1 : Nat) : Int)) = ((pos + 1 : Nat) : Int):=by rw [w_eq (by omega) (by omega)]; omega
    have e2 : IntKind.i64.wrap ((n : Int) + 1) = ((n + 1 : Nat) : Int):=by rw [w_eq (by omega) (by omega)]; omega
    simp only [rv,Option.bind_some,e1,e2,show (((1 : Nat) : Int) == 0) = false from rfl,Bool.false_eq_true,if_false,plain_pb hb,Bool.not_true]
    rw [ih (pos + 1) (n + 1) f (by omega) (by omega) (by omega) (by omega) (fun i h =>h5 i (by omega))]
    congr 2
    omega
theorem Word_head {a t : ByteArray} (hs : (a++t).size < 1000000) : ∀ (k pos : Nat) (n f f' m : Nat),a.size - pos≤k→k < f→k + t.size < f'→pos≤a.size→n + k < 1000000 →
    ref01_Word.l1 a f (n : Int) (pos : Int) = some (.go (m : Int))→n≤m∧∃ f'',t.size < f''∧ref01_Word.l1 (a++t) f' (n : Int) (pos : Int) = ref01_Word.l1 (a++t) f'' (m : Int) (a.size : Int):=by
  have hsz : (a++t).size = a.size + t.size:=ByteArray.size_append
  intro k
  induction k with
  | zero =>
    intro pos n f f' m h1 h2 h3 h4 h5 h
    obtain ⟨f,rfl⟩ : ∃ q,f = q + 1:=⟨f - 1,by omega⟩
    rw [ref01_Word.l1,if_neg (by simp; omega)] at h
    have : n = m:=by have:=Out.go.inj (Option.some.inj h); omega
    subst this
    exact ⟨Nat.le_refl _,f',by omega,by rw [show pos = a.size by omega]⟩
  | succ k ih =>
    intro pos n f f' m h1 h2 h3 h4 h5 h
    obtain ⟨f,rfl⟩ : ∃ q,f = q + 1:=⟨f - 1,by omega⟩
    by_cases hp : pos < a.size
    · obtain ⟨f',rfl⟩ : ∃ q,f' = q + 1:=⟨f' - 1,by omega⟩
      rw [ref01_Word.l1,if_pos (show (decide ((pos : Int) < (a.size : Int))) = true by simp; omega),Rune_eq hp (by omega)] at h
      rw [ref01_Word.l1,if_pos (show (decide ((pos : Int) < ((a++t).size : Int))) = true by rw [hsz]; simp; omega),Rune_eq (by omega) (by omega)]
      cases hr : rune a pos with
      | none =>rw [hr] at h; simp [rv] at h
      | some p =>
        obtain ⟨c,w⟩:=p
        rw [hr] at h
        rw [rune_app hp hr]
        have hw:=rune_some hp hr
        have e1 : IntKind.i64.wrap ((pos : Int) + (w : Int)) = ((pos + w : Nat) : Int):=by rw [w_eq (by omega) (by omega)]; omega
        have e2 : IntKind.i64.wrap ((n : Int) + 1) = ((n + 1 : Nat) : Int):=by rw [w_eq (by omega) (by omega)]; omega
        simp only [rv,Option.bind_some,rv2 hp hr,Bool.false_eq_true,if_false,e1,e2] at h ⊢
        obtain ⟨b,hb⟩ : ∃ b,ref01_plain c = some b:=⟨_,rfl⟩
        simp only [hb,Option.bind_some] at h ⊢
        cases b with
        | false =>simp at h
        | true =>
          simp only [Bool.not_true,Bool.false_eq_true,if_false] at h ⊢
          obtain ⟨i1,f'',i2,i3⟩:=ih (pos + w) (n + 1) f f' m (by omega) (by omega) (by omega) (by omega) (by omega) h
          exact ⟨by omega,f'',i2,i3⟩
    · rw [ref01_Word.l1,if_neg (by simp; omega)] at h
      have : n = m:=by have:=Out.go.inj (Option.some.inj h); omega
      subst this
      exact ⟨Nat.le_refl _,f',by omega,by rw [show pos = a.size by omega]⟩
theorem Word_cnt {a : ByteArray} (hs : a.size < 1000000) : ∀ (k pos n f : Nat) (m : Int),a.size - pos≤k→k < f→pos≤a.size→n + k < 1000000→ref01_Word.l1 a f (n : Int) (pos : Int) = some (.go m)→∃ q : Nat,m = (q : Int)∧q + pos≤n + a.size:=by
  intro k
  induction k with
  | zero =>
    intro pos n f m h1 h2 h3 h4 h
    obtain ⟨f,rfl⟩ : ∃ q,f = q + 1:=⟨f - 1,by omega⟩
    rw [ref01_Word.l1,if_neg (by simp; omega)] at h
    exact ⟨n,(Out.go.inj (Option.some.inj h)).symm,by omega⟩
  | succ k ih =>
    intro pos n f m h1 h2 h3 h4 h
    obtain ⟨f,rfl⟩ : ∃ q,f = q + 1:=⟨f - 1,by omega⟩
    by_cases hp : pos < a.size
    · rw [ref01_Word.l1,if_pos (show (decide ((pos : Int) < (a.size : Int))) = true by simp; omega),Rune_eq hp (by omega)] at h
      cases hr : rune a pos with
      | none =>rw [hr] at h; simp [rv] at h
      | some p =>
        obtain ⟨c,w⟩:=p
        rw [hr] at h
        have hw:=rune_some hp hr
        have e1 : IntKind.i64.wrap ((pos : Int) + (w : Int)) = ((pos + w : Nat) : Int):=by rw [w_eq (by omega) (by omega)]; omega
        have e2 : IntKind.i64.wrap ((n : Int) + 1) = ((n + 1 : Nat) : Int):=by rw [w_eq (by omega) (by omega)]; omega
        simp only [rv,Option.bind_some,rv2 hp hr,Bool.false_eq_true,if_false,e1,e2] at h
        obtain ⟨b,hb⟩ : ∃ b,ref01_plain c = some b:=⟨_,rfl⟩
        simp only [hb,Option.bind_some] at h
        cases b with
        | false =>simp at h
        | true =>
          simp only [Bool.not_true,Bool.false_eq_true,if_false] at h
          obtain ⟨q,i1,i2⟩:=ih (pos + w) (n + 1) f m (by omega) (by omega) (by omega) (by omega) h
          exact ⟨q,i1,by omega⟩
    · rw [ref01_Word.l1,if_neg (by simp; omega)] at h
      exact ⟨n,(Out.go.inj (Option.some.inj h)).symm,by omega⟩
theorem Word_app {a t : ByteArray} (ha : a.size + t.size≤64) (hw : ref01_Word a = some true) (ht : ∀ i,i < t.size→pb (bt t i)) : ref01_Word (a++t) = some true:=by
  have hsz : (a++t).size = a.size + t.size:=ByteArray.size_append
  unfold ref01_Word at hw ⊢
  cases h : ref01_Word.l1 a FU 0 0 with
  | none =>rw [h] at hw; cases hw
  | some o =>
    rw [h] at hw
    cases o with
    | ret r =>
      have hr : r = true:=Option.some.inj hw
      subst hr
      -- a loop that ends early says no
      have : ∀ (k pos : Nat) (n : Int) (f : Nat),ref01_Word.l1 a f n (pos : Int)≠some (.ret true):=by
        intro k pos n f
        induction f generalizing pos n k with
        | zero =>rw [ref01_Word.l1]; simp
        | succ f ih =>
          rw [ref01_Word.l1]
          split
          · rename_i hh
            have hp : pos < a.size:=by simpa using hh
            rw [Rune_eq hp (by omega)]
            simp only [Option.bind_some]
            intro e
            cases hr : rune a pos with
            | none =>rw [hr] at e; simp [rv] at e
            | some p =>
              obtain ⟨c,w⟩:=p
              rw [hr] at e
              have hw':=rune_some hp hr
              have e1 : IntKind.i64.wrap ((pos : Int) + (w : Int)) = ((pos + w : Nat) : Int):=by rw [w_eq (by omega) (by omega)]; omega
              simp only [rv,rv2 hp hr,Bool.false_eq_true,if_false,e1] at e
              obtain ⟨b,hb⟩ : ∃ b,ref01_plain c = some b:=⟨_,rfl⟩
              simp only [hb,Option.bind_some] at e
              cases b with
              | false =>simp at e
              | true =>
                simp only [Bool.not_true,Bool.false_eq_true,if_false] at e
                exact ih k _ _ e
          · simp
      exact absurd h (this 0 0 0 FU)
    | go m =>
      obtain ⟨q,rfl,hq⟩:=Word_cnt (a:=a) (by omega) a.size 0 0 FU m (by omega) (by unfold FU; omega) (Nat.zero_le _) (by omega) h
      have h1 : 1≤q:=by
        simp only [Option.bind_some,Out.on,Option.some.injEq,Bool.and_eq_true,decide_eq_true_eq] at hw
        omega
      obtain ⟨_,f'',i2,i3⟩:=Word_head (a:=a) (t:=t) (by omega) a.size 0 0 FU FU q (by omega) (by unfold FU; omega) (by unfold FU; omega) (Nat.zero_le _) (by omega) h
      have i3' : ref01_Word.l1 (a++t) FU 0 0 = ref01_Word.l1 (a++t) f'' (q : Int) (a.size : Int):=i3
      have tl:=Word_tail (s:=a++t) (by omega) t.size a.size q f'' (by omega) (by omega) (by omega) (by omega) (fun i g1 g2 =>by
        have : bt (a++t) i = bt t (i - a.size):=by
          unfold bt
          have e : (a++t).data.toList = a.data.toList++t.data.toList:=by simp
          rw [e,List.getD_eq_getElem?_getD,List.getD_eq_getElem?_getD,List.getElem?_append_right (by simpa using g1)]
          rfl
        rw [this]
        exact ht _ (by omega))
      rw [i3',tl]
      simp only [Option.bind_some,Out.on,Option.some.injEq,Bool.and_eq_true,decide_eq_true_eq]
      omega
end Go.Proofs.YtbgfffdnaijmhaaGreat.M
/-
  Plain laws of suit: what the program's functions tell, by definition; SuitTolerant, SuitLess. Own text.
-/
namespace Go.Proofs.YtbgfffdnaijmhaaGreat.M
open Go Go.Proofs Go.Proofs.YtbgfffdnaijmhaaGreat.V
set_option linter.unusedVariables false
theorem res_Fits_eq (a b : T_api_Res) : res_Fits a b = some (resOK b && resOK a && rle a b):=by
  unfold res_Fits
  rw [res_Sub_eq]
  simp only [Option.bind_some]
  cases hb : resOK b with
  | false =>rfl
  | true =>
    cases ha : resOK a with
    | false =>rfl
    | true =>
      simp only [Bool.and_self,if_true,Bool.true_and]
      rw [resOK_sub hb ha]
      cases rle a b<;>rfl
theorem ap_ok {α : Type} {b : Nat} {l m : List α} (hb : b≤1000) (h : l.length + m.length≤1000000) : V.ap b l m = some (l++m):=by
  unfold V.ap
  rw [if_pos]
  refine ⟨by unfold maxLen; omega,?_⟩
  have : (l.length + m.length) * b≤1000000 * 1000:=Nat.mul_le_mul h hb
  omega
def othersS (bs : List T_api_Bound) (name : ByteArray) : List T_api_Bound:=bs.filter fun b =>decide (b.Pod.Name≠name)
def onS (bs : List T_api_Bound) (name : ByteArray) : List T_api_Pod:=(bs.filter fun b =>decide (b.On = name)).map (·.Pod)
theorem others_eq (bs : List T_api_Bound) (name : ByteArray) (hl : bs.length≤1000) : suit_others bs name = some (othersS bs name):=by
  have key : ∀ (l : List T_api_Bound) (k : Nat) (acc : List T_api_Bound),l.length + acc.length≤1000→suit_others.l1 name l k acc = some (acc++othersS l name):=by
    intro l
    induction l with
    | nil =>intro k acc h; simp [suit_others.l1,othersS]
    | cons x l ih =>
      intro k acc h
      simp only [List.length_cons] at h
      rw [suit_others.l1,seq_eq]
      by_cases hx : x.Pod.Name = name
      · rw [if_neg (by simp [hx]),ih _ _ (by omega)]
        simp [othersS,hx]
      · rw [if_pos (by simp [hx]),ap_ok (by omega) (by simp; omega)]
        simp only [Option.bind_some]
        rw [ih _ _ (by simp; omega)]
        simp [othersS,hx]
  unfold suit_others
  rw [key bs 0 [] (by simp; omega)]
  simp
theorem On_eq (bs : List T_api_Bound) (name : ByteArray) (hl : bs.length≤1000) : yard_On bs name = some (onS bs name):=by
  have key : ∀ (l : List T_api_Bound) (k : Nat) (acc : List T_api_Pod),l.length + acc.length≤1000→yard_On.l1 name l k acc = some (acc++onS l name):=by
    intro l
    induction l with
    | nil =>intro k acc h; simp [yard_On.l1,onS]
    | cons x l ih =>
      intro k acc h
      simp only [List.length_cons] at h
      rw [yard_On.l1,seq_eq]
      by_cases hx : x.On = name
      · rw [if_pos (by simp [hx]),ap_ok (by omega) (by simp; omega)]
        simp only [Option.bind_some]
        rw [ih _ _ (by simp; omega)]
        simp [onS,hx]
      · rw [if_neg (by simp [hx]),ih _ _ (by omega)]
        simp [onS,hx]
  unfold yard_On
  rw [key bs 0 [] (by simp; omega)]
  simp
theorem onS_len (bs : List T_api_Bound) (name : ByteArray) : (onS bs name).length≤bs.length:=by
  unfold onS; rw [List.length_map]; exact List.length_filter_le _ _
theorem othersS_len (bs : List T_api_Bound) (name : ByteArray) : (othersS bs name).length≤bs.length:=List.length_filter_le _ _
def total : List T_api_Pod→T_api_Res
  | [] =>r0
  | p :: l =>radd p.Need (total l)
def needsOK (l : List T_api_Pod) : Bool:=l.all fun p =>resOK p.Need
def usedS (l : List T_api_Pod) : T_api_Res × Int:=if needsOK l = true then (if resOK (total l) = true then (total l,0) else (r0,10)) else (r0,12)
theorem total_nn {l : List T_api_Pod} (h : needsOK l = true) : 0≤(total l).Cpu∧0≤(total l).Mem∧0≤(total l).Disk∧0≤(total l).Pods∧0≤(total l).Dev:=by
  induction l with
  | nil =>simp [total,r0]
  | cons p l ih =>
    unfold needsOK at h
    simp only [List.all_cons,Bool.and_eq_true] at h
    have h1:=(resOK_iff _).1 h.1
    have h2:=ih h.2
    simp only [total,radd]
    omega
theorem radd_r0 (a : T_api_Res) : radd r0 a = a:=by cases a; simp [radd,r0]
theorem radd_assoc (a b c : T_api_Res) : radd (radd a b) c = radd a (radd b c):=by
  simp only [radd,T_api_Res.mk.injEq]; omega
theorem Used_loop {l : List T_api_Pod} (h : needsOK l = true) : ∀ (k : Nat) (s : T_api_Res),resOK s = true→yard_Used.l1 l k s = some (if resOK (radd s (total l)) = true then Out.go (radd s (total l)) else Out.ret (r0,10)):=by
  induction l with
  | nil =>
    intro k s hs
    have e : radd s (total []) = s:=by cases s; simp [radd,total,r0]
    rw [yard_Used.l1,e,if_pos hs]
  | cons p l ih =>
    intro k s hs
    have h0:=h
    unfold needsOK at h
    simp only [List.all_cons,Bool.and_eq_true] at h
    have hl : needsOK l = true:=h.2
    have hp:=h.1
    have hnn:=total_nn hl
    rw [yard_Used.l1,res_Add_eq,hs,hp]
    simp only [Bool.and_self,if_true,Option.bind_some]
    by_cases hq : resOK (radd s p.Need) = true
    · rw [if_pos hq]
      simp only [bne_self_eq_false,Bool.false_eq_true,if_false]
      rw [ih hl _ _ hq,radd_assoc]
      rfl
    · rw [if_neg hq]
      rw [if_neg (show ¬ resOK (radd s (total (p :: l))) = true from ?_)]
      · rfl
      · intro hc
        apply hq
        rw [resOK_iff] at hc hs hp ⊢
        simp only [radd,total] at hc ⊢
        omega
theorem first_needs {l : List T_api_Pod} (hl : l.length≤1000) : ∃ r,yard_first_yard_Used_1 (l.length : Int) l = some r∧(r = -1↔needsOK l = true):=by
  obtain ⟨r,hr,hf⟩:=loopF (F:=fun n i =>yard_first_yard_Used_1.l1 (l.length : Int) l n i) (len:=l.length) (p:=fun k =>∃ h : k < l.length,resOK l[k].Need = false) (by omega) (fun n k hk =>by
      rw [yard_first_yard_Used_1.l1,if_pos (dlt hk),wk1 (by omega)]
      unfold yard_Used_1
      rw [glk hk]
      simp only [Option.bind_some,res_Right_eq]
      cases h : resOK l[k].Need with
      | false =>exact .inl ⟨rfl,hk,h⟩
      | true =>exact .inr ⟨rfl,fun ⟨_,h'⟩ =>by rw [h] at h'; cases h'⟩) (fun n =>by rw [yard_first_yard_Used_1.l1,if_neg dnl])
  refine ⟨r,hr,?_⟩
  unfold needsOK
  rw [List.all_eq_true]
  rcases hf with ⟨q,rfl,a,⟨b,c⟩,d⟩ | ⟨rfl,a⟩
  · refine ⟨fun h =>by omega,fun h =>?_⟩
    have:=h l[q] (List.getElem_mem _)
    rw [c] at this; cases this
  · refine ⟨fun _ x hx =>?_,fun _ =>rfl⟩
    obtain ⟨i,hi,rfl⟩:=List.getElem_of_mem hx
    cases h : resOK l[i].Need with
    | true =>rfl
    | false =>exact absurd ⟨hi,h⟩ (a i hi)
theorem Used_eq (bs : List T_api_Bound) (name : ByteArray) (hl : bs.length≤1000) : yard_Used bs name = some (usedS (onS bs name)):=by
  have hlen:=onS_len bs name
  unfold yard_Used usedS
  rw [On_eq bs name hl]
  simp only [Option.bind_some]
  obtain ⟨r,hr,hf⟩:=first_needs (l:=onS bs name) (by omega)
  rw [hr]
  simp only [Option.bind_some]
  cases hn : needsOK (onS bs name) with
  | false =>
    have : r≠-1:=fun e =>by rw [hf.1 e] at hn; cases hn
    rw [if_pos (by simpa using this)]; rfl
  | true =>
    rw [if_neg (by simp [hf.2 hn]),show (⟨0,0,0,0,0⟩ : T_api_Res) = r0 from rfl,Used_loop hn 0 r0 (by decide),radd_r0]
    simp only [if_true]
    cases resOK (total (onS bs name))<;>rfl
def leftS (has : T_api_Res) (u : T_api_Res × Int) : T_api_Res:=if u.2 = 0∧resOK has = true then rsub has (rmin u.1 has) else r0
theorem usedS_ok (l : List T_api_Pod) (h : (usedS l).2 = 0) : resOK (usedS l).1 = true∧(usedS l).1 = total l∧needsOK l = true∧resOK (total l) = true:=by
  unfold usedS at h ⊢
  cases hn : needsOK l with
  | false =>rw [hn] at h; simp at h
  | true =>
    rw [hn] at h
    simp only [if_true] at h ⊢
    cases ht : resOK (total l) with
    | false =>rw [ht] at h; simp at h
    | true =>simp [ht]
theorem Left_eq (m : T_api_Machine) (bs : List T_api_Bound) (hl : bs.length≤1000) : yard_Left m bs = some (leftS m.Has (usedS (onS bs m.Name))):=by
  unfold yard_Left leftS
  rw [Used_eq bs m.Name hl]
  simp only [Option.bind_some]
  by_cases h0 : (usedS (onS bs m.Name)).2 = 0
  · rw [if_neg (by simpa using h0),res_Least_eq]
    obtain ⟨h1,_⟩:=usedS_ok _ h0
    rw [h1]
    simp only [Option.bind_some,Bool.true_and,res_Sub_eq]
    by_cases h2 : resOK m.Has = true
    · have h2' : resOK (rmin (usedS (onS bs m.Name)).1 m.Has) = true:=resOK_min h1 h2
      have : resOK (rsub m.Has (rmin (usedS (onS bs m.Name)).1 m.Has)) = true:=by
        rw [resOK_sub h2 (resOK_min h1 h2),rle_iff]
        simp only [rmin]
        omega
      simp only [h0,h2,h2',Bool.and_self,if_true,this,and_self]
    · have h2' : resOK m.Has = false:=by simpa using h2
      rw [if_neg (by rw [h2']; simp),h2']
      simp
  · rw [if_pos (by simpa using h0),if_neg (by simp [h0])]
    rfl
def hit : List Int→List Int→Bool
  | [],_ =>false
  | _ :: _,[] =>false
  | a :: l,b :: m =>if a = b then true else if a < b then hit l (b :: m) else hit (a :: l) m
termination_by l m =>l.length + m.length
theorem sl_tail {α : Type} (a : α) (l : List α) (hl : l.length < 1000000) : V.sl (a :: l) (some 1) none = some l:=by
  unfold V.sl
  rw [if_pos]
  · simp [lowN,highN]
  · simp [lowN,highN]
theorem common_eq (a b : List Int) (ha : a.length≤1000) (hb : b.length≤1000) : suit_common a b = some (hit a b):=by
  have key : ∀ (m : Nat) (a b : List Int) (f : Nat),a.length + b.length≤m→m < f→a.length≤1000→b.length≤1000→(suit_common.l1 f a b).bind (fun o =>o.on fun _ =>some false) = some (hit a b):=by
    intro m
    induction m with
    | zero =>
      intro a b f h1 h2 ha hb
      obtain ⟨f,rfl⟩ : ∃ q,f = q + 1:=⟨f - 1,by omega⟩
      obtain rfl : a = []:=List.eq_nil_of_length_eq_zero (by omega)
      rw [suit_common.l1,if_neg (by simp)]
      simp [hit,Out.on]
    | succ m ih =>
      intro a b f h1 h2 ha hb
      obtain ⟨f,rfl⟩ : ∃ q,f = q + 1:=⟨f - 1,by omega⟩
      cases a with
      | nil =>rw [suit_common.l1,if_neg (by simp)]; simp [hit,Out.on]
      | cons x a =>
        cases b with
        | nil =>rw [suit_common.l1,if_neg (by simp)]; simp [hit,Out.on]
        | cons y b =>
          simp only [List.length_cons] at h1 ha hb
          have g1 : V.gl (x :: a) 0 = some x:=rfl
          have g2 : V.gl (y :: b) 0 = some y:=rfl
          rw [suit_common.l1,if_pos (by simp),g1,g2,hit]
          simp only [Option.bind_some]
          by_cases h3 : x = y
          · rw [if_pos (by simpa using h3),if_pos h3]; rfl
          · rw [if_neg (by simpa using h3),if_neg h3]
            by_cases h4 : x < y
            · rw [if_pos (by simpa using h4),if_pos h4,sl_tail x a (by omega)]
              simp only [Option.bind_some]
              exact ih a (y :: b) f (by simp only [List.length_cons]; omega) (by omega) (by omega) (by simp only [List.length_cons]; omega)
            · rw [if_neg (by simpa using h4),if_neg h4,sl_tail y b (by omega)]
              simp only [Option.bind_some]
              exact ih (x :: a) b f (by simp only [List.length_cons]; omega) (by omega) (by simp only [List.length_cons]; omega) (by omega)
  unfold suit_common
  exact key (a.length + b.length) a b FU (Nat.le_refl _) (by unfold FU; omega) ha hb
def roomS (m : T_api_Machine) (bs : List T_api_Bound) (p : T_api_Pod) : Int :=
  if (resOK (leftS m.Has (usedS (onS (othersS bs p.Name) m.Name))) && resOK p.Need && rle p.Need (leftS m.Has (usedS (onS (othersS bs p.Name) m.Name)))) = true then
    (bif (onS (othersS bs p.Name) m.Name).any (fun q =>hit p.Ports q.Ports) then 3 else 0) else 2
theorem Room_eq (m : T_api_Machine) (bs : List T_api_Bound) (p : T_api_Pod) (hl : bs.length≤1000) (hp : p.Ports.length≤1000) (hb : ∀ b,b ∈ bs→b.Pod.Ports.length≤1000) : suit_Room m bs p = some (roomS m bs p):=by
  have hlo:=othersS_len bs p.Name
  unfold suit_Room roomS
  rw [others_eq bs p.Name hl]
  simp only [Option.bind_some]
  rw [Left_eq m _ (by omega)]
  simp only [Option.bind_some,res_Fits_eq]
  cases hf : (resOK (leftS m.Has (usedS (onS (othersS bs p.Name) m.Name))) && resOK p.Need && rle p.Need (leftS m.Has (usedS (onS (othersS bs p.Name) m.Name)))) with
  | false =>rfl
  | true =>
    simp only [Bool.not_true,Bool.false_eq_true,if_false,if_true]
    rw [On_eq _ _ (by omega)]
    simp only [Option.bind_some]
    have hports : ∀ q,q ∈ onS (othersS bs p.Name) m.Name→q.Ports.length≤1000:=by
      intro q hq
      unfold onS othersS at hq
      obtain ⟨b,h1,rfl⟩:=List.mem_map.1 hq
      exact hb b (List.mem_filter.1 (List.mem_filter.1 h1).1).1
    generalize onS (othersS bs p.Name) m.Name = l at hports
    have key : ∀ (l : List T_api_Pod) (k : Nat),(∀ q,q ∈ l→q.Ports.length≤1000)→(suit_Room.l1 p l k).bind (fun o =>o.on fun _ =>some (0 : Int)) = some (bif l.any (fun q =>hit p.Ports q.Ports) then 3 else 0):=by
      intro l
      induction l with
      | nil =>intro k _; rfl
      | cons x l ih =>
        intro k h
        rw [suit_Room.l1,common_eq _ _ hp (h x (by simp))]
        simp only [Option.bind_some,List.any_cons]
        by_cases hx : hit p.Ports x.Ports = true
        · rw [if_pos hx,hx]; rfl
        · have hx' : hit p.Ports x.Ports = false:=by simpa using hx
          rw [if_neg hx,hx',Bool.false_or]
          exact ih (k + 1) (fun q hq =>h q (by simp [hq]))
    exact key l 0 hports
end Go.Proofs.YtbgfffdnaijmhaaGreat.M
/-
  Plain laws: whether a pod suits a machine, out of its parts; what fewer pods leave. Own text.
-/
namespace Go.Proofs.YtbgfffdnaijmhaaGreat.M
open Go Go.Proofs Go.Proofs.YtbgfffdnaijmhaaGreat.V
set_option linter.unusedVariables false
theorem Number_tot {s : ByteArray} (h : s.size≤300) : isS (quant_Number s):=by
 unfold quant_Number
 refine T.bind (T.ite (fun _ =>T.pure _) fun _ =>T.bind ?_ fun _ _ =>T.pure _) fun c _ =>T.ite (fun _ =>T.pure _) fun _ =>T.bind ?_ fun _ _ =>T.ite (fun _ =>T.pure _) fun _ =>T.pure _
 ·unfold quant_head
  refine T.bind (T.loop (F:=fun n i =>quant_head.l1 s n i) (len:=s.size) (by omega) (fun n k hk ih =>?_) (fun n =>?_)) fun _ _ =>T.pure _
  ·rw [quant_head.l1,if_pos (by simp; omega),gi_nat hk,wk1 (by omega)]
   simp only [Option.bind_some]
   exact T.bind (T.ite (fun _ =>T.pure _) fun _ =>T.pure _) fun _ _ =>T.ite (fun _ =>ih) fun _ =>T.pure _
  ·rw [quant_head.l1,if_neg (by simp)]
   simp only [Option.bind_some,Bool.false_eq_true,if_false]
   exact T.pure _
 ·unfold quant_value
  refine T.bind (T.loop2 (F:=fun n c i =>quant_value.l1 s 1125899906842624 n c i) (len:=s.size) (by omega) (fun n c k hk ih =>?_) (fun n c =>?_) 0) fun o _ =>T.on o fun _ =>T.pure _
  ·rw [quant_value.l1,if_pos (by simp; omega),gi_nat hk,wk1 (by omega)]
   simp only [Option.bind_some]
   refine T.bind ⟨_,by unfold V.quo; rw [if_neg (by decide)]⟩ fun _ _ =>T.ite (fun _ =>T.pure _) fun _ =>ih _
  ·rw [quant_value.l1,if_neg (by simp)]; exact T.pure _
theorem at_tot (l : List T_api_Label) (key : ByteArray) : ∃ r,labels_at l key = some r∧(r.2 = true→∃ k : Nat,r.1 = (k : Int)∧k < l.length):=by
 have h : ∀ (l2 : List T_api_Label) (k : Nat),(labels_at.l1 key l2 k = some (Out.go ()))∨∃ q : Nat,∃ b,labels_at.l1 key l2 k = some (Out.ret ((q : Int),b))∧q < k + l2.length:=by
  intro l2
  induction l2 with
  | nil =>intro k; exact .inl rfl
  | cons x l2 ih =>
   intro k
   rw [labels_at.l1]
   by_cases hx : (!(V.slt x.Key key)) = true
   ·rw [if_pos hx]; exact .inr ⟨k,_,rfl,by simp⟩
   ·rw [if_neg hx]
    rcases ih (k + 1) with h | ⟨q,b,h1,h2⟩
    ·exact .inl h
    ·exact .inr ⟨q,b,h1,by simp only [List.length_cons]; omega⟩
 unfold labels_at
 rcases h l 0 with h | ⟨q,b,h1,h2⟩
 ·rw [h]; exact ⟨_,rfl,by simp⟩
 ·rw [h1]; exact ⟨_,rfl,fun _ =>⟨q,rfl,by omega⟩⟩
theorem Get_tot (l : List T_api_Label) (key : ByteArray) : isS (labels_Get l key):=by
 obtain ⟨r,hr,hk⟩:=at_tot l key
 unfold labels_Get
 rw [hr]
 simp only [Option.bind_some]
 refine T.ite (fun _ =>T.pure _) fun h =>?_
 obtain ⟨k,e,hl⟩:=hk (by simpa using h)
 rw [e,glk hl]
 exact T.pure _
theorem Get_val {l : List T_api_Label} (hl : LL l) {key : ByteArray} {r : ByteArray × Bool} (h : labels_Get l key = some r) : r.1.size≤300:=by
 obtain ⟨q,hq,hk⟩:=at_tot l key
 unfold labels_Get at h
 rw [hq] at h
 simp only [Option.bind_some] at h
 by_cases h2 : q.2 = true
 ·obtain ⟨k,e,hlk⟩:=hk h2
  rw [if_neg (by simp [h2]),e,glk hlk] at h
  simp only [Option.bind_some,Option.some.injEq] at h
  subst h
  exact (hl.2 k hlk).2
 ·rw [if_pos (by simpa using h2)] at h
  simp only [Option.some.injEq] at h
  subst h
  exact Nat.zero_le _
theorem Has_tot (l s : List T_api_Label) : isS (labels_Has l s):=by
 have h : ∀ (s : List T_api_Label) (k : Nat),isS (labels_Has.l1 l s k):=by
  intro s
  induction s with
  | nil =>intro k; exact T.pure _
  | cons x s ih =>
   intro k
   rw [labels_Has.l1]
   exact T.bind (Get_tot l x.Key) fun _ _ =>T.ite (fun _ =>T.pure _) fun _ =>ih (k + 1)
 unfold labels_Has
 exact T.bind (h s 0) fun o _ =>T.on o fun _ =>T.pure _
theorem among_tot (l : List ByteArray) (s : ByteArray) : isS (labels_among l s):=by
 have h : ∀ (l : List ByteArray) (k : Nat),isS (labels_among.l1 s l k):=by
  intro l
  induction l with
  | nil =>intro k; exact T.pure _
  | cons x l ih =>
   intro k
   rw [labels_among.l1]
   exact T.ite (fun _ =>T.pure _) fun _ =>ih (k + 1)
 unfold labels_among
 exact T.bind (h l 0) fun o _ =>T.on o fun _ =>T.pure _
theorem Meets_tot {l : List T_api_Label} {t : T_api_Term} (hl : LL l) (ht : LT t) : isS (labels_Meets l t):=by
 unfold labels_Meets
 refine T.bind (Get_tot l t.Key) fun r hr =>T.ite (fun _ =>T.bind (T.ite (fun _ =>T.bind (among_tot _ _) fun _ _ =>T.pure _) fun _ =>T.pure _) fun _ _ =>T.pure _) fun _ =>T.ite (fun _ =>T.bind (T.ite (fun _ =>T.pure _) fun _ =>T.bind (among_tot _ _) fun _ _ =>T.pure _) fun _ _ =>T.pure _) fun _ =>
  T.ite (fun _ =>T.pure _) fun _ =>T.ite (fun _ =>T.pure _) fun _ =>T.ite (fun _ =>T.pure _) fun hv =>?_
 have hlen : t.Vals.length = 1:=by
  have : ¬ (¬ ((t.Vals.length : Int) = 1)):=fun h =>hv (by simp [h])
  omega
 have hval:=Get_val hl hr
 rw [show (0 : Int) = ((0 : Nat) : Int) from rfl,glk (by omega)]
 unfold labels_number
 exact T.bind (T.bind (Number_tot hval) fun _ _ =>T.pure _) fun _ _ =>T.bind (T.pure _) fun x hx =>T.bind (T.bind (Number_tot (by
  simp only [Option.some.injEq] at hx
  subst hx
  exact ht.2.2 0 (by omega))) fun _ _ =>T.pure _) fun _ _ =>T.ite (fun _ =>T.pure _) fun _ =>T.pure _
theorem All_tot {l : List T_api_Label} {ts : List T_api_Term} (hl : LL l) (ht : ∀ t,t ∈ ts→LT t) : isS (labels_All l ts):=by
 have h : ∀ (s : List T_api_Term) (k : Nat),(∀ t,t ∈ s→LT t)→isS (labels_All.l1 l s k):=by
  intro s
  induction s with
  | nil =>intro k _; exact T.pure _
  | cons x s ih =>
   intro k h
   rw [labels_All.l1]
   exact T.bind (Meets_tot hl (h x (by simp))) fun _ _ =>T.ite (fun _ =>T.pure _) fun _ =>ih (k + 1) (fun t ht =>h t (by simp [ht]))
 unfold labels_All
 exact T.bind (h ts 0 ht) fun o _ =>T.on o fun _ =>T.pure _
theorem TBears_tot (t : T_api_Toleration) (x : T_api_Taint) : isS (taints_Bears t x):=by
 unfold taints_Bears
 exact T.ite (fun _ =>T.pure _) fun _ =>T.ite (fun _ =>T.pure _) fun _ =>T.pure _
theorem borne_tot (l : List T_api_Toleration) (x : T_api_Taint) : isS (taints_borne l x):=by
 have h : ∀ (l : List T_api_Toleration) (k : Nat),isS (taints_borne.l1 x l k):=by
  intro l
  induction l with
  | nil =>intro k; exact T.pure _
  | cons y l ih =>
   intro k
   rw [taints_borne.l1]
   exact T.bind (TBears_tot y x) fun _ _ =>T.ite (fun _ =>T.pure _) fun _ =>ih (k + 1)
 unfold taints_borne
 exact T.bind (h l 0) fun o _ =>T.on o fun _ =>T.pure _
theorem Unb1_tot (x : T_api_Taint) (e : Int) (l : List T_api_Toleration) : isS (taints_Unborne_1 x e l):=by
 unfold taints_Unborne_1
 exact T.bind ⟨_,rfl⟩ fun _ _ =>T.bind (T.ite (fun _ =>T.bind (borne_tot l x) fun _ _ =>T.pure _) fun _ =>T.pure _) fun _ _ =>T.pure _
theorem Unborne_tot (l : List T_api_Toleration) (ts : List T_api_Taint) (e : Int) (h : ts.length≤1000) : ∃ r,taints_Unborne l ts e = some r∧r.length≤ts.length:=by
 have key : ∀ (s : List T_api_Taint) (k : Nat) (acc : List T_api_Taint),s.length + acc.length≤1000→∃ r,taints_some_taints_Unborne_1.l1 e l s k acc = some r∧r.length≤s.length + acc.length:=by
  intro s
  induction s with
  | nil =>intro k acc h; exact ⟨acc,rfl,by simp⟩
  | cons x s ih =>
   intro k acc h
   simp only [List.length_cons] at h
   rw [taints_some_taints_Unborne_1.l1]
   obtain ⟨b,hb⟩:=Unb1_tot x e l
   rw [hb]
   simp only [Option.bind_some]
   cases b with
   | true =>
    rw [if_pos rfl,ap_ok (by omega) (by simp; omega)]
    simp only [Option.bind_some]
    obtain ⟨r,h1,h2⟩:=ih (k + 1) (acc++[x]) (by simp; omega)
    exact ⟨r,h1,by simp only [List.length_append,List.length_cons,List.length_nil] at h2 ⊢; omega⟩
   | false =>
    rw [if_neg (by simp)]
    obtain ⟨r,h1,h2⟩:=ih (k + 1) acc (by omega)
    exact ⟨r,h1,by simp only [List.length_cons]; omega⟩
 obtain ⟨r,h1,h2⟩:=key ts 0 [] (by simpa using h)
 unfold taints_Unborne taints_some_taints_Unborne_1
 rw [h1]
 exact ⟨r,rfl,by simpa using h2⟩
theorem Allows_tot (l : List T_api_Toleration) (ts : List T_api_Taint) (h : ts.length≤1000) : isS (taints_Allows l ts):=by
 unfold taints_Allows
 obtain ⟨a,ha,_⟩:=Unborne_tot l ts 1 h
 obtain ⟨b,hb,_⟩:=Unborne_tot l ts 3 h
 rw [ha,hb]
 exact T.pure _
theorem Place_tot {m : T_api_Machine} {p : T_api_Pod} (hm : LM m) (hp : LP p) : isS (suit_Place m p):=by
 unfold suit_Place
 exact T.ite (fun _ =>T.pure _) fun _ =>T.bind (Has_tot _ _) fun _ _ =>T.ite (fun _ =>T.pure _) fun _ =>T.bind (All_tot hm.labels (fun t ht =>by
  obtain ⟨i,hi,rfl⟩:=List.getElem_of_mem ht
  exact hp.terms i hi)) fun _ _ =>T.ite (fun _ =>T.pure _) fun _ =>T.bind (Allows_tot _ _ (by have:=hm.taints.1; omega)) fun _ _ =>T.ite (fun _ =>T.pure _) fun _ =>T.pure _
theorem Suits_eq {m : T_api_Machine} {bs : List T_api_Bound} {p : T_api_Pod} {w : Int} (hw : suit_Place m p = some w) (hl : bs.length≤1000) (hp : p.Ports.length≤1000) (hb : ∀ b,b ∈ bs→b.Pod.Ports.length≤1000) :
  suit_Suits m bs p = some (if w = 1∨w = 4∨w = 5∨w = 6 then w else roomS m bs p):=by
 unfold suit_Suits
 rw [hw]
 simp only [Option.bind_some]
 by_cases h1 : w = 1
 ·subst h1; rfl
 rw [if_neg (by simpa using h1)]
 by_cases h2 : w = 4
 ·subst h2; rfl
 rw [if_neg (by simpa using h2)]
 by_cases h3 : w = 5
 ·subst h3; rfl
 rw [if_neg (by simpa using h3)]
 by_cases h4 : w = 6
 ·subst h4; rfl
 rw [if_neg (by simpa using h4),if_neg (by omega),Room_eq m bs p hl hp hb]
 rfl
theorem sl_pre {α : Type} {l : List α} {k : Nat} (h : k≤l.length) : V.sl l none (some (k : Int)) = some (l.take k):=by
 unfold V.sl
 rw [if_pos ⟨⟨by simp,by simp⟩,by simp [lowN,highN],by simpa [highN] using h⟩]
 simp [lowN,highN]
theorem sl_suf {α : Type} {l : List α} {k : Nat} (h : k≤l.length) : V.sl l (some (k : Int)) none = some (l.drop k):=by
 unfold V.sl
 rw [if_pos ⟨⟨by simp,by simp⟩,by simpa [lowN,highN] using h,by simp [highN]⟩]
 simp [lowN,highN]
end Go.Proofs.YtbgfffdnaijmhaaGreat.M

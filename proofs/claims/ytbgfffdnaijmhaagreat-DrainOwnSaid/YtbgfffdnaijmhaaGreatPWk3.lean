/-
  Printed by a program of this session out of the loaded functions: models and their proofs. Own text.
-/
import Derived.Test.YtbgfffdnaijmhaaGreatPSch0
import Derived.Test.YtbgfffdnaijmhaaGreatPFit0
/-
  Plain laws: the steps of the scheduler. Own text.
-/
namespace Go.Proofs.YtbgfffdnaijmhaaGreat.M
open Go Go.Proofs Go.Proofs.YtbgfffdnaijmhaaGreat.V
set_option linter.unusedVariables false
def cntD : List T_api_Bound→List T_api_Bound→Nat
 | a :: l,b :: m =>(if a.On = b.On then 0 else 1) + cntD l m
 | _,_ =>0
theorem cntD_self : ∀ l : List T_api_Bound,cntD l l = 0
 | [] =>rfl
 | a :: l =>by rw [cntD,if_pos rfl,cntD_self l]
theorem cntD_set (l : List T_api_Bound) : ∀ (m : List T_api_Bound) (x : Nat) (v : T_api_Bound) (h : x < l.length) (h' : x < m.length),l[x].On = m[x].On→v.On≠m[x].On→cntD (l.set x v) m = cntD l m + 1:=by
 induction l with
 | nil =>intro m x v h; simp at h
 | cons a l ih =>
  intro m x v h h' h1 h2
  cases m with
  | nil =>simp at h'
  | cons b m =>
   cases x with
   | zero =>
    simp only [List.getElem_cons_zero] at h1 h2
    rw [List.set_cons_zero,cntD,cntD,if_neg h2,if_pos h1]; omega
   | succ x =>
    simp only [List.getElem_cons_succ] at h1 h2
    rw [List.set_cons_succ,cntD,cntD,ih m x v (by simpa using h) (by simpa using h') h1 h2]; omega
theorem cntD_le : ∀ l m : List T_api_Bound,cntD l m≤l.length
 | [],_ =>by simp [cntD]
 | a :: l,[] =>by simp [cntD]
 | a :: l,b :: m =>by
  have:=cntD_le l m
  rw [cntD,List.length_cons]
  split<;>omega
structure SI (ms : List T_api_Machine) (bs out : List T_api_Bound) (mv : List T_api_Move) : Prop where
 len : out.length = bs.length
 pod : ∀ k (h : k < out.length) (h' : k < bs.length),out[k].Pod = bs[k].Pod
 old : ∀ k (h : k < out.length) (h' : k < bs.length),bs[k].On≠⟨#[]⟩→out[k].On = bs[k].On
 onm : ∀ k (h : k < out.length),out[k].On≠⟨#[]⟩→∃ m,m ∈ ms∧m.Name = out[k].On
 cnt : mv.length = cntD out bs
theorem si_mem {ms : List T_api_Machine} {bs out : List T_api_Bound} {mv : List T_api_Move} (h : SI ms bs out mv) {P : T_api_Pod→Prop} (hb : ∀ b,b ∈ bs→P b.Pod) : ∀ b,b ∈ out→P b.Pod:=fun b hbo =>by
 obtain ⟨i,hi,rfl⟩:=List.getElem_of_mem hbo
 have hi' : i < bs.length:=by rw [← h.len]; exact hi
 rw [h.pod i hi hi']
 exact hb _ (List.getElem_mem hi')
theorem si_set {ms : List T_api_Machine} {bs out : List T_api_Bound} {mv : List T_api_Move} (h : SI ms bs out mv) {x : Nat} (hx : x < out.length) (ho : out[x].On = ⟨#[]⟩) {m : T_api_Machine} (hm : m ∈ ms) (hne : m.Name≠⟨#[]⟩) (v : T_api_Move) : SI ms bs (out.set x ⟨out[x].Pod,m.Name⟩) (mv++[v]):=by
 have hxb : x < bs.length:=by rw [← h.len]; exact hx
 have hbx : bs[x].On = ⟨#[]⟩:=by
  by_cases e : bs[x].On = ⟨#[]⟩
  ·exact e
  ·have:=h.old x hx hxb e
   rw [ho] at this
   exact this.symm
 refine ⟨by rw [List.length_set]; exact h.len,fun k hk hk' =>?_,fun k hk hk' hne' =>?_,fun k hk hne' =>?_,?_⟩
 ·rw [List.getElem_set]
  split
  ·rename_i e; subst e; exact h.pod x hx hxb
  ·exact h.pod k (by simpa using hk) hk'
 ·rw [List.getElem_set]
  split
  ·rename_i e; subst e; exact absurd hbx hne'
  ·exact h.old k (by simpa using hk) hk' hne'
 ·rw [List.getElem_set] at hne' ⊢
  split
  ·exact ⟨m,hm,rfl⟩
  ·rename_i e
   rw [if_neg e] at hne'
   exact h.onm k (by simpa using hk) hne'
 ·rw [cntD_set out bs x _ hx hxb (by rw [ho,hbx]) (by rw [hbx]; exact hne),List.length_append,h.cnt]; rfl
theorem step_loop {ms : List T_api_Machine} {bs : List T_api_Bound} (hl : ms.length≤400) (hbl : bs.length≤400) (hms : ∀ m,m ∈ ms→LM m) (hn : (ms.map (·.Name)).Nodup) (hne : ∀ m,m ∈ ms→m.Name≠⟨#[]⟩) (hb : ∀ b,b ∈ bs→LP b.Pod) (J : List T_api_Bound→List T_api_Move→List Int→Prop)
  (hJ : ∀ (x : Nat) (l : List Int) (out : List T_api_Bound) (mv : List T_api_Move) (hx : x < out.length),SI ms bs out mv→out[x].On = ⟨#[]⟩→(x : Int) ∉ l→J out mv ((x : Int) :: l)→(okM ms out out[x].Pod = []→J out mv l)∧(∀ m0,m0 ∈ ms→whyV ms out out[x].Pod m0 = 0→m0.Name = bestV ms out out[x].Pod→J (out.set x ⟨out[x].Pod,m0.Name⟩) (mv++[⟨out[x].Pod.Name,m0.Name⟩]) l)) :
  ∀ (l : List Int) (k : Nat) (out : List T_api_Bound) (mv : List T_api_Move),l.Nodup→(∀ x,x ∈ l→∃ i : Nat,x = (i : Int)∧∃ h : i < out.length,out[i].On = ⟨#[]⟩)→SI ms bs out mv→J out mv l →
   ∃ out' mv',sched_Step.l1 ms l k out mv = some (out',mv')∧SI ms bs out' mv'∧J out' mv' []:=by
 intro l
 induction l with
 | nil =>intro k out mv _ _ hs hj; exact ⟨out,mv,rfl,hs,hj⟩
 | cons x l ih =>
  intro k out mv hnd hx hs hj
  rw [List.nodup_cons] at hnd
  obtain ⟨i,rfl,hi,ho⟩:=hx x (List.mem_cons_self ..)
  have hol : out.length≤400:=by rw [hs.len]; exact hbl
  have hlp:=si_mem hs (P:=LP) hb
  have hcl:=cntD_le out bs
  rw [sched_Step.l1,glk hi]
  simp only [Option.bind_some]
  rw [best_P hl hol hms hn hlp (hlp _ (List.getElem_mem hi))]
  simp only [Option.bind_some,seq_eq]
  obtain ⟨j1,j2⟩:=hJ i l out mv hi hs ho hnd.1 hj
  rcases bestL_mem (scoreV out out[i].Pod) (okM ms out out[i].Pod) (fun m h =>hne m (List.mem_filter.1 h).1) with ⟨e1,e2⟩ | ⟨m,e1,e2,e3⟩
  ·have hbe : bestV ms out out[i].Pod = ⟨#[]⟩:=e2
   rw [if_neg (by simp [hbe])]
   exact ih (k + 1) out mv hnd.2 (fun y hy =>hx y (List.mem_cons_of_mem _ hy)) hs (j1 e1)
  ·have hbe : ¬ bestV ms out out[i].Pod = ⟨#[]⟩:=e3
   have hbn : m.Name = bestV ms out out[i].Pod:=e2
   have hm:=List.mem_filter.1 e1
   have hw : whyV ms out out[i].Pod m = 0:=by simpa using hm.2
   have hmv : mv.length≤400:=by rw [hs.cnt]; omega
   rw [if_pos (by simpa using hbe),ap_ok (by omega) (by simp; omega)]
   simp only [Option.bind_some]
   rw [← hbn,show ((i : Int)).toNat = i by omega]
   refine ih (k + 1) _ _ hnd.2 (fun y hy =>?_) (si_set hs hi ho hm.1 (hne m hm.1) _) (j2 m hm.1 hw hbn)
   obtain ⟨i',rfl,hi',ho'⟩:=hx y (List.mem_cons_of_mem _ hy)
   refine ⟨i',rfl,by simpa using hi',?_⟩
   rw [List.getElem_set]
   split
   ·rename_i e; subst e; exact absurd hy hnd.1
   ·exact ho'
theorem Step_ok {ms : List T_api_Machine} {bs : List T_api_Bound} (hl : ms.length≤400) (hbl : bs.length≤400) (hms : ∀ m,m ∈ ms→LM m) (hn : (ms.map (·.Name)).Nodup) (hne : ∀ m,m ∈ ms→m.Name≠⟨#[]⟩) (hb : ∀ b,b ∈ bs→LP b.Pod) (hon : ∀ k (h : k < bs.length),bs[k].On≠⟨#[]⟩→∃ m,m ∈ ms∧m.Name = bs[k].On) (J : List T_api_Bound→List T_api_Move→List Int→Prop)
  (hJ : ∀ (x : Nat) (l : List Int) (out : List T_api_Bound) (mv : List T_api_Move) (hx : x < out.length),SI ms bs out mv→out[x].On = ⟨#[]⟩→(x : Int) ∉ l→J out mv ((x : Int) :: l)→(okM ms out out[x].Pod = []→J out mv l)∧(∀ m0,m0 ∈ ms→whyV ms out out[x].Pod m0 = 0→m0.Name = bestV ms out out[x].Pod→J (out.set x ⟨out[x].Pod,m0.Name⟩) (mv++[⟨out[x].Pod.Name,m0.Name⟩]) l))
  (h0 : ∀ r : List Int,sched_Order bs = some r→r.Perm (pendL bs 0)→J bs [] r) : ∃ out mv,sched_Step ms bs = some (out,mv)∧SI ms bs out mv∧J out mv []:=by
 unfold sched_Step
 obtain ⟨r,h1,h2,h3⟩:=Order_ok (bs:=bs) hbl
 rw [ap_ok (by omega) (by simp; omega),h1]
 simp only [Option.bind_some,List.nil_append]
 have hmem : ∀ x,x ∈ r→∃ i : Nat,x = (i : Int)∧∃ h : i < bs.length,bs[i].On = ⟨#[]⟩:=fun x hx =>by
  have hx':=h2.mem_iff.1 hx
  have hge:=pendL_ge bs 0 x hx'
  obtain ⟨i,rfl⟩ : ∃ i : Nat,x = (i : Int):=⟨x.toNat,by omega⟩
  have:=(pendL_mem bs 0 i).1 (by rw [Nat.zero_add]; exact hx')
  exact ⟨i,rfl,this⟩
 have hnd : r.Nodup:=h2.nodup_iff.2 ((pendL_inc bs 0).imp (fun h e =>by omega))
 obtain ⟨out,mv,s1,s2,s3⟩:=step_loop hl hbl hms hn hne hb J hJ r 0 bs [] hnd hmem ⟨rfl,fun _ _ _ =>rfl,fun _ _ _ _ =>rfl,hon,by rw [cntD_self]; rfl⟩ (h0 r h1 h2)
 rw [s1]
 exact ⟨out,mv,rfl,s2,s3⟩
end Go.Proofs.YtbgfffdnaijmhaaGreat.M
/-
  Plain facts for the world's laws: numbers in digits, names of a group's machines, and back. Own text.
-/
namespace Go.Proofs.YtbgfffdnaijmhaaGreat.M
open Go Go.Proofs Go.Proofs.YtbgfffdnaijmhaaGreat.V
set_option linter.unusedVariables false
open Go.IntKind (i64)
set_option maxRecDepth 100000
def dig1 (k : Nat) : ByteArray:=strOfNums [(IntKind.u8.wrap (i64.wrap (48 + (k : Int))))]
def gdv (s : ByteArray) : Nat:=s.data.toList.foldl (fun a c =>10 * a + (c.toNat - 48)) 0
theorem dig1_eq {k : Nat} (h : k < 10) : dig1 k = ⟨#[UInt8.ofNat (48 + k)]⟩:=by
 match k,h with
 | 0,_ =>rfl
 | 1,_ =>rfl
 | 2,_ =>rfl
 | 3,_ =>rfl
 | 4,_ =>rfl
 | 5,_ =>rfl
 | 6,_ =>rfl
 | 7,_ =>rfl
 | 8,_ =>rfl
 | 9,_ =>rfl
theorem dig1_l {k : Nat} (h : k < 10) : (dig1 k).data.toList = [UInt8.ofNat (48 + k)]:=by rw [dig1_eq h]
theorem dig1_size {k : Nat} (h : k < 10) : (dig1 k).size = 1:=by rw [dig1_eq h]; rfl
theorem u8n {k : Nat} (h : k < 10) : (UInt8.ofNat (48 + k)).toNat = 48 + k:=by
 match k,h with
 | 0,_ =>rfl
 | 1,_ =>rfl
 | 2,_ =>rfl
 | 3,_ =>rfl
 | 4,_ =>rfl
 | 5,_ =>rfl
 | 6,_ =>rfl
 | 7,_ =>rfl
 | 8,_ =>rfl
 | 9,_ =>rfl
theorem cat9 {s t : ByteArray} (h : s.size + t.size≤1000000) : V.cat s t = some (s++t):=by unfold V.cat; rw [if_pos (by unfold maxLen; omega)]
theorem toL_app (a b : ByteArray) : (a++b).data.toList = a.data.toList++b.data.toList:=by simp
theorem ba_ex {a b : ByteArray} (h : a.data.toList = b.data.toList) : a = b:=by
 obtain ⟨⟨a⟩⟩:=a; obtain ⟨⟨b⟩⟩:=b; simpa using h
theorem bt_mem {s : ByteArray} {i : Nat} (h : i < s.size) : ∃ b,b ∈ s.data.toList∧bt s i = (b.toNat : Int):=by
 have h' : i < s.data.toList.length:=by simpa using h
 refine ⟨s.data.toList[i],List.getElem_mem h',?_⟩
 unfold bt
 rw [List.getD_eq_getElem?_getD,List.getElem?_eq_getElem h']
 rfl
theorem gd_ex : ∀ n : Nat,n < 1000000→∃ s : ByteArray,(∀ f,n < f→group_decimal f (n : Int) = some s)∧(∀ d,n < 10 ^ (d + 1)→s.size≤d + 1)∧(1≤s.size∧s.size≤6)∧gdv s = n∧(∀ b,b ∈ s.data.toList→48≤b.toNat∧b.toNat≤57)∧(n≠0→bt s 0≠48):=by
 intro n
 induction n using Nat.strongRecOn with
 | _ n ih =>
  intro hn
  by_cases h : n < 10
  ·refine ⟨dig1 n,fun f hf =>?_,fun d _ =>by rw [dig1_size h]; omega,by rw [dig1_size h]; omega,?_,?_,?_⟩
   ·obtain ⟨f,rfl⟩ : ∃ q,f = q + 1:=⟨f - 1,by omega⟩
    rw [group_decimal,if_pos (by simp; omega)]
    rfl
   ·unfold gdv
    rw [dig1_l h]
    simp only [List.foldl_cons,List.foldl_nil,u8n h]
    omega
   ·intro b hb
    rw [dig1_l h,List.mem_singleton] at hb
    rw [hb,u8n h]
    omega
   ·intro h0
    unfold bt
    rw [dig1_l h]
    show ((UInt8.ofNat (48 + n)).toNat : Int)≠48
    rw [u8n h]
    omega
  ·obtain ⟨s,h1,h2,h3,h4,h5,h6⟩:=ih (n / 10) (by omega) (by omega)
   have hr : n % 10 < 10:=by omega
   have hz:=dig1_size hr
   have hs5 : s.size≤5:=h2 4 (by omega)
   have e1 : V.quo (n : Int) (10 : Int) = some ((n / 10 : Nat) : Int):=by
    unfold V.quo
    rw [if_neg (by decide)]
    congr 1
   have e2 : V.rem (n : Int) (10 : Int) = some ((n % 10 : Nat) : Int):=by
    unfold V.rem
    rw [if_neg (by decide)]
    congr 1
   refine ⟨s++dig1 (n % 10),fun f hf =>?_,fun d hd =>?_,by rw [ByteArray.size_append]; omega,?_,?_,?_⟩
   ·obtain ⟨f,rfl⟩ : ∃ q,f = q + 1:=⟨f - 1,by omega⟩
    rw [group_decimal,if_neg (by simp; omega),e1,e2]
    simp only [Option.bind_some]
    rw [w_eq (by omega) (by omega),h1 f (by omega)]
    simp only [Option.bind_some]
    rw [show strOfNums [(IntKind.u8.wrap (i64.wrap (48 + ((n % 10 : Nat) : Int))))] = dig1 (n % 10) from rfl,cat9 (by omega)]
    rfl
   ·rw [ByteArray.size_append,hz]
    cases d with
    | zero =>simp at hd; omega
    | succ d =>
     have:=h2 d (by rw [Nat.pow_succ] at hd; omega)
     omega
   ·unfold gdv at h4 ⊢
    rw [toL_app,dig1_l hr,List.foldl_append,h4]
    simp only [List.foldl_cons,List.foldl_nil,u8n hr]
    omega
   ·intro b hb
    rw [toL_app,dig1_l hr] at hb
    rcases List.mem_append.1 hb with hb | hb
    ·exact h5 b hb
    ·rw [List.mem_singleton] at hb
     rw [hb,u8n hr]
     omega
   ·intro _
    have:=h6 (by omega)
    have e : bt (s++dig1 (n % 10)) 0 = bt s 0:=by
     have h0:=h3.1
     have h0' : s.data.toList.length = s.size:=by simp
     have h' : 0 < s.data.toList.length:=by omega
     unfold bt
     rw [toL_app,List.getD_eq_getElem?_getD,List.getD_eq_getElem?_getD,List.getElem?_append_left h']
    rw [e]
    exact this
def gdg (k : Nat) : ByteArray:=(group_decimal FU (k : Int)).getD ⟨#[]⟩
theorem fold_le : ∀ (l : List UInt8) (a : Nat),(∀ b,b ∈ l→b.toNat≤57)→l.foldl (fun a c =>10 * a + (c.toNat - 48)) a < (a + 1) * 10 ^ l.length
 | [],a,_ =>by simp
 | b :: r,a,h =>by
  have h1:=fold_le r (10 * a + (b.toNat - 48)) fun c hc =>h c (List.mem_cons_of_mem _ hc)
  have h2:=h b List.mem_cons_self
  rw [List.foldl_cons,List.length_cons,Nat.pow_succ]
  refine Nat.lt_of_lt_of_le h1 ?_
  rw [show (a + 1) * (10 ^ r.length * 10) = ((a + 1) * 10) * 10 ^ r.length by rw [Nat.mul_comm (10 ^ r.length) 10,Nat.mul_assoc]]
  exact Nat.mul_le_mul_right _ (by omega)
theorem num_ok {s : ByteArray} (hs : s.size≤9) (hd : ∀ b,b ∈ s.data.toList→48≤b.toNat∧b.toNat≤57) : group_Number.l1 s FU 0 0 = some (.go (gdv s : Int)):=by
 have hl : s.data.toList.length = s.size:=by simp
 have key : ∀ (k i f : Nat),s.size - i = k→k < f→i≤s.size→group_Number.l1 s f (((s.data.toList.take i).foldl (fun a c =>10 * a + (c.toNat - 48)) 0 : Nat) : Int) (i : Int) = some (.go (gdv s : Int)):=by
  intro k
  induction k with
  | zero =>
   intro i f h1 h2 h3
   obtain ⟨f,rfl⟩ : ∃ q,f = q + 1:=⟨f - 1,by omega⟩
   rw [group_Number.l1,if_neg (by simp; omega),List.take_of_length_le (by omega)]
   rfl
  | succ k ih =>
   intro i f h1 h2 h3
   obtain ⟨f,rfl⟩ : ∃ q,f = q + 1:=⟨f - 1,by omega⟩
   have hi : i < s.size:=by omega
   have hi' : i < s.data.toList.length:=by omega
   have hb:=hd _ (List.getElem_mem hi')
   have eb : bt s i = (s.data.toList[i].toNat : Int):=by
    unfold bt
    rw [List.getD_eq_getElem?_getD,List.getElem?_eq_getElem hi']
    rfl
   have hv:=fold_le (s.data.toList.take i) 0 fun c hc =>(hd c (List.mem_of_mem_take hc)).2
   rw [List.length_take,Nat.min_eq_left (by omega)] at hv
   have hp : 10 ^ i≤10 ^ 8:=Nat.pow_le_pow_right (by decide) (by omega)
   generalize hV : (s.data.toList.take i).foldl (fun a c =>10 * a + (c.toNat - 48)) 0 = v at hv
   have hn : (s.data.toList.take (i + 1)).foldl (fun a c =>10 * a + (c.toNat - 48)) 0 = 10 * v + (s.data.toList[i].toNat - 48):=by
    rw [List.take_succ_eq_append_getElem hi',List.foldl_append,hV]
    rfl
   have hvs : v < 100000000:=by
    have : (10 : Nat) ^ 8 = 100000000:=by decide
    omega
   generalize s.data.toList[i].toNat = c at hb eb hn
   rw [group_Number.l1,if_pos (show (decide ((i : Int) < (s.size : Int))) = true by simp; omega),gi_nat hi]
   simp only [Option.bind_some]
   rw [eb,if_neg (by simp; omega)]
   simp only [Option.bind_some]
   rw [if_neg (by simp; omega)]
   have c1 : IntKind.u8.wrap ((c : Int) - 48) = ((c - 48 : Nat) : Int):=by
    unfold IntKind.wrap
    simp [IntKind.signed,IntKind.bits]
    omega
   have c2 : i64.wrap ((i64.wrap (10 * (v : Int))) + (i64.wrap (IntKind.u8.wrap ((c : Int) - 48)))) = ((10 * v + (c - 48) : Nat) : Int):=by
    rw [c1,w_eq (x:=10 * (v : Int)) (by omega) (by omega),w_eq (x:=((c - 48 : Nat) : Int)) (by omega) (by omega),w_eq (by omega) (by omega)]
    omega
   rw [c2,wk1 (by omega),← hn]
   exact ih (i + 1) f (by omega) (by omega) (by omega)
 exact key s.size 0 FU (by omega) (by unfold FU; omega) (Nat.zero_le _)
structure GD (k : Nat) : Prop where
 dec : group_decimal FU (k : Int) = some (gdg k)
 size : (gdg k).size≤4
 pos : 1≤(gdg k).size
 val : gdv (gdg k) = k
 dig : ∀ b,b ∈ (gdg k).data.toList→48≤b.toNat∧b.toNat≤57
 lead : k≠0→V.gi (gdg k) 0≠some 48
 num : group_Number.l1 (gdg k) FU 0 0 = some (.go (k : Int))
theorem gd {k : Nat} (h : k < 6400) : GD k:=by
 obtain ⟨s,h1,h2,h3,h4,h5,h6⟩:=gd_ex k (by omega)
 have e : group_decimal FU (k : Int) = some s:=h1 FU (by unfold FU; omega)
 have es : gdg k = s:=by unfold gdg; rw [e]; rfl
 have hs:=h2 3 (by omega)
 refine ⟨by rw [e,es],by rw [es]; omega,by rw [es]; omega,by rw [es]; exact h4,by rw [es]; exact h5,fun h0 q =>?_,by rw [es,num_ok (by omega) h5,h4]⟩
 rw [es] at q
 have:=gi_nat (s:=s) (i:=0) (by omega)
 have q' : V.gi s ((0 : Nat) : Int) = some 48:=q
 rw [this] at q'
 exact h6 h0 (Option.some.inj q')
def dashB : ByteArray:=⟨#[45]⟩
def nm (s : ByteArray) (k : Nat) : ByteArray:=s++dashB++gdg k
def gm (g : T_api_Group) (k : Nat) : T_api_Machine:=⟨nm g.Name k,g.Like.Group,g.Like.Has,g.Like.Labels,g.Like.Taints,g.Like.Ready⟩
theorem dash_size : dashB.size = 1:=rfl
theorem nm_size {s : ByteArray} {k : Nat} (h : k < 6400) : s.size + 2≤(nm s k).size∧(nm s k).size≤s.size + 5:=by
 have h1:=(gd h).size
 have h2:=(gd h).pos
 unfold nm
 rw [ByteArray.size_append,ByteArray.size_append,dash_size]
 omega
theorem gMachine_eq {g : T_api_Group} (hg : LM g.Like) (hn : g.Name.size≤300) {k : Nat} (h : k < 6400) (h1 : 1≤k) : group_Machine g (k : Int) = some (gm g k):=by
 have h2:=hg.labels.1
 have h3:=hg.taints.1
 have hd:=(gd h).size
 have hs:=dash_size
 unfold group_Machine
 rw [if_neg (by simp; omega),show (ByteArray.mk #[45]) = dashB from rfl,cat9 (by omega),(gd h).dec]
 simp only [Option.bind_some]
 rw [cat9 (by rw [ByteArray.size_append]; omega),ap_ok (by omega) (by simp; omega),ap_ok (by omega) (by simp; omega)]
 rfl
theorem ss_low {a b : ByteArray} (h : (a++b).size≤1000000) : V.ss (a++b) none (some (a.size : Int)) = some a:=by
 have hs : (a++b).size = a.size + b.size:=ByteArray.size_append
 unfold V.ss
 have e1 : lowN none = 0:=rfl
 have e2 : highN (a++b).size (some (a.size : Int)) = a.size:=by simp [highN]
 rw [e1,e2,if_pos ⟨⟨by simp,by simp⟩,by omega,by omega⟩]
 congr 1
 apply ByteArray.ext
 simp
theorem ss_high {a b : ByteArray} (h : (a++b).size≤1000000) : V.ss (a++b) (some (a.size : Int)) none = some b:=by
 have hs : (a++b).size = a.size + b.size:=ByteArray.size_append
 unfold V.ss
 have e1 : lowN (some (a.size : Int)) = a.size:=by simp [lowN]
 have e2 : highN (a++b).size none = (a++b).size:=rfl
 rw [e1,e2,if_pos ⟨⟨by simp,by simp⟩,by omega,by omega⟩]
 congr 1
 apply ba_ex
 have ea : a.data.toList.length = a.size:=by simp
 have eb : b.data.toList.length = b.size:=by simp
 rw [ByteArray.data_extract,Array.toList_extract,toL_app,List.extract_eq_take_drop,hs,← ea,List.drop_left,List.take_of_length_le (by omega)]
theorem gNumber_eq {g : T_api_Group} (hn : g.Name.size≤300) {k : Nat} (h : k < 6400) (h1 : 1≤k) : group_Number g (nm g.Name k) = some (k : Int):=by
 have hs:=dash_size
 have hz:=nm_size (s:=g.Name) h
 have hd:=(gd h).size
 have hp:=(gd h).pos
 have hv : (g.Name++dashB).size = g.Name.size + 1:=by rw [ByteArray.size_append,hs]
 unfold group_Number
 rw [show (ByteArray.mk #[45]) = dashB from rfl,cat9 (by omega)]
 simp only [Option.bind_some]
 rw [if_neg (by simp; omega)]
 have l1 : V.ss (nm g.Name k) none (some ((g.Name++dashB).size : Int)) = some (g.Name++dashB):=ss_low (by rw [ByteArray.size_append]; omega)
 have l2 : V.ss (nm g.Name k) (some ((g.Name++dashB).size : Int)) none = some (gdg k):=ss_high (by rw [ByteArray.size_append]; omega)
 rw [l1,l2]
 simp only [Option.bind_some,seq_eq,decide_true,Bool.not_true,Bool.false_eq_true,if_false]
 obtain ⟨v,hv⟩ : ∃ v,V.gi (gdg k) 0 = some v:=⟨_,by unfold V.gi; rw [if_pos (by omega)]⟩
 have hl : v≠48:=fun e =>(gd h).lead (by omega) (by rw [hv,e])
 rw [hv]
 simp only [Option.bind_some]
 rw [if_neg (by simp; exact ⟨hl,by omega⟩),(gd h).num]
 rfl
theorem dash_inj {α : Type} {x : α} {a b d e : List α} (hd : x ∉ d) (he : x ∉ e) (h : a++x :: d = b++x :: e) : a = b∧d = e:=by
 rcases List.append_eq_append_iff.1 h with ⟨c,h1,h2⟩ | ⟨c,h1,h2⟩
 ·cases c with
  | nil =>simp at h1 h2; exact ⟨h1.symm,h2⟩
  | cons y c =>
   simp only [List.cons_append,List.cons.injEq] at h2
   exact absurd (by rw [h2.2]; simp) hd
 ·cases c with
  | nil =>simp at h1 h2; exact ⟨h1,h2.symm⟩
  | cons y c =>
   simp only [List.cons_append,List.cons.injEq] at h2
   exact absurd (by rw [h2.2]; simp) he
theorem gdg_no45 {k : Nat} (h : k < 6400) : (45 : UInt8) ∉ (gdg k).data.toList:=fun hm =>by
 have:=(gd h).dig _ hm
 have e : (45 : UInt8).toNat = 45:=rfl
 omega
theorem nm_inj {s t : ByteArray} {j k : Nat} (hj : j < 6400) (hk : k < 6400) (h : nm s j = nm t k) : s = t∧j = k:=by
 have h':=congrArg (fun b : ByteArray =>b.data.toList) h
 simp only [nm,toL_app,List.append_assoc] at h'
 obtain ⟨h1,h2⟩:=dash_inj (x:=(45 : UInt8)) (gdg_no45 hj) (gdg_no45 hk) h'
 refine ⟨ba_ex h1,?_⟩
 rw [← (gd hj).val,← (gd hk).val,ba_ex h2]
theorem nm_word {s : ByteArray} {k : Nat} (h : k < 6400) (hs : s.size≤48) (hw : ref01_Word s = some true) : ref01_Word (nm s k) = some true:=by
 have hd:=(gd h).size
 have hz:=dash_size
 unfold nm
 have e : s++dashB++gdg k = s++(dashB++gdg k):=by apply ba_ex; simp
 rw [e]
 refine Word_app (by rw [ByteArray.size_append]; omega) hw fun i hi =>?_
 obtain ⟨b,hb,e⟩:=bt_mem hi
 rw [e]
 rw [toL_app] at hb
 rcases List.mem_append.1 hb with hb | hb
 ·have : b = 45:=by simpa [dashB] using hb
  subst this
  unfold pb
  decide
 ·have:=(gd h).dig _ hb
  unfold pb
  omega
theorem nm_ne {s : ByteArray} {k : Nat} (h : k < 6400) : nm s k≠⟨#[]⟩:=fun e =>by
 have:=(nm_size (s:=s) h).1
 rw [e] at this
 have e2 : (ByteArray.mk #[]).size = 0:=rfl
 omega
end Go.Proofs.YtbgfffdnaijmhaaGreat.M
/-
  Plain laws of the provider: what is so of its pools and instances; more instances. Own text.
-/
namespace Go.Proofs.YtbgfffdnaijmhaaGreat.M
open Go Go.Proofs Go.Proofs.YtbgfffdnaijmhaaGreat.V
open Go.IntKind (i64)
set_option linter.unusedVariables false
set_option maxRecDepth 100000
def at1 {α : Type} (d : α) (l : List α) (n : Nat) : α:=l.getD (n - 1) d
theorem pg_at {α : Type} {d : α} {l : List α} {n : Nat} (h : 1≤n∧n≤l.length) : V.pg l n = some (at1 d l n):=by
 obtain ⟨k,rfl⟩ : ∃ k,n = k + 1:=⟨n - 1,by omega⟩
 show l[k]? = some (at1 d l (k + 1))
 unfold at1
 rw [Nat.add_sub_cancel,List.getD_eq_getElem?_getD,List.getElem?_eq_getElem (by omega)]
 rfl
theorem pst_len {α : Type} {l : List α} {n : Nat} {x : α} : (V.pst l n x).length = l.length:=by unfold V.pst; simp
theorem at1_pst {α : Type} {d : α} {l : List α} {n m : Nat} {x : α} (hn : 1≤n∧n≤l.length) (hm : 1≤m) : at1 d (V.pst l n x) m = if m = n then x else at1 d l m:=by
 unfold at1 V.pst
 rw [List.getD_eq_getElem?_getD,List.getD_eq_getElem?_getD,List.getElem?_set]
 by_cases e : m = n
 ·subst e; rw [if_pos rfl,if_pos rfl,if_pos (by omega)]; rfl
 ·rw [if_neg (by omega),if_neg e]
theorem at1_mem {α : Type} {d : α} {l : List α} {n : Nat} (h : 1≤n∧n≤l.length) : at1 d l n ∈ l:=by
 unfold at1
 rw [List.getD_eq_getElem?_getD,List.getElem?_eq_getElem (by omega)]
 exact List.getElem_mem _
theorem at1_app {α : Type} {d : α} {l m : List α} {n : Nat} (h : 1≤n∧n≤l.length) : at1 d (l++m) n = at1 d l n:=by
 unfold at1
 rw [List.getD_eq_getElem?_getD,List.getD_eq_getElem?_getD,List.getElem?_append_left (by omega)]
theorem at1_new {α : Type} {d x : α} {l : List α} : at1 d (l++[x]) (l.length + 1) = x:=by
 unfold at1
 rw [Nat.add_sub_cancel,List.getD_eq_getElem?_getD,List.getElem?_append_right (Nat.le_refl _)]
 simp
def mm0 : T_api_Machine:=⟨⟨#[]⟩,⟨#[]⟩,⟨0,0,0,0,0⟩,[],[],false⟩
def gg0 : T_api_Group:=⟨⟨#[]⟩,0,0,mm0,0,0⟩
def px0 : T_cloud_pool:=⟨gg0,0,0,false⟩
def ix0 : T_cloud_inst:=⟨⟨#[]⟩,0,0,.nil⟩
abbrev P1 (ps : List T_cloud_pool) (n : Nat) : T_cloud_pool:=at1 px0 ps n
abbrev I1 (xs : List T_cloud_inst) (n : Nat) : T_cloud_inst:=at1 ix0 xs n
structure GG (g : T_api_Group) : Prop where
 word : ref01_Word g.Name = some true
 size : g.Name.size≤48
 ne : g.Name≠⟨#[]⟩
 min : 0≤g.Min
 mm : g.Min≤g.Max
 max1 : 1≤g.Max
 max : g.Max≤200
 like : LM g.Like
 lname : g.Like.Name = ⟨#[]⟩
 lgroup : g.Like.Group = g.Name
 lready : g.Like.Ready = true
 mach : machB g.Like = true
structure GR (G : List T_api_Group) : Prop where
 gg : ∀ g,g ∈ G→GG g
 nd : (G.map (·.Name)).Nodup
 len : G.length≤16
def tickOk : I_cloud_state→Prop
 | .nil =>False
 | .c151 x =>1≤x.ticks∧x.ticks≤1000
 | _ =>True
structure IG (ps : List T_cloud_pool) (x : T_cloud_inst) : Prop where
 of : 1≤x.of∧x.of≤ps.length
 st : tickOk x.in_
 num : ∃ k : Nat,1≤k∧(k : Int)≤(P1 ps x.of).last∧x.name = nm (P1 ps x.of).Group.Name k
def leavB (x : I_cloud_state) : Bool:=match x with | .c159 _ =>true | _ =>false
def ofB (xs : List T_cloud_inst) (j i : Nat) : Bool:=decide ((I1 xs i).of = j) && !leavB (I1 xs i).in_
def cnt (xs : List T_cloud_inst) (j : Nat) (l : List Nat) : Nat:=(l.filter (ofB xs j)).length
structure CI (G : List T_api_Group) (LB XB : Nat) (c : T_cloud_Cloud) (ps : List T_cloud_pool) (xs : List T_cloud_inst) : Prop where
 del : 1≤c.delay∧c.delay≤1000
 pools : c.pools = List.range' 1 ps.length
 grp : ps.map (·.Group) = G
 tgt : ∀ p,p ∈ ps→p.Group.Min≤p.target∧p.target≤p.Group.Max
 last : ∀ p,p ∈ ps→0≤p.last∧p.last≤LB
 xl : xs.length≤XB
 inc : c.insts.Pairwise (· < ·)
 val : ∀ i,i ∈ c.insts→1≤i∧i≤xs.length
 good : ∀ i,i ∈ c.insts→IG ps (I1 xs i)
 nd : (c.insts.map fun i =>(I1 xs i).name).Nodup
 size : ∀ j,1≤j→j≤ps.length→(cnt xs j c.insts : Int)≤(P1 ps j).target
theorem nodup_get {α β : Type} {f : α→β} : ∀ {l : List α},(l.map f).Nodup→∀ {i j : Nat} (hi : i < l.length) (hj : j < l.length),f l[i] = f l[j]→i = j
 | l,h,i,j,hi,hj,e =>by
  have h':=List.pairwise_map.1 h
  rw [List.pairwise_iff_getElem] at h'
  rcases Nat.lt_trichotomy i j with q | q | q
  ·exact absurd e (h' i j hi hj q)
  ·exact q
  ·exact absurd e.symm (h' j i hj hi q)
theorem P1_of {ps : List T_cloud_pool} {G : List T_api_Group} (hg : ps.map (·.Group) = G) (hn : (G.map (·.Name)).Nodup) {i j : Nat} (hi : 1≤i∧i≤ps.length) (hj : 1≤j∧j≤ps.length) (e : (P1 ps i).Group.Name = (P1 ps j).Group.Name) : i = j:=by
 subst hg
 rw [List.map_map] at hn
 have h1 : (P1 ps i) = ps[i - 1]'(by omega):=by
  unfold P1 at1
  rw [List.getD_eq_getElem?_getD,List.getElem?_eq_getElem (by omega)]; rfl
 have h2 : (P1 ps j) = ps[j - 1]'(by omega):=by
  unfold P1 at1
  rw [List.getD_eq_getElem?_getD,List.getElem?_eq_getElem (by omega)]; rfl
 rw [h1,h2] at e
 have:=nodup_get (f:=fun p : T_cloud_pool =>p.Group.Name) hn (by omega) (by omega) e
 omega
theorem P1_mem {ps : List T_cloud_pool} {n : Nat} (h : 1≤n∧n≤ps.length) : P1 ps n ∈ ps:=at1_mem h
theorem P1_gg {ps : List T_cloud_pool} {G : List T_api_Group} (hg : ps.map (·.Group) = G) (hr : GR G) {n : Nat} (h : 1≤n∧n≤ps.length) : GG (P1 ps n).Group :=
 hr.gg _ (by rw [← hg]; exact List.mem_map_of_mem (P1_mem h))
theorem map_pst {ps : List T_cloud_pool} {n : Nat} {x : T_cloud_pool} (h : 1≤n∧n≤ps.length) (e : x.Group = (P1 ps n).Group) : (V.pst ps n x).map (·.Group) = ps.map (·.Group):=by
 apply List.ext_getElem (by simp [pst_len])
 intro i h1 h2
 simp only [List.getElem_map]
 have hi : i < ps.length:=by simpa using h2
 unfold V.pst
 rw [List.getElem_set]
 split
 ·rename_i q
  rw [e]
  unfold P1 at1
  rw [List.getD_eq_getElem?_getD,List.getElem?_eq_getElem (by omega)]
  simp only [Option.getD_some]
  congr 2
 ·rfl
theorem mem_pst {α : Type} {d : α} {l : List α} {n : Nat} {x y : α} (h : y ∈ V.pst l n x) : y = x∨y ∈ l:=by
 unfold V.pst at h
 exact (List.mem_or_eq_of_mem_set h).symm
theorem IG_pst {ps : List T_cloud_pool} {n : Nat} {y : T_cloud_pool} {x : T_cloud_inst} (hn : 1≤n∧n≤ps.length) (eg : y.Group = (P1 ps n).Group) (el : (P1 ps n).last≤y.last) (h : IG ps x) : IG (V.pst ps n y) x:=by
 obtain ⟨h1,h2,k,h3,h4,h5⟩:=h
 refine ⟨by rw [pst_len]; exact h1,h2,k,h3,?_,?_⟩
 ·unfold P1
  rw [at1_pst hn h1.1]
  split
  ·rename_i e; rw [e] at h4; omega
  ·exact h4
 ·unfold P1
  rw [at1_pst hn h1.1]
  split
  ·rename_i e; rw [e] at h5; rw [eg]; exact h5
  ·exact h5
theorem I1_app {xs : List T_cloud_inst} {x : T_cloud_inst} {i : Nat} (h : 1≤i∧i≤xs.length) : I1 (xs++[x]) i = I1 xs i:=at1_app h
theorem filter_app {xs : List T_cloud_inst} {x : T_cloud_inst} {j : Nat} {l : List Nat} (h : ∀ i,i ∈ l→1≤i∧i≤xs.length) : l.filter (ofB (xs++[x]) j) = l.filter (ofB xs j):=by
 apply List.filter_congr
 intro i hi
 unfold ofB
 rw [I1_app (h i hi)]
def nms (c : T_cloud_Cloud) (xs : List T_cloud_inst) : List ByteArray:=c.insts.map fun i =>(I1 xs i).name
def UN (ps : List T_cloud_pool) (s : ByteArray) : Prop:=∃ n k : Nat,(1≤n∧n≤ps.length)∧(1≤k∧k < 6400)∧(k : Int)≤(P1 ps n).last∧s = nm (P1 ps n).Group.Name k
structure NM (c : T_cloud_Cloud) (ps : List T_cloud_pool) (xs : List T_cloud_inst) (c' : T_cloud_Cloud) (ps' : List T_cloud_pool) (xs' : List T_cloud_inst) : Prop where
 old : ∀ s,s ∈ nms c xs→s ∈ nms c' xs'
 un : ∀ s,UN ps s→UN ps' s
 new : ∀ s,UN ps s→s ∈ nms c' xs'→s ∈ nms c xs
theorem NM.refl (c : T_cloud_Cloud) (ps : List T_cloud_pool) (xs : List T_cloud_inst) : NM c ps xs c ps xs:=⟨fun _ h =>h,fun _ h =>h,fun _ _ h =>h⟩
theorem NM.trans {c c1 c2 : T_cloud_Cloud} {ps ps1 ps2 : List T_cloud_pool} {xs xs1 xs2 : List T_cloud_inst} (h : NM c ps xs c1 ps1 xs1) (h' : NM c1 ps1 xs1 c2 ps2 xs2) : NM c ps xs c2 ps2 xs2 :=
 ⟨fun s q =>h'.old s (h.old s q),fun s q =>h'.un s (h.un s q),fun s q q' =>h.new s q (h'.new s (h.un s q) q')⟩
theorem UN_pst {ps : List T_cloud_pool} {n : Nat} {y : T_cloud_pool} (hn : 1≤n∧n≤ps.length) (eg : y.Group = (P1 ps n).Group) (el : (P1 ps n).last≤y.last) {s : ByteArray} (h : UN ps s) : UN (V.pst ps n y) s:=by
 obtain ⟨m,k,h1,h2,h3,h4⟩:=h
 refine ⟨m,k,by rw [pst_len]; exact h1,h2,?_,?_⟩
 ·unfold P1
  rw [at1_pst hn h1.1]
  split
  ·rename_i e; rw [e] at h3; omega
  ·exact h3
 ·unfold P1
  rw [at1_pst hn h1.1]
  split
  ·rename_i e; rw [e] at h4; rw [eg]; exact h4
  ·exact h4
theorem more1 {G : List T_api_Group} {LB XB : Nat} {c : T_cloud_Cloud} {ps : List T_cloud_pool} {xs : List T_cloud_inst} (h : CI G LB XB c ps xs) (hr : GR G) {p : Nat} (hp : 1≤p∧p≤ps.length) {st : I_cloud_state} (hst : tickOk st) (hl : LB < 6399) (hx : XB < 100000)
  (hs : (cnt xs p c.insts : Int) + 1≤(P1 ps p).target) :
  ∃ k : Nat,(k : Int) = (P1 ps p).last + 1∧1≤k∧k < 6400 ∧
  CI G (LB + 1) (XB + 1) ⟨c.pools,c.insts++[xs.length + 1],c.delay,c.now,c.calls⟩ (V.pst ps p ⟨(P1 ps p).Group,(P1 ps p).target,(P1 ps p).last + 1,(P1 ps p).broken⟩) (xs++[⟨nm (P1 ps p).Group.Name k,p,c.now,st⟩]) ∧
  (cnt (xs++[⟨nm (P1 ps p).Group.Name k,p,c.now,st⟩]) p (c.insts++[xs.length + 1]) : Int)≤cnt xs p c.insts + 1 ∧
  NM c ps xs ⟨c.pools,c.insts++[xs.length + 1],c.delay,c.now,c.calls⟩ (V.pst ps p ⟨(P1 ps p).Group,(P1 ps p).target,(P1 ps p).last + 1,(P1 ps p).broken⟩) (xs++[⟨nm (P1 ps p).Group.Name k,p,c.now,st⟩]):=by
 have hlast:=h.last _ (P1_mem hp)
 refine ⟨((P1 ps p).last + 1).toNat,by omega,by omega,by omega,?_,?_,?_⟩
 all_goals generalize hk : ((P1 ps p).last + 1).toNat = k
 ·have hke : (k : Int) = (P1 ps p).last + 1:=by omega
  have hval : ∀ i,i ∈ c.insts→1≤i∧i≤xs.length:=h.val
  refine ⟨h.del,?_,?_,?_,?_,?_,?_,?_,?_,?_,?_⟩
  ·rw [pst_len]; exact h.pools
  ·exact (map_pst hp (by rfl)).trans h.grp
  ·intro q hq
   rcases mem_pst (d:=px0) hq with rfl | hq
   ·have:=h.tgt (P1 ps p) (P1_mem hp); exact this
   ·exact h.tgt _ hq
  ·intro q hq
   rcases mem_pst (d:=px0) hq with rfl | hq
   ·exact ⟨by show 0≤(P1 ps p).last + 1; omega,by show (P1 ps p).last + 1≤_; omega⟩
   ·have:=h.last _ hq; omega
  ·have:=h.xl; simp; omega
  ·refine List.pairwise_append.2 ⟨h.inc,by simp,?_⟩
   intro a ha b hb
   rw [List.mem_singleton] at hb
   have:=hval a ha
   omega
  ·intro i hi
   rw [List.length_append]
   rcases List.mem_append.1 hi with hi | hi
   ·have:=hval i hi; simp; omega
   ·rw [List.mem_singleton] at hi; subst hi; simp
  ·intro i hi
   rcases List.mem_append.1 hi with hi | hi
   ·rw [I1_app (hval i hi)]
    exact IG_pst hp rfl (by show (P1 ps p).last≤(P1 ps p).last + 1; omega) (h.good i hi)
   ·rw [List.mem_singleton] at hi
    subst hi
    unfold I1
    rw [at1_new]
    refine ⟨by rw [pst_len]; exact hp,hst,k,by omega,?_,?_⟩
    ·unfold P1; rw [at1_pst hp hp.1,if_pos rfl]; show (k : Int)≤(P1 ps p).last + 1; omega
    ·unfold P1; rw [at1_pst hp hp.1,if_pos rfl]
  ·rw [List.map_append]
   have e1 : (c.insts.map fun i =>(I1 (xs++[⟨nm (P1 ps p).Group.Name k,p,c.now,st⟩]) i).name) = c.insts.map fun i =>(I1 xs i).name:=List.map_congr_left fun i hi =>by rw [I1_app (hval i hi)]
   show (List.map (fun i =>(I1 (xs++[⟨nm (P1 ps p).Group.Name k,p,c.now,st⟩]) i).name) c.insts++List.map (fun i =>(I1 (xs++[⟨nm (P1 ps p).Group.Name k,p,c.now,st⟩]) i).name) [xs.length + 1]).Nodup
   rw [e1]
   refine List.nodup_append.2 ⟨h.nd,by simp,?_⟩
   intro a ha b hb e
   simp only [List.map_cons,List.map_nil,List.mem_singleton] at hb
   unfold I1 at hb
   rw [at1_new] at hb
   obtain ⟨i,hi,rfl⟩:=List.mem_map.1 ha
   obtain ⟨g1,g2,k',g3,g4,g5⟩:=h.good i hi
   rw [hb,g5] at e
   have hlast':=h.last _ (P1_mem g1)
   obtain ⟨e1,e2⟩:=nm_inj (by omega) (by omega) e
   have:=P1_of h.grp hr.nd g1 hp e1
   rw [this] at g4
   omega
  ·intro j h1 h2
   rw [pst_len] at h2
   show (cnt (xs++[_]) j (c.insts++[xs.length + 1]) : Int)≤_
   unfold cnt
   rw [List.filter_append,filter_app hval]
   have hj:=h.size j h1 h2
   unfold cnt at hj hs
   unfold P1
   rw [at1_pst hp h1]
   by_cases e : j = p
   ·subst e
    rw [if_pos rfl]
    have : (List.filter (ofB (xs++[⟨nm (P1 ps j).Group.Name k,j,c.now,st⟩]) j) [xs.length + 1]).length≤1:=List.length_filter_le _ [xs.length + 1]
    rw [List.length_append]
    show _≤(P1 ps j).target
    have e3 : ∀ a b : Nat,b≤1→(a : Int) + 1≤(P1 ps j).target→((a + b : Nat) : Int)≤(P1 ps j).target:=fun a b q1 q2 =>by omega
    exact e3 _ _ this hs
   ·rw [if_neg e]
    have : List.filter (ofB (xs++[⟨nm (P1 ps p).Group.Name k,p,c.now,st⟩]) j) [xs.length + 1] = []:=by
     simp only [List.filter_cons,List.filter_nil]
     unfold ofB I1
     rw [at1_new]
     simp [Ne.symm e]
    rw [this,List.append_nil]
    exact hj
 ·unfold cnt
  rw [List.filter_append,filter_app h.val,List.length_append]
  have : (List.filter (ofB (xs++[⟨nm (P1 ps p).Group.Name k,p,c.now,st⟩]) p) [xs.length + 1]).length≤1:=List.length_filter_le _ [xs.length + 1]
  omega
 ·have hke : (k : Int) = (P1 ps p).last + 1:=by omega
  have hn : nms ⟨c.pools,c.insts++[xs.length + 1],c.delay,c.now,c.calls⟩ (xs++[⟨nm (P1 ps p).Group.Name k,p,c.now,st⟩]) = nms c xs++[nm (P1 ps p).Group.Name k]:=by
   unfold nms
   show List.map _ (c.insts++[xs.length + 1]) = _
   rw [List.map_append]
   congr 1
   ·exact List.map_congr_left fun i hi =>by rw [I1_app (h.val i hi)]
   ·simp only [List.map_cons,List.map_nil]
    unfold I1
    rw [at1_new]
  refine ⟨fun s hs =>by rw [hn]; exact List.mem_append_left _ hs,fun s hs =>UN_pst hp (by rfl) (by show (P1 ps p).last≤(P1 ps p).last + 1; omega) hs,fun s hs hm =>?_⟩
  rw [hn] at hm
  rcases List.mem_append.1 hm with hm | hm
  ·exact hm
  ·rw [List.mem_singleton] at hm
   obtain ⟨n,k',g1,g2,g3,g4⟩:=hs
   rw [g4] at hm
   obtain ⟨e1,e2⟩:=nm_inj g2.2 (by omega) hm
   have:=P1_of h.grp hr.nd g1 hp e1
   rw [this] at g3
   omega
end Go.Proofs.YtbgfffdnaijmhaaGreat.M

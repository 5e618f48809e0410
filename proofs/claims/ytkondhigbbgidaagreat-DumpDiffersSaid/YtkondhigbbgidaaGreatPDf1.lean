/-
  Printed by a program of this session out of the loaded functions: models and their proofs. Own text.
-/
import Derived.Test.YtkondhigbbgidaaGreatPSn2
import Derived.Test.YtkondhigbbgidaaGreatPFitT
/-
  Plain law: how two yards differ. Own text.
-/
namespace Go.Proofs.YtkondhigbbgidaaGreat.M
open Go Go.Proofs Go.Proofs.YtkondhigbbgidaaGreat.V
open Go.IntKind (i64)
set_option linter.unusedVariables false
set_option maxRecDepth 20000
theorem known34_true : law34_known = some true:=by kernel_rfl
theorem catD {a b : ByteArray} (h : a.size + b.size≤1000000) : V.cat a b = some (a++b):=by
  unfold V.cat
  rw [if_pos (by unfold maxLen; omega)]
def nmIn (b : List T_api_Machine) (n : ByteArray) : Bool:=b.any fun x =>decide (x.Name = n)
theorem nmIn_iff {b : List T_api_Machine} {n : ByteArray} : nmIn b n = true↔n ∈ b.map (·.Name):=by
  unfold nmIn; rw [List.any_eq_true,List.mem_map]
  exact ⟨fun ⟨x,h1,h2⟩ =>⟨x,h1,of_decide_eq_true h2⟩,fun ⟨x,h1,h2⟩ =>⟨x,h1,decide_eq_true h2⟩⟩
def lostE (b : List T_api_Machine) (sign : ByteArray) (m : T_api_Machine) : List ByteArray:=if nmIn b m.Name = true then [] else [sign++m.Name]
theorem lostE_in {b : List T_api_Machine} {sign : ByteArray} {m : T_api_Machine} (h : m.Name ∈ b.map (·.Name)) : lostE b sign m = []:=by unfold lostE; rw [if_pos (nmIn_iff.2 h)]
theorem lostE_out {b : List T_api_Machine} {sign : ByteArray} {m : T_api_Machine} (h : m.Name ∉ b.map (·.Name)) : lostE b sign m = [sign++m.Name]:=by unfold lostE; rw [if_neg (mt nmIn_iff.1 h)]
def lostL (a b : List T_api_Machine) (sign : ByteArray) : List ByteArray:=a.flatMap (lostE b sign)
theorem lostE_len (b : List T_api_Machine) (sign : ByteArray) (m : T_api_Machine) : (lostE b sign m).length≤1:=by
  unfold lostE; split<;>simp
theorem fm_len {α β : Type} {f : α→List β} (h : ∀ a,(f a).length≤1) : ∀ l : List α,(l.flatMap f).length≤l.length
  | [] =>Nat.le_refl 0
  | a :: l =>by rw [List.flatMap_cons,List.length_append]; have:=h a; have:=fm_len h l; rw [List.length_cons]; omega
theorem lost_p (b : List T_api_Machine) (sign : ByteArray) (hs : sign.size≤10) (hb : b.length≤100) : ∀ (l : List T_api_Machine) (k : Nat) (acc : List ByteArray),(∀ m,m ∈ l→m.Name.size≤300)→acc.length + l.length≤1000→dump_Diff_1.l1 b sign l k acc = some (acc++lostL l b sign)
  | [],k,acc,_,_ =>by rw [dump_Diff_1.l1]; simp [lostL]
  | m :: l,k,acc,hn,hl =>by
    rw [dump_Diff_1.l1]
    obtain ⟨r,h1,_,h3⟩:=find_d b m.Name (by omega)
    simp only [List.length_cons] at hl
    have hm:=hn m (List.mem_cons_self ..)
    rw [h1]
    simp only [Option.bind_some]
    have hc : lostL (m :: l) b sign = lostE b sign m++lostL l b sign:=by simp [lostL]
    rcases h3 with ⟨rfl,h4⟩ | ⟨q,rfl,h5,h6⟩
    · rw [if_pos (by decide),catD (by omega)]
      simp only [Option.bind_some]
      rw [ap_ok (by omega) (by simp only [List.length_append,List.length_cons,List.length_nil]; omega)]
      simp only [Option.bind_some]
      rw [lost_p b sign hs hb l (k + 1) _ (fun x hx =>hn x (List.mem_cons_of_mem _ hx)) (by simp only [List.length_append,List.length_cons,List.length_nil]; omega),hc]
      simp [lostE_out h4]
    · rw [if_neg (by simp<;>omega),lost_p b sign hs hb l (k + 1) _ (fun x hx =>hn x (List.mem_cons_of_mem _ hx)) (by omega),hc]
      simp [lostE_in (List.mem_map.2 ⟨b[q],List.getElem_mem h5,h6⟩)]
theorem lost_r1 (a b : List T_api_Machine) (hb : b.length≤100) (ha : a.length≤100) (hn : ∀ m,m ∈ a→m.Name.size≤300) : ∀ (d k n : Nat) (acc : List ByteArray),k + d = a.length→d < n→acc.length + d≤1000→ref34_Diff.l1 a b n acc (k : Int) = some (acc++lostL (a.drop k) b (⟨#[45,32]⟩ : ByteArray))
  | 0,k,n + 1,acc,hk,_,_ =>by
    have : k = a.length:=by omega
    subst this
    rw [ref34_Diff.l1,if_neg dnl]; simp [lostL]
  | d + 1,k,n + 1,acc,hk,hn',hl =>by
    have hlt : k < a.length:=by omega
    have hm:=hn a[k] (List.getElem_mem hlt)
    obtain ⟨r,_,h1,h3⟩:=find_d b a[k].Name (by omega)
    have hc : lostL (a.drop k) b (⟨#[45,32]⟩ : ByteArray) = lostE b (⟨#[45,32]⟩ : ByteArray) a[k]++lostL (a.drop (k + 1)) b (⟨#[45,32]⟩ : ByteArray):=by unfold lostL; rw [List.drop_eq_getElem_cons hlt,List.flatMap_cons]
    rw [ref34_Diff.l1,if_pos (dlt hlt),glk hlt]
    simp only [Option.bind_some]
    rw [h1]
    simp only [Option.bind_some]
    have hsz : (⟨#[45,32]⟩ : ByteArray).size = 2:=rfl
    rw [wk1 (by omega)]
    rcases h3 with ⟨rfl,h4⟩ | ⟨q,rfl,h5,h6⟩
    · rw [if_pos (by decide),catD (by omega)]
      simp only [Option.bind_some]
      rw [ap_ok (by omega) (by simp only [List.length_append,List.length_cons,List.length_nil]; omega)]
      simp only [Option.bind_some]
      rw [lost_r1 a b hb ha hn d (k + 1) n _ (by omega) (by omega) (by simp only [List.length_append,List.length_cons,List.length_nil]; omega),hc]
      simp [lostE_out h4]
    · rw [if_neg (by simp<;>omega),lost_r1 a b hb ha hn d (k + 1) n _ (by omega) (by omega) (by omega),hc]
      simp [lostE_in (List.mem_map.2 ⟨b[q],List.getElem_mem h5,h6⟩)]
  | _,_,0,_,_,h,_ =>by omega
theorem lost_r2 (a b : List T_api_Machine) (hb : b.length≤100) (ha : a.length≤100) (hn : ∀ m,m ∈ a→m.Name.size≤300) : ∀ (d k n : Nat) (acc : List ByteArray),k + d = a.length→d < n→acc.length + d≤1000→ref34_Diff.l2 b a n acc (k : Int) = some (acc++lostL (a.drop k) b (⟨#[43,32]⟩ : ByteArray))
  | 0,k,n + 1,acc,hk,_,_ =>by
    have : k = a.length:=by omega
    subst this
    rw [ref34_Diff.l2,if_neg dnl]; simp [lostL]
  | d + 1,k,n + 1,acc,hk,hn',hl =>by
    have hlt : k < a.length:=by omega
    have hm:=hn a[k] (List.getElem_mem hlt)
    obtain ⟨r,_,h1,h3⟩:=find_d b a[k].Name (by omega)
    have hc : lostL (a.drop k) b (⟨#[43,32]⟩ : ByteArray) = lostE b (⟨#[43,32]⟩ : ByteArray) a[k]++lostL (a.drop (k + 1)) b (⟨#[43,32]⟩ : ByteArray):=by unfold lostL; rw [List.drop_eq_getElem_cons hlt,List.flatMap_cons]
    rw [ref34_Diff.l2,if_pos (dlt hlt),glk hlt]
    simp only [Option.bind_some]
    rw [h1]
    simp only [Option.bind_some]
    have hsz : (⟨#[43,32]⟩ : ByteArray).size = 2:=rfl
    rw [wk1 (by omega)]
    rcases h3 with ⟨rfl,h4⟩ | ⟨q,rfl,h5,h6⟩
    · rw [if_pos (by decide),catD (by omega)]
      simp only [Option.bind_some]
      rw [ap_ok (by omega) (by simp only [List.length_append,List.length_cons,List.length_nil]; omega)]
      simp only [Option.bind_some]
      rw [lost_r2 a b hb ha hn d (k + 1) n _ (by omega) (by omega) (by simp only [List.length_append,List.length_cons,List.length_nil]; omega),hc]
      simp [lostE_out h4]
    · rw [if_neg (by simp<;>omega),lost_r2 a b hb ha hn d (k + 1) n _ (by omega) (by omega) (by omega),hc]
      simp [lostE_in (List.mem_map.2 ⟨b[q],List.getElem_mem h5,h6⟩)]
  | _,_,0,_,_,h,_ =>by omega
def dashB (s : ByteArray) : ByteArray:=if s = ⟨#[]⟩ then (⟨#[45]⟩ : ByteArray) else s
theorem dash_p (s : ByteArray) : dump_dash s = some (dashB s):=by
  unfold dump_dash dashB
  rw [seq_eq]
  by_cases h : s = ⟨#[]⟩
  · rw [if_pos (by simpa using h),if_pos h]
  · rw [if_neg (by simpa using h),if_neg h]
theorem dash_r (s : ByteArray) : ref34_dash s = some (dashB s):=dash_p s
theorem dashB_size {s : ByteArray} (h : s.size≤300) : (dashB s).size≤300:=by
  unfold dashB; split
  · exact (by decide : (1 : Nat)≤300)
  · exact h
def pnIn (b : List T_api_Bound) (n : ByteArray) : Bool:=b.any fun x =>decide (x.Pod.Name = n)
theorem pnIn_iff {b : List T_api_Bound} {n : ByteArray} : pnIn b n = true↔n ∈ b.map (·.Pod.Name):=by
  unfold pnIn; rw [List.any_eq_true,List.mem_map]
  exact ⟨fun ⟨x,h1,h2⟩ =>⟨x,h1,of_decide_eq_true h2⟩,fun ⟨x,h1,h2⟩ =>⟨x,h1,decide_eq_true h2⟩⟩
def goneE (cs : List T_api_Bound) (b : T_api_Bound) : List ByteArray:=if pnIn cs b.Pod.Name = true then [] else [(⟨#[43,32]⟩ : ByteArray)++b.Pod.Name]
theorem goneE_in {cs : List T_api_Bound} {b : T_api_Bound} (h : b.Pod.Name ∈ cs.map (·.Pod.Name)) : goneE cs b = []:=by unfold goneE; rw [if_pos (pnIn_iff.2 h)]
theorem goneE_out {cs : List T_api_Bound} {b : T_api_Bound} (h : b.Pod.Name ∉ cs.map (·.Pod.Name)) : goneE cs b = [(⟨#[43,32]⟩ : ByteArray)++b.Pod.Name]:=by unfold goneE; rw [if_neg (mt pnIn_iff.1 h)]
def pkI (cs : List T_api_Bound) (name : ByteArray) : Int:=(ref09_Place cs name).getD 0
theorem pk_spec (cs : List T_api_Bound) (name : ByteArray) (hl : cs.length≤1000) : yard_Place cs name = some (pkI cs name)∧ref09_Place cs name = some (pkI cs name)∧((pkI cs name = -1∧name ∉ cs.map (·.Pod.Name))∨∃ k : Nat,pkI cs name = (k : Int)∧∃ h : k < cs.length,cs[k].Pod.Name = name):=by
  obtain ⟨r,h1,h2,h3⟩:=place_d cs name hl
  have e : pkI cs name = r:=by unfold pkI; rw [h2]; rfl
  rw [e]; exact ⟨h1,h2,h3⟩
def movE (cs : List T_api_Bound) (b : T_api_Bound) : List ByteArray :=
  if pkI cs b.Pod.Name < 0 then [(⟨#[45,32]⟩ : ByteArray)++b.Pod.Name] else
  match cs[(pkI cs b.Pod.Name).toNat]? with
  | some c =>if c.On = b.On then [] else [b.Pod.Name++(⟨#[32]⟩ : ByteArray)++dashB b.On++(⟨#[32]⟩ : ByteArray)++dashB c.On]
  | none =>[]
theorem movE_len (cs : List T_api_Bound) (b : T_api_Bound) : (movE cs b).length≤1:=by
  unfold movE; split
  · simp
  · split
    · split<;>simp
    · simp
theorem goneE_len (cs : List T_api_Bound) (b : T_api_Bound) : (goneE cs b).length≤1:=by unfold goneE; split<;>simp
theorem mov_p (cs : List T_api_Bound) (hc : cs.length≤100) (hco : ∀ c,c ∈ cs→c.On.size≤300) : ∀ (l : List T_api_Bound) (k : Nat) (acc : List ByteArray),(∀ m,m ∈ l→m.Pod.Name.size≤300∧m.On.size≤300)→acc.length + l.length≤1000→dump_Diff.l1 cs l k acc = some (acc++l.flatMap (movE cs))
  | [],k,acc,_,_ =>by rw [dump_Diff.l1]; simp
  | m :: l,k,acc,hn,hl =>by
    rw [dump_Diff.l1]
    obtain ⟨h1,_,h3⟩:=pk_spec cs m.Pod.Name (by omega)
    simp only [List.length_cons] at hl
    obtain ⟨hm,ho⟩:=hn m (List.mem_cons_self ..)
    rw [h1]
    simp only [Option.bind_some,List.flatMap_cons]
    have s2 : (⟨#[45,32]⟩ : ByteArray).size = 2:=rfl
    have s1 : (⟨#[32]⟩ : ByteArray).size = 1:=rfl
    have d1:=dashB_size ho
    rcases h3 with ⟨e,h4⟩ | ⟨q,e,h5,h6⟩
    · rw [e,if_pos (by decide),catD (by omega)]
      simp only [Option.bind_some]
      rw [ap_ok (by omega) (by simp only [List.length_append,List.length_cons,List.length_nil]; omega)]
      simp only [Option.bind_some]
      rw [mov_p cs hc hco l (k + 1) _ (fun x hx =>hn x (List.mem_cons_of_mem _ hx)) (by simp only [List.length_append,List.length_cons,List.length_nil]; omega)]
      simp [movE,e]
    · have d2:=dashB_size (hco _ (List.getElem_mem h5))
      have e2 : cs[q]? = some cs[q]:=List.getElem?_eq_getElem h5
      rw [e,if_neg (by simp<;>omega),glk h5]
      simp only [Option.bind_some,seq_eq]
      by_cases hq : cs[q].On = m.On
      · rw [if_neg (by simp [hq]),mov_p cs hc hco l (k + 1) _ (fun x hx =>hn x (List.mem_cons_of_mem _ hx)) (by omega)]
        simp [movE,e,hq,h5,show ¬ ((q : Int) < 0) by omega]
      · rw [if_pos (by simp [hq]),catD (by omega)]
        simp only [Option.bind_some]
        rw [dash_p]
        simp only [Option.bind_some]
        rw [catD (by rw [ByteArray.size_append]; omega)]
        simp only [Option.bind_some]
        rw [catD (by rw [ByteArray.size_append,ByteArray.size_append]; omega)]
        simp only [Option.bind_some]
        rw [dash_p]
        simp only [Option.bind_some]
        rw [catD (by rw [ByteArray.size_append,ByteArray.size_append,ByteArray.size_append]; omega)]
        simp only [Option.bind_some]
        rw [ap_ok (by omega) (by simp only [List.length_append,List.length_cons,List.length_nil]; omega)]
        simp only [Option.bind_some]
        rw [mov_p cs hc hco l (k + 1) _ (fun x hx =>hn x (List.mem_cons_of_mem _ hx)) (by simp only [List.length_append,List.length_cons,List.length_nil]; omega)]
        simp [movE,e,hq,h5,show ¬ ((q : Int) < 0) by omega]
theorem gone_p (cs : List T_api_Bound) (hc : cs.length≤100) : ∀ (l : List T_api_Bound) (k : Nat) (acc : List ByteArray),(∀ m,m ∈ l→m.Pod.Name.size≤300)→acc.length + l.length≤1000→dump_Diff.l2 cs l k acc = some (acc++l.flatMap (goneE cs))
  | [],k,acc,_,_ =>by rw [dump_Diff.l2]; simp
  | m :: l,k,acc,hn,hl =>by
    rw [dump_Diff.l2]
    obtain ⟨h1,_,h3⟩:=pk_spec cs m.Pod.Name (by omega)
    simp only [List.length_cons] at hl
    have hm:=hn m (List.mem_cons_self ..)
    rw [h1]
    simp only [Option.bind_some,List.flatMap_cons]
    have s2 : (⟨#[43,32]⟩ : ByteArray).size = 2:=rfl
    rcases h3 with ⟨e,h4⟩ | ⟨q,e,h5,h6⟩
    · rw [e,if_pos (by decide),catD (by omega)]
      simp only [Option.bind_some]
      rw [ap_ok (by omega) (by simp only [List.length_append,List.length_cons,List.length_nil]; omega)]
      simp only [Option.bind_some]
      rw [gone_p cs hc l (k + 1) _ (fun x hx =>hn x (List.mem_cons_of_mem _ hx)) (by simp only [List.length_append,List.length_cons,List.length_nil]; omega)]
      simp [goneE_out h4]
    · rw [e,if_neg (by simp<;>omega),gone_p cs hc l (k + 1) _ (fun x hx =>hn x (List.mem_cons_of_mem _ hx)) (by omega)]
      simp [goneE_in (List.mem_map.2 ⟨cs[q],List.getElem_mem h5,h6⟩)]
theorem mov_r (a cs : List T_api_Bound) (hc : cs.length≤100) (hco : ∀ c,c ∈ cs→c.On.size≤300) (ha : a.length≤100) (hn : ∀ m,m ∈ a→m.Pod.Name.size≤300∧m.On.size≤300) : ∀ (d k n : Nat) (acc : List ByteArray),k + d = a.length→d < n→acc.length + d≤1000→ref34_Diff.l3 a cs n acc (k : Int) = some (acc++(a.drop k).flatMap (movE cs))
  | 0,k,n + 1,acc,hk,_,_ =>by
    have : k = a.length:=by omega
    subst this
    rw [ref34_Diff.l3,if_neg dnl]; simp
  | d + 1,k,n + 1,acc,hk,hn',hl =>by
    have hlt : k < a.length:=by omega
    obtain ⟨hm,ho⟩:=hn a[k] (List.getElem_mem hlt)
    obtain ⟨_,h1,h3⟩:=pk_spec cs a[k].Pod.Name (by omega)
    have hcc : (a.drop k).flatMap (movE cs) = movE cs a[k]++(a.drop (k + 1)).flatMap (movE cs):=by rw [List.drop_eq_getElem_cons hlt,List.flatMap_cons]
    have s2 : (⟨#[45,32]⟩ : ByteArray).size = 2:=rfl
    have s1 : (⟨#[32]⟩ : ByteArray).size = 1:=rfl
    have d1:=dashB_size ho
    rw [ref34_Diff.l3,if_pos (dlt hlt),glk hlt]
    simp only [Option.bind_some]
    rw [h1]
    simp only [Option.bind_some]
    rw [wk1 (by omega),hcc]
    rcases h3 with ⟨e,h4⟩ | ⟨q,e,h5,h6⟩
    · rw [e,if_pos (by decide),catD (by omega)]
      simp only [Option.bind_some]
      rw [ap_ok (by omega) (by simp only [List.length_append,List.length_cons,List.length_nil]; omega)]
      simp only [Option.bind_some]
      rw [mov_r a cs hc hco ha hn d (k + 1) n _ (by omega) (by omega) (by simp only [List.length_append,List.length_cons,List.length_nil]; omega)]
      simp [movE,e]
    · have d2:=dashB_size (hco _ (List.getElem_mem h5))
      rw [e,if_neg (by simp<;>omega),glk h5]
      simp only [Option.bind_some,seq_eq]
      by_cases hq : cs[q].On = a[k].On
      · rw [if_neg (by simp [hq]),mov_r a cs hc hco ha hn d (k + 1) n _ (by omega) (by omega) (by omega)]
        simp [movE,e,hq,h5,show ¬ ((q : Int) < 0) by omega]
      · rw [if_pos (by simp [hq]),catD (by omega)]
        simp only [Option.bind_some]
        rw [dash_r]
        simp only [Option.bind_some]
        rw [catD (by rw [ByteArray.size_append]; omega)]
        simp only [Option.bind_some]
        rw [catD (by rw [ByteArray.size_append,ByteArray.size_append]; omega)]
        simp only [Option.bind_some]
        rw [dash_r]
        simp only [Option.bind_some]
        rw [catD (by rw [ByteArray.size_append,ByteArray.size_append,ByteArray.size_append]; omega)]
        simp only [Option.bind_some]
        rw [ap_ok (by omega) (by simp only [List.length_append,List.length_cons,List.length_nil]; omega)]
        simp only [Option.bind_some]
        rw [mov_r a cs hc hco ha hn d (k + 1) n _ (by omega) (by omega) (by simp only [List.length_append,List.length_cons,List.length_nil]; omega)]
        simp [movE,e,hq,h5,show ¬ ((q : Int) < 0) by omega]
  | _,_,0,_,_,h,_ =>by omega
theorem gone_r (a cs : List T_api_Bound) (hc : cs.length≤100) (ha : a.length≤100) (hn : ∀ m,m ∈ a→m.Pod.Name.size≤300) : ∀ (d k n : Nat) (acc : List ByteArray),k + d = a.length→d < n→acc.length + d≤1000→ref34_Diff.l4 cs a n acc (k : Int) = some (acc++(a.drop k).flatMap (goneE cs))
  | 0,k,n + 1,acc,hk,_,_ =>by
    have : k = a.length:=by omega
    subst this
    rw [ref34_Diff.l4,if_neg dnl]; simp
  | d + 1,k,n + 1,acc,hk,hn',hl =>by
    have hlt : k < a.length:=by omega
    have hm:=hn a[k] (List.getElem_mem hlt)
    obtain ⟨_,h1,h3⟩:=pk_spec cs a[k].Pod.Name (by omega)
    have hcc : (a.drop k).flatMap (goneE cs) = goneE cs a[k]++(a.drop (k + 1)).flatMap (goneE cs):=by rw [List.drop_eq_getElem_cons hlt,List.flatMap_cons]
    have s2 : (⟨#[43,32]⟩ : ByteArray).size = 2:=rfl
    rw [ref34_Diff.l4,if_pos (dlt hlt),glk hlt]
    simp only [Option.bind_some]
    rw [h1]
    simp only [Option.bind_some]
    rw [wk1 (by omega),hcc]
    rcases h3 with ⟨e,h4⟩ | ⟨q,e,h5,h6⟩
    · rw [e,if_pos (by decide),catD (by omega)]
      simp only [Option.bind_some]
      rw [ap_ok (by omega) (by simp only [List.length_append,List.length_cons,List.length_nil]; omega)]
      simp only [Option.bind_some]
      rw [gone_r a cs hc ha hn d (k + 1) n _ (by omega) (by omega) (by simp only [List.length_append,List.length_cons,List.length_nil]; omega)]
      simp [goneE_out h4]
    · rw [e,if_neg (by simp<;>omega),gone_r a cs hc ha hn d (k + 1) n _ (by omega) (by omega) (by omega)]
      simp [goneE_in (List.mem_map.2 ⟨cs[q],List.getElem_mem h5,h6⟩)]
  | _,_,0,_,_,h,_ =>by omega
def diffL (ms : List T_api_Machine) (bs : List T_api_Bound) (ns : List T_api_Machine) (cs : List T_api_Bound) : List ByteArray :=
  ((lostL ms ns (⟨#[45,32]⟩ : ByteArray)++lostL ns ms (⟨#[43,32]⟩ : ByteArray))++bs.flatMap (movE cs))++cs.flatMap (goneE bs)
theorem LY.mn {ms : List T_api_Machine} {bs : List T_api_Bound} (h : LY ms bs) : ∀ m,m ∈ ms→m.Name.size≤300:=fun m hm =>by
  obtain ⟨i,hi,rfl⟩:=List.getElem_of_mem hm
  exact (h.ms i hi).name
theorem LY.bn {ms : List T_api_Machine} {bs : List T_api_Bound} (h : LY ms bs) : ∀ m,m ∈ bs→m.Pod.Name.size≤300∧m.On.size≤300:=fun m hm =>by
  obtain ⟨i,hi,rfl⟩:=List.getElem_of_mem hm
  exact ⟨(h.bs i hi).1.name,(h.bs i hi).2⟩
theorem diff_p {ms ns : List T_api_Machine} {bs cs : List T_api_Bound} (h : LY ms bs) (k : LY ns cs) : dump_Diff ms bs ns cs = some (diffL ms bs ns cs):=by
  have h1:=h.nm; have h2:=h.nb; have h3:=k.nm; have h4:=k.nb
  have l1 : (lostL ms ns (⟨#[45,32]⟩ : ByteArray)).length≤ms.length:=fm_len (lostE_len ns _) ms
  have l2 : (lostL ns ms (⟨#[43,32]⟩ : ByteArray)).length≤ns.length:=fm_len (lostE_len ms _) ns
  have l3 : (bs.flatMap (movE cs)).length≤bs.length:=fm_len (movE_len cs) bs
  unfold dump_Diff dump_Diff_1
  rw [lost_p ns _ (by decide) (by omega) ms 0 [] h.mn (by simp only [List.length_append,List.length_cons,List.length_nil]; omega)]
  simp only [Option.bind_some,List.nil_append]
  rw [lost_p ms _ (by decide) (by omega) ns 0 _ k.mn (by omega)]
  simp only [Option.bind_some]
  rw [mov_p cs (by omega) (fun c hc =>(k.bn c hc).2) bs 0 _ h.bn (by simp only [List.length_append,List.length_cons,List.length_nil]; omega)]
  simp only [Option.bind_some]
  rw [gone_p bs (by omega) cs 0 _ (fun m hm =>(k.bn m hm).1) (by simp only [List.length_append,List.length_cons,List.length_nil]; omega)]
  rfl
theorem diff_r {ms ns : List T_api_Machine} {bs cs : List T_api_Bound} (h : LY ms bs) (k : LY ns cs) : ref34_Diff ms bs ns cs = some (diffL ms bs ns cs):=by
  have h1:=h.nm; have h2:=h.nb; have h3:=k.nm; have h4:=k.nb
  have l1 : (lostL ms ns (⟨#[45,32]⟩ : ByteArray)).length≤ms.length:=fm_len (lostE_len ns _) ms
  have l2 : (lostL ns ms (⟨#[43,32]⟩ : ByteArray)).length≤ns.length:=fm_len (lostE_len ms _) ns
  have l3 : (bs.flatMap (movE cs)).length≤bs.length:=fm_len (movE_len cs) bs
  unfold ref34_Diff
  have e1:=lost_r1 ms ns (by omega) (by omega) h.mn ms.length 0 FU [] (by omega) (by unfold FU; omega) (by simp only [List.length_append,List.length_cons,List.length_nil]; omega)
  have e2:=lost_r2 ns ms (by omega) (by omega) k.mn ns.length 0 FU (lostL ms ns (⟨#[45,32]⟩ : ByteArray)) (by omega) (by unfold FU; omega) (by omega)
  have e3:=mov_r bs cs (by omega) (fun c hc =>(k.bn c hc).2) (by omega) h.bn bs.length 0 FU (lostL ms ns (⟨#[45,32]⟩ : ByteArray)++lostL ns ms (⟨#[43,32]⟩ : ByteArray)) (by omega) (by unfold FU; omega) (by simp only [List.length_append,List.length_cons,List.length_nil]; omega)
  have e4:=gone_r cs bs (by omega) (by omega) (fun m hm =>(k.bn m hm).1) cs.length 0 FU ((lostL ms ns (⟨#[45,32]⟩ : ByteArray)++lostL ns ms (⟨#[43,32]⟩ : ByteArray))++bs.flatMap (movE cs)) (by omega) (by unfold FU; omega) (by simp only [List.length_append,List.length_cons,List.length_nil]; omega)
  simp only [List.drop_zero,List.nil_append] at e1 e2 e3 e4
  rw [show ((0 : Int)) = ((0 : Nat) : Int) from rfl,e1]
  simp only [Option.bind_some]
  rw [e2]
  simp only [Option.bind_some]
  rw [e3]
  simp only [Option.bind_some]
  rw [e4]
  rfl
theorem nodup_of {α : Type} {f : α→ByteArray} {l : List α} (h : ∀ j k (hj : j < l.length) (hk : k < l.length),f l[j] = f l[k]→j = k) : (l.map f).Nodup:=by
  rw [List.nodup_iff_pairwise_ne,List.pairwise_iff_getElem]
  intro i j hi hj hij e
  simp only [List.getElem_map] at e
  have:=h i j (by simpa using hi) (by simpa using hj) e
  omega
def differs (cs : List T_api_Bound) (b : T_api_Bound) : Bool:=cs.any fun c =>decide (c.Pod.Name = b.Pod.Name) && !(decide (c.On = b.On))
theorem mov_count {cs : List T_api_Bound} (hc : cs.length≤1000) (hu : ∀ j k (h : j < cs.length) (h' : k < cs.length),cs[j].Pod.Name = cs[k].Pod.Name→j = k) (b : T_api_Bound) : (movE cs b).length = (goneE cs b).length + (if differs cs b = true then 1 else 0):=by
  obtain ⟨_,_,h3⟩:=pk_spec cs b.Pod.Name hc
  unfold movE
  rcases h3 with ⟨e,h4⟩ | ⟨q,e,h5,h6⟩
  · have hd : differs cs b = false:=by
      unfold differs
      rw [List.any_eq_false]
      intro c hcm
      have : c.Pod.Name≠b.Pod.Name:=fun e' =>h4 (List.mem_map.2 ⟨c,hcm,e'⟩)
      simp [this]
    rw [e,if_pos (by decide),goneE_out h4,hd]
    simp
  · have hin : b.Pod.Name ∈ cs.map (·.Pod.Name):=List.mem_map.2 ⟨cs[q],List.getElem_mem h5,h6⟩
    have hd : differs cs b = !(decide (cs[q].On = b.On)):=by
      unfold differs
      by_cases ho : cs[q].On = b.On
      · rw [show (!(decide (cs[q].On = b.On))) = false by simp [ho],List.any_eq_false]
        intro c hcm
        obtain ⟨i,hi,rfl⟩:=List.getElem_of_mem hcm
        by_cases hn : cs[i].Pod.Name = b.Pod.Name
        · have : i = q:=hu i q hi h5 (hn.trans h6.symm)
          subst this
          simp [ho]
        · simp [hn]
      · rw [show (!(decide (cs[q].On = b.On))) = true by simp [ho],List.any_eq_true]
        exact ⟨cs[q],List.getElem_mem h5,by simp [h6,ho]⟩
    rw [e,if_neg (by omega),goneE_in hin,hd]
    simp only [Int.toNat_natCast,List.getElem?_eq_getElem h5]
    by_cases ho : cs[q].On = b.On<;>simp [ho]
theorem fm_count {cs : List T_api_Bound} (hc : cs.length≤1000) (hu : ∀ j k (h : j < cs.length) (h' : k < cs.length),cs[j].Pod.Name = cs[k].Pod.Name→j = k) : ∀ l : List T_api_Bound,(l.flatMap (movE cs)).length = (l.flatMap (goneE cs)).length + (l.filter (differs cs)).length
  | [] =>rfl
  | b :: l =>by
    rw [List.flatMap_cons,List.flatMap_cons,List.length_append,List.length_append,fm_count hc hu l,mov_count hc hu b,List.filter_cons]
    by_cases h : differs cs b = true
    · rw [if_pos h,if_pos h]; simp; omega
    · rw [if_neg h,if_neg h]; omega
theorem differs_mem {bs cs : List T_api_Bound} {n : ByteArray} : n ∈ (bs.filter (differs cs)).map (·.Pod.Name)→n ∈ (cs.filter (differs bs)).map (·.Pod.Name):=by
  intro h
  obtain ⟨b,hb,rfl⟩:=List.mem_map.1 h
  rw [List.mem_filter] at hb
  obtain ⟨hb1,hb2⟩:=hb
  unfold differs at hb2
  rw [List.any_eq_true] at hb2
  obtain ⟨c,hc1,hc2⟩:=hb2
  simp only [Bool.and_eq_true,decide_eq_true_eq,Bool.not_eq_true',decide_eq_false_iff_not] at hc2
  refine List.mem_map.2 ⟨c,List.mem_filter.2 ⟨hc1,?_⟩,hc2.1⟩
  unfold differs
  rw [List.any_eq_true]
  exact ⟨b,hb1,by simp [hc2.1,Ne.symm hc2.2]⟩
theorem differs_len {bs cs : List T_api_Bound} (hb : (bs.map (·.Pod.Name)).Nodup) (hc : (cs.map (·.Pod.Name)).Nodup) : (bs.filter (differs cs)).length = (cs.filter (differs bs)).length:=by
  have n1 : ((bs.filter (differs cs)).map (·.Pod.Name)).Nodup:=List.Nodup.sublist (List.Sublist.map _ List.filter_sublist) hb
  have n2 : ((cs.filter (differs bs)).map (·.Pod.Name)).Nodup:=List.Nodup.sublist (List.Sublist.map _ List.filter_sublist) hc
  have:=((List.perm_ext_iff_of_nodup n1 n2).2 fun a =>⟨differs_mem,differs_mem⟩).length_eq
  simpa using this
theorem lost_sign (a b : List T_api_Machine) (s s' : ByteArray) : (lostL a b s).length = (lostL a b s').length:=by
  unfold lostL
  induction a with
  | nil =>rfl
  | cons m a ih =>rw [List.flatMap_cons,List.flatMap_cons,List.length_append,List.length_append,ih]; unfold lostE; split<;>rfl
theorem diff_len {ms ns : List T_api_Machine} {bs cs : List T_api_Bound} (h : LY ms bs) (k : LY ns cs) (hr : RY ms bs) (kr : RY ns cs) : (diffL ms bs ns cs).length = (diffL ns cs ms bs).length:=by
  have h2:=h.nb; have h4:=k.nb
  unfold diffL
  simp only [List.length_append]
  rw [fm_count (by omega) kr.bu bs,fm_count (by omega) hr.bu cs,differs_len (nodup_of hr.bu) (nodup_of kr.bu),lost_sign ms ns _ (⟨#[43,32]⟩ : ByteArray),lost_sign ns ms _ (⟨#[45,32]⟩ : ByteArray)]
  omega
theorem diff_self {ms : List T_api_Machine} {bs : List T_api_Bound} (h : LY ms bs) (hr : RY ms bs) : diffL ms bs ms bs = []:=by
  have hl : ∀ s,lostL ms ms s = []:=fun s =>by
    unfold lostL
    rw [List.flatMap_eq_nil_iff]
    intro m hm
    exact lostE_in (List.mem_map.2 ⟨m,hm,rfl⟩)
  have hg : bs.flatMap (goneE bs) = []:=by
    rw [List.flatMap_eq_nil_iff]
    intro m hm
    exact goneE_in (List.mem_map.2 ⟨m,hm,rfl⟩)
  have hm : bs.flatMap (movE bs) = []:=by
    rw [List.flatMap_eq_nil_iff]
    intro m hm
    have hnb:=h.nb
    have:=mov_count (cs:=bs) (by omega) hr.bu m
    have hg1 : goneE bs m = []:=goneE_in (List.mem_map.2 ⟨m,hm,rfl⟩)
    have hd : differs bs m = false:=by
      unfold differs
      rw [List.any_eq_false]
      intro c hcm
      obtain ⟨i,hi,rfl⟩:=List.getElem_of_mem hcm
      obtain ⟨j,hj,rfl⟩:=List.getElem_of_mem hm
      by_cases hn : bs[i].Pod.Name = bs[j].Pod.Name
      · have : i = j:=hr.bu i j hi hj hn
        subst this
        simp
      · simp [hn]
    rw [hg1,hd] at this
    exact List.eq_nil_of_length_eq_zero (by simpa using this)
  unfold diffL
  rw [hl,hl,hg,hm]
  rfl
theorem DumpDiffers_true (c : T_law34_Two) {p : Prop} (_ : p) : law34_DumpDiffers c = some true:=by
  unfold law34_DumpDiffers
  obtain ⟨a,h1,h2⟩:=ref09_Light_eq c.Ms c.Bs
  obtain ⟨b,h3,h4⟩:=ref09_Light_eq c.Ns c.Cs
  rw [h1]
  simp only [Option.bind_some]
  rw [known34_true]
  cases a with
  | false =>rfl
  | true =>
    have y1:=h2 rfl
    obtain ⟨r,k1,k2⟩:=Check9_eq y1
    rw [if_neg (by simp),h3]
    simp only [Option.bind_some]
    cases b with
    | false =>rfl
    | true =>
      have y2:=h4 rfl
      obtain ⟨r',k3,k4⟩:=Check9_eq y2
      rw [if_neg (by simp),k1]
      simp only [Option.bind_some]
      by_cases e1 : r = 0
      · rw [if_neg (by simp [e1]),k3]
        simp only [Option.bind_some]
        by_cases e2 : r' = 0
        · have q1:=k2 e1
          have q2:=k4 e2
          have hlen : (diffL c.Ms c.Bs c.Ns c.Cs).length≤1000:=by
            have:=y1.nm; have:=y1.nb; have:=y2.nm; have:=y2.nb
            have l1 : (lostL c.Ms c.Ns (⟨#[45,32]⟩ : ByteArray)).length≤c.Ms.length:=fm_len (lostE_len c.Ns _) c.Ms
            have l2 : (lostL c.Ns c.Ms (⟨#[43,32]⟩ : ByteArray)).length≤c.Ns.length:=fm_len (lostE_len c.Ms _) c.Ns
            have l3 : (c.Bs.flatMap (movE c.Cs)).length≤c.Bs.length:=fm_len (movE_len c.Cs) c.Bs
            have l4 : (c.Cs.flatMap (goneE c.Bs)).length≤c.Cs.length:=fm_len (goneE_len c.Bs) c.Cs
            unfold diffL
            simp only [List.length_append]
            omega
          rw [if_neg (by simp [e2]),diff_p y1 y2]
          simp only [Option.bind_some]
          rw [diff_p y2 y1]
          simp only [Option.bind_some]
          rw [diff_r y1 y2]
          simp only [Option.bind_some]
          rw [Texts_self hlen]
          simp only [Option.bind_some]
          rw [if_pos (by simp [diff_len y1 y2 q1 q2]),diff_p y1 y1]
          simp only [Option.bind_some]
          rw [diff_self y1 q1]
          rfl
        · rw [if_pos (by simp [e2])]
      · rw [if_pos (by simp [e1])]
        rfl
end Go.Proofs.YtkondhigbbgidaaGreat.M

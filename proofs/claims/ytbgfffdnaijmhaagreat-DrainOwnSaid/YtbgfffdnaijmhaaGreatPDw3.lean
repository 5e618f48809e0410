/-
  Printed by a program of this session out of the loaded functions: models and their proofs. Own text.
-/
import Derived.Test.YtbgfffdnaijmhaaGreatPWk9
/-
  The plain law of WorldKeeps: whatever is done in a world, no pod is lost but those dropped, none comes from nowhere. No program in sight.
-/
namespace Go.Proofs.YtbgfffdnaijmhaaGreat.M
open Go Go.Proofs Go.Proofs.YtbgfffdnaijmhaaGreat.V
open Go.IntKind (i64)
set_option linter.unusedVariables false
set_option maxRecDepth 100000
theorem Machines_ok {G : List T_api_Group} {B : List T_api_Budget} {BB : Nat} {w : T_world_World} {want : List ByteArray} (h : WI G B BB w want) (c : T_cloud_Cloud) : world_World_Machines w c = some w.ms:=by
 have hml:=h.ml
 unfold world_World_Machines world_World_there
 obtain ⟨s,h1,h2⟩:=idxInv (len:=w.ms.length) (F:=fun f s i =>world_World_Machines.l1 w f s i) (fun k s =>s = w.ms.take k) (by omega)
  (fun f s k hk i1 =>by
   subst i1
   rw [world_World_Machines.l1,if_pos (dlt hk),glk hk]
   simp only [Option.bind_some]
   rw [machine_eq (h.mg _ (List.getElem_mem hk)).lm]
   simp only [Option.bind_some]
   rw [ap_ok (by omega) (by simp; omega)]
   simp only [Option.bind_some]
   rw [wk1 (by omega)]
   exact ⟨_,rfl,(List.take_succ_eq_append_getElem hk).symm⟩)
  (fun f s =>by rw [world_World_Machines.l1,if_neg dnl]) (s:=[]) (by simp)
 rw [List.take_length] at h2
 subst h2
 have h1' : world_World_Machines.l1 w FU [] 0 = some w.ms:=h1
 simp only [Option.bind_some]
 rw [h1']
 rfl
theorem Bounds_ok {G : List T_api_Group} {B : List T_api_Budget} {BB : Nat} {w : T_world_World} {want : List ByteArray} (h : WI G B BB w want) (hB : BB≤400) (c : T_cloud_Cloud) : world_World_Bounds w c = some w.bs:=by
 have hbl:=h.bl
 unfold world_World_Bounds world_World_there
 obtain ⟨s,h1,h2⟩:=idxInv (len:=w.bs.length) (F:=fun f s i =>world_World_Bounds.l1 w f s i) (fun k s =>s = w.bs.take k) (by omega)
  (fun f s k hk i1 =>by
   subst i1
   rw [world_World_Bounds.l1,if_pos (dlt hk),glk hk]
   simp only [Option.bind_some]
   rw [pod_eq (h.bp _ (List.getElem_mem hk)).1]
   simp only [Option.bind_some]
   rw [ap_ok (by omega) (by simp; omega)]
   simp only [Option.bind_some]
   rw [wk1 (by omega)]
   exact ⟨_,rfl,(List.take_succ_eq_append_getElem hk).symm⟩)
  (fun f s =>by rw [world_World_Bounds.l1,if_neg dnl]) (s:=[]) (by simp)
 rw [List.take_length] at h2
 subst h2
 have h1' : world_World_Bounds.l1 w FU [] 0 = some w.bs:=h1
 simp only [Option.bind_some]
 rw [h1']
 rfl
abbrev KS:=T_world_World × T_cloud_Cloud × List ByteArray × List T_cloud_pool × List T_cloud_inst
structure KI (G : List T_api_Group) (B : List T_api_Budget) (k : Nat) (s : KS) : Prop where
 wi : WI G B k s.1 s.2.2.1
 ci : CI G (120 + 200 * k) (120 + 200 * k) s.2.1 s.2.2.2.1 s.2.2.2.2
 len : s.2.2.1.length≤k
theorem WI.mono {G : List T_api_Group} {B : List T_api_Budget} {BB BB' : Nat} {w : T_world_World} {want : List ByteArray} (h : WI G B BB w want) (hb : BB≤BB') : WI G B BB' w want :=
 ⟨h.grp,h.held,h.bud,h.ml,h.mg,h.mnd,by have:=h.bl; omega,h.bp,h.bnd,h.on,h.want⟩
theorem KI.next {G : List T_api_Group} {B : List T_api_Budget} {k : Nat} {s : KS} (h : KI G B k s) : KI G B (k + 1) s :=
 ⟨h.wi.mono (by omega),h.ci.mono (by omega) (by omega),by have:=h.len; omega⟩
end Go.Proofs.YtbgfffdnaijmhaaGreat.M
/-
  Plain laws of emptying: taints of machines, texts among some. Own text.
-/
namespace Go.Proofs.YtbgfffdnaijmhaaGreat.M
open Go Go.Proofs Go.Proofs.YtbgfffdnaijmhaaGreat.V
open Go.IntKind (i64)
set_option linter.unusedVariables false
set_option maxRecDepth 100000
def tagB : ByteArray:=⟨#[100,114,97,105,110,105,110,103]⟩
def tntB (m : T_api_Machine) : Bool:=m.Taints.any fun x =>decide (x.Key = tagB)
theorem tnt_eq {m : T_api_Machine} (h : LM m) : law28_tainted m = some (tntB m):=by
  have h1:=h.taints.1
  unfold law28_tainted
  rcases loopI (F:=fun n i =>law28_tainted.l1 m n i) (Q:=fun r =>r = true∧tntB m = true) (S:=fun k =>∀ hk : k < m.Taints.length,m.Taints[k].Key≠tagB) (len:=m.Taints.length) (by omega) (fun n k hk =>by
      rw [law28_tainted.l1,if_pos (dlt hk),glk hk,wk1 (by omega)]
      simp only [Option.bind_some,seq_eq,show (⟨#[100,114,97,105,110,105,110,103]⟩ : ByteArray) = tagB from rfl]
      by_cases e : m.Taints[k].Key = tagB
      · rw [if_pos (by simpa using e)]
        refine .inl ⟨true,rfl,rfl,?_⟩
        unfold tntB
        rw [List.any_eq_true]
        exact ⟨_,List.getElem_mem hk,by simpa using e⟩
      · rw [if_neg (by simpa using e)]; exact .inr ⟨rfl,fun _ =>e⟩) (fun n =>by rw [law28_tainted.l1,if_neg dnl]) with ⟨r,q1,rfl,q2⟩ | ⟨q1,q2⟩
  · rw [q1,q2]; rfl
  · rw [q1]
    have : tntB m = false:=by
      unfold tntB
      rw [List.any_eq_false]
      intro x hx
      obtain ⟨i,hi,rfl⟩:=List.getElem_of_mem hx
      simpa using q2 i hi hi
    rw [this]
    rfl
theorem among28 (l : List ByteArray) (s : ByteArray) (hl : l.length≤1000) : law28_among l s = some (memB l s):=by
  unfold law28_among
  rcases loopI (F:=fun n i =>law28_among.l1 l s n i) (Q:=fun r =>r = true∧s ∈ l) (S:=fun k =>∀ hk : k < l.length,l[k]≠s) (len:=l.length) (by omega) (fun n k hk =>by
      rw [law28_among.l1,if_pos (dlt hk),glk hk,wk1 (by omega)]
      simp only [Option.bind_some,seq_eq]
      by_cases e : l[k] = s
      · rw [if_pos (by simpa using e)]
        exact .inl ⟨true,rfl,rfl,by rw [← e]; exact List.getElem_mem hk⟩
      · rw [if_neg (by simpa using e)]; exact .inr ⟨rfl,fun _ =>e⟩) (fun n =>by rw [law28_among.l1,if_neg dnl]) with ⟨r,q1,rfl,q2⟩ | ⟨q1,q2⟩
  · rw [q1,memB_iff.2 q2]; rfl
  · rw [q1]
    have : s ∉ l:=fun hx =>by
      obtain ⟨i,hi,e⟩:=List.getElem_of_mem hx
      exact q2 i hi hi e
    rw [memB_f.2 this]
    rfl
theorem taintsB_iff (l : List T_api_Taint) : taintsB l = true↔(∀ x,x ∈ l→wordB x.Key = true∧mayB x.Val = true∧effB x.Effect = true)∧l.Pairwise (fun a b =>tSame a b = false)∧l.length≤16:=by
  unfold taintsB
  rw [Bool.and_eq_true,allN_iff,decide_eq_true_eq]
  constructor
  · rintro ⟨h1,h2⟩
    refine ⟨fun x hx =>?_,List.pairwise_iff_getElem.2 fun i j hi hj hij =>?_,h2⟩
    · obtain ⟨i,hi,rfl⟩:=List.getElem_of_mem hx
      have:=h1 i hi
      unfold tQ at this
      simp only [Bool.and_eq_true,getD_d hi] at this
      exact ⟨this.1,this.2.1,this.2.2.1⟩
    · have:=h1 j hj
      unfold tQ at this
      simp only [Bool.and_eq_true,getD_d hj] at this
      have q:=(allN_iff.1 this.2.2.2) i hij
      rw [getD_d hi] at q
      simpa using q
  · rintro ⟨h1,h2,h3⟩
    refine ⟨fun k hk =>?_,h3⟩
    unfold tQ
    simp only [Bool.and_eq_true,getD_d hk]
    obtain ⟨q1,q2,q3⟩:=h1 _ (List.getElem_mem hk)
    refine ⟨q1,q2,q3,allN_iff.2 fun j hj =>?_⟩
    rw [getD_d (show j < l.length by omega)]
    simpa using List.pairwise_iff_getElem.1 h2 j k (by omega) hk hj
theorem taintsB_filter {l : List T_api_Taint} (h : taintsB l = true) (q : T_api_Taint→Bool) : taintsB (l.filter q) = true:=by
  rw [taintsB_iff] at h ⊢
  exact ⟨fun x hx =>h.1 x (List.mem_filter.1 hx).1,h.2.1.sublist List.filter_sublist,Nat.le_trans (List.length_filter_le _ _) h.2.2⟩
theorem LX_filter {l : List T_api_Taint} (h : LX l) (q : T_api_Taint→Bool) : LX (l.filter q):=by
  refine ⟨Nat.le_trans (List.length_filter_le _ _) h.1,fun k hk =>?_⟩
  obtain ⟨i,hi,e⟩:=List.getElem_of_mem (List.mem_filter.1 (List.getElem_mem hk)).1
  rw [← e]
  exact h.2 i hi
theorem Drop_eq {l : List T_api_Taint} (h : LX l) : taints_Drop l tagB 0 = some (l.filter fun x =>!decide (x.Key = tagB)):=by
  have h1:=h.1
  have key : ∀ (r : List T_api_Taint) (k : Nat) (acc : List T_api_Taint),acc.length + r.length≤40→taints_some_taints_Drop_1.l1 tagB 0 r k acc = some (acc++r.filter fun x =>!decide (x.Key = tagB)):=by
    intro r
    induction r with
    | nil =>intro k acc _; rw [taints_some_taints_Drop_1.l1]; simp
    | cons x r ih =>
      intro k acc ha
      rw [List.length_cons] at ha
      rw [taints_some_taints_Drop_1.l1]
      have e : taints_Drop_1 x tagB 0 = some (!decide (x.Key = tagB)):=by
        unfold taints_Drop_1 taints_of
        rw [seq_eq]
        by_cases q : x.Key = tagB
        · simp [q]
        · simp [q]
      rw [e]
      simp only [Option.bind_some]
      by_cases q : x.Key = tagB
      · rw [if_neg (by simp [q]),ih _ _ (by omega),List.filter_cons,if_neg (by simp [q])]
      · rw [if_pos (by simp [q]),ap_ok (by omega) (by simp; omega)]
        simp only [Option.bind_some]
        rw [ih _ _ (by rw [List.length_append,List.length_singleton]; omega),List.filter_cons,if_pos (by simp [q])]
        simp
  unfold taints_Drop taints_some_taints_Drop_1
  rw [key l 0 [] (by simpa using h1)]
  simp
theorem Add_ex {l : List T_api_Taint} (h : LX l) (x : T_api_Taint) : ∃ q,taints_Add l x = some (l.filter q++[x]):=by
  have h1:=h.1
  refine ⟨fun y =>(taints_Add_1 y x).getD false,?_⟩
  have key : ∀ (r : List T_api_Taint) (k : Nat) (acc : List T_api_Taint),acc.length + r.length≤40→taints_some_taints_Add_1.l1 x r k acc = some (acc++r.filter fun y =>(taints_Add_1 y x).getD false):=by
    intro r
    induction r with
    | nil =>intro k acc _; rw [taints_some_taints_Add_1.l1]; simp
    | cons y r ih =>
      intro k acc ha
      rw [List.length_cons] at ha
      rw [taints_some_taints_Add_1.l1]
      obtain ⟨b,hb⟩ : ∃ b,taints_Add_1 y x = some b:=⟨_,rfl⟩
      rw [hb]
      simp only [Option.bind_some]
      cases b with
      | false =>rw [if_neg (by decide),ih _ _ (by omega),List.filter_cons,if_neg (by simp [hb])]
      | true =>
        rw [if_pos rfl,ap_ok (by omega) (by simp; omega)]
        simp only [Option.bind_some]
        rw [ih _ _ (by rw [List.length_append,List.length_singleton]; omega),List.filter_cons,if_pos (by simp [hb])]
        simp
  unfold taints_Add taints_some_taints_Add_1
  rw [key l 0 [] (by simpa using h1)]
  simp only [Option.bind_some,List.nil_append]
  have:=List.length_filter_le (fun y =>(taints_Add_1 y x).getD false) l
  rw [ap_ok (by omega) (by simp only [List.length_cons,List.length_nil]; omega)]
  rfl
structure TM (name : ByteArray) (ms ms' : List T_api_Machine) : Prop where
  names : ms'.map (·.Name) = ms.map (·.Name)
  oth : ∀ m,m.Name≠name→(m ∈ ms'↔m ∈ ms)
theorem TM.refl (name : ByteArray) (ms : List T_api_Machine) : TM name ms ms:=⟨rfl,fun _ _ =>Iff.rfl⟩
theorem TM.trans {name : ByteArray} {a b c : List T_api_Machine} (h : TM name a b) (h' : TM name b c) : TM name a c:=⟨h'.names.trans h.names,fun m hm =>(h'.oth m hm).trans (h.oth m hm)⟩
theorem set_TM {ms : List T_api_Machine} {k : Nat} (hk : k < ms.length) {m : T_api_Machine} (hm : m.Name = ms[k].Name) : TM ms[k].Name ms (ms.set k m):=by
  refine ⟨?_,fun x hx =>?_⟩
  · rw [List.map_set,hm]
    have : ms[k].Name = (ms.map (·.Name))[k]'(by simpa using hk):=by simp
    rw [this,List.set_getElem_self]
  · constructor
    · intro h
      rcases List.mem_or_eq_of_mem_set h with h | rfl
      · exact h
      · exact absurd hm hx
    · intro h
      obtain ⟨i,hi,rfl⟩:=List.getElem_of_mem h
      have hne : k≠i:=fun e =>hx (by subst e; rfl)
      have : (ms.set k m)[i]'(by simpa using hi) = ms[i]:=List.getElem_set_ne hne _
      rw [← this]
      exact List.getElem_mem _
theorem WI.set {G : List T_api_Group} {B : List T_api_Budget} {BB : Nat} {w : T_world_World} {want : List ByteArray} (h : WI G B BB w want) {k : Nat} (hk : k < w.ms.length) {m : T_api_Machine} (hm : m.Name = w.ms[k].Name) (hg : MG m) :
    WI G B BB ⟨(),w.groups,w.budgets,w.ms.set k m,w.bs,w.held⟩ want:=by
  have ht:=set_TM hk hm
  refine ⟨h.grp,h.held,h.bud,by simpa using h.ml,?_,?_,h.bl,h.bp,h.bnd,?_,h.want⟩
  · intro x hx
    rcases List.mem_or_eq_of_mem_set hx with hx | rfl
    · exact h.mg x hx
    · exact hg
  · show ((w.ms.set k m).map (·.Name)).Nodup
    rw [ht.names]; exact h.mnd
  · intro b hb
    rcases h.on b hb with q | ⟨x,hx,e⟩
    · exact .inl q
    · have : x.Name ∈ (w.ms.set k m).map (·.Name):=by rw [ht.names]; exact List.mem_map_of_mem hx
      obtain ⟨x',hx',e'⟩:=List.mem_map.1 this
      exact .inr ⟨x',hx',e'.trans e⟩
theorem only {ms : List T_api_Machine} (hn : (ms.map (·.Name)).Nodup) {x y : T_api_Machine} (hx : x ∈ ms) (hy : y ∈ ms) (e : x.Name = y.Name) : x = y:=by
  obtain ⟨i,hi,rfl⟩:=List.getElem_of_mem hx
  obtain ⟨j,hj,rfl⟩:=List.getElem_of_mem hy
  have:=nodup_get hn hi hj e
  subst this
  rfl
theorem Untaint_ok {G : List T_api_Group} {B : List T_api_Budget} {BB : Nat} {w : T_world_World} {want : List ByteArray} (h : WI G B BB w want) (c : T_cloud_Cloud) (name : ByteArray) :
    ∃ e w',world_World_Untaint w c name tagB = some (e,w')∧WI G B BB w' want∧TM name w.ms w'.ms∧w'.bs = w.bs∧∀ m,m ∈ w'.ms→m.Name = name→tntB m = false:=by
  have hml:=h.ml
  unfold world_World_Untaint world_World_on_world_World_Untaint_1 world_World_there
  obtain ⟨r,h1,_,h2⟩:=find_d w.ms name (by omega)
  simp only [Option.bind_some]
  rw [h1]
  simp only [Option.bind_some]
  rcases h2 with ⟨rfl,hn⟩ | ⟨k,rfl,hk,hname⟩
  · exact ⟨16,w,by rw [if_pos (by decide)]; rfl,h,TM.refl _ _,rfl,fun m hm e =>absurd (by rw [← e]; exact List.mem_map_of_mem hm) hn⟩
  · rw [if_neg (by simp),glk hk]
    unfold world_World_Untaint_1
    simp only [Option.bind_some]
    have hg:=h.mg _ (List.getElem_mem hk)
    rw [Drop_eq hg.lm.taints]
    simp only [Option.bind_some]
    rw [if_pos (by decide)]
    have hmb:=hg.mb
    unfold machB at hmb
    simp only [Bool.and_eq_true] at hmb
    have hg' : MG ⟨w.ms[k].Name,w.ms[k].Group,w.ms[k].Has,w.ms[k].Labels,w.ms[k].Taints.filter (fun x =>!decide (x.Key = tagB)),w.ms[k].Ready⟩:=by
      refine ⟨⟨hg.lm.name,hg.lm.group,hg.lm.labels,LX_filter hg.lm.taints _⟩,?_,hg.ne,hg.gne⟩
      unfold machB
      simp only [Bool.and_eq_true]
      exact ⟨hmb.1,hmb.2.1,hmb.2.2.1,hmb.2.2.2.1,taintsB_filter hmb.2.2.2.2 _⟩
    rw [show ((k : Int)).toNat = k by omega]
    refine ⟨_,_,rfl,h.set hk rfl hg',by rw [← hname]; exact set_TM hk rfl,rfl,fun m hm e =>?_⟩
    have hw':=h.set hk (m:=⟨w.ms[k].Name,w.ms[k].Group,w.ms[k].Has,w.ms[k].Labels,w.ms[k].Taints.filter (fun x =>!decide (x.Key = tagB)),w.ms[k].Ready⟩) rfl hg'
    have hin : (⟨w.ms[k].Name,w.ms[k].Group,w.ms[k].Has,w.ms[k].Labels,w.ms[k].Taints.filter (fun x =>!decide (x.Key = tagB)),w.ms[k].Ready⟩ : T_api_Machine) ∈ w.ms.set k ⟨w.ms[k].Name,w.ms[k].Group,w.ms[k].Has,w.ms[k].Labels,w.ms[k].Taints.filter (fun x =>!decide (x.Key = tagB)),w.ms[k].Ready⟩:=List.mem_set hk _
    have:=only hw'.mnd hm hin (e.trans hname.symm)
    rw [this]
    unfold tntB
    rw [List.any_eq_false]
    intro x hx
    have:=(List.mem_filter.1 hx).2
    simpa using this
theorem Taint_ok {G : List T_api_Group} {B : List T_api_Budget} {BB : Nat} {w : T_world_World} {want : List ByteArray} (h : WI G B BB w want) (c : T_cloud_Cloud) (name : ByteArray) :
    ∃ e w',world_World_Taint w c name ⟨tagB,⟨#[]⟩,1⟩ = some (e,w')∧WI G B BB w' want∧TM name w.ms w'.ms∧w'.bs = w.bs∧(e≠0→w' = w)∧(e = 0→∃ m,m ∈ w'.ms∧m.Name = name∧tntB m = true):=by
  have hml:=h.ml
  unfold world_World_Taint world_World_on_world_World_Taint_1 world_World_there
  obtain ⟨r,h1,_,h2⟩:=find_d w.ms name (by omega)
  simp only [Option.bind_some]
  rw [h1]
  simp only [Option.bind_some]
  rcases h2 with ⟨rfl,hn⟩ | ⟨k,rfl,hk,hname⟩
  · exact ⟨16,w,by rw [if_pos (by decide)]; rfl,h,TM.refl _ _,rfl,fun _ =>rfl,fun e =>absurd e (by decide)⟩
  · rw [if_neg (by simp),glk hk]
    unfold world_World_Taint_1
    simp only [Option.bind_some]
    have hg:=h.mg _ (List.getElem_mem hk)
    obtain ⟨q,hq⟩:=Add_ex hg.lm.taints (⟨tagB,⟨#[]⟩,1⟩ : T_api_Taint)
    rw [hq]
    simp only [Option.bind_some]
    have hmb:=hg.mb
    unfold machB at hmb
    simp only [Bool.and_eq_true] at hmb
    have hlen16:=((taintsB_iff _).1 hmb.2.2.2.2).2.2
    have hfl:=List.length_filter_le q w.ms[k].Taints
    have hLX : LX (w.ms[k].Taints.filter q++[⟨tagB,⟨#[]⟩,1⟩]):=by
      have hf:=LX_filter hg.lm.taints q
      refine ⟨by rw [List.length_append,List.length_singleton]; omega,fun j hj =>?_⟩
      rw [List.getElem_append]
      split
      · rename_i q1; exact hf.2 j q1
      · simp only [List.getElem_singleton]
        exact ⟨by decide,by decide⟩
    rw [taints_Right_eq hLX]
    simp only [Option.bind_some]
    cases hb : taintsB (w.ms[k].Taints.filter q++[⟨tagB,⟨#[]⟩,1⟩]) with
    | false =>
      rw [if_pos (show (!false) = true from rfl)]
      simp only [Option.bind_some]
      rw [if_neg (by decide)]
      exact ⟨12,w,rfl,h,TM.refl _ _,rfl,fun _ =>rfl,fun e =>absurd e (by decide)⟩
    | true =>
      rw [if_neg (by decide)]
      simp only [Option.bind_some]
      rw [if_pos (by decide)]
      have hg' : MG ⟨w.ms[k].Name,w.ms[k].Group,w.ms[k].Has,w.ms[k].Labels,w.ms[k].Taints.filter q++[⟨tagB,⟨#[]⟩,1⟩],w.ms[k].Ready⟩:=by
        refine ⟨⟨hg.lm.name,hg.lm.group,hg.lm.labels,hLX⟩,?_,hg.ne,hg.gne⟩
        unfold machB
        simp only [Bool.and_eq_true]
        exact ⟨hmb.1,hmb.2.1,hmb.2.2.1,hmb.2.2.2.1,hb⟩
      rw [show ((k : Int)).toNat = k by omega]
      refine ⟨_,_,rfl,h.set hk rfl hg',by rw [← hname]; exact set_TM hk rfl,rfl,fun e =>absurd rfl e,fun _ =>⟨_,List.mem_set hk _,hname,?_⟩⟩
      unfold tntB
      rw [List.any_eq_true]
      exact ⟨⟨tagB,⟨#[]⟩,1⟩,List.mem_append_right _ (List.mem_singleton.2 rfl),by simp⟩
end Go.Proofs.YtbgfffdnaijmhaaGreat.M
/-
  Plain laws of emptying: how many pods may be stopped, and what an eviction does. Own text.
-/
namespace Go.Proofs.YtbgfffdnaijmhaaGreat.M
open Go Go.Proofs Go.Proofs.YtbgfffdnaijmhaaGreat.V
open Go.IntKind (i64)
set_option linter.unusedVariables false
set_option maxRecDepth 100000
def spQ (b : T_api_Budget) (x : T_api_Bound) : Bool:=!decide (x.On = ⟨#[]⟩) && hasB x.Pod.Labels b.Match
def spC (b : T_api_Budget) (bs : List T_api_Bound) : Nat:=(bs.filter (spQ b)).length
structure RB (b : T_api_Budget) : Prop where
  least : 0≤b.Least∧b.Least≤400
  mat : LL b.Match
theorem Spare_eq {b : T_api_Budget} (hb : RB b) {bs : List T_api_Bound} (hl : bs.length≤400) : budget_Spare b bs = some ((spC b bs : Int) - b.Least):=by
  have h1:=hb.least
  have key : ∀ (l : List T_api_Bound) (k m : Nat),m + l.length≤400→budget_Spare.l1 b l k ((m : Int) - b.Least) = some (((m + (l.filter (spQ b)).length : Nat) : Int) - b.Least):=by
    intro l
    induction l with
    | nil =>intro k m _; rw [budget_Spare.l1]; simp
    | cons x r ih =>
      intro k m hm
      rw [List.length_cons] at hm
      rw [budget_Spare.l1]
      unfold budget_counts
      rw [has_B]
      simp only [Option.bind_some,seq_eq]
      by_cases q1 : x.On = ⟨#[]⟩
      · rw [if_neg (by simp [q1])]
        simp only [Option.bind_some]
        rw [if_neg (by decide),ih _ _ (by omega),List.filter_cons,if_neg (by simp [spQ,q1])]
      · rw [if_pos (by simpa using q1)]
        simp only [Option.bind_some]
        by_cases q2 : hasB x.Pod.Labels b.Match = true
        · rw [if_pos q2,List.filter_cons,if_pos (by simp [spQ,q1,q2])]
          have e : i64.wrap ((m : Int) - b.Least + 1) = ((m + 1 : Nat) : Int) - b.Least:=by rw [w_eq (by omega) (by omega)]; omega
          rw [e,ih _ _ (by omega),List.length_cons]
          congr 2
          omega
        · rw [if_neg q2,List.filter_cons,if_neg (by simp [spQ,q2]),ih _ _ (by omega)]
  unfold budget_Spare
  have e : i64.wrap (0 - b.Least) = ((0 : Nat) : Int) - b.Least:=by rw [w_eq (by omega) (by omega)]; rfl
  rw [e,key bs 0 0 (by simpa using hl)]
  simp [spC]
theorem Spare15_eq {b : T_api_Budget} (hb : RB b) {bs : List T_api_Bound} (hl : bs.length≤400) (hp : ∀ x,x ∈ bs→LP x.Pod∧podB x.Pod = true) : ref15_Spare b bs = some ((spC b bs : Int) - b.Least):=by
  have h1:=hb.least
  have hm:=hb.mat.1
  obtain ⟨s,e1,e2⟩:=idxInv (len:=bs.length) (F:=fun f s i =>ref15_Spare.l1 b bs f s i) (fun k s =>s = ((((bs.take k).filter (spQ b)).length : Nat) : Int)) (by omega)
    (fun f s k hk i1 =>by
      subst i1
      have ht : bs.take (k + 1) = bs.take k++[bs[k]]:=List.take_succ_eq_append_getElem hk
      have l1 : ((bs.take k).filter (spQ b)).length≤k:=by refine Nat.le_trans (List.length_filter_le _ _) ?_; rw [List.length_take]; omega
      obtain ⟨q1,q2⟩:=hp _ (List.getElem_mem hk)
      have hlab : labB bs[k].Pod.Labels = true:=by
        unfold podB at q2
        simp only [Bool.and_eq_true] at q2
        simp_all
      have hs : sortedL bs[k].Pod.Labels:=sorted_of q1.labels (by rw [lab_B q1.labels,hlab])
      have hl1:=q1.labels.1
      rw [ref15_Spare.l1,if_pos (dlt hk),glk hk]
      simp only [Option.bind_some,seq_eq]
      rw [Has5_B (by omega) (by omega) hs,wk1 (k:=k) (by omega)]
      by_cases q3 : bs[k].On = ⟨#[]⟩
      · rw [if_neg (by simp [q3])]
        simp only [Option.bind_some]
        rw [if_neg (by decide)]
        refine ⟨_,rfl,?_⟩
        rw [ht,List.filter_append]
        simp [spQ,q3]
      · rw [if_pos (by simpa using q3)]
        simp only [Option.bind_some]
        by_cases q4 : hasB bs[k].Pod.Labels b.Match = true
        · rw [if_pos q4,wk1 (by omega)]
          refine ⟨_,rfl,?_⟩
          rw [ht,List.filter_append]
          simp [spQ,q3,q4]
        · rw [if_neg q4]
          refine ⟨_,rfl,?_⟩
          rw [ht,List.filter_append]
          simp [spQ,q4])
    (fun f s =>by rw [ref15_Spare.l1,if_neg dnl]) (s:=0) (by simp)
  rw [List.take_length] at e2
  subst e2
  have hc : (bs.filter (spQ b)).length≤bs.length:=List.length_filter_le _ _
  unfold ref15_Spare
  have e1' : ref15_Spare.l1 b bs FU 0 0 = some (((bs.filter (spQ b)).length : Nat) : Int):=e1
  rw [e1']
  simp only [Option.bind_some]
  rw [w_eq (by omega) (by omega)]
  rfl
theorem May_eq {L : List T_api_Budget} (hL : ∀ b,b ∈ L→RB b) {bs : List T_api_Bound} (hl : bs.length≤400) (name : ByteArray) : ∃ r,budget_May L bs name = some r ∧
    (r = 0→∃ k : Nat,yard_Place bs name = some (k : Int)∧∃ hk : k < bs.length,bs[k].Pod.Name = name∧bs[k].On≠⟨#[]⟩∧∀ b,b ∈ L→hasB bs[k].Pod.Labels b.Match = true→b.Least < spC b bs):=by
  unfold budget_May
  obtain ⟨r,h1,_,h2⟩:=place_d bs name (by omega)
  rw [h1]
  simp only [Option.bind_some]
  rcases h2 with ⟨rfl,hn⟩ | ⟨k,rfl,hk,hname⟩
  · exact ⟨16,by rw [if_pos (by decide)],fun q =>absurd q (by decide)⟩
  · rw [if_neg (by simp),glk hk]
    simp only [Option.bind_some,seq_eq]
    by_cases hon : bs[k].On = ⟨#[]⟩
    · rw [if_pos (by simpa using hon)]; exact ⟨22,rfl,fun q =>absurd q (by decide)⟩
    · rw [if_neg (by simpa using hon)]
      have key : ∀ (l : List T_api_Budget) (q : Nat),(∀ b,b ∈ l→RB b)→∃ o,budget_May.l1 bs (k : Int) l q = some o∧(∀ v,o = .ret v→v≠0)∧(o = .go ()→∀ b,b ∈ l→hasB bs[k].Pod.Labels b.Match = true→b.Least < spC b bs):=by
        intro l
        induction l with
        | nil =>intro q _; exact ⟨.go (),rfl,(fun v h =>by cases h),(fun _ b hb =>by cases hb)⟩
        | cons x r ih =>
          intro q hr
          have hx:=hr x List.mem_cons_self
          obtain ⟨o,o1,o2,o3⟩:=ih (q + 1) fun b hb =>hr b (List.mem_cons_of_mem _ hb)
          rw [budget_May.l1,glk hk]
          unfold budget_counts
          simp only [Option.bind_some]
          rw [has_B]
          simp only [Option.bind_some]
          by_cases g1 : hasB bs[k].Pod.Labels x.Match = true
          · rw [if_pos g1,Spare_eq hx hl]
            simp only [Option.bind_some]
            by_cases g2 : ((spC x bs : Int) - x.Least≤0)
            · rw [if_pos (by simpa using g2)]
              exact ⟨.ret 20,rfl,(fun v h =>by cases h; decide),(fun h =>by cases h)⟩
            · rw [if_neg (by simpa using g2)]
              refine ⟨o,o1,o2,fun ho b hb hbb =>?_⟩
              rcases List.mem_cons.1 hb with rfl | hb
              · omega
              · exact o3 ho b hb hbb
          · rw [if_neg g1]
            simp only [Option.bind_some]
            rw [if_neg (by decide)]
            refine ⟨o,o1,o2,fun ho b hb hbb =>?_⟩
            rcases List.mem_cons.1 hb with rfl | hb
            · exact absurd hbb g1
            · exact o3 ho b hb hbb
      obtain ⟨o,o1,o2,o3⟩:=key L 0 hL
      rw [o1]
      cases o with
      | ret v =>exact ⟨v,rfl,fun e =>absurd e (o2 v rfl)⟩
      | go u =>exact ⟨0,rfl,fun _ =>⟨k,rfl,hk,hname,hon,o3 rfl⟩⟩
def OW (S : List ByteArray) (bs bs' : List T_api_Bound) : Prop:=bs'.length = bs.length∧∀ x,x ∈ bs→∃ y,y ∈ bs'∧y.Pod = x.Pod∧(y.On = x.On∨x.On ∈ S)
theorem OW.refl (S : List ByteArray) (bs : List T_api_Bound) : OW S bs bs:=⟨rfl,fun x hx =>⟨x,hx,rfl,.inl rfl⟩⟩
theorem OW.trans {S : List ByteArray} {a b c : List T_api_Bound} (h : OW S a b) (h' : OW S b c) : OW S a c:=by
  refine ⟨h'.1.trans h.1,fun x hx =>?_⟩
  obtain ⟨y,y1,y2,y3⟩:=h.2 x hx
  obtain ⟨z,z1,z2,z3⟩:=h'.2 y y1
  refine ⟨z,z1,z2.trans y2,?_⟩
  rcases y3 with q | q
  · rcases z3 with q' | q'
    · exact .inl (q'.trans q)
    · exact .inr (by rw [← q]; exact q')
  · exact .inr q
theorem OW.mono {S T : List ByteArray} {a b : List T_api_Bound} (h : OW S a b) (hs : ∀ s,s ∈ S→s ∈ T) : OW T a b :=
  ⟨h.1,fun x hx =>by obtain ⟨y,y1,y2,y3⟩:=h.2 x hx; exact ⟨y,y1,y2,y3.imp_right (hs _)⟩⟩
def SP (B : List T_api_Budget) (bs bs' : List T_api_Bound) : Prop:=∀ b,b ∈ B→b.Least≤spC b bs→b.Least≤spC b bs'
theorem SP.refl (B : List T_api_Budget) (bs : List T_api_Bound) : SP B bs bs:=fun _ _ h =>h
theorem SP.trans {B : List T_api_Budget} {a b c : List T_api_Bound} (h : SP B a b) (h' : SP B b c) : SP B a c:=fun x hx q =>h' x hx (h x hx q)
theorem Evict_full {G : List T_api_Group} {B : List T_api_Budget} {BB : Nat} {w : T_world_World} {want : List ByteArray} (h : WI G B BB w want) (hR : ∀ b,b ∈ B→RB b) (hB : BB≤400) (c : T_cloud_Cloud) (name n : ByteArray) (hn : ∀ x,x ∈ w.bs→x.Pod.Name = name→x.On = n) :
    ∃ e w',world_World_Evict w c name = some (e,w')∧WI G B BB w' want∧w'.ms = w.ms∧(e≠0→w' = w)∧OW [n] w.bs w'.bs∧SP B w.bs w'.bs∧(∀ x,x ∈ w.bs→x.Pod.Name≠name→x ∈ w'.bs):=by
  have hbl:=h.bl
  obtain ⟨e,w',h1,h2⟩:=Evict_ok h hB c name
  refine ⟨e,w',h1,h2,?_⟩
  unfold world_World_Evict world_World_there at h1
  obtain ⟨r,m1,m2⟩:=May_eq hR (bs:=w.bs) (by omega) name
  simp only [Option.bind_some] at h1
  rw [h.bud,m1] at h1
  simp only [Option.bind_some] at h1
  by_cases hr : r = 0
  · subst hr
    obtain ⟨k,p1,hk,p2,p3,p4⟩:=m2 rfl
    rw [if_neg (by decide),p1] at h1
    simp only [Option.bind_some] at h1
    rw [cut_eq hk (by omega)] at h1
    simp only [Option.bind_some] at h1
    have hp:=cut_perm hk
    have hlen:=hp.length_eq
    rw [List.length_cons] at hlen
    rw [ap_ok (by omega) (by simp only [List.length_cons,List.length_nil]; omega)] at h1
    simp only [Option.bind_some,Option.some.injEq,Prod.mk.injEq] at h1
    obtain ⟨rfl,rfl⟩:=h1
    refine ⟨rfl,fun q =>absurd rfl q,⟨?_,fun x hx =>?_⟩,fun b hb q =>?_,fun x hx hne =>?_⟩
    · show (w.bs.take k++w.bs.drop (k + 1)++[_]).length = _
      rw [List.length_append,List.length_singleton]
      omega
    · rcases List.mem_cons.1 (hp.mem_iff.1 hx) with rfl | hx'
      · exact ⟨⟨w.bs[k].Pod,⟨#[]⟩⟩,List.mem_append_right _ (List.mem_singleton.2 rfl),rfl,.inr (by rw [hn _ (List.getElem_mem hk) p2]; exact List.mem_singleton.2 rfl)⟩
      · exact ⟨x,List.mem_append_left _ hx',rfl,.inl rfl⟩
    · show b.Least≤(((w.bs.take k++w.bs.drop (k + 1)++[(⟨w.bs[k].Pod,⟨#[]⟩⟩ : T_api_Bound)]).filter (spQ b)).length : Int)
      have e1:=(hp.filter (spQ b)).length_eq
      rw [List.filter_append,List.length_append]
      have e2 : List.filter (spQ b) [(⟨w.bs[k].Pod,⟨#[]⟩⟩ : T_api_Bound)] = []:=by simp [spQ]
      rw [e2]
      unfold spC at q
      rw [List.filter_cons] at e1
      by_cases g : spQ b w.bs[k] = true
      · rw [if_pos g,List.length_cons] at e1
        have hh : hasB w.bs[k].Pod.Labels b.Match = true:=by
          unfold spQ at g
          simp only [Bool.and_eq_true] at g
          exact g.2
        have:=p4 b hb hh
        unfold spC at this
        simp only [List.length_nil]
        omega
      · rw [if_neg g] at e1
        simp only [List.length_nil]
        omega
    · rcases List.mem_cons.1 (hp.mem_iff.1 hx) with rfl | hx'
      · exact absurd p2 hne
      · exact List.mem_append_left _ hx'
  · rw [if_pos (by simpa using hr)] at h1
    simp only [Option.some.injEq,Prod.mk.injEq] at h1
    obtain ⟨rfl,rfl⟩:=h1
    exact ⟨rfl,fun _ =>rfl,OW.refl _ _,SP.refl _ _,fun x hx _ =>hx⟩
end Go.Proofs.YtbgfffdnaijmhaaGreat.M

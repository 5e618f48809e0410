/-
  Printed by a program of this session out of the loaded functions: models and their proofs. Own text.
-/
import Derived.Test.YtbgfffdnaijmhaaGreatPDw3
/-
  Plain laws of emptying: one machine goes on. Own text.
-/
namespace Go.Proofs.YtbgfffdnaijmhaaGreat.M
open Go Go.Proofs Go.Proofs.YtbgfffdnaijmhaaGreat.V
open Go.IntKind (i64)
set_option linter.unusedVariables false
set_option maxRecDepth 100000
theorem tell_ok {what name : ByteArray} {a : List ByteArray} (h1 : what.size≤300) (h2 : name.size≤300) (h3 : a.length≤100000) : ∃ r,drain_Table_Step_1 what name a = some r∧r.length = a.length + 1:=by
  unfold drain_Table_Step_1
  have hz : (ByteArray.mk #[32]).size = 1:=rfl
  rw [cat9 (by omega)]
  simp only [Option.bind_some]
  rw [cat9 (by rw [ByteArray.size_append]; omega)]
  simp only [Option.bind_some]
  rw [ap_ok (by omega) (by simp; omega)]
  exact ⟨_,rfl,by simp⟩
theorem has_ok {G : List T_api_Group} {B : List T_api_Budget} {BB : Nat} {w : T_world_World} {want : List ByteArray} (h : WI G B BB w want) (c : T_cloud_Cloud) (name : ByteArray) : ∃ b,drain_has w c name = some b∧(b = true↔name ∈ w.ms.map (·.Name)):=by
  have hml:=h.ml
  unfold drain_has
  rw [Machines_ok h c]
  simp only [Option.bind_some]
  obtain ⟨r,h1,_,h2⟩:=find_d w.ms name (by omega)
  rw [h1]
  rcases h2 with ⟨rfl,hn⟩ | ⟨k,rfl,hk,hname⟩
  · exact ⟨false,rfl,by simpa using hn⟩
  · refine ⟨true,?_,fun _ =>by rw [← hname]; exact List.mem_map_of_mem (List.getElem_mem hk),fun _ =>rfl⟩
    show some (decide ((k : Int)≥0)) = some true
    congr 1
theorem Movable_ok (bs : List T_api_Bound) (name : ByteArray) (hl : bs.length≤400) : block_Movable bs name = some ((onS bs name).filter fun p =>!p.Daemon):=by
  have hol : (onS bs name).length≤400:=by unfold onS; rw [List.length_map]; exact Nat.le_trans (List.length_filter_le _ _) hl
  have key : ∀ (l : List T_api_Pod) (k : Nat) (acc : List T_api_Pod),acc.length + l.length≤1000→block_Movable.l1 l k acc = some (acc++l.filter fun p =>!p.Daemon):=by
    intro l
    induction l with
    | nil =>intro k acc _; rw [block_Movable.l1]; simp
    | cons p r ih =>
      intro k acc ha
      rw [List.length_cons] at ha
      rw [block_Movable.l1]
      by_cases q : p.Daemon = true
      · rw [if_neg (by simp [q]),ih _ _ (by omega),List.filter_cons,if_neg (by simp [q])]
      · rw [if_pos (by simp [q]),ap_ok (by omega) (by simp; omega)]
        simp only [Option.bind_some]
        rw [ih _ _ (by rw [List.length_append,List.length_singleton]; omega),List.filter_cons,if_pos (by simp [q])]
        simp
  unfold block_Movable
  rw [On_eq bs name (by omega)]
  simp only [Option.bind_some]
  rw [key _ 0 [] (by simp; omega)]
  rfl
structure GO (B : List T_api_Budget) (n : ByteArray) (w w' : T_world_World) : Prop where
  ow : OW [n] w.bs w'.bs
  sp : SP B w.bs w'.bs
  tm : TM n w.ms w'.ms
theorem leaveD_ok {G : List T_api_Group} {B : List T_api_Budget} {BB : Nat} {w : T_world_World} {want : List ByteArray} (h : WI G B BB w want) (t : T_drain_Table) (c : T_cloud_Cloud) {what : ByteArray} (hw : what.size≤300) (x : T_drain_one) (hx : x.name.size≤300) {a : List ByteArray} (ha : a.length≤100000) :
    ∃ w' a',drain_Table_leave_drain_Table_Step_1 t w c what x a = some (false,w',a')∧WI G B BB w' want∧GO B x.name w w'∧(∀ m,m ∈ w'.ms→m.Name = x.name→tntB m = false)∧a'.length = a.length + 1:=by
  obtain ⟨e,w',h1,h2,h3,h4,h5⟩:=Untaint_ok h c x.name
  obtain ⟨r,r1,r2⟩:=tell_ok hw hx ha
  have h1' : world_World_Untaint w c x.name (⟨#[100,114,97,105,110,105,110,103]⟩ : ByteArray) = some (e,w'):=h1
  unfold drain_Table_leave_drain_Table_Step_1
  rw [h1']
  simp only [Option.bind_some]
  rw [r1]
  exact ⟨w',r,rfl,h2,⟨by rw [h4]; exact OW.refl _ _,by rw [h4]; exact SP.refl _ _,h3⟩,h5,r2⟩
theorem evs {G : List T_api_Group} {B : List T_api_Budget} {BB : Nat} {want : List ByteArray} (hR : ∀ b,b ∈ B→RB b) (hB : BB≤400) (t : T_drain_Table) (c : T_cloud_Cloud) (x : T_drain_one) (hx : x.name.size≤300) (ps : List T_cloud_pool) (xs : List T_cloud_inst) :
    ∀ (l : List T_api_Pod) (k : Nat) (w : T_world_World) (a : List ByteArray),WI G B BB w want→(∀ p,p ∈ l→∃ y,y ∈ w.bs∧y.Pod = p∧y.On = x.name)→(l.map (·.Name)).Nodup→a.length + l.length≤90000 →
    ∃ o,drain_Table_goes_drain_Table_Step_1.l1 t c x ps xs l k w a = some o ∧
      (∀ w' a',o = .go (w',a')→WI G B BB w' want∧w'.ms = w.ms∧OW [x.name] w.bs w'.bs∧SP B w.bs w'.bs∧a'.length≤a.length + l.length) ∧
      (∀ r,o = .ret r→∃ fl w' x' a',r = (fl,w',c,x',a',ps,xs)∧WI G B BB w' want∧GO B x.name w w'∧x'.name = x.name∧(fl = true→w'.ms = w.ms)∧(fl = false→∀ m,m ∈ w'.ms→m.Name = x.name→tntB m = false)∧a'.length≤a.length + l.length + 1)
  | [],k,w,a,h,_,_,ha =>⟨.go (w,a),rfl,(fun w' a' e =>by cases e; exact ⟨h,rfl,OW.refl _ _,SP.refl _ _,by simp⟩),(fun r e =>by cases e)⟩
  | p :: l,k,w,a,h,hl,hn,ha =>by
    rw [List.map_cons] at hn
    have hn':=List.nodup_cons.1 hn
    rw [List.length_cons] at ha
    obtain ⟨y,y1,y2,y3⟩:=hl p List.mem_cons_self
    have hun : ∀ z,z ∈ w.bs→z.Pod.Name = p.Name→z.On = x.name:=fun z hz e =>by
      obtain ⟨i,hi,rfl⟩:=List.getElem_of_mem hz
      obtain ⟨j,hj,rfl⟩:=List.getElem_of_mem y1
      have : i = j:=nodup_get (f:=fun b : T_api_Bound =>b.Pod.Name) h.bnd hi hj (by rw [e,y2])
      subst this
      exact y3
    obtain ⟨e,w1,e1,e2,e3,e4,e5,e6,e7⟩:=Evict_full h hR hB c p.Name x.name hun
    have hps : p.Name.size≤300:=by rw [← y2]; exact (h.bp y y1).1.name
    rw [drain_Table_goes_drain_Table_Step_1.l1,e1]
    simp only [Option.bind_some]
    by_cases he : e = 0
    · rw [if_neg (by simp [he])]
      obtain ⟨r,r1,r2⟩:=tell_ok (what:=⟨#[101,118,105,99,116]⟩) (name:=p.Name) (a:=a) (by decide) hps (by omega)
      rw [r1]
      simp only [Option.bind_some]
      obtain ⟨o,o1,o2,o3⟩:=evs hR hB t c x hx ps xs l (k + 1) w1 r e2 (fun q hq =>by
        obtain ⟨z,z1,z2,z3⟩:=hl q (List.mem_cons_of_mem _ hq)
        refine ⟨z,e7 z z1 (fun ee =>hn'.1 ?_),z2,z3⟩
        rw [← ee,z2]
        exact List.mem_map_of_mem hq) hn'.2 (by omega)
      refine ⟨o,o1,fun w' a' ho =>?_,fun rr ho =>?_⟩
      · obtain ⟨q1,q2,q3,q4,q5⟩:=o2 w' a' ho
        exact ⟨q1,q2.trans e3,e5.trans q3,e6.trans q4,by rw [List.length_cons]; omega⟩
      · obtain ⟨fl,w',x',a',q0,q1,q2,q3,q4,q5,q6⟩:=o3 rr ho
        refine ⟨fl,w',x',a',q0,q1,⟨e5.trans q2.ow,e6.trans q2.sp,?_⟩,q3,fun hf =>(q4 hf).trans e3,q5,by rw [List.length_cons]; omega⟩
        have:=q2.tm
        rw [e3] at this
        exact this
    · have hw1:=e4 he
      subst hw1
      rw [if_pos (by simpa using he)]
      split
      · exact ⟨_,rfl,(fun w' a' ho =>by cases ho),(fun r ho =>by cases ho; exact ⟨true,w1,⟨x.name,i64.wrap (x.steps + 1),x.back⟩,a,rfl,h,⟨OW.refl _ _,SP.refl _ _,TM.refl _ _⟩,rfl,(fun _ =>rfl),(fun q =>by cases q),by omega⟩)⟩
      · obtain ⟨w',a',l1,l2,l3,l4,l5⟩:=leaveD_ok h t c (what:=⟨#[115,116,111,112]⟩) (by decide) ⟨x.name,i64.wrap (x.steps + 1),x.back⟩ hx (a:=a) (by omega)
        rw [l1]
        simp only [Option.bind_some]
        exact ⟨_,rfl,(fun w' a' ho =>by cases ho),(fun r ho =>by cases ho; exact ⟨false,w',⟨x.name,i64.wrap (x.steps + 1),x.back⟩,a',rfl,l2,l3,rfl,(fun q =>by cases q),(fun _ =>l4),by rw [List.length_cons]; omega⟩)⟩
theorem goes_ok {G : List T_api_Group} {B : List T_api_Budget} {BB LB XB : Nat} {want : List ByteArray} (hr : GR G) (hR : ∀ b,b ∈ B→RB b) (hB : BB≤400) (hX : XB≤100000) (t : T_drain_Table) {w : T_world_World} {c : T_cloud_Cloud} {ps : List T_cloud_pool} {xs : List T_cloud_inst} (h : WI G B BB w want) (hc : CI G LB XB c ps xs)
    (x : T_drain_one) (hx : x.name.size≤300) {a : List ByteArray} (ha : a.length≤80000) :
    ∃ fl w' c' x' a' ps' xs',drain_Table_goes_drain_Table_Step_1 t w c x a ps xs = some (fl,w',c',x',a',ps',xs')∧WI G B BB w' want∧CI G LB XB c' ps' xs'∧DM x.name c ps xs c' ps' xs'∧GO B x.name w w'∧x'.name = x.name ∧
      (fl = true→w'.ms = w.ms)∧(fl = false→∀ m,m ∈ w'.ms→m.Name = x.name→tntB m = false)∧a'.length≤a.length + 402:=by
  have hbl:=h.bl
  have hgo : GO B x.name w w:=⟨OW.refl _ _,SP.refl _ _,TM.refl _ _⟩
  unfold drain_Table_goes_drain_Table_Step_1
  obtain ⟨b,b1,b2⟩:=has_ok h c x.name
  rw [b1]
  simp only [Option.bind_some]
  cases b with
  | false =>
    rw [if_pos (show (!false) = true from rfl)]
    obtain ⟨r,r1,r2⟩:=tell_ok (what:=⟨#[103,111,110,101]⟩) (name:=x.name) (a:=a) (by decide) hx (by omega)
    rw [r1]
    refine ⟨false,w,c,x,r,ps,xs,rfl,h,hc,DM.refl _ _ _ _,hgo,rfl,(fun q =>by cases q),fun _ m hm e =>?_,by omega⟩
    have : (false = true):=b2.2 (by rw [← e]; exact List.mem_map_of_mem hm)
    cases this
  | true =>
    rw [if_neg (by decide)]
    by_cases hb : x.back = true
    · rw [if_pos hb]
      exact ⟨true,w,c,x,a,ps,xs,rfl,h,hc,DM.refl _ _ _ _,hgo,rfl,(fun _ =>rfl),(fun q =>by cases q),by omega⟩
    · rw [if_neg hb,Bounds_ok h hB c]
      simp only [Option.bind_some]
      rw [Movable_ok w.bs x.name (by omega)]
      simp only [Option.bind_some]
      have hml : ((onS w.bs x.name).filter fun p =>!p.Daemon).length≤400:=by
        refine Nat.le_trans (List.length_filter_le _ _) ?_
        unfold onS
        rw [List.length_map]
        exact Nat.le_trans (List.length_filter_le _ _) (by omega)
      obtain ⟨o,o1,o2,o3⟩:=evs hR hB t c x hx ps xs ((onS w.bs x.name).filter fun p =>!p.Daemon) 0 w a h (fun p hp =>by
        have:=(List.mem_filter.1 hp).1
        unfold onS at this
        obtain ⟨y,hy,e⟩:=List.mem_map.1 this
        obtain ⟨y1,y2⟩:=List.mem_filter.1 hy
        exact ⟨y,y1,e,of_decide_eq_true y2⟩) (by
        have h1 : ((onS w.bs x.name).map (·.Name)).Nodup:=by
          unfold onS
          rw [List.map_map]
          exact h.bnd.sublist (List.filter_sublist.map _)
        exact h1.sublist (List.filter_sublist.map _)) (by omega)
      rw [o1]
      simp only [Option.bind_some]
      cases o with
      | ret r =>
        obtain ⟨fl,w',x',a',q0,q1,q2,q3,q4,q5,q6⟩:=o3 r rfl
        subst q0
        exact ⟨fl,w',c,x',a',ps,xs,rfl,q1,hc,DM.refl _ _ _ _,q2,q3,q4,q5,by omega⟩
      | go s =>
        obtain ⟨w1,a1⟩:=s
        obtain ⟨q1,q2,q3,q4,q5⟩:=o2 w1 a1 rfl
        simp only [Out.on]
        obtain ⟨e,c',ps',xs',d1,d2,d3,d4⟩:=Delete_ok hr hc hX x.name
        rw [d1]
        simp only [Option.bind_some]
        by_cases he : e = 0
        · rw [if_neg (by simp [he])]
          obtain ⟨r,r1,r2⟩:=tell_ok (what:=⟨#[100,101,108,101,116,101]⟩) (name:=x.name) (a:=a1) (by decide) hx (by omega)
          rw [r1]
          exact ⟨true,w1,c',⟨x.name,x.steps,true⟩,r,ps',xs',rfl,q1,d2,d3,⟨q3,q4,by rw [q2]; exact TM.refl _ _⟩,rfl,(fun _ =>q2),(fun q =>by cases q),by omega⟩
        · rw [if_pos (by simpa using he)]
          obtain ⟨w',a',l1,l2,l3,l4,l5⟩:=leaveD_ok q1 t c' (what:=⟨#[107,101,101,112]⟩) (by decide) x hx (a:=a1) (by omega)
          rw [l1]
          refine ⟨false,w',c',x,a',ps',xs',rfl,l2,d2,d3,⟨q3.trans l3.ow,q4.trans l3.sp,?_⟩,rfl,(fun q =>by cases q),(fun _ =>l4),by omega⟩
          have:=l3.tm
          rw [q2] at this
          exact this
end Go.Proofs.YtbgfffdnaijmhaaGreat.M
/-
  Plain laws of emptying: all machines go on. Own text.
-/
namespace Go.Proofs.YtbgfffdnaijmhaaGreat.M
open Go Go.Proofs Go.Proofs.YtbgfffdnaijmhaaGreat.V
open Go.IntKind (i64)
set_option linter.unusedVariables false
set_option maxRecDepth 100000
theorem UN_inst {G : List T_api_Group} {LB XB : Nat} {c : T_cloud_Cloud} {ps : List T_cloud_pool} {xs : List T_cloud_inst} (h : CI G LB XB c ps xs) (hL : LB≤6399) {s : ByteArray} (hs : s ∈ nms c xs) : UN ps s:=by
 obtain ⟨i,hi,rfl⟩:=List.mem_map.1 hs
 obtain ⟨h1,_,k,h2,h3,h4⟩:=h.good i hi
 have:=h.last _ (P1_mem h1)
 exact ⟨_,k,h1,⟨h2,by omega⟩,h3,h4⟩
theorem HI_iff {c : T_cloud_Cloud} {xs : List T_cloud_inst} {ms : List T_api_Machine} : HI c xs ms↔∀ m,m ∈ ms→m.Name ∈ nms c xs :=
 ⟨fun h m hm =>by obtain ⟨i,hi,e⟩:=h m hm; exact List.mem_map.2 ⟨i,hi,e⟩,fun h m hm =>by obtain ⟨i,hi,e⟩:=List.mem_map.1 (h m hm); exact ⟨i,hi,e⟩⟩
def ES (ms : List T_api_Machine) (c : T_cloud_Cloud) (ps : List T_cloud_pool) (xs : List T_cloud_inst) (n : ByteArray) : Prop:=(∃ m,m ∈ ms∧m.Name = n∧tntB m = true)∨(UN ps n∧n ∉ nms c xs)
structure EI (k : Nat) (t : T_drain_Table) (ms : List T_api_Machine) (c : T_cloud_Cloud) (ps : List T_cloud_pool) (xs : List T_cloud_inst) : Prop where
 made : t.made = true
 nd : (t.l.map (·.name)).Nodup
 len : t.l.length≤k
 sz : ∀ e,e ∈ t.l→e.name.size≤300
 ent : ∀ e,e ∈ t.l→ES ms c ps xs e.name
structure DS (S : List ByteArray) (c : T_cloud_Cloud) (ps : List T_cloud_pool) (xs : List T_cloud_inst) (c' : T_cloud_Cloud) (ps' : List T_cloud_pool) (xs' : List T_cloud_inst) : Prop where
 ins : c'.insts = c.insts
 nam : ∀ i,i ∈ c.insts→(I1 xs' i).name = (I1 xs i).name∧(I1 xs' i).of = (I1 xs i).of
 oth : ∀ i,i ∈ c.insts→(I1 xs i).name ∉ S→I1 xs' i = I1 xs i
 pls : ps'.length = ps.length∧∀ n,1≤n∧n≤ps.length→(P1 ps' n).Group = (P1 ps n).Group∧(P1 ps' n).last = (P1 ps n).last
theorem DS.refl (S : List ByteArray) (c : T_cloud_Cloud) (ps : List T_cloud_pool) (xs : List T_cloud_inst) : DS S c ps xs c ps xs:=⟨rfl,fun _ _ =>⟨rfl,rfl⟩,fun _ _ _ =>rfl,rfl,fun _ _ =>⟨rfl,rfl⟩⟩
theorem DS.next {S T : List ByteArray} {n : ByteArray} {c c1 c2 : T_cloud_Cloud} {ps ps1 ps2 : List T_cloud_pool} {xs xs1 xs2 : List T_cloud_inst} (h : DS S c ps xs c1 ps1 xs1) (h' : DM n c1 ps1 xs1 c2 ps2 xs2) (hS : ∀ s,s ∈ S→s ∈ T) (hn : n ∈ T) : DS T c ps xs c2 ps2 xs2:=by
 refine ⟨h'.ins.trans h.ins,fun i hi =>?_,fun i hi hne =>?_,h'.pls.1.trans h.pls.1,fun j hj =>?_⟩
 ·have q1:=h.nam i hi
  have q2:=h'.nam i (by rw [h.ins]; exact hi)
  exact ⟨q2.1.trans q1.1,q2.2.trans q1.2⟩
 ·have q1:=h.oth i hi fun q =>hne (hS _ q)
  have q2:=h'.oth i (by rw [h.ins]; exact hi) (by rw [q1]; exact fun q =>hne (by rw [q]; exact hn))
  exact q2.trans q1
 ·have q1:=h.pls.2 j hj
  have q2:=h'.pls.2 j (by rw [h.pls.1]; exact hj)
  exact ⟨q2.1.trans q1.1,q2.2.trans q1.2⟩
theorem DS.nms {S : List ByteArray} {c c' : T_cloud_Cloud} {ps ps' : List T_cloud_pool} {xs xs' : List T_cloud_inst} (h : DS S c ps xs c' ps' xs') : nms c' xs' = nms c xs:=by
 unfold M.nms
 rw [h.ins]
 exact List.map_congr_left fun i hi =>(h.nam i hi).1
theorem DS.un {S : List ByteArray} {c c' : T_cloud_Cloud} {ps ps' : List T_cloud_pool} {xs xs' : List T_cloud_inst} (h : DS S c ps xs c' ps' xs') {s : ByteArray} (hs : UN ps s) : UN ps' s:=by
 obtain ⟨n,k,h1,h2,h3,h4⟩:=hs
 have q:=h.pls.2 n h1
 exact ⟨n,k,by rw [h.pls.1]; exact h1,h2,by rw [q.2]; exact h3,by rw [q.1]; exact h4⟩
abbrev SS:=List ByteArray × List T_drain_one × T_world_World × T_cloud_Cloud × List T_cloud_pool × List T_cloud_inst
structure ST (G : List T_api_Group) (B : List T_api_Budget) (BB LB XB : Nat) (want : List ByteArray) (t : T_drain_Table) (w : T_world_World) (c : T_cloud_Cloud) (ps : List T_cloud_pool) (xs : List T_cloud_inst) (k : Nat) (s : SS) : Prop where
 told : s.1.length≤402 * k
 wi : WI G B BB s.2.2.1 want
 ci : CI G LB XB s.2.2.2.1 s.2.2.2.2.1 s.2.2.2.2.2
 ds : DS ((t.l.take k).map (·.name)) c ps xs s.2.2.2.1 s.2.2.2.2.1 s.2.2.2.2.2
 ow : OW ((t.l.take k).map (·.name)) w.bs s.2.2.1.bs
 sp : SP B w.bs s.2.2.1.bs
 mn : s.2.2.1.ms.map (·.Name) = w.ms.map (·.Name)
 sub : (s.2.1.map (·.name)).Sublist ((t.l.take k).map (·.name))
 later : ∀ m,m.Name ∉ (t.l.take k).map (·.name)→(m ∈ s.2.2.1.ms↔m ∈ w.ms)
 kept : ∀ m,m.Name ∈ s.2.1.map (·.name)→(m ∈ s.2.2.1.ms↔m ∈ w.ms)
 left : ∀ n,n ∈ (t.l.take k).map (·.name)→n ∉ s.2.1.map (·.name)→∀ m,m ∈ s.2.2.1.ms→m.Name = n→tntB m = false
theorem Step_loop28 {G : List T_api_Group} {B : List T_api_Budget} {BB LB XB : Nat} {want : List ByteArray} (hr : GR G) (hR : ∀ b,b ∈ B→RB b) (hB : BB≤400) (hX : XB≤100000) {t : T_drain_Table} {w : T_world_World} {c : T_cloud_Cloud} {ps : List T_cloud_pool} {xs : List T_cloud_inst} (h : WI G B BB w want) (hc : CI G LB XB c ps xs)
  (hnd : (t.l.map (·.name)).Nodup) (hlen : t.l.length≤100) (hsz : ∀ e,e ∈ t.l→e.name.size≤300) :
  ∃ s : SS,drain_Table_Step.l1 t FU w c [] [] 0 ps xs = some s∧ST G B BB LB XB want t w c ps xs t.l.length s:=by
 have h0 : ST G B BB LB XB want t w c ps xs 0 ([],[],w,c,ps,xs):=⟨by simp,h,hc,DS.refl _ _ _ _,OW.refl _ _,SP.refl _ _,rfl,List.Sublist.refl _,fun _ _ =>Iff.rfl,fun _ _ =>Iff.rfl,fun n hn =>by simp at hn⟩
 refine idxInv (σ:=SS) (len:=t.l.length) (F:=fun f s i =>drain_Table_Step.l1 t f s.2.2.1 s.2.2.2.1 s.1 s.2.1 i s.2.2.2.2.1 s.2.2.2.2.2) (fun k s =>ST G B BB LB XB want t w c ps xs k s) (by omega) (fun f s k hk hs =>?_) (fun f s =>?_) (s:=(([],[],w,c,ps,xs) : SS)) h0
 ·obtain ⟨told,l2,w1,c1,ps1,xs1⟩:=s
  have ht : t.l.take (k + 1) = t.l.take k++[t.l[k]]:=List.take_succ_eq_append_getElem hk
  have htm : (t.l.take (k + 1)).map (·.name) = (t.l.take k).map (·.name)++[t.l[k].name]:=by rw [ht,List.map_append]; rfl
  have hnk : t.l[k].name ∉ (t.l.take k).map (·.name):=fun q =>by
   obtain ⟨e,he,e2⟩:=List.mem_map.1 q
   obtain ⟨j,hj,rfl⟩:=List.getElem_of_mem he
   rw [List.getElem_take] at e2
   have hj' : j < k:=by rw [List.length_take] at hj; omega
   have:=nodup_get hnd (show j < t.l.length by omega) hk e2
   omega
  have hl2 : l2.length≤k:=by
   have:=hs.sub.length_le
   rw [List.length_map,List.length_map,List.length_take] at this
   show l2.length≤k
   have e : ((told,l2,w1,c1,ps1,xs1) : SS).2.1 = l2:=rfl
   rw [e] at this
   omega
  have htold : told.length≤402 * k:=hs.told
  show ∃ s',drain_Table_Step.l1 t (f + 1) w1 c1 told l2 (k : Int) ps1 xs1 = _∧_
  rw [drain_Table_Step.l1,if_pos (dlt hk),glk hk]
  simp only [Option.bind_some]
  obtain ⟨fl,w2,c2,x2,a2,ps2,xs2,g1,g2,g3,g4,g5,g6,g7,g8,g9⟩:=goes_ok hr hR hB hX t hs.wi hs.ci t.l[k] (hsz _ (List.getElem_mem hk)) (a:=told) (by omega)
  rw [g1]
  simp only [Option.bind_some]
  have hmn2 : w2.ms.map (·.Name) = w.ms.map (·.Name):=g5.tm.names.trans hs.mn
  have hds : DS ((t.l.take (k + 1)).map (·.name)) c ps xs c2 ps2 xs2:=hs.ds.next g4 (fun s q =>by rw [htm]; exact List.mem_append_left _ q) (by rw [htm]; exact List.mem_append_right _ (List.mem_singleton.2 rfl))
  have how : OW ((t.l.take (k + 1)).map (·.name)) w.bs w2.bs:=(hs.ow.mono fun s q =>by rw [htm]; exact List.mem_append_left _ q).trans (g5.ow.mono fun s q =>by rw [List.mem_singleton] at q; rw [q,htm]; exact List.mem_append_right _ (List.mem_singleton.2 rfl))
  have hsp : SP B w.bs w2.bs:=hs.sp.trans g5.sp
  have hlat : ∀ m : T_api_Machine,m.Name ∉ (t.l.take (k + 1)).map (·.name)→(m ∈ w2.ms↔m ∈ w.ms):=fun m hm =>by
   rw [htm] at hm
   have q1 : m.Name ∉ (t.l.take k).map (·.name):=fun q =>hm (List.mem_append_left _ q)
   have q2 : m.Name≠t.l[k].name:=fun q =>hm (List.mem_append_right _ (List.mem_singleton.2 q))
   exact (g5.tm.oth m q2).trans (hs.later m q1)
  have hsub2 : ∀ n,n ∈ l2.map (·.name)→n≠t.l[k].name:=fun n hn e =>hnk (by rw [← e]; exact hs.sub.subset hn)
  cases fl with
  | true =>
   rw [if_pos rfl,ap_ok (by omega) (by simp; omega)]
   simp only [Option.bind_some]
   rw [wk1 (by omega)]
   have hms:=g7 rfl
   have hnm : (l2++[x2]).map (·.name) = l2.map (·.name)++[t.l[k].name]:=by rw [List.map_append,List.map_cons,List.map_nil,g6]
   refine ⟨(a2,l2++[x2],w2,c2,ps2,xs2),rfl,⟨by show a2.length≤_; omega,g2,g3,hds,how,hsp,hmn2,?_,hlat,?_,?_⟩⟩
   ·show ((l2++[x2]).map (·.name)).Sublist _
    rw [hnm,htm]
    exact hs.sub.append (List.Sublist.refl _)
   ·intro m hm
    have hm' : m.Name ∈ (l2++[x2]).map (·.name):=hm
    rw [hnm] at hm'
    show m ∈ w2.ms↔m ∈ w.ms
    rw [hms]
    rcases List.mem_append.1 hm' with q | q
    ·exact hs.kept m q
    ·rw [List.mem_singleton] at q
     exact hs.later m (by rw [q]; exact hnk)
   ·intro n hn hn2 m hm e
    have hn2' : n ∉ (l2++[x2]).map (·.name):=hn2
    rw [hnm] at hn2'
    rw [htm] at hn
    rcases List.mem_append.1 hn with q | q
    ·refine hs.left n q (fun q2 =>hn2' (List.mem_append_left _ q2)) m ?_ e
     have hm' : m ∈ w2.ms:=hm
     rw [hms] at hm'
     exact hm'
    ·exact absurd (List.mem_append_right _ q) hn2'
  | false =>
   rw [if_neg (by decide),wk1 (by omega)]
   refine ⟨(a2,l2,w2,c2,ps2,xs2),rfl,⟨by show a2.length≤_; omega,g2,g3,hds,how,hsp,hmn2,?_,hlat,?_,?_⟩⟩
   ·show (l2.map (·.name)).Sublist _
    rw [htm]
    exact hs.sub.trans (List.sublist_append_left _ _)
   ·intro m hm
    exact (g5.tm.oth m (hsub2 _ hm)).trans (hs.kept m hm)
   ·intro n hn hn2 m hm e
    rw [htm] at hn
    rcases List.mem_append.1 hn with q | q
    ·have hne : n≠t.l[k].name:=fun e2 =>hnk (by rw [← e2]; exact q)
     exact hs.left n q hn2 m ((g5.tm.oth m (by rw [e]; exact hne)).1 hm) e
    ·rw [List.mem_singleton] at q
     exact g8 rfl m hm (e.trans q)
 ·obtain ⟨told,l2,w1,c1,ps1,xs1⟩:=s
  show drain_Table_Step.l1 t (f + 1) w1 c1 told l2 _ ps1 xs1 = _
  rw [drain_Table_Step.l1,if_neg dnl]
theorem Busy_ok {t : T_drain_Table} (hm : t.made = true) (hl : t.l.length≤1000) : drain_Table_Busy t = some (t.l.map (·.name)):=by
 obtain ⟨s,h1,h2⟩:=idxInv (len:=t.l.length) (F:=fun f s i =>drain_Table_names_drain_Table_Busy_1.l1 t f s i) (fun k s =>s = (t.l.take k).map (·.name)) (by omega)
  (fun f s k hk i1 =>by
   subst i1
   have ht : t.l.take (k + 1) = t.l.take k++[t.l[k]]:=List.take_succ_eq_append_getElem hk
   rw [drain_Table_names_drain_Table_Busy_1.l1,if_pos (dlt hk),glk hk]
   unfold drain_Table_Busy_1
   simp only [Option.bind_some]
   rw [ap_ok (by omega) (by simp; omega)]
   simp only [Option.bind_some]
   rw [wk1 (by omega)]
   exact ⟨_,rfl,by rw [ht,List.map_append]; rfl⟩)
  (fun f s =>by rw [drain_Table_names_drain_Table_Busy_1.l1,if_neg dnl]) (s:=[]) (by simp)
 rw [List.take_length] at h2
 subst h2
 unfold drain_Table_Busy drain_Table_names_drain_Table_Busy_1 drain_Table_there
 simp only [Option.bind_some,hm,Bool.not_true,Bool.false_eq_true,if_false]
 have h1' : drain_Table_names_drain_Table_Busy_1.l1 t FU [] 0 = some (t.l.map (·.name)):=h1
 rw [h1']
 rfl
end Go.Proofs.YtbgfffdnaijmhaaGreat.M
/-
  Plain laws of emptying: to begin; what is asked of a step. Own text.
-/
namespace Go.Proofs.YtbgfffdnaijmhaaGreat.M
open Go Go.Proofs Go.Proofs.YtbgfffdnaijmhaaGreat.V
open Go.IntKind (i64)
set_option linter.unusedVariables false
set_option maxRecDepth 100000
theorem bR2 (x : T_api_Budget) : ∀ (l : List T_api_Budget) (k : Nat) (o : Out (Out Bool Unit) Unit),budget_Right.l2 x l k = some o→o = .ret (.ret false)∨o = .go ()
  | [],k,o,h =>by rw [budget_Right.l2] at h; exact .inr (Option.some.inj h).symm
  | y :: l,k,o,h =>by
    rw [budget_Right.l2] at h
    split at h
    · exact .inl (Option.some.inj h).symm
    · exact bR2 x l _ o h
theorem bR1 {B : List T_api_Budget} : ∀ (l : List T_api_Budget) (k : Nat) (o : Out Bool Unit),budget_Right.l1 B l k = some o→o = .ret false∨(o = .go ()∧∀ b,b ∈ l→0≤b.Least∧b.Least≤400)
  | [],k,o,h =>by rw [budget_Right.l1] at h; exact .inr ⟨(Option.some.inj h).symm,by simp⟩
  | b :: l,k,o,h =>by
    rw [budget_Right.l1] at h
    obtain ⟨r,_,h⟩:=Option.bind_eq_some_iff.1 h
    obtain ⟨c,_,h⟩:=Option.bind_eq_some_iff.1 h
    split at h
    · exact .inl (Option.some.inj h).symm
    · split at h
      · exact .inl (Option.some.inj h).symm
      · rename_i q
        obtain ⟨v,_,h⟩:=Option.bind_eq_some_iff.1 h
        obtain ⟨o2,h2,h⟩:=Option.bind_eq_some_iff.1 h
        rcases bR2 b v 0 o2 h2 with rfl | rfl
        · exact .inl (Option.some.inj h).symm
        · rcases bR1 l (k + 1) o h with e | ⟨e,f⟩
          · exact .inl e
          · refine .inr ⟨e,fun x hx =>?_⟩
            rcases List.mem_cons.1 hx with rfl | hx
            · simp only [Bool.or_eq_true,decide_eq_true_eq,not_or] at q
              omega
            · exact f x hx
theorem bR_least {B : List T_api_Budget} (h : budget_Right B = some true) : ∀ b,b ∈ B→0≤b.Least∧b.Least≤400:=by
  unfold budget_Right at h
  obtain ⟨o,h1,h2⟩:=Option.bind_eq_some_iff.1 h
  rcases bR1 B 0 o h1 with rfl | ⟨_,f⟩
  · cases h2
  · exact f
theorem HI_names {c : T_cloud_Cloud} {xs : List T_cloud_inst} {ms ms' : List T_api_Machine} (h : HI c xs ms) (e : ms'.map (·.Name) = ms.map (·.Name)) : HI c xs ms':=by
  rw [HI_iff] at h ⊢
  intro m hm
  have : m.Name ∈ ms.map (·.Name):=by rw [← e]; exact List.mem_map_of_mem hm
  obtain ⟨m',h1,h2⟩:=List.mem_map.1 this
  rw [← h2]
  exact h m' h1
theorem Start_ok {G : List T_api_Group} {B : List T_api_Budget} {BB : Nat} {w : T_world_World} {want : List ByteArray} (h : WI G B BB w want) {k : Nat} (hk : k≤100) {t : T_drain_Table} {c : T_cloud_Cloud} {ps : List T_cloud_pool} {xs : List T_cloud_inst} (ht : EI k t w.ms c ps xs) (hi : HI c xs w.ms) {name : ByteArray} (hn : name.size≤300) :
    ∃ e t' w',drain_Table_Start t w c name = some (e,t',w')∧WI G B BB w' want∧EI (k + 1) t' w'.ms c ps xs∧HI c xs w'.ms:=by
  have hlen:=ht.len
  have same : EI (k + 1) t w.ms c ps xs:=⟨ht.made,ht.nd,by omega,ht.sz,ht.ent⟩
  unfold drain_Table_Start drain_Table_there drain_is
  simp only [Option.bind_some,ht.made,Bool.not_true,Bool.false_eq_true,if_false]
  obtain ⟨b,b1,b2⟩:=has_ok h c name
  rw [b1]
  simp only [Option.bind_some]
  cases b with
  | false =>
    rw [if_pos (show (!false) = true from rfl)]
    exact ⟨16,t,w,rfl,h,same,hi⟩
  | true =>
    rw [if_neg (by decide)]
    rcases loopI (F:=fun n i =>drain_Table_Start.l1 t w name n i) (Q:=fun r =>r = (15,t,w)) (S:=fun j =>∀ hj : j < t.l.length,t.l[j].name≠name) (len:=t.l.length) (by omega) (fun n j hj =>by
        rw [drain_Table_Start.l1,if_pos (dlt hj),glk hj,wk1 (by omega)]
        simp only [Option.bind_some,seq_eq]
        by_cases e : t.l[j].name = name
        · rw [if_pos (by simpa using e)]; exact .inl ⟨_,rfl,rfl⟩
        · rw [if_neg (by simpa using e)]; exact .inr ⟨rfl,fun _ =>e⟩) (fun n =>by rw [drain_Table_Start.l1,if_neg dnl]) with ⟨r,h1,rfl⟩ | ⟨h1,h2⟩
    · rw [h1]
      exact ⟨15,t,w,rfl,h,same,hi⟩
    · rw [h1]
      simp only [Option.bind_some,Out.on]
      obtain ⟨e,w',q1,q2,q3,q4,q5,q6⟩:=Taint_ok h c name
      have q1' : world_World_Taint w c name (⟨(⟨#[100,114,97,105,110,105,110,103]⟩ : ByteArray),(⟨#[]⟩ : ByteArray),1⟩ : T_api_Taint) = some (e,w'):=q1
      rw [q1']
      simp only [Option.bind_some]
      by_cases he : e = 0
      · rw [if_neg (by simp [he]),ap_ok (by omega) (by simp; omega)]
        have hnot : ∀ y,y ∈ t.l→y.name≠name:=fun y hy =>by
          obtain ⟨j,hj,rfl⟩:=List.getElem_of_mem hy
          exact h2 j hj hj
        refine ⟨0,_,w',rfl,q2,⟨rfl,?_,by show (t.l++[(⟨name,0,false⟩ : T_drain_one)]).length≤_; simp; omega,?_,?_⟩,HI_names hi q3.names⟩
        · show ((t.l++[(⟨name,0,false⟩ : T_drain_one)]).map (·.name)).Nodup
          rw [List.map_append]
          refine List.nodup_append.2 ⟨ht.nd,by simp,fun a ha b hb ee =>?_⟩
          simp only [List.map_cons,List.map_nil,List.mem_singleton] at hb
          obtain ⟨y,hy,rfl⟩:=List.mem_map.1 ha
          exact hnot y hy (ee.trans hb)
        · intro y hy
          rcases List.mem_append.1 hy with hy | hy
          · exact ht.sz y hy
          · rw [List.mem_singleton] at hy; subst hy; exact hn
        · intro y hy
          rcases List.mem_append.1 hy with hy | hy
          · rcases ht.ent y hy with ⟨m,m1,m2,m3⟩ | q
            · exact .inl ⟨m,(q3.oth m (by rw [m2]; exact hnot y hy)).2 m1,m2,m3⟩
            · exact .inr q
          · rw [List.mem_singleton] at hy; subst hy; exact .inl (q6 he)
      · rw [if_pos (by simpa using he)]
        have:=q5 he
        subst this
        exact ⟨e,t,w',rfl,h,same,hi⟩
theorem instsV_get {c : T_cloud_Cloud} {ps : List T_cloud_pool} {xs : List T_cloud_inst} {k : Nat} (h : k < (instsV c ps xs).length) (h2 : k < c.insts.length) : (instsV c ps xs)[k] = instV ps (I1 xs c.insts[k]) :=
  List.getElem_map (fun i =>instV ps (I1 xs i))
theorem own_ok {G : List T_api_Group} {B : List T_api_Budget} {BB LB XB : Nat} {want want' : List ByteArray} {w w' : T_world_World} {c c' : T_cloud_Cloud} {ps ps' : List T_cloud_pool} {xs xs' : List T_cloud_inst} {busy : List ByteArray} (hB : BB≤400) (hX : XB≤100000) (hbl : busy.length≤1000)
    (h : WI G B BB w want) (h' : WI G B BB w' want') (hc : CI G LB XB c ps xs) (hc' : CI G LB XB c' ps' xs') (how : OW busy w.bs w'.bs) (hds : DS busy c ps xs c' ps' xs') :
    law28_own busy w.bs (instsV c ps xs) w' c' ps' xs' = some true:=by
  have hwl:=h.bl
  have hwl':=h'.bl
  have hil:=hc.ilen
  unfold law28_own
  rw [Bounds_ok h' hB c']
  simp only [Option.bind_some]
  rw [if_neg (by simp [how.1])]
  have l1 : law28_own.l1 busy w.bs w'.bs FU 0 = some (.go ()):=by
    rcases loopI (F:=fun n i =>law28_own.l1 busy w.bs w'.bs n i) (Q:=fun r =>False) (S:=fun _ =>True) (len:=w.bs.length) (by omega) (fun n k hk =>by
        obtain ⟨y,y1,y2,y3⟩:=how.2 _ (List.getElem_mem hk)
        obtain ⟨r,_,r2,r3⟩:=place_d w'.bs w.bs[k].Pod.Name (by omega)
        rw [law28_own.l1,if_pos (dlt hk),glk hk,wk1 (by omega)]
        simp only [Option.bind_some]
        rw [r2]
        simp only [Option.bind_some]
        rcases r3 with ⟨_,q⟩ | ⟨q,rfl,hq,hqn⟩
        · exact absurd (by rw [← y2]; exact List.mem_map_of_mem y1) q
        · rw [if_neg (by simp),glk hq]
          simp only [Option.bind_some,seq_eq]
          have hye : y = w'.bs[q]:=by
            obtain ⟨j,hj,rfl⟩:=List.getElem_of_mem y1
            have:=nodup_get (f:=fun b : T_api_Bound =>b.Pod.Name) h'.bnd hj hq (by rw [hqn,y2])
            subst this
            rfl
          rw [← hye]
          by_cases e : y.On = w.bs[k].On
          · rw [if_neg (by simp [e])]; exact .inr ⟨rfl,trivial⟩
          · rw [if_pos (by simpa using e),among28 busy _ hbl,memB_iff.2 (y3.resolve_left e)]
            exact .inr ⟨rfl,trivial⟩) (fun n =>by rw [law28_own.l1,if_neg dnl]) with ⟨r,_,q⟩ | ⟨q,_⟩
    · exact q.elim
    · exact q
  rw [l1]
  simp only [Option.bind_some,Out.on]
  rw [Insts_ok hc' hX]
  simp only [Option.bind_some]
  have hlen : (instsV c' ps' xs').length = (instsV c ps xs).length:=by unfold instsV; rw [List.length_map,List.length_map,hds.ins]
  have hlen2 : (instsV c ps xs).length = c.insts.length:=by unfold instsV; rw [List.length_map]
  rw [if_neg (by simp [hlen])]
  have l2 : law28_own.l2 busy (instsV c ps xs) (instsV c' ps' xs') FU 0 = some (.go ()):=by
    rcases loopI (F:=fun n i =>law28_own.l2 busy (instsV c ps xs) (instsV c' ps' xs') n i) (Q:=fun r =>False) (S:=fun _ =>True) (len:=(instsV c' ps' xs').length) (by omega) (fun n k hk =>by
        have hk2 : k < (instsV c ps xs).length:=by omega
        have hki : k < c.insts.length:=by omega
        have hki' : k < c'.insts.length:=by rw [hds.ins]; exact hki
        have e1 : (instsV c' ps' xs')[k] = instV ps' (I1 xs' c.insts[k]):=by
          rw [instsV_get hk hki']
          have : c'.insts[k] = c.insts[k]:=List.getElem_of_eq hds.ins hki'
          rw [this]
        have e2 : (instsV c ps xs)[k] = instV ps (I1 xs c.insts[k]):=instsV_get hk2 hki
        rw [law28_own.l2,if_pos (dlt hk),glk hk,glk hk2,wk1 (by omega)]
        simp only [Option.bind_some]
        rw [e1,e2]
        have hmem:=List.getElem_mem hki
        by_cases hb : (I1 xs c.insts[k]).name ∈ busy
        · have hnm : (instV ps' (I1 xs' c.insts[k])).Name ∈ busy:=by
            show (I1 xs' c.insts[k]).name ∈ busy
            rw [(hds.nam _ hmem).1]; exact hb
          rw [among28 busy _ hbl,memB_iff.2 hnm]
          simp only [Option.bind_some,Bool.not_true]
          split
          · exact .inr ⟨rfl,trivial⟩
          · exact .inr ⟨rfl,trivial⟩
        · have e3:=hds.oth _ hmem hb
          have e4 : instV ps' (I1 xs' c.insts[k]) = instV ps (I1 xs c.insts[k]):=by
            rw [e3]
            unfold instV
            have:=(hds.pls.2 _ (hc.good _ hmem).of).1
            rw [this]
          rw [e4]
          simp only [ba_beq,beq_self_eq_true,Bool.and_true,Bool.not_true,Bool.false_eq_true,if_false,Option.bind_some]
          exact .inr ⟨trivial,trivial⟩) (fun n =>by rw [law28_own.l2,if_neg dnl]) with ⟨r,_,q⟩ | ⟨q,_⟩
    · exact q.elim
    · exact q
  rw [l2]
  rfl
end Go.Proofs.YtbgfffdnaijmhaaGreat.M

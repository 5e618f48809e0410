/-
  Printed by a program of this session out of the loaded functions: models and their proofs. Own text.
-/
import Derived.Test.YtbgfffdnaijmhaaGreatPDw6
/-
  The plain law of DrainOwn: by emptying no other machine's pods are touched, no other machine given back, no budget goes below nothing. No program in sight.
-/
namespace Go.Proofs.YtbgfffdnaijmhaaGreat.M
open Go Go.Proofs Go.Proofs.YtbgfffdnaijmhaaGreat.V
open Go.IntKind (i64)
set_option linter.unusedVariables false
set_option maxRecDepth 100000
theorem OpLight28 (o : T_law18_Op) : ∃ b,law18_Op_Light o = some b∧(b = true→LP o.P_∧o.Name.size≤300):=by
  unfold law18_Op_Light
  obtain ⟨b1,e1,f1⟩:=ref07_LightPod_eq o.P_
  obtain ⟨b2,e2,_⟩:=ref06_Light_eq [] [o.X]
  rw [e1,e2]
  simp only [Option.bind_some]
  by_cases h : (b1 && decide ((o.Name.size : Int)≤300)) = true
  · rw [if_pos h]
    simp only [Bool.and_eq_true,decide_eq_true_eq] at h
    exact ⟨b2,rfl,fun _ =>⟨f1 h.1,by omega⟩⟩
  · rw [if_neg h]; exact ⟨false,rfl,fun q =>by cases q⟩
theorem idxOut {σ ρ τ : Type} {len : Nat} {F : Nat→σ→Int→Option (Out ρ τ)} (Inv : Nat→σ→Prop) (hl : len < 1000000) (hs : ∀ f s (k : Nat),k < len→Inv k s→∃ s',F (f + 1) s (k : Int) = F f s' ((k + 1 : Nat) : Int)∧Inv (k + 1) s') (he : ∀ f s,Inv len s→∃ r,F (f + 1) s (len : Int) = some (.go r)) {s : σ} (h0 : Inv 0 s) : ∃ r,F FU s 0 = some (.go r):=by
  have key : ∀ (m k f : Nat) (s : σ),len - k = m→m < f→k≤len→Inv k s→∃ r,F f s (k : Int) = some (.go r):=by
    intro m
    induction m with
    | zero =>
      intro k f s h1 h2 h3 h4
      obtain ⟨f,rfl⟩ : ∃ q,f = q + 1:=⟨f - 1,by omega⟩
      obtain rfl : k = len:=by omega
      exact he f s h4
    | succ m ih =>
      intro k f s h1 h2 h3 h4
      obtain ⟨f,rfl⟩ : ∃ q,f = q + 1:=⟨f - 1,by omega⟩
      obtain ⟨s',e,h5⟩:=hs f s k (by omega) h4
      rw [e]
      exact ih (k + 1) f s' (by omega) (by omega) (by omega) h5
  exact key len 0 FU s (by omega) (by unfold FU; omega) (Nat.zero_le _) h0
abbrev DSt:=T_world_World × T_cloud_Cloud × T_drain_Table × List T_cloud_pool × List T_cloud_inst
structure DI (G : List T_api_Group) (B : List T_api_Budget) (k : Nat) (s : DSt) : Prop where
  wi : ∃ want,WI G B k s.1 want
  ci : CI G (120 + 200 * k) (120 + 200 * k) s.2.1 s.2.2.2.1 s.2.2.2.2
  hi : HI s.2.1 s.2.2.2.2 s.1.ms
  ei : EI k s.2.2.1 s.1.ms s.2.1 s.2.2.2.1 s.2.2.2.2
theorem EI.mono {k k' : Nat} {t : T_drain_Table} {ms : List T_api_Machine} {c : T_cloud_Cloud} {ps : List T_cloud_pool} {xs : List T_cloud_inst} (h : EI k t ms c ps xs) (hk : k≤k') : EI k' t ms c ps xs:=⟨h.made,h.nd,by have:=h.len; omega,h.sz,h.ent⟩
theorem DI.next {G : List T_api_Group} {B : List T_api_Budget} {k : Nat} {s : DSt} (h : DI G B k s) : DI G B (k + 1) s :=
  ⟨by obtain ⟨want,q⟩:=h.wi; exact ⟨want,q.mono (by omega)⟩,h.ci.mono (by omega) (by omega),h.hi,h.ei.mono (by omega)⟩
theorem acts_ok {G : List T_api_Group} {B : List T_api_Budget} (hr : GR G) (hsm : smax G≤200) {k : Nat} (hk : k < 30) {w : T_world_World} {c : T_cloud_Cloud} {t : T_drain_Table} {ps : List T_cloud_pool} {xs : List T_cloud_inst} (h : DI G B k (w,c,t,ps,xs)) (o : T_law18_Op) (ho : LP o.P_) (h4 : (o.Kind != 4) = true) :
    ∃ w' c' ps' xs',law28_acts w c o ps xs = some (w',c',ps',xs')∧DI G B (k + 1) (w',c',t,ps',xs'):=by
  obtain ⟨⟨want,hw⟩,hc,hi,he⟩:=h
  simp only at hw hc hi he
  have hL : 120 + 200 * k≤6399:=by omega
  unfold law28_acts
  by_cases k0 : (o.Kind == 0) = true
  · rw [if_pos k0]
    rcases AddPod_ok hw (by omega) c ho with ⟨e,_,h1⟩ | ⟨w',h1,h2,h3⟩
    · rw [h1]
      exact ⟨w,c,ps,xs,rfl,DI.next ⟨⟨want,hw⟩,hc,hi,he⟩⟩
    · rw [h1]
      refine ⟨w',c,ps,xs,rfl,⟨⟨_,h3⟩,hc.mono (by omega) (by omega),?_,?_⟩⟩
      · show HI c xs w'.ms
        rw [h2]; exact hi
      · show EI (k + 1) t w'.ms c ps xs
        rw [h2]; exact he.mono (by omega)
  · rw [if_neg k0]
    by_cases k2 : (o.Kind == 2) = true
    · rw [if_pos k2]
      obtain ⟨e,w',h1,h2,h3,h5⟩:=Ready_ok hw c o.Name o.Is
      rw [h1]
      refine ⟨w',c,ps,xs,rfl,⟨⟨_,h2.mono (by omega)⟩,hc.mono (by omega) (by omega),HI_names hi h3,⟨he.made,he.nd,by have:=he.len; show t.l.length≤_; omega,he.sz,fun y hy =>?_⟩⟩⟩
      rcases he.ent y hy with ⟨m,m1,m2,m3⟩ | q
      · obtain ⟨m',q1,q2,q3⟩:=h5 m m1
        exact .inl ⟨m',q1,q2.trans m2,by unfold tntB at m3 ⊢; rw [q3]; exact m3⟩
      · exact .inr q
    · rw [if_neg k2]
      have k4 : ¬ (o.Kind == 4) = true:=by simpa using h4
      rw [if_neg k4]
      by_cases k8 : (o.Kind == 8) = true
      · rw [if_pos k8]
        obtain ⟨e,c',ps',xs',h1,h2,h3⟩:=Increase_ok hr hc (by omega) (by omega) o.Name o.N_
        rw [h1]
        refine ⟨w,c',ps',xs',rfl,⟨⟨_,hw.mono (by omega)⟩,h2.mono (by omega) (by omega),?_,⟨he.made,he.nd,by have:=he.len; show t.l.length≤_; omega,he.sz,fun y hy =>?_⟩⟩⟩
        · show HI c' xs' w.ms
          rw [HI_iff] at hi ⊢
          exact fun m hm =>h3.old _ (hi m hm)
        · rcases he.ent y hy with q | ⟨q1,q2⟩
          · exact .inl q
          · exact .inr ⟨h3.un _ q1,fun q =>q2 (h3.new _ q1 q)⟩
      · rw [if_neg k8]
        by_cases k9 : (o.Kind == 9) = true
        · rw [if_pos k9]
          obtain ⟨e,c',ps',xs',h1,h2,h3,_⟩:=Delete_ok hr hc (by omega) o.Name
          rw [h1]
          have hds : DS [o.Name] c ps xs c' ps' xs':=(DS.refl [] c ps xs).next h3 (fun s q =>by cases q) (List.mem_singleton.2 rfl)
          refine ⟨w,c',ps',xs',rfl,⟨⟨_,hw.mono (by omega)⟩,h2.mono (by omega) (by omega),?_,⟨he.made,he.nd,by have:=he.len; show t.l.length≤_; omega,he.sz,fun y hy =>?_⟩⟩⟩
          · show HI c' xs' w.ms
            rw [HI_iff] at hi ⊢
            rw [hds.nms]
            exact hi
          · rcases he.ent y hy with q | ⟨q1,q2⟩
            · exact .inl q
            · exact .inr ⟨hds.un q1,by show y.name ∉ nms c' xs'; rw [hds.nms]; exact q2⟩
        · rw [if_neg k9]
          obtain ⟨w',c',xs',h1,h2,h3,h5,h6,h7⟩:=Pass_ok hr hsm hc hL (by omega) (by omega) hw
          rw [h1]
          refine ⟨w',c',ps,xs',rfl,⟨⟨_,h2.mono (by omega)⟩,h3.mono (by omega) (by omega),h5,⟨he.made,he.nd,by have:=he.len; show t.l.length≤_; omega,he.sz,fun y hy =>?_⟩⟩⟩
          rcases he.ent y hy with ⟨m,m1,m2,m3⟩ | ⟨q1,q2⟩
          · rcases h6 m m1 with q | q
            · exact .inl ⟨m,q,m2,m3⟩
            · refine .inr ⟨?_,by rw [← m2]; exact q⟩
              rw [← m2]
              exact UN_inst hc hL ((HI_iff.1 hi) m m1)
          · exact .inr ⟨q1,fun q =>q2 (h7 _ q)⟩
theorem spare_loop {c : T_law28_Case} {G : List T_api_Group} {BB : Nat} {want want' : List ByteArray} {w : T_world_World} (hB : BB≤400) (hRB : ∀ b,b ∈ c.B→RB b) (hBl : c.B.length≤30) (h : WI G c.B BB w want) {r : List ByteArray × T_drain_Table × T_world_World × T_cloud_Cloud × List T_cloud_pool × List T_cloud_inst} (h' : WI G c.B BB r.2.2.1 want') (hsp : SP c.B w.bs r.2.2.1.bs) : law28_DrainOwn.l2 c w.bs r FU 0 = some (.go ()):=by
  have hwl:=h.bl
  have hwl':=h'.bl
  rcases loopI (F:=fun n i =>law28_DrainOwn.l2 c w.bs r n i) (Q:=fun r =>False) (S:=fun _ =>True) (len:=c.B.length) (by omega) (fun n k hk =>by
      have hb:=List.getElem_mem hk
      rw [law28_DrainOwn.l2,if_pos (dlt hk),glk hk,wk1 (by omega)]
      simp only [Option.bind_some]
      rw [Spare15_eq (hRB _ hb) (by omega) h.bp,Bounds_ok h' hB]
      simp only [Option.bind_some]
      rw [Spare15_eq (hRB _ hb) (by omega) h'.bp]
      simp only [Option.bind_some]
      by_cases q : ((spC c.B[k] w.bs : Int) - c.B[k].Least)≥0
      · rw [if_pos (by simpa using q)]
        have:=hsp _ hb (by omega)
        simp only [Option.bind_some]
        rw [if_neg (by simp; omega)]
        exact .inr ⟨rfl,trivial⟩
      · rw [if_neg (by simpa using q)]
        exact .inr ⟨rfl,trivial⟩) (fun n =>by rw [law28_DrainOwn.l2,if_neg dnl]) with ⟨r,_,q⟩ | ⟨q,_⟩
  · exact q.elim
  · exact q
theorem tnt_loop {busy now : List ByteArray} {ms : List T_api_Machine} (hl : ms.length≤1000) (hbl : busy.length≤1000) (hnl : now.length≤1000) (hlm : ∀ m,m ∈ ms→LM m) (h : ∀ m,m ∈ ms→m.Name ∈ busy→tntB m = memB now m.Name) : law28_DrainOwn.l3 busy now ms FU 0 = some (.go ()):=by
  rcases loopI (F:=fun n i =>law28_DrainOwn.l3 busy now ms n i) (Q:=fun r =>False) (S:=fun _ =>True) (len:=ms.length) (by omega) (fun n k hk =>by
      have hm:=List.getElem_mem hk
      rw [law28_DrainOwn.l3,if_pos (dlt hk),glk hk,wk1 (by omega)]
      simp only [Option.bind_some]
      rw [among28 busy _ hbl]
      simp only [Option.bind_some]
      cases hb : memB busy ms[k].Name with
      | false =>
        rw [if_neg (by decide)]
        exact .inr ⟨rfl,trivial⟩
      | true =>
        rw [if_pos rfl,tnt_eq (hlm _ hm),among28 now _ hnl,h _ hm (memB_iff.1 hb)]
        simp only [Option.bind_some,beq_self_eq_true,Bool.not_true,Bool.false_eq_true,if_false]
        exact .inr ⟨trivial,trivial⟩) (fun n =>by rw [law28_DrainOwn.l3,if_neg dnl]) with ⟨r,_,q⟩ | ⟨q,_⟩
  · exact q.elim
  · exact q
theorem own_loop {c : T_law28_Case} {G : List T_api_Group} (hr : GR G) (hsm : smax G≤200) (hRB : ∀ b,b ∈ c.B→RB b) (hBl : c.B.length≤30) {s : DSt} (h0 : DI G c.B 0 s) : ∃ r,law28_DrainOwn.l1 c FU s.1 s.2.1 s.2.2.1 0 s.2.2.2.1 s.2.2.2.2 = some (.go r):=by
  refine idxOut (σ:=DSt) (len:=min c.L.length 30) (F:=fun f s i =>law28_DrainOwn.l1 c f s.1 s.2.1 s.2.2.1 i s.2.2.2.1 s.2.2.2.2) (fun k s =>DI G c.B k s) (by omega) (fun f s k hk h =>?_) (fun f s _ =>?_) h0
  · obtain ⟨w,cl,t,ps,xs⟩:=s
    have hh:=h
    obtain ⟨⟨want,hw⟩,hc,hi,he⟩:=h
    simp only at hw hc hi he
    have hkl : k < c.L.length:=by omega
    have hk30 : k < 30:=by omega
    show ∃ s',law28_DrainOwn.l1 c (f + 1) w cl t (k : Int) ps xs = _∧_
    rw [law28_DrainOwn.l1,if_pos (by simp; omega),glk hkl]
    simp only [Option.bind_some]
    obtain ⟨b,hb,hlp⟩:=OpLight28 c.L[k].W
    rw [hb]
    simp only [Option.bind_some]
    rw [Machines_ok hw cl,wk1 (by omega)]
    have skip : ∃ s' : DSt,law28_DrainOwn.l1 c f w cl t ((k + 1 : Nat) : Int) ps xs = law28_DrainOwn.l1 c f s'.1 s'.2.1 s'.2.2.1 ((k + 1 : Nat) : Int) s'.2.2.2.1 s'.2.2.2.2∧DI G c.B (k + 1) s':=⟨(w,cl,t,ps,xs),rfl,hh.next⟩
    cases b with
    | false =>exact skip
    | true =>
      simp only [Bool.not_true,Bool.false_eq_true,if_false,Option.bind_some]
      obtain ⟨hp,hnm⟩:=hlp rfl
      by_cases hm : decide ((w.ms.length : Int) > 30) = true
      · rw [if_pos hm]; exact skip
      · rw [if_neg hm]
        by_cases d0 : (c.L[k].Drain == 0) = true
        · rw [if_pos d0]
          obtain ⟨e,t',w',q1,q2,q3,q4⟩:=Start_ok hw (by omega) he hi hnm
          rw [q1]
          exact ⟨(w',cl,t',ps,xs),rfl,⟨⟨want,q2.mono (by omega)⟩,hc.mono (by omega) (by omega),q4,q3⟩⟩
        · rw [if_neg d0]
          by_cases d1 : (c.L[k].Drain != 1) = true
          · rw [if_pos d1]
            by_cases k4 : (c.L[k].W.Kind != 4) = true
            · rw [if_pos k4]
              obtain ⟨w',c',ps',xs',q1,q2⟩:=acts_ok hr hsm hk30 hh c.L[k].W hp k4
              rw [q1]
              exact ⟨(w',c',t,ps',xs'),rfl,q2⟩
            · rw [if_neg k4]
              exact skip
          · rw [if_neg d1]
            have hlen:=he.len
            rw [Busy_ok he.made (by omega),Bounds_ok hw (by omega) cl,Insts_ok hc (by omega)]
            simp only [Option.bind_some]
            obtain ⟨ss,s1,s2⟩:=Step_loop28 hr hRB (show k≤400 by omega) (by omega) (t:=t) hw hc he.nd (by omega) he.sz
            have hst : drain_Table_Step t w cl ps xs = some (ss.1,(⟨ss.2.1,t.grace,t.made⟩ : T_drain_Table),ss.2.2.1,ss.2.2.2.1,ss.2.2.2.2.1,ss.2.2.2.2.2):=by
              unfold drain_Table_Step drain_Table_there drain_is
              simp only [Option.bind_some,he.made,Bool.not_true,Bool.false_eq_true,if_false]
              rw [s1]
              rfl
            rw [hst]
            simp only [Option.bind_some]
            have htk : t.l.take t.l.length = t.l:=List.take_length
            have ds:=s2.ds
            have ow:=s2.ow
            have sub:=s2.sub
            have lft:=s2.left
            rw [htk] at ds ow sub lft
            have hbz : (t.l.map (·.name)).length≤1000:=by rw [List.length_map]; omega
            rw [own_ok (show k≤400 by omega) (by omega) hbz hw s2.wi hc s2.ci ow ds]
            simp only [Option.bind_some,Bool.not_true,Bool.false_eq_true,if_false]
            rw [spare_loop (show k≤400 by omega) hRB hBl hw s2.wi s2.sp]
            simp only [Option.bind_some,Out.on]
            have hl2 : ss.2.1.length≤t.l.length:=by have:=sub.length_le; rw [List.length_map,List.length_map] at this; exact this
            rw [Busy_ok (t:=⟨ss.2.1,t.grace,t.made⟩) he.made (by show ss.2.1.length≤1000; omega),Machines_ok s2.wi]
            simp only [Option.bind_some]
            have hml:=s2.wi.ml
            have hkept : ∀ y,y ∈ ss.2.1→ES ss.2.2.1.ms ss.2.2.2.1 ss.2.2.2.2.1 ss.2.2.2.2.2 y.name:=fun y hy =>by
              have hyn : y.name ∈ ss.2.1.map (·.name):=List.mem_map_of_mem hy
              obtain ⟨z,hz,hze⟩:=List.mem_map.1 (sub.subset hyn)
              have hze' : z.name = y.name:=hze
              rcases he.ent z hz with ⟨m,m1,m2,m3⟩ | ⟨q1,q2⟩
              · refine .inl ⟨m,(s2.kept m (by rw [m2,hze']; exact hyn)).2 m1,by rw [m2,hze'],m3⟩
              · rw [hze'] at q1 q2
                exact .inr ⟨ds.un q1,by rw [ds.nms]; exact q2⟩
            rw [tnt_loop (by omega) hbz (by rw [List.length_map]; show ss.2.1.length≤1000; omega) (fun m hm =>(s2.wi.mg m hm).lm) (fun m hm hb =>by
              show tntB m = memB (ss.2.1.map (·.name)) m.Name
              by_cases q : m.Name ∈ ss.2.1.map (·.name)
              · rw [memB_iff.2 q]
                obtain ⟨y,hy,hye⟩:=List.mem_map.1 q
                have hye' : y.name = m.Name:=hye
                rcases hkept y hy with ⟨m',q1,q2,q3⟩ | ⟨_,q2⟩
                · have:=only s2.wi.mnd hm q1 (by rw [q2,hye'])
                  rw [this]; exact q3
                · rw [ds.nms,hye'] at q2
                  refine absurd ?_ q2
                  have hin : m ∈ w.ms:=(s2.kept m q).1 hm
                  exact (HI_iff.1 hi) m hin
              · rw [memB_f.2 q]
                exact lft _ hb q m hm rfl)]
            simp only [Option.bind_some,Out.on]
            refine ⟨(ss.2.2.1,ss.2.2.2.1,⟨ss.2.1,t.grace,t.made⟩,ss.2.2.2.2.1,ss.2.2.2.2.2),rfl,⟨⟨want,s2.wi.mono (by omega)⟩,s2.ci.mono (by omega) (by omega),?_,⟨he.made,he.nd.sublist sub,by show ss.2.1.length≤_; omega,?_,hkept⟩⟩⟩
            · have hi2:=HI_names hi s2.mn
              show HI ss.2.2.2.1 ss.2.2.2.2.2 ss.2.2.1.ms
              rw [HI_iff] at hi2 ⊢
              rw [ds.nms]
              exact hi2
            · intro y hy
              obtain ⟨z,hz,hze⟩:=List.mem_map.1 (sub.subset (List.mem_map_of_mem hy))
              have hze' : z.name = y.name:=hze
              rw [← hze']
              exact he.sz z hz
  · obtain ⟨w,cl,t,ps,xs⟩:=s
    refine ⟨(ps,xs),?_⟩
    show law28_DrainOwn.l1 c (f + 1) w cl t _ ps xs = _
    rw [law28_DrainOwn.l1,if_neg (by simp; omega)]
theorem known28 : (law28_known ([] : List T_cloud_pool) ([] : List T_cloud_inst)).bind (fun r =>some r.1) = some true:=by kernel_rfl
theorem light28 (c : T_law28_Case) : ∃ b,law28_light c = some b∧(b = true→c.G.length≤20∧(∀ g,g ∈ c.G→LG g)∧(∀ g,g ∈ c.G→g.Min≤6)∧c.B.length≤30∧∀ b,b ∈ c.B→LBu b):=by
  unfold law28_light
  obtain ⟨b1,e1,f1⟩:=Light16_eq c.G
  obtain ⟨b2,e2,f2⟩:=Light15_eq c.B
  rw [e1,e2]
  simp only [Option.bind_some]
  cases b1 with
  | false =>exact ⟨false,rfl,fun q =>by cases q⟩
  | true =>
  cases b2 with
  | false =>exact ⟨false,rfl,fun q =>by cases q⟩
  | true =>
    obtain ⟨g1,g2⟩:=f1 rfl
    obtain ⟨q1,q2⟩:=f2 rfl
    simp only [Bool.not_true,Bool.false_eq_true,if_false,Option.bind_some,Bool.false_or]
    by_cases h4 : decide ((c.G.length : Int) > 4) = true
    · rw [if_pos h4]; exact ⟨false,rfl,fun q =>by cases q⟩
    · rw [if_neg h4]
      rcases loopI (F:=fun n i =>law28_light.l1 c n i) (Q:=fun r =>r = false) (S:=fun k =>∀ h : k < c.G.length,c.G[k].Min≤6) (len:=c.G.length) (by omega) (fun n k hk =>by
          rw [law28_light.l1,if_pos (dlt hk),glk hk,wk1 (by omega)]
          simp only [Option.bind_some]
          by_cases h6 : c.G[k].Min > 6
          · rw [if_pos (by simpa using h6)]; exact .inl ⟨_,rfl,rfl⟩
          · rw [if_neg (by simpa using h6)]; exact .inr ⟨rfl,fun _ =>by omega⟩) (fun n =>by rw [law28_light.l1,if_neg dnl]) with ⟨r,h1,rfl⟩ | ⟨h1,h2⟩
      · rw [h1]; exact ⟨false,rfl,fun q =>by cases q⟩
      · rw [h1]
        refine ⟨true,rfl,fun _ =>⟨g1,g2,fun g hg =>?_,q1,q2⟩⟩
        obtain ⟨i,hi,rfl⟩:=List.getElem_of_mem hg
        exact h2 i hi hi
theorem DrainOwn_true (c : T_law28_Case) {p : Prop} (_ : p) : law28_DrainOwn c = some true:=by
  have hk:=known28
  unfold law28_DrainOwn
  generalize law28_known ([] : List T_cloud_pool) ([] : List T_cloud_inst) = K at hk ⊢
  obtain ⟨b,h1,h2⟩:=light28 c
  rw [h1]
  cases b with
  | false =>exact hk
  | true =>
    obtain ⟨g1,g2,g3,g4,g5⟩:=h2 rfl
    simp only [Option.bind_some,Bool.not_true,Bool.false_eq_true,if_false]
    have hdn : (∃ t e,drain_New c.Grace = some (t,e)∧(t = none∨(e = 0∧t = some ⟨[],c.Grace,true⟩))):=by
      unfold drain_New
      split
      · exact ⟨_,_,rfl,.inl rfl⟩
      · exact ⟨_,_,rfl,.inr ⟨rfl,rfl⟩⟩
    obtain ⟨t,e,t1,t2⟩:=hdn
    rcases wNew_eq g1 g2 g3 g4 g5 c.Delay with ⟨e',ps,xs,he',h3⟩ | ⟨hr,hs,hbr,w,cl,ps,xs,h3,h5,h6,h7⟩
    · rw [h3,t1]
      simp only [Option.bind_some,po]
      rcases t2 with rfl | ⟨_,rfl⟩
      · exact hk
      · exact hk
    · rw [h3,t1]
      simp only [Option.bind_some,po]
      rcases t2 with rfl | ⟨rfl,rfl⟩
      · exact hk
      · simp only
        rw [if_neg (by decide)]
        have hRB : ∀ b,b ∈ c.B→RB b:=fun b hb =>⟨bR_least hbr b hb,(g5 b hb).mat⟩
        obtain ⟨r,q⟩:=own_loop (c:=c) hr hs hRB g4 (s:=(w,cl,⟨[],c.Grace,true⟩,ps,xs)) ⟨⟨_,h6⟩,h5,h7,⟨rfl,by simp,by simp,by simp,by simp⟩⟩
        simp only at q
        rw [q]
        exact hk
end Go.Proofs.YtbgfffdnaijmhaaGreat.M

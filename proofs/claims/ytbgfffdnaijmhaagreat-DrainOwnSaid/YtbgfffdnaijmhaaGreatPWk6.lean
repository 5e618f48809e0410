/-
  Printed by a program of this session out of the loaded functions: models and their proofs. Own text.
-/
import Derived.Test.YtbgfffdnaijmhaaGreatPWk3
/-
  Plain laws of the provider: Increase and Delete leave it right. Own text.
-/
namespace Go.Proofs.YtbgfffdnaijmhaaGreat.M
open Go Go.Proofs Go.Proofs.YtbgfffdnaijmhaaGreat.V
open Go.IntKind (i64)
set_option linter.unusedVariables false
set_option maxRecDepth 100000
theorem CI.mono {G : List T_api_Group} {LB XB LB' XB' : Nat} {c : T_cloud_Cloud} {ps : List T_cloud_pool} {xs : List T_cloud_inst} (h : CI G LB XB c ps xs) (h1 : LB≤LB') (h2 : XB≤XB') : CI G LB' XB' c ps xs :=
  ⟨h.del,h.pools,h.grp,h.tgt,fun p hp =>by have:=h.last p hp; omega,by have:=h.xl; omega,h.inc,h.val,h.good,h.nd,h.size⟩
theorem inc_len {B : Nat} : ∀ (l : List Nat) (a : Nat),(∀ i,i ∈ l→a < i∧i≤B)→l.Pairwise (· < ·)→l.length≤B - a
  | [],a,_,_ =>by simp
  | x :: r,a,h,hp =>by
    have h1:=h x List.mem_cons_self
    have h2:=inc_len (B:=B) r x (fun i hi =>⟨List.rel_of_pairwise_cons hp hi,(h i (List.mem_cons_of_mem _ hi)).2⟩) hp.of_cons
    rw [List.length_cons]
    omega
theorem CI.ilen {G : List T_api_Group} {LB XB : Nat} {c : T_cloud_Cloud} {ps : List T_cloud_pool} {xs : List T_cloud_inst} (h : CI G LB XB c ps xs) : c.insts.length≤XB:=by
  have:=inc_len (B:=xs.length) c.insts 0 (fun i hi =>by have:=h.val i hi; omega) h.inc
  have:=h.xl
  omega
theorem CI.plen {G : List T_api_Group} {LB XB : Nat} {c : T_cloud_Cloud} {ps : List T_cloud_pool} {xs : List T_cloud_inst} (h : CI G LB XB c ps xs) : ps.length = G.length:=by rw [← h.grp]; simp
theorem more_loop {G : List T_api_Group} (hr : GR G) {p n : Nat} {st : I_cloud_state} (hst : tickOk st) (hn : n≤1000) : ∀ (m v f LB XB : Nat) (c : T_cloud_Cloud) (ps : List T_cloud_pool) (xs : List T_cloud_inst),m + v = n→m < f→CI G LB XB c ps xs→1≤p∧p≤ps.length →
    (cnt xs p c.insts : Int) + m≤(P1 ps p).target→LB + m≤6399→XB + m≤100000→∃ c' ps' xs',cloud_Cloud_more.l1 p (n : Int) st f c (v : Int) ps xs = some (c',ps',xs')∧CI G (LB + m) (XB + m) c' ps' xs'∧NM c ps xs c' ps' xs':=by
  intro m
  induction m with
  | zero =>
    intro v f LB XB c ps xs h1 h2 h hp hs hl hx
    obtain ⟨f,rfl⟩ : ∃ q,f = q + 1:=⟨f - 1,by omega⟩
    exact ⟨c,ps,xs,by rw [cloud_Cloud_more.l1,if_neg (by simp; omega)],h,NM.refl _ _ _⟩
  | succ m ih =>
    intro v f LB XB c ps xs h1 h2 h hp hs hl hx
    obtain ⟨f,rfl⟩ : ∃ q,f = q + 1:=⟨f - 1,by omega⟩
    obtain ⟨k,k1,k2,k3,k4,k5,k6⟩:=more1 h hr hp hst (by omega) (by omega) (by omega)
    have hlast:=h.last _ (P1_mem hp)
    have hg:=P1_gg h.grp hr hp
    have hil:=h.ilen
    have e1 : i64.wrap ((P1 ps p).last + 1) = (P1 ps p).last + 1:=w_eq (by omega) (by omega)
    rw [cloud_Cloud_more.l1,if_pos (by simp; omega),pg_at (d:=px0) hp]
    simp only [Option.bind_some]
    rw [e1,pg_at (d:=px0) (l:=V.pst ps p _) (by rw [pst_len]; exact hp)]
    simp only [Option.bind_some,at1_pst hp hp.1,if_pos]
    rw [← k1,gMachine_eq hg.like (by have:=hg.size; omega) k3 k2]
    simp only [Option.bind_some]
    rw [ap_ok (by omega) (by simp; omega)]
    simp only [Option.bind_some]
    have e2 : i64.wrap ((v : Int) + 1) = ((v + 1 : Nat) : Int):=wk1 (by omega)
    rw [e2]
    have hp' : 1≤p∧p≤(V.pst ps p ⟨(P1 ps p).Group,(P1 ps p).target,(P1 ps p).last + 1,(P1 ps p).broken⟩).length:=by rw [pst_len]; exact hp
    have ht : (P1 (V.pst ps p ⟨(P1 ps p).Group,(P1 ps p).target,(P1 ps p).last + 1,(P1 ps p).broken⟩) p).target = (P1 ps p).target:=by
      unfold P1; rw [at1_pst hp hp.1,if_pos rfl]
    have e3 : ∀ a b : Nat,(a : Int)≤b + 1→(b : Int) + ((m + 1 : Nat) : Int)≤(P1 ps p).target→(a : Int) + m≤(P1 ps p).target:=fun a b q1 q2 =>by omega
    obtain ⟨c',ps',xs',q1,q2,q3⟩:=ih (v + 1) f (LB + 1) (XB + 1) _ _ _ (by omega) (by omega) k4 hp' (by rw [ht]; exact e3 _ _ k5 hs) (by omega) (by omega)
    rw [← k1] at q1
    exact ⟨c',ps',xs',q1,by rw [show LB + (m + 1) = LB + 1 + m by omega,show XB + (m + 1) = XB + 1 + m by omega]; exact q2,k6.trans q3⟩
theorem more_ok {G : List T_api_Group} (hr : GR G) {p n LB XB : Nat} {st : I_cloud_state} {c : T_cloud_Cloud} {ps : List T_cloud_pool} {xs : List T_cloud_inst} (hst : tickOk st) (hn : n≤1000) (h : CI G LB XB c ps xs) (hp : 1≤p∧p≤ps.length)
    (hs : (cnt xs p c.insts : Int) + n≤(P1 ps p).target) (hl : LB + n≤6399) (hx : XB + n≤100000) : ∃ c' ps' xs',cloud_Cloud_more c p (n : Int) st ps xs = some (c',ps',xs')∧CI G (LB + n) (XB + n) c' ps' xs'∧NM c ps xs c' ps' xs':=by
  obtain ⟨c',ps',xs',q1,q2,q3⟩:=more_loop hr hst hn n 0 FU LB XB c ps xs (by omega) (by unfold FU; omega) h hp hs hl hx
  refine ⟨c',ps',xs',?_,q2,q3⟩
  unfold cloud_Cloud_more
  rw [show (0 : Int) = ((0 : Nat) : Int) from rfl,q1]
  rfl
theorem gpool {G : List T_api_Group} {LB XB : Nat} {c : T_cloud_Cloud} {ps : List T_cloud_pool} {xs : List T_cloud_inst} (h : CI G LB XB c ps xs) {k : Nat} (hk : k < c.pools.length) : c.pools[k] = k + 1∧k + 1≤ps.length:=by
  have e:=h.pools
  have hl : c.pools.length = ps.length:=by rw [e]; simp
  refine ⟨?_,by omega⟩
  simp only [e,List.getElem_range']
  omega
theorem there_ok {G : List T_api_Group} {LB XB : Nat} {c : T_cloud_Cloud} {ps : List T_cloud_pool} {xs : List T_cloud_inst} (h : CI G LB XB c ps xs) : cloud_Cloud_there c = some true:=by
  have:=h.del
  unfold cloud_Cloud_there
  simp
  omega
theorem pool_ok {G : List T_api_Group} {LB XB : Nat} {c : T_cloud_Cloud} {ps : List T_cloud_pool} {xs : List T_cloud_inst} (h : CI G LB XB c ps xs) (hG : G.length≤1000) (name : ByteArray) : ∃ r,cloud_Cloud_pool c name ps = some r∧(r = 0∨((1≤r∧r≤ps.length)∧(P1 ps r).Group.Name = name)):=by
  have hl : c.pools.length = ps.length:=by rw [h.pools]; simp
  have hpl:=h.plen
  unfold cloud_Cloud_pool
  rcases loopI (F:=fun n i =>cloud_Cloud_pool.l1 c name ps n i) (Q:=fun r =>(1≤r∧r≤ps.length)∧(P1 ps r).Group.Name = name) (S:=fun _ =>True) (len:=c.pools.length) (by omega) (fun n k hk =>by
      obtain ⟨g1,g2⟩:=gpool h hk
      rw [cloud_Cloud_pool.l1,if_pos (dlt hk),glk hk,wk1 (by omega),g1]
      simp only [Option.bind_some]
      rw [pg_at (d:=px0) ⟨by omega,g2⟩]
      simp only [Option.bind_some,seq_eq]
      by_cases e : (at1 px0 ps (k + 1)).Group.Name = name
      · rw [if_pos (by simpa using e)]; exact .inl ⟨k + 1,rfl,⟨by omega,g2⟩,e⟩
      · rw [if_neg (by simpa using e)]; exact .inr ⟨rfl,trivial⟩) (fun n =>by rw [cloud_Cloud_pool.l1,if_neg dnl]) with ⟨r,h1,h2⟩ | ⟨h1,_⟩
  · rw [h1]; exact ⟨r,rfl,.inr h2⟩
  · rw [h1]; exact ⟨0,rfl,.inl rfl⟩
theorem Increase_ok {G : List T_api_Group} (hr : GR G) {LB XB : Nat} {c : T_cloud_Cloud} {ps : List T_cloud_pool} {xs : List T_cloud_inst} (h : CI G LB XB c ps xs) (hl : LB + 200≤6399) (hx : XB + 200≤100000) (name : ByteArray) (n : Int) :
    ∃ e c' ps' xs',cloud_Cloud_Increase c name n ps xs = some (e,c',ps',xs')∧CI G (LB + 200) (XB + 200) c' ps' xs'∧NM c ps xs c' ps' xs':=by
  have hm : CI G (LB + 200) (XB + 200) c ps xs:=h.mono (by omega) (by omega)
  unfold cloud_Cloud_Increase cloud_Cloud_find
  rw [there_ok h]
  simp only [Option.bind_some,Bool.not_true,Bool.false_eq_true,if_false]
  obtain ⟨r,h1,h2⟩:=pool_ok h (by have:=hr.len; omega) name
  rw [h1]
  simp only [Option.bind_some]
  rcases h2 with rfl | ⟨hp,hname⟩
  · exact ⟨16,c,ps,xs,rfl,hm,NM.refl _ _ _⟩
  · rw [if_neg (by simp; omega)]
    by_cases hn1 : n < 1
    · rw [if_pos (by simpa using hn1)]; exact ⟨1,c,ps,xs,rfl,hm,NM.refl _ _ _⟩
    · rw [if_neg (by simpa using hn1)]
      simp only [Option.bind_some]
      rw [if_neg (by simp),pg_at (d:=px0) hp]
      simp only [Option.bind_some]
      have hg:=P1_gg h.grp hr hp
      have ht:=h.tgt _ (P1_mem hp)
      have g1:=hg.min
      have g2:=hg.max
      have e1 : i64.wrap ((P1 ps r).Group.Max - (P1 ps r).target) = (P1 ps r).Group.Max - (P1 ps r).target:=w_eq (by omega) (by omega)
      rw [e1]
      by_cases hn2 : n > (P1 ps r).Group.Max - (P1 ps r).target
      · rw [if_pos (by simpa using hn2)]; exact ⟨21,c,ps,xs,rfl,hm,NM.refl _ _ _⟩
      · rw [if_neg (by simpa using hn2)]
        by_cases hb : (P1 ps r).broken = true
        · rw [if_pos hb]; exact ⟨26,c,ps,xs,rfl,hm,NM.refl _ _ _⟩
        · rw [if_neg hb]
          have e2 : i64.wrap ((P1 ps r).target + n) = (P1 ps r).target + n:=w_eq (by omega) (by omega)
          rw [e2]
          obtain ⟨m,rfl⟩ : ∃ m : Nat,n = (m : Int):=⟨n.toNat,by omega⟩
          have hc : CI G LB XB c (V.pst ps r ⟨(P1 ps r).Group,(P1 ps r).target + m,(P1 ps r).last,(P1 ps r).broken⟩) xs:=by
            refine ⟨h.del,by rw [pst_len]; exact h.pools,(map_pst hp (by rfl)).trans h.grp,?_,?_,h.xl,h.inc,h.val,fun i hi =>IG_pst hp (by rfl) (Int.le_refl _) (h.good i hi),h.nd,?_⟩
            · intro q hq
              rcases mem_pst (d:=px0) hq with rfl | hq
              · exact ⟨by show _≤(P1 ps r).target + m; show (P1 ps r).Group.Min≤_; omega,by show (P1 ps r).target + m≤(P1 ps r).Group.Max; omega⟩
              · exact h.tgt _ hq
            · intro q hq
              rcases mem_pst (d:=px0) hq with rfl | hq
              · have:=h.last _ (P1_mem hp); exact this
              · exact h.last _ hq
            · intro j j1 j2
              rw [pst_len] at j2
              have:=h.size j j1 j2
              unfold P1
              rw [at1_pst hp j1]
              split
              · rename_i e; subst e
                show _≤(P1 ps j).target + m
                omega
              · exact this
          obtain ⟨c',ps',xs',q1,q2,q4⟩:=more_ok hr (p:=r) (n:=m) (st:=I_cloud_state.c151 ⟨c.delay⟩) (show tickOk (I_cloud_state.c151 ⟨c.delay⟩) from h.del) (by omega) hc (by rw [pst_len]; exact hp) (by
            have:=h.size r hp.1 hp.2
            unfold P1
            rw [at1_pst hp hp.1,if_pos rfl]
            show _≤(P1 ps r).target + m
            omega) (by omega) (by omega)
          rw [q1]
          refine ⟨0,_,ps',xs',rfl,?_,⟨fun s hs =>q4.old s hs,fun s hs =>q4.un s (UN_pst hp (by rfl) (by show (P1 ps r).last≤(P1 ps r).last; omega) hs),fun s hs hm' =>q4.new s (UN_pst hp (by rfl) (by show (P1 ps r).last≤(P1 ps r).last; omega) hs) hm'⟩⟩
          have q3 : CI G (LB + 200) (XB + 200) c' ps' xs':=q2.mono (by omega) (by omega)
          exact ⟨q3.del,q3.pools,q3.grp,q3.tgt,q3.last,q3.xl,q3.inc,q3.val,q3.good,q3.nd,q3.size⟩
theorem filter_less {l : List Nat} {p q : Nat→Bool} (h : ∀ i,i ∈ l→q i = true→p i = true) : (l.filter q).length≤(l.filter p).length:=by
  induction l with
  | nil =>simp
  | cons a r ih =>
    have:=ih fun i hi =>h i (List.mem_cons_of_mem _ hi)
    simp only [List.filter_cons]
    by_cases hq : q a = true
    · rw [if_pos hq,if_pos (h a List.mem_cons_self hq)]; simp; omega
    · rw [if_neg hq]; split<;>simp<;>omega
theorem filter_lt {l : List Nat} {p q : Nat→Bool} (h : ∀ i,i ∈ l→q i = true→p i = true) {a : Nat} (ha : a ∈ l) (h1 : p a = true) (h2 : q a = false) : (l.filter q).length + 1≤(l.filter p).length:=by
  induction l with
  | nil =>cases ha
  | cons b r ih =>
    have hl:=filter_less (l:=r) (p:=p) (q:=q) fun i hi =>h i (List.mem_cons_of_mem _ hi)
    simp only [List.filter_cons]
    rcases List.mem_cons.1 ha with rfl | ha
    · rw [if_pos h1,if_neg (by simp [h2])]; simp; omega
    · have:=ih (fun i hi =>h i (List.mem_cons_of_mem _ hi)) ha
      by_cases hq : q b = true
      · rw [if_pos hq,if_pos (h b List.mem_cons_self hq)]; simp; omega
      · rw [if_neg hq]; split<;>simp<;>omega
theorem inst_ok {G : List T_api_Group} {LB XB : Nat} {c : T_cloud_Cloud} {ps : List T_cloud_pool} {xs : List T_cloud_inst} (h : CI G LB XB c ps xs) (hX : XB≤100000) (name : ByteArray) : ∃ r,cloud_Cloud_inst c name xs = some r∧(r = 0∨(r ∈ c.insts∧(I1 xs r).name = name)):=by
  have hl:=h.ilen
  unfold cloud_Cloud_inst
  rcases loopI (F:=fun n i =>cloud_Cloud_inst.l1 c name xs n i) (Q:=fun r =>r ∈ c.insts∧(I1 xs r).name = name) (S:=fun _ =>True) (len:=c.insts.length) (by omega) (fun n k hk =>by
      rw [cloud_Cloud_inst.l1,if_pos (dlt hk),glk hk,wk1 (by omega)]
      simp only [Option.bind_some]
      rw [pg_at (d:=ix0) (h.val _ (List.getElem_mem hk))]
      simp only [Option.bind_some,seq_eq]
      split
      · rename_i q; exact .inl ⟨_,rfl,List.getElem_mem hk,of_decide_eq_true q⟩
      · exact .inr ⟨rfl,trivial⟩) (fun n =>by rw [cloud_Cloud_inst.l1,if_neg dnl]) with ⟨r,h1,h2⟩ | ⟨h1,_⟩
  · rw [h1]; exact ⟨r,rfl,.inr h2⟩
  · rw [h1]; exact ⟨0,rfl,.inl rfl⟩
structure DM (name : ByteArray) (c : T_cloud_Cloud) (ps : List T_cloud_pool) (xs : List T_cloud_inst) (c' : T_cloud_Cloud) (ps' : List T_cloud_pool) (xs' : List T_cloud_inst) : Prop where
  ins : c'.insts = c.insts
  nam : ∀ i,i ∈ c.insts→(I1 xs' i).name = (I1 xs i).name∧(I1 xs' i).of = (I1 xs i).of
  oth : ∀ i,i ∈ c.insts→(I1 xs i).name≠name→I1 xs' i = I1 xs i
  pls : ps'.length = ps.length∧∀ n,1≤n∧n≤ps.length→(P1 ps' n).Group = (P1 ps n).Group∧(P1 ps' n).last = (P1 ps n).last
theorem DM.refl (name : ByteArray) (c : T_cloud_Cloud) (ps : List T_cloud_pool) (xs : List T_cloud_inst) : DM name c ps xs c ps xs:=⟨rfl,fun _ _ =>⟨rfl,rfl⟩,fun _ _ _ =>rfl,rfl,fun _ _ =>⟨rfl,rfl⟩⟩
theorem Delete_ok {G : List T_api_Group} (hr : GR G) {LB XB : Nat} {c : T_cloud_Cloud} {ps : List T_cloud_pool} {xs : List T_cloud_inst} (h : CI G LB XB c ps xs) (hX : XB≤100000) (name : ByteArray) :
    ∃ e c' ps' xs',cloud_Cloud_Delete c name ps xs = some (e,c',ps',xs')∧CI G LB XB c' ps' xs'∧DM name c ps xs c' ps' xs'∧(e≠0→c' = c∧xs' = xs∧ps' = ps):=by
  unfold cloud_Cloud_Delete
  rw [there_ok h]
  simp only [Option.bind_some,Bool.not_true,Bool.false_eq_true,if_false]
  obtain ⟨r,h1,h2⟩:=inst_ok h hX name
  rw [h1]
  simp only [Option.bind_some]
  rcases h2 with rfl | ⟨hi,hiname⟩
  · exact ⟨16,c,ps,xs,rfl,h,DM.refl _ _ _ _,fun _ =>⟨rfl,rfl,rfl⟩⟩
  · have hv:=h.val r hi
    have hg:=h.good r hi
    have hp:=hg.of
    rw [if_neg (by simp; omega),pg_at (d:=ix0) hv]
    simp only [Option.bind_some]
    by_cases hlv : I_cloud_state.is159 (at1 ix0 xs r).in_ = true
    · rw [if_pos hlv]; exact ⟨22,c,ps,xs,rfl,h,DM.refl _ _ _ _,fun _ =>⟨rfl,rfl,rfl⟩⟩
    · rw [if_neg hlv,pg_at (d:=px0) (l:=ps) (n:=(at1 ix0 xs r).of) hp]
      simp only [Option.bind_some]
      have hgg:=P1_gg h.grp hr hp
      have ht:=h.tgt _ (P1_mem hp)
      have g1:=hgg.min
      have g2:=hgg.max
      have fin : ∃ e c' ps' xs',some ((0 : Int),(⟨c.pools,c.insts,c.delay,c.now,(i64.wrap (c.calls + 1))⟩ : T_cloud_Cloud),(V.pst ps (I1 xs r).of (⟨(P1 ps (I1 xs r).of).Group,(max (P1 ps (I1 xs r).of).Group.Min (i64.wrap ((P1 ps (I1 xs r).of).target - 1))),(P1 ps (I1 xs r).of).last,(P1 ps (I1 xs r).of).broken⟩ : T_cloud_pool)),(V.pst xs r (⟨(I1 xs r).name,(I1 xs r).of,(I1 xs r).since,(I_cloud_state.c159 (⟨⟩ : T_cloud_leaving))⟩ : T_cloud_inst))) = some (e,c',ps',xs')∧CI G LB XB c' ps' xs'∧DM name c ps xs c' ps' xs'∧(e≠0→c' = c∧xs' = xs∧ps' = ps):=by
        have e1 : i64.wrap ((P1 ps (I1 xs r).of).target - 1) = (P1 ps (I1 xs r).of).target - 1:=w_eq (by omega) (by omega)
        rw [e1]
        refine ⟨_,_,_,_,rfl,?_,⟨rfl,?_,?_,?_⟩,fun q =>absurd rfl q⟩
        rotate_left
        · intro i hi'
          unfold I1
          rw [at1_pst hv (h.val i hi').1]
          split
          · rename_i e; subst e; exact ⟨rfl,rfl⟩
          · exact ⟨rfl,rfl⟩
        · intro i hi' hne
          unfold I1
          rw [at1_pst hv (h.val i hi').1,if_neg (fun e =>hne (by rw [e]; exact hiname))]
        · refine ⟨pst_len,fun n hn =>?_⟩
          unfold P1
          rw [at1_pst hp hn.1]
          split
          · rename_i e; subst e; exact ⟨rfl,rfl⟩
          · exact ⟨rfl,rfl⟩
        refine ⟨h.del,by rw [pst_len]; exact h.pools,(map_pst hp (by rfl)).trans h.grp,?_,?_,by rw [pst_len]; exact h.xl,h.inc,fun i hi =>by rw [pst_len]; exact h.val i hi,?_,?_,?_⟩
        · intro q hq
          rcases mem_pst (d:=px0) hq with rfl | hq
          · have:=hgg.mm
            exact ⟨by show (P1 ps (I1 xs r).of).Group.Min≤max _ _; omega,by show max _ _≤(P1 ps (I1 xs r).of).Group.Max; omega⟩
          · exact h.tgt _ hq
        · intro q hq
          rcases mem_pst (d:=px0) hq with rfl | hq
          · have:=h.last _ (P1_mem hp); exact this
          · exact h.last _ hq
        · intro i hi'
          have hii:=h.val i hi'
          have hgi:=h.good i hi'
          have : IG ps (I1 (V.pst xs r ⟨(I1 xs r).name,(I1 xs r).of,(I1 xs r).since,I_cloud_state.c159 ⟨⟩⟩) i):=by
            unfold I1
            rw [at1_pst hv hii.1]
            split
            · rename_i e; subst e
              exact ⟨hgi.of,trivial,hgi.num⟩
            · exact hgi
          exact IG_pst hp (by rfl) (Int.le_refl _) this
        · have e : (c.insts.map fun i =>(I1 (V.pst xs r ⟨(I1 xs r).name,(I1 xs r).of,(I1 xs r).since,I_cloud_state.c159 ⟨⟩⟩) i).name) = c.insts.map fun i =>(I1 xs i).name:=List.map_congr_left fun i hi' =>by
            unfold I1
            rw [at1_pst hv (h.val i hi').1]
            split
            · rename_i e; subst e; rfl
            · rfl
          show (c.insts.map fun i =>(I1 (V.pst xs r ⟨(I1 xs r).name,(I1 xs r).of,(I1 xs r).since,I_cloud_state.c159 ⟨⟩⟩) i).name).Nodup
          rw [e]
          exact h.nd
        · intro j j1 j2
          rw [pst_len] at j2
          have hsz:=h.size j j1 j2
          have hof : ∀ i,i ∈ c.insts→ofB (V.pst xs r ⟨(I1 xs r).name,(I1 xs r).of,(I1 xs r).since,I_cloud_state.c159 ⟨⟩⟩) j i = true→ofB xs j i = true:=fun i hi' q =>by
            unfold ofB I1 at q ⊢
            rw [at1_pst hv (h.val i hi').1] at q
            split at q
            · simp [leavB] at q
            · exact q
          show ((List.filter (ofB (V.pst xs r ⟨(I1 xs r).name,(I1 xs r).of,(I1 xs r).since,I_cloud_state.c159 ⟨⟩⟩) j) c.insts).length : Int)≤_
          unfold cnt at hsz
          unfold P1
          rw [at1_pst hp j1]
          split
          · rename_i e
            subst e
            show _≤max (P1 ps (I1 xs r).of).Group.Min ((P1 ps (I1 xs r).of).target - 1)
            have hlt:=filter_lt hof hi (a:=r) (by
              unfold ofB leavB
              simp only [decide_true,Bool.true_and]
              unfold I_cloud_state.is159 at hlv
              split
              · rename_i q; unfold I1 at q; rw [q] at hlv; simp at hlv
              · rfl) (by
              unfold ofB I1
              rw [at1_pst hv hv.1,if_pos rfl]
              simp [leavB])
            have e3 : ∀ (a b : Nat) (t m : Int),a + 1≤b→(b : Int)≤t→(a : Int)≤max m (t - 1):=fun a b t m q1 q2 =>by omega
            exact e3 _ _ _ _ hlt hsz
          · have:=filter_less hof
            show _≤(P1 ps j).target
            omega
      by_cases hrun : I_cloud_state.is160 (at1 ix0 xs r).in_ = true
      · rw [if_pos hrun]
        split
        · exact ⟨20,c,ps,xs,rfl,h,DM.refl _ _ _ _,fun _ =>⟨rfl,rfl,rfl⟩⟩
        · exact fin
      · rw [if_neg hrun]
        exact fin
end Go.Proofs.YtbgfffdnaijmhaaGreat.M
/-
  Plain laws of the provider: a tick, and what instances are told. Own text.
-/
namespace Go.Proofs.YtbgfffdnaijmhaaGreat.M
open Go Go.Proofs Go.Proofs.YtbgfffdnaijmhaaGreat.V
open Go.IntKind (i64)
set_option linter.unusedVariables false
set_option maxRecDepth 100000
def tk (x : I_cloud_state) (b : Bool) : I_cloud_state:=match x with
  | .c151 y =>if y.ticks > 1 then .c151 ⟨y.ticks - 1⟩ else if b = true then .c225 ⟨⟩ else .c160 ⟨⟩
  | .c160 y =>.c160 ⟨⟩
  | .c225 y =>.c225 ⟨⟩
  | _ =>.nil
theorem tick_eq {x : I_cloud_state} (h : tickOk x) (b : Bool) : I_cloud_state.m_tick x b = some (tk x b):=by
  cases x with
  | nil =>exact h.elim
  | c151 y =>
    obtain ⟨h1,h2⟩:=h
    show cloud_creating_tick y b = _
    unfold cloud_creating_tick tk
    by_cases e : y.ticks > 1
    · rw [if_pos (by simpa using e)]
      simp only [e,if_true]
      rw [w_eq (by omega) (by omega)]
    · rw [if_neg (by simpa using e)]
      simp only [e,if_false]
      cases b<;>rfl
  | c159 y =>rfl
  | c160 y =>rfl
  | c225 y =>rfl
theorem tk_nil {x : I_cloud_state} (h : tickOk x) (b : Bool) : I_cloud_state.isNil (tk x b) = leavB x:=by
  cases x with
  | nil =>exact h.elim
  | c151 y =>
    unfold tk
    simp only
    split
    · rfl
    · split<;>rfl
  | c159 y =>rfl
  | c160 y =>rfl
  | c225 y =>rfl
theorem tk_ok {x : I_cloud_state} (h : tickOk x) (b : Bool) (hl : leavB x = false) : tickOk (tk x b)∧leavB (tk x b) = false:=by
  cases x with
  | nil =>exact h.elim
  | c151 y =>
    obtain ⟨h1,h2⟩:=h
    unfold tk
    simp only
    split
    · exact ⟨⟨by show 1≤y.ticks - 1; omega,by show y.ticks - 1≤1000; omega⟩,rfl⟩
    · split
      · exact ⟨trivial,rfl⟩
      · exact ⟨trivial,rfl⟩
  | c159 y =>cases hl
  | c160 y =>exact ⟨trivial,rfl⟩
  | c225 y =>exact ⟨trivial,rfl⟩
def tkI (ps : List T_cloud_pool) (x : T_cloud_inst) : T_cloud_inst:=⟨x.name,x.of,x.since,tk x.in_ (P1 ps x.of).broken⟩
structure TS (c : T_cloud_Cloud) (ps : List T_cloud_pool) (xs : List T_cloud_inst) (k : Nat) (l2 : List Nat) (xs2 : List T_cloud_inst) : Prop where
  len : xs2.length = xs.length
  l : l2 = (c.insts.take k).filter fun i =>!leavB (I1 xs i).in_
  done : ∀ i,i ∈ c.insts.take k→I1 xs2 i = tkI ps (I1 xs i)
  rest : ∀ i,1≤i→i ∉ c.insts.take k→I1 xs2 i = I1 xs i
theorem Tick_loop {G : List T_api_Group} {LB XB : Nat} {c : T_cloud_Cloud} {ps : List T_cloud_pool} {xs : List T_cloud_inst} (h : CI G LB XB c ps xs) (hX : XB≤100000) : ∀ (m k f : Nat) (l2 : List Nat) (xs2 : List T_cloud_inst),c.insts.length - k = m→m < f→k≤c.insts.length→TS c ps xs k l2 xs2 →
    ∃ l3 xs3,cloud_Cloud_Tick.l1 c ps f l2 (k : Int) xs2 = some (l3,xs3)∧TS c ps xs c.insts.length l3 xs3:=by
  have hil:=h.ilen
  intro m
  induction m with
  | zero =>
    intro k f l2 xs2 h1 h2 h3 hT
    obtain ⟨f,rfl⟩ : ∃ q,f = q + 1:=⟨f - 1,by omega⟩
    obtain rfl : k = c.insts.length:=by omega
    exact ⟨l2,xs2,by rw [cloud_Cloud_Tick.l1,if_neg dnl],hT⟩
  | succ m ih =>
    intro k f l2 xs2 h1 h2 h3 hT
    obtain ⟨f,rfl⟩ : ∃ q,f = q + 1:=⟨f - 1,by omega⟩
    have hk : k < c.insts.length:=by omega
    have hv:=h.val _ (List.getElem_mem hk)
    have hg:=h.good _ (List.getElem_mem hk)
    have hv2 : 1≤c.insts[k]∧c.insts[k]≤xs2.length:=by rw [hT.len]; exact hv
    have hnot : c.insts[k] ∉ c.insts.take k:=fun hm =>by
      obtain ⟨j,hj,e⟩:=List.getElem_of_mem hm
      rw [List.getElem_take] at e
      have hj' : j < k:=by rw [List.length_take] at hj; omega
      have:=List.pairwise_iff_getElem.1 h.inc j k (by omega) hk hj'
      omega
    have er : I1 xs2 c.insts[k] = I1 xs c.insts[k]:=hT.rest _ hv.1 hnot
    have er' : at1 ix0 xs2 c.insts[k] = I1 xs c.insts[k]:=er
    have hnn : I_cloud_state.isNil (I1 xs c.insts[k]).in_ = false:=by
      have:=hg.st
      cases hq : (I1 xs c.insts[k]).in_ with
      | nil =>rw [hq] at this; exact this.elim
      | _ =>rfl
    rw [cloud_Cloud_Tick.l1,if_pos (dlt hk)]
    simp only
    rw [glk hk]
    simp only [Option.bind_some]
    rw [pg_at (d:=ix0) hv2]
    simp only [Option.bind_some,er',hnn,Bool.not_false]
    rw [show V.grd true = some () from rfl]
    simp only [Option.bind_some]
    rw [pg_at (d:=px0) hg.of]
    simp only [Option.bind_some]
    rw [tick_eq hg.st]
    simp only [Option.bind_some]
    rw [pg_at (d:=ix0) (l:=V.pst xs2 c.insts[k] _) (by rw [pst_len]; exact hv2)]
    simp only [Option.bind_some,at1_pst hv2 hv2.1,if_pos,tk_nil hg.st]
    have e1 : i64.wrap ((k : Int) + 1) = ((k + 1 : Nat) : Int):=wk1 (by omega)
    have htk : c.insts.take (k + 1) = c.insts.take k++[c.insts[k]]:=List.take_succ_eq_append_getElem hk
    have hTn : ∀ l3,l3 = (c.insts.take (k + 1)).filter (fun i =>!leavB (I1 xs i).in_)→TS c ps xs (k + 1) l3 (V.pst xs2 c.insts[k] ⟨(I1 xs c.insts[k]).name,(I1 xs c.insts[k]).of,(I1 xs c.insts[k]).since,tk (I1 xs c.insts[k]).in_ (at1 px0 ps (I1 xs c.insts[k]).of).broken⟩):=by
      intro l3 hl3
      refine ⟨by rw [pst_len]; exact hT.len,hl3,?_,?_⟩
      · intro i hi
        rw [htk] at hi
        unfold I1
        rw [at1_pst hv2 (by
            rcases List.mem_append.1 hi with q | q
            · exact (h.val i (List.mem_of_mem_take q)).1
            · rw [List.mem_singleton] at q; omega)]
        split
        · rename_i e; subst e; rfl
        · rename_i e
          rcases List.mem_append.1 hi with q | q
          · exact hT.done i q
          · rw [List.mem_singleton] at q; exact absurd q e
      · intro i hi1 hi
        rw [htk] at hi
        unfold I1
        rw [at1_pst hv2 hi1,if_neg (fun e =>hi (by rw [e]; exact List.mem_append_right _ (List.mem_singleton.2 rfl)))]
        exact hT.rest i hi1 fun q =>hi (List.mem_append_left _ q)
    by_cases hlv : leavB (I1 xs c.insts[k]).in_ = true
    · rw [if_neg (by simp [hlv]),e1]
      refine ih (k + 1) f _ _ (by omega) (by omega) (by omega) (hTn _ ?_)
      rw [htk,List.filter_append,hT.l]
      simp [hlv]
    · have hll : l2.length≤c.insts.length:=by
        rw [hT.l]
        refine Nat.le_trans (List.length_filter_le _ _) ?_
        rw [List.length_take]; omega
      rw [if_pos (by simp [hlv]),ap_ok (by omega) (by simp; omega)]
      simp only [Option.bind_some]
      rw [e1]
      refine ih (k + 1) f _ _ (by omega) (by omega) (by omega) (hTn _ ?_)
      rw [htk,List.filter_append,hT.l]
      simp [hlv]
theorem Tick_ok {G : List T_api_Group} {LB XB : Nat} {c : T_cloud_Cloud} {ps : List T_cloud_pool} {xs : List T_cloud_inst} (h : CI G LB XB c ps xs) (hX : XB≤100000) :
    ∃ c' xs',cloud_Cloud_Tick c ps xs = some (c',xs')∧CI G LB XB c' ps xs'∧(∀ i,i ∈ c'.insts→leavB (I1 xs' i).in_ = false)∧(∀ s,s ∈ nms c' xs'→s ∈ nms c xs):=by
  have hT0 : TS c ps xs 0 [] xs:=⟨rfl,by simp,by simp,fun _ _ _ =>rfl⟩
  obtain ⟨l3,xs3,e1,hT⟩:=Tick_loop h hX c.insts.length 0 FU [] xs (by omega) (by have:=h.ilen; unfold FU; omega) (Nat.zero_le _) hT0
  unfold cloud_Cloud_Tick
  rw [there_ok h]
  simp only [Option.bind_some,Bool.not_true,Bool.false_eq_true,if_false]
  rw [show (0 : Int) = ((0 : Nat) : Int) from rfl,e1]
  refine ⟨_,_,rfl,?_,?_,?_⟩
  · have hl:=hT.l
    rw [List.take_length] at hl
    have hmem : ∀ i,i ∈ l3→i ∈ c.insts∧leavB (I1 xs i).in_ = false:=fun i hi =>by
      rw [hl] at hi
      have:=List.mem_filter.1 hi
      exact ⟨this.1,by simpa using this.2⟩
    have hdone : ∀ i,i ∈ l3→I1 xs3 i = tkI ps (I1 xs i):=fun i hi =>hT.done i (by rw [List.take_length]; exact (hmem i hi).1)
    have hsub : l3.Sublist c.insts:=by rw [hl]; exact List.filter_sublist
    refine ⟨h.del,h.pools,h.grp,h.tgt,h.last,by rw [hT.len]; exact h.xl,h.inc.sublist hsub,fun i hi =>by rw [hT.len]; exact h.val i (hmem i hi).1,?_,?_,?_⟩
    · intro i hi
      rw [hdone i hi]
      have hg:=h.good i (hmem i hi).1
      exact ⟨hg.of,(tk_ok hg.st _ (hmem i hi).2).1,hg.num⟩
    · show (l3.map fun i =>(I1 xs3 i).name).Nodup
      have e : (l3.map fun i =>(I1 xs3 i).name) = l3.map fun i =>(I1 xs i).name:=List.map_congr_left fun i hi =>by rw [hdone i hi]; rfl
      rw [e]
      exact h.nd.sublist (hsub.map _)
    · intro j j1 j2
      have hs:=h.size j j1 j2
      unfold cnt at hs ⊢
      have : (l3.filter (ofB xs3 j)).length≤(c.insts.filter (ofB xs j)).length:=by
        have e : l3.filter (ofB xs3 j) = l3.filter (ofB xs j):=List.filter_congr fun i hi =>by
          unfold ofB
          rw [hdone i hi]
          have hg:=h.good i (hmem i hi).1
          rw [(hmem i hi).2]
          show (decide ((I1 xs i).of = j) && !leavB (tk (I1 xs i).in_ _)) = _
          rw [(tk_ok hg.st _ (hmem i hi).2).2]
        rw [e]
        exact (hsub.filter _).length_le
      show ((l3.filter (ofB xs3 j)).length : Int)≤_
      omega
  · intro i hi
    have hl:=hT.l
    rw [List.take_length] at hl
    have hi' : i ∈ l3:=hi
    have hm:=hi'
    rw [hl] at hm
    have:=List.mem_filter.1 hm
    have hd:=hT.done i (by rw [List.take_length]; exact this.1)
    show leavB (I1 xs3 i).in_ = false
    rw [hd]
    exact (tk_ok (h.good i this.1).st _ (by simpa using this.2)).2
  · intro s hs
    have hl:=hT.l
    rw [List.take_length] at hl
    obtain ⟨i,hi,e⟩:=List.mem_map.1 hs
    have hi' : i ∈ l3:=hi
    rw [hl] at hi'
    have hm:=(List.mem_filter.1 hi').1
    have hd:=hT.done i (by rw [List.take_length]; exact hm)
    have e' : (I1 xs3 i).name = s:=e
    rw [hd] at e'
    exact List.mem_map.2 ⟨i,hm,e'⟩
def stN (x : I_cloud_state) : Int:=match x with | .c151 _ =>1 | .c159 _ =>3 | .c160 _ =>2 | .c225 _ =>4 | .nil =>0
def stL (x : I_cloud_state) : Int:=match x with | .c151 y =>y.ticks | .c159 _ =>1 | _ =>0
def instV (ps : List T_cloud_pool) (x : T_cloud_inst) : T_api_Inst:=⟨x.name,(P1 ps x.of).Group.Name,stN x.in_,stL x.in_,x.since⟩
def instsV (c : T_cloud_Cloud) (ps : List T_cloud_pool) (xs : List T_cloud_inst) : List T_api_Inst:=c.insts.map fun i =>instV ps (I1 xs i)
theorem num_eq {x : I_cloud_state} (h : tickOk x) : I_cloud_state.m_number x = some (stN x)∧I_cloud_state.m_left x = some (stL x):=by
  cases x with
  | nil =>exact h.elim
  | _ =>exact ⟨rfl,rfl⟩
theorem Insts_ok {G : List T_api_Group} {LB XB : Nat} {c : T_cloud_Cloud} {ps : List T_cloud_pool} {xs : List T_cloud_inst} (h : CI G LB XB c ps xs) (hX : XB≤100000) : cloud_Cloud_Insts c ps xs = some (instsV c ps xs):=by
  have hil:=h.ilen
  have key : ∀ (m k f : Nat),c.insts.length - k = m→m < f→k≤c.insts.length→cloud_Cloud_Insts.l1 c ps xs f ((instsV c ps xs).take k) (k : Int) = some (instsV c ps xs):=by
    have hlen : (instsV c ps xs).length = c.insts.length:=by unfold instsV; simp
    intro m
    induction m with
    | zero =>
      intro k f h1 h2 h3
      obtain ⟨f,rfl⟩ : ∃ q,f = q + 1:=⟨f - 1,by omega⟩
      obtain rfl : k = c.insts.length:=by omega
      rw [cloud_Cloud_Insts.l1,if_neg dnl,List.take_of_length_le (by omega)]
    | succ m ih =>
      intro k f h1 h2 h3
      obtain ⟨f,rfl⟩ : ∃ q,f = q + 1:=⟨f - 1,by omega⟩
      have hk : k < c.insts.length:=by omega
      have hv:=h.val _ (List.getElem_mem hk)
      have hg:=h.good _ (List.getElem_mem hk)
      rw [cloud_Cloud_Insts.l1,if_pos (dlt hk),glk hk]
      simp only [Option.bind_some]
      rw [pg_at (d:=ix0) hv]
      simp only [Option.bind_some]
      rw [pg_at (d:=px0) (l:=ps) (n:=(at1 ix0 xs c.insts[k]).of) hg.of]
      simp only [Option.bind_some]
      rw [(num_eq (x:=(at1 ix0 xs c.insts[k]).in_) hg.st).1,(num_eq (x:=(at1 ix0 xs c.insts[k]).in_) hg.st).2]
      simp only [Option.bind_some]
      rw [ap_ok (by omega) (by simp; omega)]
      simp only [Option.bind_some]
      rw [wk1 (by omega)]
      have e : (instsV c ps xs).take (k + 1) = (instsV c ps xs).take k++[instV ps (I1 xs c.insts[k])]:=by
        rw [List.take_succ_eq_append_getElem (by omega)]
        congr 2
        unfold instsV
        simp
      have:=ih (k + 1) f (by omega) (by omega) (by omega)
      rw [e] at this
      exact this
  unfold cloud_Cloud_Insts
  rw [there_ok h]
  simp only [Option.bind_some,Bool.not_true,Bool.false_eq_true,if_false]
  have:=key c.insts.length 0 FU (by omega) (by unfold FU; omega) (Nat.zero_le _)
  rw [List.take_zero] at this
  rw [show (0 : Int) = ((0 : Nat) : Int) from rfl,this]
  rfl
end Go.Proofs.YtbgfffdnaijmhaaGreat.M
/-
  Plain laws of the provider: right groups, and a provider of them. Own text.
-/
namespace Go.Proofs.YtbgfffdnaijmhaaGreat.M
open Go Go.Proofs Go.Proofs.YtbgfffdnaijmhaaGreat.V
open Go.IntKind (i64)
set_option linter.unusedVariables false
set_option maxRecDepth 100000
structure LG (g : T_api_Group) : Prop where
  name : g.Name.size≤300
  like : LM g.Like
structure LBu (b : T_api_Budget) : Prop where
  name : b.Name.size≤300
  mat : LL b.Match
theorem Light16_eq (l : List T_api_Group) : ∃ b,ref16_Light l = some b∧(b = true→l.length≤20∧∀ g,g ∈ l→LG g):=by
  unfold ref16_Light
  by_cases h : (l.length : Int) > 20
  · rw [if_pos (by simpa using h)]; exact ⟨false,rfl,by simp⟩
  · rw [if_neg (by simpa using h)]
    rcases loopI (F:=fun n i =>ref16_Light.l1 l n i) (Q:=fun r =>r = false) (S:=fun k =>∀ h : k < l.length,LG l[k]) (len:=l.length) (by omega) (fun n k hk =>by
        rw [ref16_Light.l1,if_pos (dlt hk),glk hk,wk1 (by omega)]
        simp only [Option.bind_some]
        by_cases h1 : (l[k].Name.size : Int) > 300
        · rw [if_pos (by simpa using h1)]; exact .inl ⟨false,rfl,rfl⟩
        · rw [if_neg (by simpa using h1)]
          obtain ⟨b,e,f⟩:=ref07_LightMachine_eq l[k].Like
          rw [e]
          cases b with
          | false =>exact .inl ⟨false,rfl,rfl⟩
          | true =>exact .inr ⟨rfl,fun _ =>⟨by omega,f rfl⟩⟩) (fun n =>by rw [ref16_Light.l1,if_neg dnl]) with ⟨r,h1,rfl⟩ | ⟨h1,h2⟩
    · rw [h1]; exact ⟨false,rfl,by simp⟩
    · rw [h1]
      refine ⟨true,rfl,fun _ =>⟨by omega,fun g hg =>?_⟩⟩
      obtain ⟨i,hi,rfl⟩:=List.getElem_of_mem hg
      exact h2 i hi hi
theorem Light15_eq (l : List T_api_Budget) : ∃ b,ref15_Light l = some b∧(b = true→l.length≤30∧∀ g,g ∈ l→LBu g):=by
  unfold ref15_Light
  by_cases h : (l.length : Int) > 30
  · rw [if_pos (by simpa using h)]; exact ⟨false,rfl,by simp⟩
  · rw [if_neg (by simpa using h)]
    rcases loopI (F:=fun n i =>ref15_Light.l1 l n i) (Q:=fun r =>r = false) (S:=fun k =>∀ h : k < l.length,LBu l[k]) (len:=l.length) (by omega) (fun n k hk =>by
        rw [ref15_Light.l1,if_pos (dlt hk),glk hk,wk1 (by omega)]
        simp only [Option.bind_some]
        by_cases h1 : (l[k].Name.size : Int) > 300
        · rw [if_pos (by simpa using h1)]; exact .inl ⟨false,rfl,rfl⟩
        · rw [if_neg (by simpa using h1)]
          obtain ⟨b,e,f⟩:=ref05_Light_eq l[k].Match
          rw [e]
          cases b with
          | false =>exact .inl ⟨false,rfl,rfl⟩
          | true =>exact .inr ⟨rfl,fun _ =>⟨by omega,f rfl⟩⟩) (fun n =>by rw [ref15_Light.l1,if_neg dnl]) with ⟨r,h1,rfl⟩ | ⟨h1,h2⟩
    · rw [h1]; exact ⟨false,rfl,by simp⟩
    · rw [h1]
      refine ⟨true,rfl,fun _ =>⟨by omega,fun g hg =>?_⟩⟩
      obtain ⟨i,hi,rfl⟩:=List.getElem_of_mem hg
      exact h2 i hi hi
theorem gFind_loop (name : ByteArray) : ∀ (l : List T_api_Group) (k : Nat),(∃ j : Nat,group_Find.l1 name l k = some (.ret ((k + j : Nat) : Int))∧∃ h : j < l.length,l[j].Name = name∧∀ i (hi : i < j),l[i].Name≠name)∨(group_Find.l1 name l k = some (.go ())∧∀ g,g ∈ l→g.Name≠name)
  | [],k =>.inr ⟨rfl,by simp⟩
  | x :: r,k =>by
    rw [group_Find.l1]
    by_cases e : x.Name = name
    · rw [if_pos (by rw [seq_eq]; simpa using e)]
      exact .inl ⟨0,rfl,by simp,e,fun i hi =>by omega⟩
    · rw [if_neg (by rw [seq_eq]; simpa using e)]
      rcases gFind_loop name r (k + 1) with ⟨j,h1,h2,h3,h4⟩ | ⟨h1,h2⟩
      · refine .inl ⟨j + 1,by rw [h1]; congr 3; omega,by simp; omega,by simpa using h3,fun i hi =>?_⟩
        cases i with
        | zero =>simpa using e
        | succ i =>simpa using h4 i (by omega)
      · refine .inr ⟨h1,fun g hg =>?_⟩
        rcases List.mem_cons.1 hg with rfl | hg
        · exact e
        · exact h2 g hg
theorem gFind_eq (l : List T_api_Group) (name : ByteArray) : (∃ j : Nat,group_Find l name = some (j : Int)∧∃ h : j < l.length,l[j].Name = name∧∀ i (hi : i < j),l[i].Name≠name)∨(group_Find l name = some (-1)∧∀ g,g ∈ l→g.Name≠name):=by
  unfold group_Find
  rcases gFind_loop name l 0 with ⟨j,h1,h2⟩ | ⟨h1,h2⟩
  · rw [h1]
    refine .inl ⟨j,?_,h2⟩
    show some ((0 + j : Nat) : Int) = _
    rw [Nat.zero_add]
  · rw [h1]; exact .inr ⟨rfl,h2⟩
theorem wordB_iff {s : ByteArray} (h : s.size≤300) (hb : wordB s = true) : ref01_Word s = some true:=by rw [word_B h,hb]
theorem word_ne {s : ByteArray} (h : ref01_Word s = some true) : s≠⟨#[]⟩:=fun e =>by
  rw [e] at h
  have : ref01_Word ⟨#[]⟩ = some false:=by kernel_rfl
  rw [this] at h
  cases h
theorem RightGroup_eq {g : T_api_Group} (hl : LG g) : ∃ b,spec_RightGroup g = some b∧(b = true→g.Name.size≤48→GG g):=by
  unfold spec_RightGroup
  rw [lword_B hl.name]
  simp only [Option.bind_some,seq_eq]
  by_cases h : (((!wordB g.Name) || (!decide (g.Like.Name = ⟨#[]⟩))) || (!decide (g.Like.Group = g.Name)) || !g.Like.Ready) = true
  · rw [if_pos h]; exact ⟨false,rfl,by simp⟩
  · rw [if_neg h]
    simp only [Bool.or_eq_true,Bool.not_eq_true',not_or,Bool.not_eq_false,decide_eq_true_eq,decide_eq_false_iff_not,Decidable.not_not] at h
    obtain ⟨⟨⟨h1,h2⟩,h3⟩,h4⟩:=h
    unfold spec_between
    simp only [Option.bind_some]
    by_cases m1 : ((decide (g.Max≥1)) && (decide (g.Max≤200))) = true
    · rw [if_neg (by simp [m1])]
      simp only [Option.bind_some]
      by_cases m2 : ((decide (g.Min≥0)) && (decide (g.Min≤g.Max))) = true
      · rw [if_neg (by simp [m2])]
        simp only [Bool.and_eq_true,decide_eq_true_eq] at m1 m2
        rw [spec_Mach_eq hl.like]
        simp only [Option.bind_some]
        by_cases p1 : ((decide (g.Price≥0)) && (decide (g.Price≤1125899906842624))) = true
        · rw [if_pos p1]
          by_cases p2 : ((decide (g.Rank≥0)) && (decide (g.Rank≤1000))) = true
          · refine ⟨machB g.Like,by simp only [Option.bind_some,p2,if_true],fun hb hs =>⟨wordB_iff hl.name h1,hs,word_ne (wordB_iff hl.name h1),m2.1,m2.2,m1.1,m1.2,hl.like,h2,h3,h4,hb⟩⟩
          · refine ⟨false,?_,by simp⟩
            simp only [Option.bind_some]
            rw [if_neg p2]
            rfl
        · rw [if_neg p1]; exact ⟨false,rfl,by simp⟩
      · rw [if_pos (by rw [Bool.not_eq_true] at m2; rw [m2]; rfl)]; exact ⟨false,rfl,by simp⟩
    · rw [if_pos (by rw [Bool.not_eq_true] at m1; rw [m1]; rfl)]
      simp only [Option.bind_some,if_true]
      exact ⟨false,rfl,by simp⟩
theorem gRight_loop {G : List T_api_Group} : ∀ (l : List T_api_Group) (k : Nat),(∀ g,g ∈ l→LG g)→∃ o,group_Right.l1 G l k = some o∧(o = .go ()→∀ j (h : j < l.length),GG l[j]∧group_Find G l[j].Name = some ((k + j : Nat) : Int))∧(∀ r,o = .ret r→r = false)
  | [],k,_ =>⟨.go (),rfl,fun _ j h =>absurd h (by simp),fun r h =>by cases h⟩
  | x :: r,k,h =>by
    obtain ⟨b,e,f⟩:=RightGroup_eq (h x List.mem_cons_self)
    rw [group_Right.l1,e]
    simp only [Option.bind_some]
    by_cases q : ((!b) || (decide ((x.Name.size : Int) > 48))) = true
    · rw [if_pos q]; exact ⟨.ret false,rfl,(fun h =>by cases h),(fun r h =>by cases h; rfl)⟩
    · rw [if_neg q]
      simp only [Bool.or_eq_true,Bool.not_eq_true',not_or,Bool.not_eq_false,decide_eq_true_eq] at q
      obtain ⟨v,hv⟩ : ∃ v,group_Find G x.Name = some v:=by
        rcases gFind_eq G x.Name with ⟨j,h1,_⟩ | ⟨h1,_⟩<;>exact ⟨_,h1⟩
      rw [hv]
      simp only [Option.bind_some]
      by_cases e2 : v = (k : Int)
      · rw [if_neg (by simp [e2])]
        obtain ⟨o,o1,o2,o3⟩:=gRight_loop (G:=G) r (k + 1) fun g hg =>h g (List.mem_cons_of_mem _ hg)
        refine ⟨o,o1,fun ho j hj =>?_,o3⟩
        cases j with
        | zero =>exact ⟨f q.1 (by omega),by simpa [e2] using hv⟩
        | succ j =>
          have:=o2 ho j (by simpa using hj)
          refine ⟨by simpa using this.1,?_⟩
          simp only [List.getElem_cons_succ]
          rw [this.2]
          congr 2
          omega
      · rw [if_pos (by simpa using e2)]; exact ⟨.ret false,rfl,(fun h =>by cases h),(fun r h =>by cases h; rfl)⟩
theorem gRight_eq {G : List T_api_Group} (h : ∀ g,g ∈ G→LG g) : ∃ b,group_Right G = some b∧(b = true→GR G):=by
  unfold group_Right
  obtain ⟨o,o1,o2,o3⟩:=gRight_loop (G:=G) G 0 h
  rw [o1]
  cases o with
  | ret r =>exact ⟨r,rfl,fun e =>by have:=o3 r rfl; rw [this] at e; cases e⟩
  | go u =>
    refine ⟨_,rfl,fun hb =>⟨fun g hg =>?_,?_,by have:=of_decide_eq_true hb; omega⟩⟩
    · obtain ⟨i,hi,rfl⟩:=List.getElem_of_mem hg
      exact (o2 rfl i hi).1
    · refine List.pairwise_map.2 (List.pairwise_iff_getElem.2 fun i j hi hj hij e =>?_)
      have h2:=(o2 rfl j hj).2
      rcases gFind_eq G G[j].Name with ⟨q,q1,q2,q3,q4⟩ | ⟨q1,q2⟩
      · rw [q1] at h2
        have : q = j:=by have:=Option.some.inj h2; omega
        subst this
        exact q4 i hij e
      · exact q2 _ (List.getElem_mem hj) rfl
theorem GR.pre {G H : List T_api_Group} (h : GR (G++H)) : GR G :=
  ⟨fun g hg =>h.gg g (List.mem_append_left _ hg),by have:=h.nd; rw [List.map_append] at this; exact (List.nodup_append.1 this).1,by have:=h.len; rw [List.length_append] at this; omega⟩
theorem cnt_zero {xs : List T_cloud_inst} {j : Nat} {l : List Nat} (h : ∀ i,i ∈ l→(I1 xs i).of≠j) : cnt xs j l = 0:=by
  unfold cnt
  rw [List.length_eq_zero_iff,List.filter_eq_nil_iff]
  intro i hi
  unfold ofB
  simp [h i hi]
theorem cNew_loop {delay : Int} : ∀ (suf pre : List T_api_Group) (k LB XB : Nat) (c : T_cloud_Cloud) (ps : List T_cloud_pool) (xs : List T_cloud_inst),GR (pre++suf)→CI pre LB XB c ps xs→(∀ g,g ∈ suf→g.Min≤6)→LB + 6 * suf.length≤6399→XB + 6 * suf.length≤100000 →
    ∃ c' ps' xs',cloud_New.l1 suf k c ps xs = some (c',ps',xs')∧CI (pre++suf) (LB + 6 * suf.length) (XB + 6 * suf.length) c' ps' xs'
  | [],pre,k,LB,XB,c,ps,xs,hr,h,hm,hl,hx =>⟨c,ps,xs,rfl,by simpa using h⟩
  | g :: suf,pre,k,LB,XB,c,ps,xs,hr,h,hm,hl,hx =>by
    have hgg : GG g:=hr.gg g (by simp)
    have hr1 : GR (pre++[g]):=by
      have : pre++g :: suf = (pre++[g])++suf:=by simp
      rw [this] at hr
      exact hr.pre
    have hm6:=hm g List.mem_cons_self
    have g0:=hgg.min
    have hpl:=h.plen
    have hrl:=hr1.len
    rw [List.length_append] at hrl
    rw [List.length_cons] at hl hx ⊢
    have hcl : c.pools.length = ps.length:=by rw [h.pools]; simp
    have h1 : CI (pre++[g]) LB XB ⟨c.pools++[ps.length + 1],c.insts,c.delay,c.now,c.calls⟩ (ps++[⟨g,g.Min,0,false⟩]) xs:=by
      refine ⟨h.del,?_,?_,?_,?_,h.xl,h.inc,h.val,?_,h.nd,?_⟩
      · show c.pools++[ps.length + 1] = _
        rw [h.pools,List.length_append,List.length_singleton,List.range'_concat]
        simp [Nat.add_comm]
      · rw [List.map_append,h.grp]; rfl
      · intro p hp
        rcases List.mem_append.1 hp with hp | hp
        · exact h.tgt p hp
        · rw [List.mem_singleton] at hp; subst hp; exact ⟨Int.le_refl _,hgg.mm⟩
      · intro p hp
        rcases List.mem_append.1 hp with hp | hp
        · exact h.last p hp
        · rw [List.mem_singleton] at hp; subst hp; exact ⟨Int.le_refl _,by show (0 : Int)≤_; omega⟩
      · intro i hi
        have q:=h.good i hi
        have e : P1 (ps++[⟨g,g.Min,0,false⟩]) (I1 xs i).of = P1 ps (I1 xs i).of:=at1_app q.of
        refine ⟨by rw [List.length_append]; have:=q.of; omega,q.st,?_⟩
        rw [e]
        exact q.num
      · intro j j1 j2
        rw [List.length_append,List.length_singleton] at j2
        by_cases e : j = ps.length + 1
        · subst e
          rw [cnt_zero fun i hi e =>by have:=(h.good i hi).of; omega]
          unfold P1
          rw [at1_new]
          exact hgg.min
        · have:=h.size j j1 (by omega)
          unfold P1
          rw [at1_app ⟨j1,by omega⟩]
          exact this
    obtain ⟨n,hn⟩ : ∃ n : Nat,g.Min = (n : Int):=⟨g.Min.toNat,by omega⟩
    rw [cloud_New.l1,ap_ok (by omega) (by simp; omega)]
    simp only [Option.bind_some]
    obtain ⟨c',ps',xs',q1,q2,_⟩:=more_ok hr1 (p:=ps.length + 1) (n:=n) (st:=I_cloud_state.c160 ⟨⟩) trivial (by omega) h1 ⟨by omega,by simp⟩ (by
      rw [cnt_zero fun i hi e =>by have:=(h.good i hi).of; omega]
      unfold P1
      rw [at1_new]
      show ((0 : Nat) : Int) + n≤g.Min
      omega) (by omega) (by omega)
    rw [← hn] at q1
    rw [q1]
    simp only [Option.bind_some]
    have q3 : CI (pre++[g]) (LB + 6) (XB + 6) c' ps' xs':=q2.mono (by omega) (by omega)
    obtain ⟨c2,ps2,xs2,r1,r2⟩:=cNew_loop (delay:=delay) suf (pre++[g]) (k + 1) (LB + 6) (XB + 6) c' ps' xs' (by simpa using hr) q3 (fun g' hg' =>hm g' (List.mem_cons_of_mem _ hg')) (by omega) (by omega)
    refine ⟨c2,ps2,xs2,r1,?_⟩
    have e : pre++[g]++suf = pre++g :: suf:=by simp
    rw [e] at r2
    exact r2.mono (by omega) (by omega)
theorem cNew_eq {G : List T_api_Group} (hlen : G.length≤20) (h : ∀ g,g ∈ G→LG g) (hm : ∀ g,g ∈ G→g.Min≤6) (delay : Int) :
    (∃ e,e≠0∧cloud_New G delay [] [] = some (none,e,[],[]))∨(GR G∧∃ c ps xs,cloud_New G delay [] [] = some (some c,0,ps,xs)∧CI G 120 120 c ps xs):=by
  unfold cloud_New
  obtain ⟨b,e,f⟩:=gRight_eq h
  rw [e]
  cases b with
  | false =>exact .inl ⟨12,by decide,rfl⟩
  | true =>
    have hr:=f rfl
    simp only [Option.bind_some,Bool.not_true,Bool.false_eq_true,if_false]
    by_cases hd : ((decide (delay < 1)) || (decide (delay > 1000))) = true
    · rw [if_pos hd]; exact .inl ⟨1,by decide,rfl⟩
    · rw [if_neg hd]
      simp only [Bool.or_eq_true,decide_eq_true_eq,not_or] at hd
      have h0 : CI [] 0 0 ⟨[],[],delay,0,0⟩ [] []:=⟨by show 1≤delay∧delay≤1000; omega,rfl,rfl,by simp,by simp,by simp,List.Pairwise.nil,by simp,by simp,by simp,fun j j1 j2 =>by simp at j2; omega⟩
      obtain ⟨c,ps,xs,q1,q2⟩:=cNew_loop (delay:=delay) G [] 0 0 0 _ _ _ (by simpa using hr) h0 hm (by omega) (by omega)
      rw [q1]
      refine .inr ⟨hr,c,ps,xs,rfl,?_⟩
      rw [List.nil_append] at q2
      exact q2.mono (by omega) (by omega)
end Go.Proofs.YtbgfffdnaijmhaaGreat.M

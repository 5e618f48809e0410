/-
  Printed by a program of this session out of the loaded functions: models and their proofs. Own text.
-/
import Derived.Test.YtbgfffdnaijmhaaGreatPWk6
import Derived.Test.YtbgfffdnaijmhaaGreatPSn2
/-
  Plain laws of the world: what is so of its yard; AddPod, DropPod, Evict and Ready. Own text.
-/
namespace Go.Proofs.YtbgfffdnaijmhaaGreat.M
open Go Go.Proofs Go.Proofs.YtbgfffdnaijmhaaGreat.V
open Go.IntKind (i64)
set_option linter.unusedVariables false
set_option maxRecDepth 100000
structure MG (m : T_api_Machine) : Prop where
  lm : LM m
  mb : machB m = true
  ne : m.Name≠⟨#[]⟩
  gne : m.Group≠⟨#[]⟩
def nonD (b : T_api_Bound) : Bool:=!b.Pod.Daemon
def podNs (bs : List T_api_Bound) : List ByteArray:=bs.map (·.Pod.Name)
structure WI (G : List T_api_Group) (B : List T_api_Budget) (BB : Nat) (w : T_world_World) (want : List ByteArray) : Prop where
  grp : w.groups = G
  held : w.held = []
  bud : w.budgets = B
  ml : w.ms.length≤200
  mg : ∀ m,m ∈ w.ms→MG m
  mnd : (w.ms.map (·.Name)).Nodup
  bl : w.bs.length≤BB
  bp : ∀ b,b ∈ w.bs→LP b.Pod∧podB b.Pod = true
  bnd : (podNs w.bs).Nodup
  on : ∀ b,b ∈ w.bs→b.On = ⟨#[]⟩∨∃ m,m ∈ w.ms∧m.Name = b.On
  want : (podNs (w.bs.filter nonD)).Perm want
theorem ap_nil {α : Type} {b : Nat} {l : List α} (hb : b≤1000) (h : l.length≤1000000) : V.ap b [] l = some l:=by rw [ap_ok hb (by simpa using h)]; rfl
theorem pod_eq {p : T_api_Pod} (h : LP p) : world_pod p = some p:=by
  have h1:=h.labels.1
  have h2:=h.select.1
  have h3:=h.apart.1
  have h4:=h.spread.1
  have h5:=h.bears.1
  have h6:=h.nports
  have h7:=h.nterms
  unfold world_pod
  rw [ap_nil (by omega) (by omega),ap_nil (by omega) (by omega),ap_nil (by omega) (by omega),ap_nil (by omega) (by omega),ap_nil (by omega) (by omega),ap_nil (by omega) (by omega),ap_nil (by omega) (by omega)]
  simp only [Option.bind_some]
  have key : ∀ (q : T_api_Pod) (m k f : Nat),p.Terms.length - k = m→m < f→k≤p.Terms.length→world_pod.l1 p.Terms f q p.Terms (k : Int) = some (q,p.Terms):=by
    intro q m
    induction m with
    | zero =>
      intro k f h1 h2 h3
      obtain ⟨f,rfl⟩ : ∃ q,f = q + 1:=⟨f - 1,by omega⟩
      obtain rfl : k = p.Terms.length:=by omega
      rw [world_pod.l1,if_neg dnl]
    | succ m ih =>
      intro k f h1 h2 h3
      obtain ⟨f,rfl⟩ : ∃ q,f = q + 1:=⟨f - 1,by omega⟩
      have hk : k < p.Terms.length:=by omega
      have hv:=(h.terms k hk).1
      rw [world_pod.l1,if_pos (dlt hk),glk hk]
      simp only [Option.bind_some]
      rw [ap_nil (by omega) (by omega)]
      simp only [Option.bind_some]
      rw [wk1 (by omega),show ((k : Int)).toNat = k by omega]
      have e : List.set p.Terms k ⟨p.Terms[k].Key,p.Terms[k].Op,p.Terms[k].Vals⟩ = p.Terms:=List.set_getElem_self hk
      rw [e]
      exact ih (k + 1) f (by omega) (by omega) (by omega)
  have hk:=fun q =>key q p.Terms.length 0 FU (by omega) (by unfold FU; omega) (Nat.zero_le _)
  rw [show (0 : Int) = ((0 : Nat) : Int) from rfl,hk]
  rfl
theorem machine_eq {m : T_api_Machine} (h : LM m) : world_machine m = some m:=by
  have h1:=h.labels.1
  have h2:=h.taints.1
  unfold world_machine
  rw [ap_nil (by omega) (by omega),ap_nil (by omega) (by omega)]
  rfl
theorem AddPod_ok {G : List T_api_Group} {B : List T_api_Budget} {BB : Nat} {w : T_world_World} {want : List ByteArray} (h : WI G B BB w want) (hB : BB < 400) (c : T_cloud_Cloud) {p : T_api_Pod} (hp : LP p) :
    (∃ e,e≠0∧world_World_AddPod w c p = some (e,w))∨(∃ w',world_World_AddPod w c p = some (0,w')∧w'.ms = w.ms∧WI G B (BB + 1) w' (if p.Daemon = true then want else want++[p.Name])):=by
  have hbl:=h.bl
  unfold world_World_AddPod world_World_there
  rw [spec_Pod_eq hp]
  simp only [Option.bind_some]
  cases hpb : podB p with
  | false =>exact .inl ⟨12,by decide,rfl⟩
  | true =>
    simp only [Bool.not_true,Bool.false_eq_true,if_false]
    obtain ⟨r,h1,_,h2⟩:=place_d w.bs p.Name (by omega)
    rw [h1]
    simp only [Option.bind_some]
    rcases h2 with ⟨rfl,hn⟩ | ⟨k,rfl,hk⟩
    · rw [if_neg (by decide),if_neg (by simp; omega),pod_eq hp]
      simp only [Option.bind_some]
      rw [ap_ok (by omega) (by simp; omega)]
      refine .inr ⟨_,rfl,rfl,h.grp,h.held,h.bud,h.ml,h.mg,h.mnd,by show (w.bs++_).length≤_; simp; omega,?_,?_,?_,?_⟩
      · intro b hb
        rcases List.mem_append.1 hb with hb | hb
        · exact h.bp b hb
        · rw [List.mem_singleton] at hb; subst hb; exact ⟨hp,hpb⟩
      · show (podNs (w.bs++[_])).Nodup
        unfold podNs
        rw [List.map_append]
        refine List.nodup_append.2 ⟨h.bnd,by simp,fun a ha b hb e =>?_⟩
        simp only [List.map_cons,List.map_nil,List.mem_singleton] at hb
        rw [e,hb] at ha
        exact hn ha
      · intro b hb
        rcases List.mem_append.1 hb with hb | hb
        · exact h.on b hb
        · rw [List.mem_singleton] at hb; subst hb; exact .inl rfl
      · show (podNs ((w.bs++[_]).filter nonD)).Perm _
        rw [List.filter_append]
        unfold podNs
        rw [List.map_append]
        by_cases hd : p.Daemon = true
        · rw [if_pos hd]
          have : List.filter nonD [(⟨p,⟨#[]⟩⟩ : T_api_Bound)] = []:=by simp [nonD,hd]
          rw [this,List.map_nil,List.append_nil]
          exact h.want
        · rw [if_neg hd]
          have : List.filter nonD [(⟨p,⟨#[]⟩⟩ : T_api_Bound)] = [⟨p,⟨#[]⟩⟩]:=by simp [nonD,hd]
          rw [this]
          exact h.want.append_right _
    · rw [if_pos (by simp)]
      exact .inl ⟨15,by decide,rfl⟩
theorem cut_eq {w : T_world_World} {c : T_cloud_Cloud} {k : Nat} (hk : k < w.bs.length) (hl : w.bs.length≤1000) : world_World_cut w c (k : Int) = some (w.bs[k].Pod,⟨(),w.groups,w.budgets,w.ms,w.bs.take k++w.bs.drop (k + 1),w.held⟩):=by
  unfold world_World_cut
  rw [glk hk]
  simp only [Option.bind_some]
  have e1 : V.rng w.bs.length none (some (k : Int)) = some (0,k):=by
    unfold V.rng
    rw [if_pos ⟨⟨by simp,by simp⟩,by simp [lowN],by simp [highN]; omega⟩]
    simp [lowN,highN]
  have e2 : V.rng w.bs.length (some (i64.wrap ((k : Int) + 1))) none = some (k + 1,w.bs.length):=by
    rw [wk1 (by omega)]
    unfold V.rng
    rw [if_pos ⟨⟨by simp; omega,by simp⟩,by simp [lowN,highN]; omega,by simp [highN]⟩]
    simp [lowN,highN]
  rw [e1,e2]
  simp only [Option.bind_some]
  unfold V.aps
  rw [ap_ok (by omega) (by simp; omega)]
  simp only [Option.bind_some]
  rw [List.take_of_length_le (l:=w.bs.drop (k + 1)) (by simp)]
theorem cut_perm {α : Type} {l : List α} {k : Nat} (hk : k < l.length) : l.Perm (l[k] :: (l.take k++l.drop (k + 1))):=by
  have : l = l.take k++l[k] :: l.drop (k + 1):=by rw [← List.drop_eq_getElem_cons hk,List.take_append_drop]
  exact (List.Perm.of_eq this).trans List.perm_middle
theorem nodup_perm {α β : Type} {l m : List α} {f : α→β} (h : l.Perm m) (hn : (l.map f).Nodup) : (m.map f).Nodup:=(h.map f).nodup_iff.1 hn
theorem WI.cut {G : List T_api_Group} {B : List T_api_Budget} {BB : Nat} {w : T_world_World} {want : List ByteArray} (h : WI G B BB w want) {k : Nat} (hk : k < w.bs.length) :
    WI G B BB ⟨(),w.groups,w.budgets,w.ms,w.bs.take k++w.bs.drop (k + 1),w.held⟩ (podNs ((w.bs.take k++w.bs.drop (k + 1)).filter nonD)):=by
  have hm : ∀ b,b ∈ w.bs.take k++w.bs.drop (k + 1)→b ∈ w.bs:=fun b hb =>by
    rcases List.mem_append.1 hb with q | q
    · exact List.mem_of_mem_take q
    · exact List.mem_of_mem_drop q
  have hp:=cut_perm hk
  have hn : (podNs (w.bs[k] :: (w.bs.take k++w.bs.drop (k + 1)))).Nodup:=nodup_perm hp h.bnd
  refine ⟨h.grp,h.held,h.bud,h.ml,h.mg,h.mnd,?_,fun b hb =>h.bp b (hm b hb),?_,fun b hb =>h.on b (hm b hb),List.Perm.refl _⟩
  · have:=hp.length_eq
    have hb:=h.bl
    rw [List.length_cons] at this
    show (w.bs.take k++w.bs.drop (k + 1)).length≤BB
    omega
  · unfold podNs at hn ⊢
    rw [List.map_cons] at hn
    exact (List.nodup_cons.1 hn).2
theorem Spare_tot (b : T_api_Budget) (bs : List T_api_Bound) : ∃ r,budget_Spare b bs = some r:=by
  have key : ∀ (l : List T_api_Bound) (k : Nat) (n : Int),∃ r,budget_Spare.l1 b l k n = some r:=by
    intro l
    induction l with
    | nil =>intro k n; exact ⟨n,rfl⟩
    | cons x r ih =>
      intro k n
      rw [budget_Spare.l1]
      unfold budget_counts
      rw [has_B]
      simp only [Option.bind_some]
      split
      · simp only [Option.bind_some]
        split
        · exact ih _ _
        · exact ih _ _
      · simp only [Option.bind_some]
        split
        · exact ih _ _
        · exact ih _ _
  unfold budget_Spare
  obtain ⟨r,hr⟩:=key bs 0 (i64.wrap (0 - b.Least))
  exact ⟨r,by rw [hr]; rfl⟩
theorem May_tot (L : List T_api_Budget) {bs : List T_api_Bound} (hl : bs.length≤1000) (name : ByteArray) : ∃ r,budget_May L bs name = some r∧(r = 0→∃ k : Nat,yard_Place bs name = some (k : Int)∧k < bs.length):=by
  unfold budget_May
  obtain ⟨r,h1,_,h2⟩:=place_d bs name hl
  rw [h1]
  simp only [Option.bind_some]
  rcases h2 with ⟨rfl,hn⟩ | ⟨k,rfl,hk,hname⟩
  · exact ⟨16,by rw [if_pos (by decide)],fun q =>absurd q (by decide)⟩
  · rw [if_neg (by simp),glk hk]
    simp only [Option.bind_some]
    split
    · exact ⟨22,rfl,fun q =>absurd q (by decide)⟩
    · have key : ∀ (l : List T_api_Budget) (q : Nat),∃ o,budget_May.l1 bs (k : Int) l q = some o:=by
        intro l
        induction l with
        | nil =>intro q; exact ⟨_,rfl⟩
        | cons x r ih =>
          intro q
          rw [budget_May.l1,glk hk]
          unfold budget_counts
          simp only [Option.bind_some]
          rw [has_B]
          simp only [Option.bind_some]
          obtain ⟨v,hv⟩:=Spare_tot x bs
          rw [hv]
          split
          · simp only [Option.bind_some]
            split
            · exact ⟨_,rfl⟩
            · exact ih _
          · simp only [Option.bind_some]
            split
            · exact ⟨_,rfl⟩
            · exact ih _
      obtain ⟨o,ho⟩:=key L 0
      rw [ho]
      cases o with
      | ret v =>exact ⟨v,rfl,fun _ =>⟨k,rfl,hk⟩⟩
      | go u =>exact ⟨0,rfl,fun _ =>⟨k,rfl,hk⟩⟩
theorem Evict_ok {G : List T_api_Group} {B : List T_api_Budget} {BB : Nat} {w : T_world_World} {want : List ByteArray} (h : WI G B BB w want) (hB : BB≤400) (c : T_cloud_Cloud) (name : ByteArray) : ∃ e w',world_World_Evict w c name = some (e,w')∧WI G B BB w' want:=by
  have hbl:=h.bl
  unfold world_World_Evict world_World_there
  obtain ⟨r,h1,h2⟩:=May_tot w.budgets (bs:=w.bs) (by omega) name
  simp only [Option.bind_some]
  rw [h1]
  simp only [Option.bind_some]
  by_cases e : r = 0
  · subst e
    obtain ⟨k,h3,hk⟩:=h2 rfl
    rw [if_neg (by decide),h3]
    simp only [Option.bind_some]
    rw [cut_eq hk (by omega)]
    simp only [Option.bind_some]
    have hp:=cut_perm hk
    have hlen:=hp.length_eq
    rw [List.length_cons] at hlen
    rw [ap_ok (by omega) (by simp only [List.length_cons,List.length_nil]; omega)]
    refine ⟨_,_,rfl,?_⟩
    have hc:=h.cut hk
    have hx:=h.bp _ (List.getElem_mem hk)
    have hperm : (w.bs.map (·.Pod)).Perm ((w.bs.take k++w.bs.drop (k + 1)++[(⟨w.bs[k].Pod,⟨#[]⟩⟩ : T_api_Bound)]).map (·.Pod)):=by
      refine (hp.map _).trans ?_
      rw [List.map_append,List.map_cons]
      exact (List.perm_append_singleton _ _).symm
    refine ⟨h.grp,h.held,h.bud,h.ml,h.mg,h.mnd,?_,?_,?_,?_,?_⟩
    · show (w.bs.take k++w.bs.drop (k + 1)++[_]).length≤BB
      rw [List.length_append,List.length_singleton]
      omega
    · intro b hb
      rcases List.mem_append.1 hb with hb | hb
      · exact hc.bp b hb
      · rw [List.mem_singleton] at hb; subst hb; exact hx
    · show (podNs (w.bs.take k++w.bs.drop (k + 1)++[_])).Nodup
      have:=(hperm.map (fun p : T_api_Pod =>p.Name)).nodup_iff.1 (by rw [List.map_map]; exact h.bnd)
      rw [List.map_map] at this
      exact this
    · intro b hb
      rcases List.mem_append.1 hb with hb | hb
      · exact hc.on b hb
      · rw [List.mem_singleton] at hb; subst hb; exact .inl rfl
    · show (podNs ((w.bs.take k++w.bs.drop (k + 1)++[_]).filter nonD)).Perm want
      have e1 : ∀ l : List T_api_Bound,podNs (l.filter nonD) = ((l.map (·.Pod)).filter fun p =>!p.Daemon).map (·.Name):=fun l =>by
        unfold podNs
        rw [List.filter_map,List.map_map]
        rfl
      have:=((hperm.filter fun p =>!p.Daemon).map (fun p : T_api_Pod =>p.Name))
      rw [← e1,← e1] at this
      exact this.symm.trans h.want
  · rw [if_pos (by simpa using e)]
    exact ⟨r,w,rfl,h⟩
theorem Ready_ok {G : List T_api_Group} {B : List T_api_Budget} {BB : Nat} {w : T_world_World} {want : List ByteArray} (h : WI G B BB w want) (c : T_cloud_Cloud) (name : ByteArray) (is : Bool) : ∃ e w',world_World_Ready w c name is = some (e,w')∧WI G B BB w' want∧w'.ms.map (·.Name) = w.ms.map (·.Name)∧(∀ m,m ∈ w.ms→∃ m',m' ∈ w'.ms∧m'.Name = m.Name∧m'.Taints = m.Taints):=by
  have hml:=h.ml
  unfold world_World_Ready world_World_on_world_World_Ready_1 world_World_there
  obtain ⟨r,h1,_,h2⟩:=find_d w.ms name (by omega)
  simp only [Option.bind_some]
  rw [h1]
  simp only [Option.bind_some]
  rcases h2 with ⟨rfl,hn⟩ | ⟨k,rfl,hk,hname⟩
  · exact ⟨16,w,by rw [if_pos (by decide)]; rfl,h,rfl,fun m hm =>⟨m,hm,rfl,rfl⟩⟩
  · rw [if_neg (by simp),glk hk]
    unfold world_World_Ready_1
    simp only [Option.bind_some]
    rw [if_pos (by decide)]
    rw [show ((k : Int)).toNat = k by omega]
    have hmn : (w.ms.set k ⟨w.ms[k].Name,w.ms[k].Group,w.ms[k].Has,w.ms[k].Labels,w.ms[k].Taints,is⟩).map (·.Name) = w.ms.map (·.Name):=by
      rw [List.map_set]
      show (w.ms.map (·.Name)).set k w.ms[k].Name = _
      have : w.ms[k].Name = (w.ms.map (·.Name))[k]'(by simpa using hk):=by simp
      rw [this,List.set_getElem_self]
    refine ⟨_,_,rfl,⟨h.grp,h.held,h.bud,by simpa using h.ml,?_,?_,h.bl,h.bp,h.bnd,?_,h.want⟩,hmn,fun m hm =>?_⟩
    · intro m hm
      rcases List.mem_or_eq_of_mem_set hm with hm | rfl
      · exact h.mg m hm
      · have q:=h.mg _ (List.getElem_mem hk)
        exact ⟨⟨q.lm.name,q.lm.group,q.lm.labels,q.lm.taints⟩,q.mb,q.ne,q.gne⟩
    · show ((w.ms.set k _).map (·.Name)).Nodup
      rw [hmn]; exact h.mnd
    · intro b hb
      rcases h.on b hb with q | ⟨m,hm,e⟩
      · exact .inl q
      · have : m.Name ∈ (w.ms.set k ⟨w.ms[k].Name,w.ms[k].Group,w.ms[k].Has,w.ms[k].Labels,w.ms[k].Taints,is⟩).map (·.Name):=by rw [hmn]; exact List.mem_map_of_mem hm
        obtain ⟨m',hm',e'⟩:=List.mem_map.1 this
        exact .inr ⟨m',hm',e'.trans e⟩
    · obtain ⟨i,hi,rfl⟩:=List.getElem_of_mem hm
      by_cases q : k = i
      · subst q
        exact ⟨_,List.mem_set hk _,rfl,rfl⟩
      · refine ⟨w.ms[i],?_,rfl,rfl⟩
        have : (w.ms.set k ⟨w.ms[k].Name,w.ms[k].Group,w.ms[k].Has,w.ms[k].Labels,w.ms[k].Taints,is⟩)[i]'(by simpa using hi) = w.ms[i]:=List.getElem_set_ne q _
        rw [← this]
        exact List.getElem_mem _
end Go.Proofs.YtbgfffdnaijmhaaGreat.M
/-
  Plain laws of the world: who leaves. Own text.
-/
namespace Go.Proofs.YtbgfffdnaijmhaaGreat.M
open Go Go.Proofs Go.Proofs.YtbgfffdnaijmhaaGreat.V
open Go.IntKind (i64)
set_option linter.unusedVariables false
set_option maxRecDepth 100000
theorem idxInv {σ : Type} {len : Nat} {F : Nat→σ→Int→Option σ} (Inv : Nat→σ→Prop) (hl : len < 1000000) (hs : ∀ f s (k : Nat),k < len→Inv k s→∃ s',F (f + 1) s (k : Int) = F f s' ((k + 1 : Nat) : Int)∧Inv (k + 1) s') (he : ∀ f s,F (f + 1) s (len : Int) = some s) {s : σ} (h0 : Inv 0 s) : ∃ s',F FU s 0 = some s'∧Inv len s':=by
  have key : ∀ (m k f : Nat) (s : σ),len - k = m→m < f→k≤len→Inv k s→∃ s',F f s (k : Int) = some s'∧Inv len s':=by
    intro m
    induction m with
    | zero =>
      intro k f s h1 h2 h3 h4
      obtain ⟨f,rfl⟩ : ∃ q,f = q + 1:=⟨f - 1,by omega⟩
      obtain rfl : k = len:=by omega
      exact ⟨s,he f s,h4⟩
    | succ m ih =>
      intro k f s h1 h2 h3 h4
      obtain ⟨f,rfl⟩ : ∃ q,f = q + 1:=⟨f - 1,by omega⟩
      obtain ⟨s',e,h5⟩:=hs f s k (by omega) h4
      rw [e]
      exact ih (k + 1) f s' (by omega) (by omega) (by omega) h5
  exact key len 0 FU s (by omega) (by unfold FU; omega) (Nat.zero_le _) h0
def mgN (r : List (ByteArray × Int)) (n : ByteArray) : Int:=(V.mg r n).getD 0
theorem mgN_mp (r : List (ByteArray × Int)) (k n : ByteArray) (v : Int) : mgN (V.mp r k v) n = if n = k then v else mgN r n:=by
  unfold mgN
  rw [mg_mp]
  split<;>rfl
theorem names_loop : ∀ (l : List T_api_Inst) (k : Nat) (r : List (ByteArray × Int)) (B : Nat),(∀ n,0≤mgN r n∧mgN r n≤B)→B + l.length≤1000000 →
    ∃ r',world_World_names.l1 l k r = some r'∧∀ n,(0≤mgN r' n∧mgN r' n≤(B + l.length : Nat))∧(0 < mgN r' n↔0 < mgN r n∨∃ x,x ∈ l∧x.Name = n)
  | [],k,r,B,h,hB =>⟨r,rfl,fun n =>⟨h n,by simp⟩⟩
  | x :: l,k,r,B,h,hB =>by
    rw [List.length_cons] at hB
    have hx:=h x.Name
    have e : i64.wrap (((V.mg r x.Name).getD 0) + 1) = mgN r x.Name + 1:=w_eq (show (-9223372036854775808 : Int)≤mgN r x.Name + 1 by omega) (show mgN r x.Name + 1 < 9223372036854775808 by omega)
    rw [world_World_names.l1,e]
    obtain ⟨r',h1,h2⟩:=names_loop l (k + 1) (V.mp r x.Name (mgN r x.Name + 1)) (B + 1) (fun n =>by
      rw [mgN_mp]
      have:=h n
      split<;>omega) (by omega)
    refine ⟨r',h1,fun n =>?_⟩
    obtain ⟨q1,q2⟩:=h2 n
    rw [List.length_cons]
    refine ⟨by omega,?_⟩
    rw [q2,mgN_mp]
    by_cases e : n = x.Name
    · subst e
      rw [if_pos rfl]
      constructor
      · intro _; exact .inr ⟨x,List.mem_cons_self,rfl⟩
      · intro _; exact .inl (by omega)
    · rw [if_neg e]
      constructor
      · rintro (q | ⟨y,q,q'⟩)
        · exact .inl q
        · exact .inr ⟨y,List.mem_cons_of_mem _ q,q'⟩
      · rintro (q | ⟨y,q,q'⟩)
        · exact .inl q
        · rcases List.mem_cons.1 q with rfl | q
          · exact absurd q'.symm e
          · exact .inr ⟨y,q,q'⟩
theorem names_ok {G : List T_api_Group} {LB XB : Nat} {c : T_cloud_Cloud} {ps : List T_cloud_pool} {xs : List T_cloud_inst} (h : CI G LB XB c ps xs) (hX : XB≤100000) (w : T_world_World) :
    ∃ r,world_World_names w c ps xs = some r∧∀ n,0 < mgN r n↔∃ i,i ∈ c.insts∧(I1 xs i).name = n:=by
  have hil:=h.ilen
  unfold world_World_names
  rw [Insts_ok h hX]
  simp only [Option.bind_some]
  obtain ⟨r,h1,h2⟩:=names_loop (instsV c ps xs) 0 [] 0 (fun n =>⟨Int.le_refl _,Int.le_refl _⟩) (by unfold instsV; simp; omega)
  rw [h1]
  refine ⟨r,rfl,fun n =>?_⟩
  rw [(h2 n).2]
  constructor
  · rintro (q | ⟨x,q,q'⟩)
    · exact absurd (show (0 : Int) < 0 from q) (by decide)
    · obtain ⟨i,hi,rfl⟩:=List.mem_map.1 q
      exact ⟨i,hi,q'⟩
  · rintro ⟨i,hi,e⟩
    exact .inr ⟨_,List.mem_map_of_mem hi,e⟩
theorem filter_or {α : Type} (p q : α→Bool) : ∀ (l : List α),(∀ x,x ∈ l→¬ (p x = true∧q x = true))→(l.filter fun x =>p x || q x).Perm (l.filter p++l.filter q)
  | [],_ =>List.Perm.refl _
  | x :: r,h =>by
    have ih:=filter_or p q r fun y hy =>h y (List.mem_cons_of_mem _ hy)
    have hx:=h x List.mem_cons_self
    simp only [List.filter_cons]
    cases hp : p x<;>cases hq : q x
    · simpa using ih
    · simp only [Bool.false_or,if_true,Bool.false_eq_true,if_false]
      exact (ih.cons x).trans List.perm_middle.symm
    · simp only [Bool.true_or,if_true,Bool.false_eq_true,if_false]
      exact ih.cons x
    · exact absurd ⟨hp,hq⟩ hx
def memB (l : List ByteArray) (n : ByteArray) : Bool:=l.any fun x =>decide (x = n)
theorem memB_iff {l : List ByteArray} {n : ByteArray} : memB l n = true↔n ∈ l:=by
  unfold memB
  rw [List.any_eq_true]
  constructor
  · rintro ⟨x,hx,e⟩
    have:=of_decide_eq_true e
    subst this
    exact hx
  · intro h
    exact ⟨n,h,by simp⟩
theorem memB_f {l : List ByteArray} {n : ByteArray} : memB l n = false↔n ∉ l:=by
  rw [← memB_iff]
  cases memB l n<;>simp
theorem group_perm (L : List T_api_Bound) : ∀ (order : List ByteArray),order.Nodup→(L.filter fun b =>memB order b.On).Perm (order.flatMap fun n =>L.filter fun b =>decide (b.On = n))
  | [],_ =>by simp [memB]
  | n :: r,hn =>by
    have hn':=List.nodup_cons.1 hn
    have e : (L.filter fun b =>memB (n :: r) b.On) = L.filter fun b =>decide (b.On = n) || memB r b.On:=List.filter_congr fun b _ =>by simp [memB,eq_comm]
    rw [e,List.flatMap_cons]
    refine (filter_or _ _ L fun b _ ⟨q1,q2⟩ =>?_).trans ((group_perm L r hn'.2).append_left _)
    have q1':=of_decide_eq_true q1
    have q2':=memB_iff.1 q2
    rw [q1'] at q2'
    exact hn'.1 q2'
def keepB (r : List (ByteArray × Int)) (m : T_api_Machine) : Bool:=decide (m.Group = ⟨#[]⟩) || decide (mgN r m.Name > 0)
theorem leave1 (w : T_world_World) (r : List (ByteArray × Int)) (hl : w.ms.length≤1000) :
    ∃ g,world_World_leave.l1 w r FU [] [] [] 0 = some (w.ms.filter (keepB r),g,(w.ms.filter fun m =>!keepB r m).map (·.Name))∧∀ n,mgN g n = 0↔n ∉ (w.ms.filter fun m =>!keepB r m).map (·.Name):=by
  obtain ⟨s,h1,h2⟩:=idxInv (σ:=List T_api_Machine × List (ByteArray × Int) × List ByteArray) (len:=w.ms.length) (F:=fun f s i =>world_World_leave.l1 w r f s.1 s.2.1 s.2.2 i)
    (fun k s =>s.1 = (w.ms.take k).filter (keepB r)∧s.2.2 = ((w.ms.take k).filter fun m =>!keepB r m).map (·.Name)∧∀ n,(0≤mgN s.2.1 n∧mgN s.2.1 n≤k)∧(mgN s.2.1 n = 0↔n ∉ s.2.2)) (by omega)
    (fun f s k hk ⟨i1,i2,i3⟩ =>by
      have ht : w.ms.take (k + 1) = w.ms.take k++[w.ms[k]]:=List.take_succ_eq_append_getElem hk
      have l1 : s.1.length≤k:=by rw [i1]; refine Nat.le_trans (List.length_filter_le _ _) ?_; rw [List.length_take]; omega
      have l2 : s.2.2.length≤k:=by rw [i2,List.length_map]; refine Nat.le_trans (List.length_filter_le _ _) ?_; rw [List.length_take]; omega
      have ek : ((V.seq w.ms[k].Group (⟨#[]⟩ : ByteArray)) || (decide (((V.mg r w.ms[k].Name).getD 0) > 0))) = keepB r w.ms[k]:=by rw [seq_eq]; rfl
      rw [world_World_leave.l1,if_pos (dlt hk),glk hk]
      simp only [Option.bind_some]
      rw [ek]
      cases hkb : keepB r w.ms[k] with
      | true =>
        rw [if_pos rfl,ap_ok (by omega) (by simp; omega)]
        simp only [Option.bind_some]
        rw [wk1 (by omega)]
        refine ⟨(s.1++[w.ms[k]],s.2.1,s.2.2),rfl,?_,?_,fun n =>⟨by have:=(i3 n).1; exact ⟨this.1,by show mgN s.2.1 n≤((k + 1 : Nat) : Int); omega⟩,(i3 n).2⟩⟩
        · rw [ht,List.filter_append,← i1]; simp [hkb]
        · rw [ht,List.filter_append,List.map_append,← i2]; simp [hkb]
      | false =>
        rw [if_neg (by simp),ap_ok (by omega) (by simp; omega)]
        simp only [Option.bind_some]
        have hx : 0≤mgN s.2.1 w.ms[k].Name∧mgN s.2.1 w.ms[k].Name≤(k : Int):=(i3 w.ms[k].Name).1
        have e : i64.wrap (((V.mg s.2.1 w.ms[k].Name).getD 0) + 1) = mgN s.2.1 w.ms[k].Name + 1:=w_eq (show (-9223372036854775808 : Int)≤mgN s.2.1 w.ms[k].Name + 1 by omega) (show mgN s.2.1 w.ms[k].Name + 1 < 9223372036854775808 by omega)
        rw [wk1 (by omega),e]
        refine ⟨(s.1,V.mp s.2.1 w.ms[k].Name (mgN s.2.1 w.ms[k].Name + 1),s.2.2++[w.ms[k].Name]),rfl,?_,?_,fun n =>?_⟩
        · rw [ht,List.filter_append,← i1]; simp [hkb]
        · rw [ht,List.filter_append,List.map_append,← i2]; simp [hkb]
        · simp only
          rw [mgN_mp]
          obtain ⟨q1,q2⟩:=i3 n
          by_cases e : n = w.ms[k].Name
          · subst e
            rw [if_pos rfl]
            refine ⟨by omega,⟨fun q =>by omega,fun q =>absurd (List.mem_append_right _ (List.mem_singleton.2 rfl)) q⟩⟩
          · rw [if_neg e]
            refine ⟨by omega,?_⟩
            rw [q2]
            simp [e])
    (fun f s =>by rw [world_World_leave.l1,if_neg dnl]) (s:=([],[],[])) ⟨by simp,by simp,fun n =>⟨⟨Int.le_refl _,by simp [mgN,V.mg]⟩,by simp [mgN,V.mg]⟩⟩
  rw [List.take_length] at h2
  obtain ⟨s1,s2,s3⟩:=s
  obtain ⟨i1,i2,i3⟩:=h2
  simp only at i1 i2 i3
  subst i1
  subst i2
  exact ⟨s2,h1,fun n =>(i3 n).2⟩
def setBs (w : T_world_World) (bs : List T_api_Bound) : T_world_World:=⟨(),w.groups,w.budgets,w.ms,bs,w.held⟩
theorem leave2 (w w0 : T_world_World) (j : List T_api_Machine × (List (ByteArray × Int)) × List ByteArray) (hl : w.bs.length≤1000) :
    world_World_leave.l2 w j FU (setBs w0 []) 0 = some (setBs w0 (w.bs.filter fun b =>decide (mgN j.2.1 b.On = 0))):=by
  obtain ⟨s,h1,h2⟩:=idxInv (len:=w.bs.length) (F:=fun f s i =>world_World_leave.l2 w j f s i) (fun k s =>s = setBs w0 ((w.bs.take k).filter fun b =>decide (mgN j.2.1 b.On = 0))) (by omega)
    (fun f s k hk i1 =>by
      have ht : w.bs.take (k + 1) = w.bs.take k++[w.bs[k]]:=List.take_succ_eq_append_getElem hk
      subst i1
      have l1 : ((w.bs.take k).filter fun b =>decide (mgN j.2.1 b.On = 0)).length≤k:=by refine Nat.le_trans (List.length_filter_le _ _) ?_; rw [List.length_take]; omega
      rw [world_World_leave.l2,if_pos (dlt hk),glk hk]
      simp only [Option.bind_some]
      have ek : (((V.mg j.2.1 w.bs[k].On).getD 0) == 0) = decide (mgN j.2.1 w.bs[k].On = 0):=by
        unfold mgN
        by_cases q : (V.mg j.2.1 w.bs[k].On).getD 0 = 0
        · rw [q]; rfl
        · simp [q]
      rw [ek]
      by_cases q : mgN j.2.1 w.bs[k].On = 0
      · rw [if_pos (by simpa using q)]
        show ∃ s',(V.ap 288 ((w.bs.take k).filter fun b =>decide (mgN j.2.1 b.On = 0)) [w.bs[k]]).bind _ = _∧_
        rw [ap_ok (by omega) (by simp only [List.length_cons,List.length_nil]; omega)]
        simp only [Option.bind_some]
        rw [wk1 (by omega)]
        refine ⟨_,rfl,?_⟩
        rw [ht,List.filter_append]
        simp [q,setBs]
      · rw [if_neg (by simpa using q),wk1 (by omega)]
        refine ⟨_,rfl,?_⟩
        rw [ht,List.filter_append]
        simp [q])
    (fun f s =>by rw [world_World_leave.l2,if_neg dnl]) (s:=setBs w0 []) (by simp)
  rw [List.take_length] at h2
  rw [← h2]
  exact h1
def unb (p : T_api_Pod) : T_api_Bound:=⟨p,⟨#[]⟩⟩
theorem leave4 (r2 : List T_api_Pod) (w0 : T_world_World) (bs : List T_api_Bound) (hl : r2.length + bs.length≤100000) :
    world_World_leave.l4 r2 FU (setBs w0 bs) 0 = some (setBs w0 (bs++(r2.filter fun p =>!p.Daemon).map unb)):=by
  obtain ⟨s,h1,h2⟩:=idxInv (len:=r2.length) (F:=fun f s i =>world_World_leave.l4 r2 f s i) (fun k s =>s = setBs w0 (bs++((r2.take k).filter fun p =>!p.Daemon).map unb)) (by omega)
    (fun f s k hk i1 =>by
      have ht : r2.take (k + 1) = r2.take k++[r2[k]]:=List.take_succ_eq_append_getElem hk
      subst i1
      have l1 : (bs++((r2.take k).filter fun p =>!p.Daemon).map unb).length≤bs.length + k:=by
        rw [List.length_append,List.length_map]
        have:=List.length_filter_le (fun p : T_api_Pod =>!p.Daemon) (r2.take k)
        rw [List.length_take] at this
        omega
      rw [world_World_leave.l4,if_pos (dlt hk),glk hk]
      simp only [Option.bind_some]
      by_cases q : r2[k].Daemon = true
      · rw [if_neg (by simp [q]),wk1 (by omega)]
        refine ⟨_,rfl,?_⟩
        rw [ht,List.filter_append]
        simp [q]
      · rw [if_pos (by simp [q])]
        show ∃ s',(V.ap 288 (bs++((r2.take k).filter fun p =>!p.Daemon).map unb) [_]).bind _ = _∧_
        rw [ap_ok (by omega) (by simp only [List.length_cons,List.length_nil]; omega)]
        simp only [Option.bind_some]
        rw [wk1 (by omega)]
        refine ⟨_,rfl,?_⟩
        rw [ht,List.filter_append]
        simp [q,setBs,unb])
    (fun f s =>by rw [world_World_leave.l4,if_neg dnl]) (s:=setBs w0 bs) (by simp)
  rw [List.take_length] at h2
  rw [← h2]
  exact h1
def behind (bs : List T_api_Bound) (order : List ByteArray) : List T_api_Bound:=order.flatMap fun n =>((onS bs n).filter fun p =>!p.Daemon).map unb
theorem behind_perm (bs : List T_api_Bound) (order : List ByteArray) (hn : order.Nodup) : ((behind bs order).map (·.Pod)).Perm (((bs.filter nonD).filter fun b =>memB order b.On).map (·.Pod)):=by
  have e : (behind bs order).map (·.Pod) = (order.flatMap fun n =>(bs.filter nonD).filter fun b =>decide (b.On = n)).map (·.Pod):=by
    unfold behind
    rw [List.map_flatMap,List.map_flatMap]
    congr 1
    funext n
    unfold onS
    rw [List.map_map,List.filter_map,List.map_map,List.filter_filter,List.filter_filter]
    have e1 : ((fun x : T_api_Bound =>x.Pod) ∘ unb) ∘ (fun x : T_api_Bound =>x.Pod) = fun x =>x.Pod:=rfl
    rw [e1]
    congr 1
    refine List.filter_congr fun b _ =>?_
    show ((!b.Pod.Daemon) && _) = _
    rw [Bool.and_comm]
    rfl
  rw [e]
  exact ((group_perm _ order hn).map _).symm
theorem leave3 (w w0 : T_world_World) (j : List T_api_Machine × (List (ByteArray × Int)) × List ByteArray) (bs : List T_api_Bound) (hl : w.bs.length≤400) (hb : bs.length≤400) (ho : j.2.2.length≤200) :
    world_World_leave.l3 w j FU (setBs w0 bs) 0 = some (setBs w0 (bs++behind w.bs j.2.2)):=by
  obtain ⟨s,h1,h2⟩:=idxInv (len:=j.2.2.length) (F:=fun f s i =>world_World_leave.l3 w j f s i) (fun k s =>s = setBs w0 (bs++behind w.bs (j.2.2.take k))∧(behind w.bs (j.2.2.take k)).length≤400 * k) (by omega)
    (fun f s k hk ⟨i1,i2⟩ =>by
      have ht : j.2.2.take (k + 1) = j.2.2.take k++[j.2.2[k]]:=List.take_succ_eq_append_getElem hk
      subst i1
      have hon : (onS w.bs j.2.2[k]).length≤400:=by
        unfold onS
        rw [List.length_map]
        exact Nat.le_trans (List.length_filter_le _ _) hl
      rw [world_World_leave.l3,if_pos (dlt hk),glk hk]
      simp only [Option.bind_some]
      rw [On_eq w.bs _ (by omega)]
      simp only [Option.bind_some]
      rw [leave4 _ _ _ (by rw [List.length_append]; omega)]
      simp only [Option.bind_some]
      rw [wk1 (by omega)]
      have eb : behind w.bs (j.2.2.take (k + 1)) = behind w.bs (j.2.2.take k)++((onS w.bs j.2.2[k]).filter fun p =>!p.Daemon).map unb:=by
        unfold behind
        rw [ht,List.flatMap_append]
        simp
      refine ⟨_,rfl,by rw [eb,List.append_assoc],?_⟩
      rw [eb,List.length_append,List.length_map]
      have:=List.length_filter_le (fun p : T_api_Pod =>!p.Daemon) (onS w.bs j.2.2[k])
      omega)
    (fun f s =>by rw [world_World_leave.l3,if_neg dnl]) (s:=setBs w0 bs) ⟨by simp [behind],by simp [behind]⟩
  rw [List.take_length] at h2
  rw [← h2.1]
  exact h1
theorem leave_ok {G : List T_api_Group} {B : List T_api_Budget} {BB LB XB : Nat} {w : T_world_World} {want : List ByteArray} {c : T_cloud_Cloud} {ps : List T_cloud_pool} {xs : List T_cloud_inst} (h : WI G B BB w want) (hc : CI G LB XB c ps xs) (hB : BB≤400) (hX : XB≤100000) :
    ∃ w',world_World_leave w c ps xs = some w'∧WI G B BB w' want∧(∀ m,m ∈ w'.ms→∃ i,i ∈ c.insts∧(I1 xs i).name = m.Name)∧(∀ m,m ∈ w.ms→m ∈ w'.ms∨m.Name ∉ nms c xs):=by
  have hml:=h.ml
  have hbl:=h.bl
  obtain ⟨r,hr,hrn⟩:=names_ok hc hX w
  obtain ⟨g,e1,hg⟩:=leave1 w r (by omega)
  unfold world_World_leave
  rw [hr]
  simp only [Option.bind_some]
  rw [e1]
  simp only [Option.bind_some]
  have hkeep : ∀ m,m ∈ w.ms.filter (keepB r)→m ∈ w.ms∧∃ i,i ∈ c.insts∧(I1 xs i).name = m.Name:=fun m hm =>by
    obtain ⟨q1,q2⟩:=List.mem_filter.1 hm
    refine ⟨q1,(hrn m.Name).1 ?_⟩
    unfold keepB at q2
    rcases Bool.or_eq_true_iff.1 q2 with q | q
    · exact absurd (of_decide_eq_true q) (h.mg m q1).gne
    · exact of_decide_eq_true q
  have hgo : ∀ m,m ∈ w.ms→m ∈ w.ms.filter (keepB r)∨m.Name ∉ nms c xs:=fun m hm =>by
    cases hk : keepB r m with
    | true =>exact .inl (List.mem_filter.2 ⟨hm,hk⟩)
    | false =>
      refine .inr fun q =>?_
      obtain ⟨i,hi,e⟩:=List.mem_map.1 q
      have h1:=(hrn m.Name).2 ⟨i,hi,e⟩
      unfold keepB at hk
      simp only [Bool.or_eq_false_iff,decide_eq_false_iff_not] at hk
      exact hk.2 h1
  have hfl : (w.ms.filter (keepB r)).length≤200:=Nat.le_trans (List.length_filter_le _ _) hml
  have hfn : ((w.ms.filter (keepB r)).map (·.Name)).Nodup:=h.mnd.sublist (List.filter_sublist.map _)
  generalize ho : (w.ms.filter fun m =>!keepB r m).map (·.Name) = order at hg ⊢
  have hon : order.Nodup:=by rw [← ho]; exact h.mnd.sublist (List.filter_sublist.map _)
  have hol : order.length≤200:=by rw [← ho,List.length_map]; exact Nat.le_trans (List.length_filter_le _ _) hml
  by_cases hz : order = []
  · subst hz
    rw [if_pos (by rfl)]
    refine ⟨_,rfl,⟨h.grp,h.held,h.bud,hfl,fun m hm =>h.mg m (hkeep m hm).1,hfn,h.bl,h.bp,h.bnd,?_,h.want⟩,fun m hm =>(hkeep m hm).2,hgo⟩
    intro b hb
    rcases h.on b hb with q | ⟨m,hm,e⟩
    · exact .inl q
    · refine .inr ⟨m,List.mem_filter.2 ⟨hm,?_⟩,e⟩
      cases hk : keepB r m with
      | true =>rfl
      | false =>
        have : m.Name ∈ (w.ms.filter fun m =>!keepB r m).map (·.Name):=List.mem_map_of_mem (List.mem_filter.2 ⟨hm,by simp [hk]⟩)
        rw [ho] at this
        cases this
  · have hne : ¬ ((order.length : Int) == 0) = true:=by
      intro q
      have : order.length = 0:=by simpa using q
      exact hz (List.length_eq_zero_iff.1 this)
    rw [if_neg hne]
    have l2:=leave2 w ⟨(),w.groups,w.budgets,w.ms.filter (keepB r),[],w.held⟩ (w.ms.filter (keepB r),g,order) (by omega)
    have hA : (w.bs.filter fun b =>decide (mgN g b.On = 0)) = w.bs.filter fun b =>!memB order b.On:=List.filter_congr fun b _ =>by
      by_cases q : b.On ∈ order
      · have : ¬ mgN g b.On = 0:=fun e =>((hg b.On).1 e) q
        rw [memB_iff.2 q]; simp [this]
      · have : mgN g b.On = 0:=(hg b.On).2 q
        rw [memB_f.2 q]; simp [this]
    simp only at l2
    rw [hA] at l2
    have hAl : (w.bs.filter fun b =>!memB order b.On).length≤400:=Nat.le_trans (List.length_filter_le _ _) (by omega)
    have l3:=leave3 w ⟨(),w.groups,w.budgets,w.ms.filter (keepB r),[],w.held⟩ (w.ms.filter (keepB r),g,order) (w.bs.filter fun b =>!memB order b.On) (by omega) hAl hol
    have l2' : world_World_leave.l2 w (w.ms.filter (keepB r),g,order) FU (⟨(),w.groups,w.budgets,w.ms.filter (keepB r),([] : List T_api_Bound),w.held⟩ : T_world_World) (0 : Int) = _:=l2
    rw [l2']
    simp only [Option.bind_some]
    rw [l3]
    refine ⟨_,rfl,?_,fun m hm =>(hkeep m hm).2,hgo⟩
    -- the pods
    have hbp:=behind_perm w.bs order hon
    have hsub : ((w.bs.filter fun b =>!memB order b.On).map (·.Pod)++(behind w.bs order).map (·.Pod)).Perm ((w.bs.filter fun b =>(!memB order b.On) || (memB order b.On && nonD b)).map (·.Pod)):=by
      refine (hbp.append_left _).trans ?_
      rw [← List.map_append]
      refine List.Perm.map _ ?_
      rw [List.filter_filter]
      exact (filter_or _ _ w.bs fun b _ ⟨q1,q2⟩ =>by
        simp only [Bool.and_eq_true] at q2
        rw [q2.1] at q1
        cases q1).symm
    have hnon : (((w.bs.filter fun b =>!memB order b.On).filter nonD).map (·.Pod)++(behind w.bs order).map (·.Pod)).Perm ((w.bs.filter nonD).map (·.Pod)):=by
      refine (hbp.append_left _).trans ?_
      rw [← List.map_append]
      refine List.Perm.map _ ?_
      rw [List.filter_filter]
      have e2 : (w.bs.filter fun a =>nonD a && !memB order a.On) = (w.bs.filter nonD).filter fun b =>!memB order b.On:=by
        rw [List.filter_filter]
        exact List.filter_congr fun b _ =>Bool.and_comm _ _
      rw [e2]
      refine (filter_or _ _ (w.bs.filter nonD) fun b _ ⟨q1,q2⟩ =>by rw [q2] at q1; cases q1).symm.trans (List.Perm.of_eq ?_)
      rw [List.filter_eq_self]
      intro b _
      cases memB order b.On<;>rfl
    have hbn : ∀ b,b ∈ behind w.bs order→b.On = ⟨#[]⟩∧nonD b = true∧(LP b.Pod∧podB b.Pod = true):=fun b hb =>by
      unfold behind at hb
      obtain ⟨n,_,hb⟩:=List.mem_flatMap.1 hb
      obtain ⟨p,hp,rfl⟩:=List.mem_map.1 hb
      obtain ⟨q1,q2⟩:=List.mem_filter.1 hp
      unfold onS at q1
      obtain ⟨b2,hb2,rfl⟩:=List.mem_map.1 q1
      exact ⟨rfl,q2,h.bp b2 (List.mem_filter.1 hb2).1⟩
    refine ⟨h.grp,h.held,h.bud,hfl,fun m hm =>h.mg m (hkeep m hm).1,hfn,?_,?_,?_,?_,?_⟩
    · show (_++behind w.bs order).length≤BB
      have:=hsub.length_eq
      rw [List.length_append,List.length_map,List.length_map,List.length_map] at this
      have q:=List.length_filter_le (fun b : T_api_Bound =>(!memB order b.On) || (memB order b.On && nonD b)) w.bs
      rw [List.length_append]
      omega
    · intro b hb
      rcases List.mem_append.1 hb with hb | hb
      · exact h.bp b (List.mem_filter.1 hb).1
      · exact (hbn b hb).2.2
    · show (podNs (_++behind w.bs order)).Nodup
      have q:=hsub.map (fun p : T_api_Pod =>p.Name)
      rw [← List.map_append,List.map_map,List.map_map] at q
      refine q.nodup_iff.2 ?_
      exact h.bnd.sublist (List.filter_sublist.map _)
    · intro b hb
      rcases List.mem_append.1 hb with hb | hb
      · obtain ⟨q1,q2⟩:=List.mem_filter.1 hb
        rcases h.on b q1 with q | ⟨m,hm,e⟩
        · exact .inl q
        · refine .inr ⟨m,List.mem_filter.2 ⟨hm,?_⟩,e⟩
          cases hk : keepB r m with
          | true =>rfl
          | false =>
            have : m.Name ∈ (w.ms.filter fun m =>!keepB r m).map (·.Name):=List.mem_map_of_mem (List.mem_filter.2 ⟨hm,by simp [hk]⟩)
            rw [ho,e] at this
            rw [memB_iff.2 this] at q2
            cases q2
      · exact .inl (hbn b hb).1
    · show (podNs ((_++behind w.bs order).filter nonD)).Perm want
      rw [List.filter_append]
      have e3 : (behind w.bs order).filter nonD = behind w.bs order:=List.filter_eq_self.2 fun b hb =>(hbn b hb).2.1
      rw [e3]
      have q:=hnon.map (fun p : T_api_Pod =>p.Name)
      rw [← List.map_append,List.map_map,List.map_map] at q
      exact q.trans h.want
end Go.Proofs.YtbgfffdnaijmhaaGreat.M
/-
  Plain laws of the world: who is registered, a tick, a world of its own. Own text.
-/
namespace Go.Proofs.YtbgfffdnaijmhaaGreat.M
open Go Go.Proofs Go.Proofs.YtbgfffdnaijmhaaGreat.V
open Go.IntKind (i64)
set_option linter.unusedVariables false
set_option maxRecDepth 100000
theorem nodup_sub {α : Type} : ∀ {A B : List α},A.Nodup→(∀ a,a ∈ A→a ∈ B)→A.length≤B.length
  | [],B,_,_ =>by simp
  | a :: A,B,hn,h =>by
    obtain ⟨s,t,e⟩:=List.append_of_mem (h a List.mem_cons_self)
    have hn':=List.nodup_cons.1 hn
    have:=nodup_sub (A:=A) (B:=s++t) hn'.2 fun x hx =>by
      have q:=h x (List.mem_cons_of_mem _ hx)
      rw [e] at q
      rcases List.mem_append.1 q with q | q
      · exact List.mem_append_left _ q
      · rcases List.mem_cons.1 q with rfl | q
        · exact absurd hx hn'.1
        · exact List.mem_append_right _ q
    rw [e]
    simp only [List.length_append,List.length_cons] at this ⊢
    omega
theorem gm_MG {g : T_api_Group} (h : GG g) {k : Nat} (hk : k < 6400) : MG (gm g k):=by
  have hz:=nm_size (s:=g.Name) hk
  have hs:=h.size
  have hm:=h.mach
  unfold machB at hm
  simp only [Bool.and_eq_true] at hm
  have hl : LM (gm g k):=⟨by show (nm g.Name k).size≤300; omega,h.like.group,h.like.labels,h.like.taints⟩
  refine ⟨hl,?_,nm_ne hk,by show g.Like.Group≠_; rw [h.lgroup]; exact h.ne⟩
  unfold machB
  simp only [Bool.and_eq_true]
  refine ⟨?_,hm.2.1,hm.2.2.1,hm.2.2.2.1,hm.2.2.2.2⟩
  unfold mayB wordB
  have : ref01_Word (nm g.Name k) = some true:=nm_word hk h.size h.word
  show (_ || (ref01_Word (nm g.Name k)).getD false) = true
  rw [this]
  simp
def HI (c : T_cloud_Cloud) (xs : List T_cloud_inst) (ms : List T_api_Machine) : Prop:=∀ m,m ∈ ms→∃ i,i ∈ c.insts∧(I1 xs i).name = m.Name
theorem reg_loop {G : List T_api_Group} {B : List T_api_Budget} (hr : GR G) {BB LB XB : Nat} {want : List ByteArray} {c : T_cloud_Cloud} {ps : List T_cloud_pool} {xs : List T_cloud_inst} (hc : CI G LB XB c ps xs) (hLB : LB≤6399) (hN : c.insts.length≤200) :
    ∀ (l : List Nat) (k : Nat) (w : T_world_World),(∀ i,i ∈ l→i ∈ c.insts)→WI G B BB w want→HI c xs w.ms →
    ∃ w',world_World_register.l1 (l.map fun i =>instV ps (I1 xs i)) k w = some w'∧WI G B BB w' want∧HI c xs w'.ms∧∀ m,m ∈ w.ms→m ∈ w'.ms
  | [],k,w,_,h,hi =>⟨w,rfl,h,hi,fun _ q =>q⟩
  | i :: l,k,w,hl,h,hi =>by
    have hii:=hl i List.mem_cons_self
    have ih:=fun w' =>reg_loop (B:=B) (BB:=BB) (want:=want) hr hc hLB hN l (k + 1) w' (fun j hj =>hl j (List.mem_cons_of_mem _ hj))
    have hg:=hc.good i hii
    have hml:=h.ml
    rw [List.map_cons,world_World_register.l1,h.held]
    show ∃ w',((if ((stN (I1 xs i).in_ != 2) || (decide (((none : Option Int).getD 0) > 0))) = true then some true else (yard_Find w.ms (I1 xs i).name).bind fun r2 =>some (decide (r2≥0))).bind _) = some w'∧_
    by_cases hs : stN (I1 xs i).in_ = 2
    · rw [if_neg (by simp [hs])]
      obtain ⟨r,h1,_,h2⟩:=find_d w.ms (I1 xs i).name (by omega)
      rw [h1]
      simp only [Option.bind_some]
      rcases h2 with ⟨rfl,hn⟩ | ⟨q,rfl,hq,hname⟩
      · rw [if_neg (by decide)]
        obtain ⟨n,n1,n2,n3⟩:=hg.num
        have hlast:=hc.last _ (P1_mem hg.of)
        have hgr : (P1 ps (I1 xs i).of).Group ∈ G:=by rw [← hc.grp]; exact List.mem_map_of_mem (P1_mem hg.of)
        rcases gFind_eq G (P1 ps (I1 xs i).of).Group.Name with ⟨j,j1,j2,j3,_⟩ | ⟨_,j2⟩
        · show ∃ w',(((group_Find w.groups (P1 ps (I1 xs i).of).Group.Name).bind fun r3 =>(V.gl w.groups r3).bind fun x4 =>some x4).bind fun g2 =>(group_Number g2 (I1 xs i).name).bind _) = some w'∧_
          rw [h.grp,j1]
          simp only [Option.bind_some]
          rw [glk j2]
          simp only [Option.bind_some]
          have hgj:=hr.gg _ (List.getElem_mem j2)
          have hsz:=hgj.size
          rw [n3,← j3,gNumber_eq (by omega) (by omega) n1]
          simp only [Option.bind_some]
          rw [gMachine_eq hgj.like (by omega) (by omega) n1]
          simp only [Option.bind_some]
          rw [ap_ok (by omega) (by simp; omega)]
          simp only [Option.bind_some]
          have hnm : (gm G[j] n).Name = (I1 xs i).name:=by show nm G[j].Name n = _; rw [j3,n3]
          have hi' : HI c xs (w.ms++[gm G[j] n]):=fun m hm =>by
            rcases List.mem_append.1 hm with hm | hm
            · exact hi m hm
            · rw [List.mem_singleton] at hm; subst hm; exact ⟨i,hii,hnm.symm⟩
          have hnd : ((w.ms++[gm G[j] n]).map (·.Name)).Nodup:=by
            rw [List.map_append]
            refine List.nodup_append.2 ⟨h.mnd,by simp,fun a ha b hb e =>?_⟩
            simp only [List.map_cons,List.map_nil,List.mem_singleton] at hb
            rw [e,hb,hnm] at ha
            exact hn ha
          have hlen : (w.ms++[gm G[j] n]).length≤200:=by
            have:=nodup_sub (B:=c.insts.map fun i =>(I1 xs i).name) hnd fun a ha =>by
              obtain ⟨m,hm,rfl⟩:=List.mem_map.1 ha
              obtain ⟨i',q1,q2⟩:=hi' m hm
              rw [← q2]
              exact List.mem_map_of_mem q1
            rw [List.length_map,List.length_map] at this
            omega
          obtain ⟨w',z1,z2,z3,z4⟩:=ih ⟨(),G,w.budgets,w.ms++[gm G[j] n],w.bs,[]⟩ ⟨rfl,rfl,h.bud,hlen,(fun m hm =>by
            rcases List.mem_append.1 hm with hm | hm
            · exact h.mg m hm
            · rw [List.mem_singleton] at hm; subst hm; exact gm_MG hgj (by omega)),hnd,h.bl,h.bp,h.bnd,(fun b hb =>by
            rcases h.on b hb with q | ⟨m,hm,e⟩
            · exact .inl q
            · exact .inr ⟨m,List.mem_append_left _ hm,e⟩),h.want⟩ hi'
          exact ⟨w',z1,z2,z3,fun m hm =>z4 m (List.mem_append_left _ hm)⟩
        · exact absurd rfl (j2 _ hgr)
      · rw [if_pos (by simp)]
        exact ih w h hi
    · rw [if_pos (by simp [hs])]
      exact ih w h hi
theorem reg_ok {G : List T_api_Group} {B : List T_api_Budget} (hr : GR G) {BB LB XB : Nat} {want : List ByteArray} {w : T_world_World} {c : T_cloud_Cloud} {ps : List T_cloud_pool} {xs : List T_cloud_inst} (hc : CI G LB XB c ps xs) (hLB : LB≤6399) (hX : XB≤100000) (hN : c.insts.length≤200) (h : WI G B BB w want) (hi : HI c xs w.ms) :
    ∃ w',world_World_register w c ps xs = some w'∧WI G B BB w' want∧HI c xs w'.ms∧∀ m,m ∈ w.ms→m ∈ w'.ms:=by
  obtain ⟨w',h1,h2⟩:=reg_loop hr hc hLB hN c.insts 0 w (fun i hi =>hi) h hi
  unfold world_World_register
  rw [Insts_ok hc hX]
  simp only [Option.bind_some]
  have h1' : world_World_register.l1 (instsV c ps xs) 0 w = some w':=h1
  rw [h1']
  exact ⟨w',rfl,h2⟩
def smax : List T_api_Group→Int
  | [] =>0
  | g :: r =>g.Max + smax r
theorem smax_app : ∀ (l : List T_api_Group) (g : T_api_Group),smax (l++[g]) = smax l + g.Max
  | [],g =>by simp [smax]
  | x :: r,g =>by simp only [List.cons_append,smax,smax_app r g]; omega
def sumC (xs : List T_cloud_inst) (l : List Nat) : Nat→Nat
  | 0 =>0
  | n + 1 =>sumC xs l n + cnt xs (n + 1) l
theorem filter_add {p q r : Nat→Bool} : ∀ (l : List Nat),(∀ i,i ∈ l→p i = true→q i = true∨r i = true)→(l.filter p).length≤(l.filter q).length + (l.filter r).length
  | [],_ =>by simp
  | a :: l,h =>by
    have ih:=filter_add (p:=p) (q:=q) (r:=r) l fun i hi =>h i (List.mem_cons_of_mem _ hi)
    simp only [List.filter_cons]
    by_cases hp : p a = true
    · rw [if_pos hp]
      rcases h a List.mem_cons_self hp with q1 | q1
      · rw [if_pos q1]
        split<;>(try simp only [List.length_cons])<;>omega
      · rw [if_pos q1]
        split<;>(try simp only [List.length_cons])<;>omega
    · rw [if_neg hp]
      split<;>split<;>(try simp only [List.length_cons])<;>omega
theorem sumC_len (xs : List T_cloud_inst) (l : List Nat) (hl : ∀ i,i ∈ l→1≤(I1 xs i).of∧leavB (I1 xs i).in_ = false) : ∀ n : Nat,(l.filter fun i =>decide ((I1 xs i).of≤n)).length≤sumC xs l n
  | 0 =>by
    show _≤0
    rw [Nat.le_zero,List.length_eq_zero_iff,List.filter_eq_nil_iff]
    intro i hi
    have:=(hl i hi).1
    simp
    omega
  | n + 1 =>by
    have ih:=sumC_len xs l hl n
    have : (l.filter fun i =>decide ((I1 xs i).of≤n + 1)).length≤(l.filter fun i =>decide ((I1 xs i).of≤n)).length + (l.filter (ofB xs (n + 1))).length:=filter_add l fun i hi hp =>by
      have h2:=(hl i hi).2
      have hp':=of_decide_eq_true hp
      by_cases e : (I1 xs i).of = n + 1
      · right
        unfold ofB
        rw [h2]
        simp [e]
      · left
        simp
        omega
    unfold sumC cnt
    omega
theorem sumC_max {G : List T_api_Group} {LB XB : Nat} {c : T_cloud_Cloud} {ps : List T_cloud_pool} {xs : List T_cloud_inst} (h : CI G LB XB c ps xs) : ∀ n,n≤ps.length→(sumC xs c.insts n : Int)≤smax ((ps.take n).map (·.Group))
  | 0,_ =>by simp [sumC,smax]
  | n + 1,hn =>by
    have ih:=sumC_max h n (by omega)
    have hs:=h.size (n + 1) (by omega) hn
    have ht:=h.tgt _ (P1_mem (ps:=ps) (n:=n + 1) ⟨by omega,hn⟩)
    have e : ps.take (n + 1) = ps.take n++[P1 ps (n + 1)]:=by
      rw [List.take_succ_eq_append_getElem (by omega)]
      congr 2
      unfold P1 at1
      rw [Nat.add_sub_cancel,List.getD_eq_getElem?_getD,List.getElem?_eq_getElem (by omega)]
      rfl
    rw [e,List.map_append,List.map_cons,List.map_nil,smax_app]
    unfold sumC
    omega
theorem insts_200 {G : List T_api_Group} {LB XB : Nat} {c : T_cloud_Cloud} {ps : List T_cloud_pool} {xs : List T_cloud_inst} (h : CI G LB XB c ps xs) (hs : smax G≤200) (hn : ∀ i,i ∈ c.insts→leavB (I1 xs i).in_ = false) : c.insts.length≤200:=by
  have h1:=sumC_len xs c.insts (fun i hi =>⟨(h.good i hi).of.1,hn i hi⟩) ps.length
  have h2:=sumC_max h ps.length (Nat.le_refl _)
  rw [List.take_length,h.grp] at h2
  have h3 : (c.insts.filter fun i =>decide ((I1 xs i).of≤ps.length)) = c.insts:=List.filter_eq_self.2 fun i hi =>by
    have:=(h.good i hi).of.2
    simpa using this
  rw [h3] at h1
  omega
theorem si_pods {ms : List T_api_Machine} {bs out : List T_api_Bound} {mv : List T_api_Move} (h : SI ms bs out mv) : out.map (·.Pod) = bs.map (·.Pod):=by
  apply List.ext_getElem (by simp [h.len])
  intro i h1 h2
  simp only [List.getElem_map]
  exact h.pod i (by simpa using h1) (by simpa using h2)
theorem Pass_ok {G : List T_api_Group} {B : List T_api_Budget} (hr : GR G) (hsm : smax G≤200) {BB LB XB : Nat} {want : List ByteArray} {w : T_world_World} {c : T_cloud_Cloud} {ps : List T_cloud_pool} {xs : List T_cloud_inst} (hc : CI G LB XB c ps xs) (hLB : LB≤6399) (hX : XB≤100000) (hB : BB≤400) (h : WI G B BB w want) :
    ∃ w' c' xs',world_World_Pass w c ps xs = some (w',c',xs')∧WI G B BB w' want∧CI G LB XB c' ps xs'∧HI c' xs' w'.ms∧(∀ m,m ∈ w.ms→m ∈ w'.ms∨m.Name ∉ nms c' xs')∧(∀ s,s ∈ nms c' xs'→s ∈ nms c xs):=by
  unfold world_World_Pass world_World_there
  simp only [Option.bind_some]
  obtain ⟨c',xs',t1,t2,t3,t4⟩:=Tick_ok hc hX
  rw [t1]
  simp only [Option.bind_some]
  obtain ⟨w1,l1,l2,l3,l4⟩:=leave_ok h t2 hB hX
  rw [l1]
  simp only [Option.bind_some]
  obtain ⟨w2,r1,r2,r3,r4⟩:=reg_ok hr t2 hLB hX (insts_200 t2 hsm t3) l2 l3
  rw [r1]
  simp only [Option.bind_some]
  have hml:=r2.ml
  have hbl:=r2.bl
  obtain ⟨out,mv,s1,s2,_⟩:=Step_ok (ms:=w2.ms) (bs:=w2.bs) (by omega) (by omega) (fun m hm =>(r2.mg m hm).lm) r2.mnd (fun m hm =>(r2.mg m hm).ne) (fun b hb =>(r2.bp b hb).1) (fun k hk e =>by
    rcases r2.on _ (List.getElem_mem hk) with q | ⟨m,hm,q⟩
    · exact absurd q e
    · exact ⟨m,hm,q⟩) (fun _ _ _ =>True) (fun _ _ _ _ _ _ _ _ _ =>⟨fun _ =>trivial,fun _ _ _ _ =>trivial⟩) (fun _ _ _ =>trivial)
  rw [s1]
  have hp:=si_pods s2
  have hpn : podNs out = podNs w2.bs:=by
    have:=congrArg (List.map fun p : T_api_Pod =>p.Name) hp
    rw [List.map_map,List.map_map] at this
    exact this
  have hpf : podNs (out.filter nonD) = podNs (w2.bs.filter nonD):=by
    have e1 : ∀ l : List T_api_Bound,podNs (l.filter nonD) = ((l.map (·.Pod)).filter fun p =>!p.Daemon).map (·.Name):=fun l =>by
      unfold podNs
      rw [List.filter_map,List.map_map]
      rfl
    rw [e1,e1,hp]
  refine ⟨_,c',xs',rfl,⟨r2.grp,r2.held,r2.bud,r2.ml,r2.mg,r2.mnd,by show out.length≤BB; rw [s2.len]; exact hbl,si_mem s2 (P:=fun p =>LP p∧podB p = true) r2.bp,by show (podNs out).Nodup; rw [hpn]; exact r2.bnd,?_,by show (podNs (out.filter nonD)).Perm want; rw [hpf]; exact r2.want⟩,t2,r3,fun m hm =>(l4 m hm).imp_left (r4 m),t4⟩
  intro b hb
  obtain ⟨k,hk,rfl⟩:=List.getElem_of_mem hb
  by_cases e : out[k].On = ⟨#[]⟩
  · exact .inl e
  · exact .inr (s2.onm k hk e)
theorem sum_loop : ∀ (l : List T_api_Group) (k : Nat) (a : Int),(∀ g,g ∈ l→GG g)→0≤a→a + 200 * l.length≤1000000→world_New.l2 l k a = some (a + smax l)∧0≤smax l
  | [],k,a,_,_,_ =>by simp [world_New.l2,smax]
  | g :: l,k,a,h,h0,h1 =>by
    have hg:=h g List.mem_cons_self
    have g1:=hg.max1
    have g2:=hg.max
    rw [List.length_cons] at h1
    have e : i64.wrap (a + g.Max) = a + g.Max:=w_eq (by omega) (by omega)
    obtain ⟨q1,q2⟩:=sum_loop l (k + 1) (a + g.Max) (fun g' hg' =>h g' (List.mem_cons_of_mem _ hg')) (by omega) (by omega)
    rw [world_New.l2,e,q1]
    refine ⟨?_,by simp only [smax]; omega⟩
    simp only [smax]
    congr 1
    omega
theorem grp_loop : ∀ (l : List T_api_Group) (k : Nat) (pre : List T_api_Group),(∀ g,g ∈ l→GG g)→pre.length + l.length≤1000→world_New.l3 l k (⟨(),pre,[],[],[],[]⟩ : T_world_World) = some (⟨(),pre++l,[],[],[],[]⟩ : T_world_World)
  | [],k,pre,_,_ =>by rw [world_New.l3,List.append_nil]
  | g :: l,k,pre,h,hl =>by
    have hg:=h g List.mem_cons_self
    rw [List.length_cons] at hl
    rw [world_New.l3,machine_eq hg.like]
    simp only [Option.bind_some]
    rw [ap_ok (by omega) (by simp; omega)]
    simp only [Option.bind_some]
    have:=grp_loop l (k + 1) (pre++[g]) (fun g' hg' =>h g' (List.mem_cons_of_mem _ hg')) (by rw [List.length_append,List.length_singleton]; omega)
    rw [List.append_assoc,List.singleton_append] at this
    exact this
theorem own_eq {B : List T_api_Budget} (hl : B.length≤30) (h : ∀ b,b ∈ B→LBu b) : world_own B = some B:=by
  have key : ∀ (l : List T_api_Budget) (k : Nat) (out : List T_api_Budget),(∀ b,b ∈ l→LBu b)→out.length + l.length≤30→world_own.l1 l k out = some (out++l):=by
    intro l
    induction l with
    | nil =>intro k out _ h1; rw [world_own.l1,List.append_nil]
    | cons b l ih =>
      intro k out hb h1
      rw [List.length_cons] at h1
      have:=(hb b List.mem_cons_self).mat.1
      rw [world_own.l1,ap_nil (by omega) (by omega)]
      simp only [Option.bind_some]
      rw [ap_ok (by omega) (by simp; omega)]
      simp only [Option.bind_some]
      rw [ih (k + 1) _ (fun b' hb' =>hb b' (List.mem_cons_of_mem _ hb')) (by rw [List.length_append,List.length_singleton]; omega)]
      rw [List.append_assoc]
      rfl
  unfold world_own
  rw [key B 0 [] h (by simpa using hl)]
  rfl
theorem bRight_tot {B : List T_api_Budget} (hl : B.length≤30) (h : ∀ b,b ∈ B→LBu b) : ∃ r,budget_Right B = some r:=by
  have l2 : ∀ (x : T_api_Budget) (l : List T_api_Budget) (k : Nat),∃ o,budget_Right.l2 x l k = some o:=by
    intro x l
    induction l with
    | nil =>intro k; exact ⟨_,rfl⟩
    | cons y l ih =>
      intro k
      rw [budget_Right.l2]
      split
      · exact ⟨_,rfl⟩
      · exact ih _
  have key : ∀ (l : List T_api_Budget) (k : Nat),(∀ b,b ∈ l→LBu b)→k + l.length = B.length→∃ o,budget_Right.l1 B l k = some o:=by
    intro l
    induction l with
    | nil =>intro k _ _; exact ⟨_,rfl⟩
    | cons b l ih =>
      intro k hb hk
      rw [List.length_cons] at hk
      have hbb:=hb b List.mem_cons_self
      rw [budget_Right.l1,lword_B hbb.name,llab_B hbb.mat]
      simp only [Option.bind_some]
      have fin : ∃ o,(if ((decide (b.Least < 0)) || (decide (b.Least > 400))) = true then some (Out.ret false) else (V.sl B none (some (k : Int))).bind fun v =>(budget_Right.l2 b v 0).bind fun o2 =>o2.on fun j2 =>budget_Right.l1 B l (k + 1)) = some o:=by
        split
        · exact ⟨_,rfl⟩
        · have e : V.sl B none (some (k : Int)) = some (B.take k):=by
            unfold V.sl
            rw [if_pos ⟨⟨by simp,by simp⟩,by simp [lowN],by simp [highN]; omega⟩]
            simp [lowN,highN]
          rw [e]
          simp only [Option.bind_some]
          obtain ⟨o,ho⟩:=l2 b (B.take k) 0
          rw [ho]
          simp only [Option.bind_some]
          cases o with
          | ret r =>exact ⟨_,rfl⟩
          | go u =>exact ih (k + 1) (fun b' hb' =>hb b' (List.mem_cons_of_mem _ hb')) (by omega)
      split
      · simp only [Option.bind_some]
        exact ⟨_,if_pos trivial⟩
      · simp only [Option.bind_some]
        split
        · exact ⟨_,rfl⟩
        · exact fin
  obtain ⟨o,ho⟩:=key B 0 h (by simp)
  unfold budget_Right
  rw [ho]
  cases o with
  | ret r =>exact ⟨r,rfl⟩
  | go u =>exact ⟨_,rfl⟩
theorem wNew_eq {G : List T_api_Group} {B : List T_api_Budget} (hlen : G.length≤20) (hG : ∀ g,g ∈ G→LG g) (hm : ∀ g,g ∈ G→g.Min≤6) (hBl : B.length≤30) (hB : ∀ b,b ∈ B→LBu b) (delay : Int) :
    (∃ e ps xs,e≠0∧world_New G B delay [] [] = some (none,e,ps,xs))∨(GR G∧smax G≤200∧(budget_Right B = some true)∧∃ w c ps xs,world_New G B delay [] [] = some (some (w,c),0,ps,xs)∧CI G 120 120 c ps xs∧WI G B 0 w []∧HI c xs w.ms):=by
  unfold world_New
  rcases cNew_eq hlen hG hm delay with ⟨e,he,h1⟩ | ⟨hr,c,ps,xs,h1,h2⟩
  · rw [h1]
    refine .inl ⟨e,[],[],he,?_⟩
    simp only [Option.bind_some]
    show (if (e != 0) = true then _ else _) = _
    rw [if_pos (by simpa using he)]
  · rw [h1]
    simp only [Option.bind_some]
    obtain ⟨b,hb⟩:=bRight_tot hBl hB
    have hlr:=hr.len
    simp only [po]
    rw [if_neg (by decide),hb]
    simp only [Option.bind_some]
    cases b with
    | false =>exact .inl ⟨12,ps,xs,by decide,rfl⟩
    | true =>
      simp only [Bool.not_true,Bool.false_eq_true,if_false]
      obtain ⟨s1,s2⟩:=sum_loop G 0 0 hr.gg (Int.le_refl _) (by omega)
      rw [s1]
      simp only [Option.bind_some,Int.zero_add]
      by_cases hs : smax G > 200
      · rw [if_pos (by simpa using hs)]
        exact .inl ⟨7,ps,xs,by decide,rfl⟩
      · rw [if_neg (by simpa using hs)]
        have hg:=grp_loop G 0 [] hr.gg (by simp; omega)
        rw [List.nil_append] at hg
        rw [hg,own_eq hBl hB]
        simp only [Option.bind_some]
        have hw0 : WI G B 0 (⟨(),G,B,[],[],[]⟩ : T_world_World) []:=⟨rfl,rfl,rfl,by simp,by simp,List.nodup_nil,by simp,by simp,by simp [podNs],by simp,by simp [podNs]⟩
        obtain ⟨w',q1,q2,q3,_⟩:=reg_ok hr h2 (by omega) (by omega) (by have:=h2.ilen; omega) hw0 (fun m hm =>by cases hm)
        rw [q1]
        first | exact .inr ⟨hr,by omega,w',c,ps,xs,rfl,h2,q2,q3⟩ | exact .inr ⟨hr,by omega,rfl,w',c,ps,xs,rfl,h2,q2,q3⟩ | exact .inr ⟨hr,by omega,trivial,w',c,ps,xs,rfl,h2,q2,q3⟩
end Go.Proofs.YtbgfffdnaijmhaaGreat.M

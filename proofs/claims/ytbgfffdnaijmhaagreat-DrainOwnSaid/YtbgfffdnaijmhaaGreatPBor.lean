/-
  Printed by a program of this session out of the loaded functions: models and their proofs. Own text.
-/
import Derived.Test.YtbgfffdnaijmhaaGreatPFit0
import Derived.Test.YtbgfffdnaijmhaaGreatPYard
/-
  Plain laws of fit: why a pod cannot run on a machine, told out of its parts. Own text.
-/
namespace Go.Proofs.YtbgfffdnaijmhaaGreat.M
open Go Go.Proofs Go.Proofs.YtbgfffdnaijmhaaGreat.V
set_option linter.unusedVariables false
theorem isD {α : Type} {o : Option α} (h : isS o) (d : α) : o = some (o.getD d):=by obtain ⟨r,rfl⟩:=h; rfl
def hasB (l s : List T_api_Label) : Bool:=(labels_Has l s).getD false
theorem has_B (l s : List T_api_Label) : labels_Has l s = some (hasB l s):=isD (Has_tot l s) false
def placeV (m : T_api_Machine) (p : T_api_Pod) : Int:=(suit_Place m p).getD 0
def suitV (m : T_api_Machine) (bs : List T_api_Bound) (p : T_api_Pod) : Int:=if placeV m p = 0 then roomS m bs p else placeV m p
def zonesV (ms : List T_api_Machine) : List (ByteArray × ByteArray):=(apart_zones ms).getD []
def oneB (zs : List (ByteArray × ByteArray)) (a b : ByteArray) (wide : Bool) : Bool :=
 if V.seq a b || !wide then V.seq a b else ((V.mg zs a).isSome && (V.mg zs b).isSome) && V.seq ((V.mg zs a).getD ⟨#[]⟩) ((V.mg zs b).getD ⟨#[]⟩)
def barsB (zs : List (ByteArray × ByteArray)) (p q : T_api_Pod) (a b : ByteArray) : Bool:=(decide ((p.Apart.length : Int) > (0 : Int)) && hasB q.Labels p.Apart) && oneB zs a b p.Wide
def nearQ (zs : List (ByteArray × ByteArray)) (p : T_api_Pod) (on : ByteArray) (x : T_api_Bound) : Bool :=
 !(V.seq x.On ⟨#[]⟩ || V.seq x.Pod.Name p.Name) && (barsB zs p x.Pod on x.On || barsB zs x.Pod p x.On on)
def nearB (zs : List (ByteArray × ByteArray)) (bs : List T_api_Bound) (p : T_api_Pod) (on : ByteArray) : Bool:=bs.any (nearQ zs p on)
def manyV (ms : List T_api_Machine) (bs : List T_api_Bound) (p : T_api_Pod) (on : ByteArray) : Bool:=(apart_Many ms bs p on).getD false
def whyV (ms : List T_api_Machine) (bs : List T_api_Bound) (p : T_api_Pod) (m : T_api_Machine) : Int :=
 if suitV m bs p = 0 then (if nearB (zonesV ms) bs p m.Name = true then 7 else if manyV ms bs p m.Name = true then 8 else 0) else suitV m bs p
theorem place_V {m : T_api_Machine} {p : T_api_Pod} (hm : LM m) (hp : LP p) : suit_Place m p = some (placeV m p)∧(placeV m p = 0∨placeV m p = 1∨placeV m p = 4∨placeV m p = 5∨placeV m p = 6):=by
 refine ⟨isD (Place_tot hm hp) 0,?_⟩
 have h : suit_Place m p = some (placeV m p):=isD (Place_tot hm hp) 0
 generalize placeV m p = w at *
 unfold suit_Place at h
 split at h
 ·injection h with h; omega
 obtain ⟨_,_,h⟩:=Option.bind_eq_some_iff.1 h
 split at h
 ·injection h with h; omega
 obtain ⟨_,_,h⟩:=Option.bind_eq_some_iff.1 h
 split at h
 ·injection h with h; omega
 obtain ⟨_,_,h⟩:=Option.bind_eq_some_iff.1 h
 split at h
 ·injection h with h; omega
 ·injection h with h; omega
theorem suit_V {m : T_api_Machine} {bs : List T_api_Bound} {p : T_api_Pod} (hm : LM m) (hp : LP p) (hl : bs.length≤1000) (hb : ∀ b,b ∈ bs→LP b.Pod) : suit_Suits m bs p = some (suitV m bs p):=by
 obtain ⟨h1,h2⟩:=place_V hm hp
 rw [Suits_eq h1 hl (by have:=hp.nports; omega) (fun b h =>by have:=(hb b h).nports; omega)]
 unfold suitV
 congr 1
 rcases h2 with h | h | h | h | h<;>rw [h]<;>simp
theorem zones_V (ms : List T_api_Machine) : apart_zones ms = some (zonesV ms):=by
 have : isS (apart_zones ms):=by
  unfold apart_zones
  have key : ∀ (l : List T_api_Machine) k z,isS (apart_zones.l1 l k z):=by
   intro l
   induction l with
   | nil =>intro k z; exact T.pure _
   | cons x l ih =>
    intro k z
    rw [apart_zones.l1]
    exact T.bind (Get_tot _ _) fun _ _ =>T.ite (fun _ =>ih _ _) fun _ =>ih _ _
  exact T.bind (key ms 0 []) fun _ _ =>T.pure _
 exact isD this []
theorem one_B (zs : List (ByteArray × ByteArray)) (a b : ByteArray) (w : Bool) : apart_place_one ⟨zs⟩ a b w = some (oneB zs a b w):=by
 unfold apart_place_one oneB
 split<;>simp
theorem bars_B (zs : List (ByteArray × ByteArray)) (p q : T_api_Pod) (a b : ByteArray) : apart_place_bars ⟨zs⟩ p q a b = some (barsB zs p q a b):=by
 unfold apart_place_bars barsB
 rw [has_B,one_B]
 cases decide ((p.Apart.length : Int) > (0 : Int))<;>cases hasB q.Labels p.Apart<;>rfl
theorem near_l1 (zs : List (ByteArray × ByteArray)) (p : T_api_Pod) (on : ByteArray) : ∀ (l : List T_api_Bound) (k : Nat),apart_Near.l1 p on zs l k = some (if l.any (nearQ zs p on) = true then Out.ret true else Out.go ())
 | [],_ =>rfl
 | x :: l,k =>by
  rw [apart_Near.l1,bars_B,bars_B,near_l1 zs p on l,List.any_cons]
  unfold nearQ
  cases (V.seq x.On ⟨#[]⟩ || V.seq x.Pod.Name p.Name)<;>cases barsB zs p x.Pod on x.On<;>cases barsB zs x.Pod p x.On on<;>rfl
theorem Find_first (ms : List T_api_Machine) (name : ByteArray) (hl : ms.length≤1000) : ∃ r,yard_Find ms name = some r∧firstAt ms.length (fun k =>∃ h : k < ms.length,ms[k].Name = name) r:=by
 unfold yard_Find yard_first_yard_Find_1
 obtain ⟨r,h1,h2⟩:=loopF (F:=fun n i =>yard_first_yard_Find_1.l1 (ms.length : Int) ms name n i) (len:=ms.length) (p:=fun j =>∃ h : j < ms.length,ms[j].Name = name) (by omega) (fun n j hj =>by
  rw [yard_first_yard_Find_1.l1,if_pos (by simp; omega),wk1 (by omega)]
  unfold yard_Find_1
  rw [glk hj]
  simp only [Option.bind_some,seq_eq]
  by_cases h : ms[j].Name = name
  ·rw [if_pos (by simpa using h)]; exact .inl ⟨rfl,hj,h⟩
  ·rw [if_neg (by simpa using h)]; exact .inr ⟨rfl,fun ⟨_,h'⟩ =>h h'⟩) (fun n =>by rw [yard_first_yard_Find_1.l1,if_neg (by simp)])
 exact ⟨r,by rw [h1]; rfl,h2⟩
theorem Find_in {ms : List T_api_Machine} {m : T_api_Machine} (hl : ms.length≤1000) (hm : m ∈ ms) : ∃ k : Nat,yard_Find ms m.Name = some (k : Int)∧∃ h : k < ms.length,ms[k].Name = m.Name:=by
 obtain ⟨r,h1,h2⟩:=Find_first ms m.Name hl
 rcases h2 with ⟨q,rfl,b,⟨c,d⟩,e⟩ | ⟨rfl,b⟩
 ·exact ⟨q,h1,c,d⟩
 ·obtain ⟨i,hi,rfl⟩:=List.getElem_of_mem hm
  exact absurd ⟨hi,rfl⟩ (b i hi)
theorem near_B {ms : List T_api_Machine} {m : T_api_Machine} (bs : List T_api_Bound) (p : T_api_Pod) (hl : ms.length≤1000) (hm : m ∈ ms) : apart_Near ms bs p m.Name = some (nearB (zonesV ms) bs p m.Name):=by
 obtain ⟨k,h1,_⟩:=Find_in hl hm
 unfold apart_Near nearB
 rw [h1,zones_V]
 simp only [Option.bind_some]
 rw [if_neg (by simp),near_l1]
 cases bs.any (nearQ (zonesV ms) p m.Name)<;>rfl
theorem tally_tot (ms : List T_api_Machine) (bs : List T_api_Bound) (p : T_api_Pod) : isS (apart_tally ms bs p):=by
 unfold apart_tally
 rw [zones_V]
 have key : ∀ (l : List T_api_Bound) k n,isS (apart_tally.l1 p (zonesV ms) l k n):=by
  intro l
  induction l with
  | nil =>intro k n; exact T.pure _
  | cons x l ih =>
   intro k n
   rw [apart_tally.l1]
   exact T.bind (T.ite (fun _ =>T.bind (Has_tot _ _) fun _ _ =>T.pure _) fun _ =>T.pure _) fun _ _ =>T.ite (fun _ =>ih _ _) fun _ =>ih _ _
 simp only [Option.bind_some]
 exact T.bind (key bs 0 []) fun _ _ =>T.pure _
theorem yzones_tot (ms : List T_api_Machine) (hl : ms.length≤1000) : ∃ r,yard_Zones ms = some r∧r.length≤1000:=by
 unfold yard_Zones
 have key : ∀ (l : List T_api_Machine) k n acc,l.length + acc.length≤1000→∃ r,yard_Zones.l1 l k n acc = some r∧r.length≤1000:=by
  intro l
  induction l with
  | nil =>intro k n acc h; exact ⟨acc,rfl,by simpa using h⟩
  | cons x l ih =>
   intro k n acc h
   rw [List.length_cons] at h
   rw [yard_Zones.l1]
   obtain ⟨g,hg⟩:=Get_tot x.Labels ⟨#[122,111,110,101]⟩
   rw [hg]
   simp only [Option.bind_some]
   split
   ·exact ih _ _ _ (by omega)
   ·split
    ·rw [ap_ok (by omega) (by simp; omega)]
     exact ih _ _ _ (by simp; omega)
    ·exact ih _ _ _ (by omega)
 obtain ⟨r,h1,h2⟩:=key ms 0 [] [] (by simpa using hl)
 exact ⟨r,by rw [h1]; rfl,h2⟩
theorem counts_tot (ms : List T_api_Machine) (bs : List T_api_Bound) (p : T_api_Pod) (hl : ms.length≤1000) : ∃ r,apart_Counts ms bs p = some r∧r.2.length = r.1.length:=by
 unfold apart_Counts
 obtain ⟨t,ht⟩:=tally_tot ms bs p
 obtain ⟨z,hz,hzl⟩:=yzones_tot ms hl
 rw [ht,hz]
 simp only [Option.bind_some]
 have key : ∀ (l : List ByteArray) k acc,l.length + acc.length≤1000→∃ r,apart_Counts.l1 t l k acc = some r∧r.length = l.length + acc.length:=by
  intro l
  induction l with
  | nil =>intro k acc h; exact ⟨acc,rfl,by simp⟩
  | cons x l ih =>
   intro k acc h
   rw [List.length_cons] at h
   rw [apart_Counts.l1,ap_ok (by omega) (by simp; omega)]
   obtain ⟨r,h1,h2⟩:=ih (k + 1) (acc++[((V.mg t x).getD (0 : Int))]) (by simp; omega)
   exact ⟨r,h1,by rw [h2]; simp; omega⟩
 obtain ⟨r,h1,h2⟩:=key z 0 [] (by simpa using hzl)
 rw [h1]
 exact ⟨(z,r),rfl,by simpa using h2⟩
theorem many_V {ms : List T_api_Machine} (bs : List T_api_Bound) (p : T_api_Pod) (on : ByteArray) (hl : ms.length≤1000) : apart_Many ms bs p on = some (manyV ms bs p on):=by
 have : isS (apart_Many ms bs p on):=by
  unfold apart_Many
  obtain ⟨r,hr,_⟩:=Find_first ms on hl
  obtain ⟨c,hc,hcl⟩:=counts_tot ms bs p hl
  rw [hr,zones_V,hc]
  have key : ∀ (l : List ByteArray) (k : Nat) a b d,k + l.length≤c.2.length→isS (apart_Many.l1 on (zonesV ms) c l k a b d):=by
   intro l
   induction l with
   | nil =>intro k a b d h; exact T.pure _
   | cons x l ih =>
    intro k a b d h
    rw [List.length_cons] at h
    rw [apart_Many.l1,glk (by omega)]
    simp only [Option.bind_some]
    exact T.ite (fun _ =>ih _ _ _ _ (by omega)) fun _ =>ih _ _ _ _ (by omega)
  simp only [Option.bind_some]
  exact T.bind (T.ite (fun _ =>T.pure _) fun _ =>T.pure _) fun _ _ =>T.ite (fun _ =>T.pure _) fun _ =>T.bind (key c.1 0 _ _ _ (by omega)) fun _ _ =>T.bind (Has_tot _ _) fun _ _ =>T.ite (fun _ =>T.pure _) fun _ =>T.pure _
 exact isD this false
theorem asker_V {ms : List T_api_Machine} {bs : List T_api_Bound} {p : T_api_Pod} {m : T_api_Machine} (hl : ms.length≤1000) (hn : bs.length≤1000) (hm : m ∈ ms) (h1 : LM m) (hp : LP p) (hb : ∀ b,b ∈ bs→LP b.Pod) :
  fit_asker_why ⟨ms,bs,p⟩ m = some (whyV ms bs p m):=by
 unfold fit_asker_why
 rw [suit_V h1 hp hn hb]
 unfold whyV
 by_cases h : suitV m bs p = 0
 ·rw [if_pos h,h]
  unfold apart_Why
  show ((apart_Near ms bs p m.Name).bind _).bind _ = _
  rw [near_B bs p hl hm,many_V bs p m.Name hl]
  cases nearB (zonesV ms) bs p m.Name<;>cases manyV ms bs p m.Name<;>rfl
 ·rw [if_neg h]
  simp only [Option.bind_some]
  rw [if_pos (by simpa using h)]
end Go.Proofs.YtbgfffdnaijmhaaGreat.M
/-
  Plain laws: where a pod can be. Own text.
-/
namespace Go.Proofs.YtbgfffdnaijmhaaGreat.M
open Go Go.Proofs Go.Proofs.YtbgfffdnaijmhaaGreat.V
set_option linter.unusedVariables false
set_option maxRecDepth 20000
set_option maxHeartbeats 4000000
theorem where_V {ms : List T_api_Machine} {bs : List T_api_Bound} {p : T_api_Pod} (hl : ms.length≤1000) (hn : bs.length≤1000) (hms : ∀ m,m ∈ ms→LM m) (hb : ∀ b,b ∈ bs→LP b.Pod) (hp : LP p) :
  fit_Where ms bs p = some ((ms.filter fun m =>decide (whyV ms bs p m = 0)).map (·.Name)):=by
 unfold fit_Where fit_each_fit_asker_why_fit_Where_1
 have key : ∀ (l : List T_api_Machine) (k : Nat) (acc : List ByteArray),(∀ m,m ∈ l→m ∈ ms)→l.length + acc.length≤1000→fit_each_fit_asker_why_fit_Where_1.l1 ⟨ms,bs,p⟩ l k acc = some (acc++(l.filter fun m =>decide (whyV ms bs p m = 0)).map (·.Name)):=by
  intro l
  induction l with
  | nil =>intro k acc _ _; simp [fit_each_fit_asker_why_fit_Where_1.l1]
  | cons x l ih =>
   intro k acc hx h
   rw [List.length_cons] at h
   have hxm:=hx x (List.mem_cons_self ..)
   rw [fit_each_fit_asker_why_fit_Where_1.l1,asker_V hl hn hxm (hms x hxm) hp hb]
   simp only [Option.bind_some]
   unfold fit_Where_1
   by_cases e : whyV ms bs p x = 0
   ·rw [if_pos (by simpa using e),ap_ok (by omega) (by simp; omega)]
    simp only [Option.bind_some]
    rw [ih (k + 1) _ (fun m hm =>hx m (List.mem_cons_of_mem _ hm)) (by simp; omega),List.filter_cons_of_pos (by simpa using e)]
    simp
   ·rw [if_neg (by simpa using e)]
    simp only [Option.bind_some]
    rw [ih (k + 1) _ (fun m hm =>hx m (List.mem_cons_of_mem _ hm)) (by omega),List.filter_cons_of_neg (by simpa using e)]
 rw [key ms 0 [] (fun _ h =>h) (by simpa using hl)]
 rfl
end Go.Proofs.YtbgfffdnaijmhaaGreat.M
/-
  Plain laws: which taints are borne. Own text.
-/
namespace Go.Proofs.YtbgfffdnaijmhaaGreat.M
open Go Go.Proofs Go.Proofs.YtbgfffdnaijmhaaGreat.V
set_option linter.unusedVariables false
def bearB (t : T_api_Toleration) (x : T_api_Taint) : Bool:=((decide (t.Effect = 0) || decide (t.Effect = x.Effect)) && (decide (t.Key = ⟨#[]⟩) || decide (t.Key = x.Key))) && (t.Any || decide (t.Val = x.Val))
theorem tbear_eq (t : T_api_Toleration) (x : T_api_Taint) : taints_Bears t x = some (bearB t x):=by
 unfold taints_Bears bearB
 simp only [seq_eq]
 by_cases a : t.Effect = 0<;>by_cases b : t.Effect = x.Effect<;>by_cases c : t.Key = ⟨#[]⟩<;>by_cases d : t.Key = x.Key<;>simp [a,b,c,d]
def borneB (l : List T_api_Toleration) (x : T_api_Taint) : Bool:=l.any fun t =>bearB t x
theorem borne_eq (l : List T_api_Toleration) (x : T_api_Taint) : taints_borne l x = some (borneB l x):=by
 unfold taints_borne borneB
 have key : ∀ (l : List T_api_Toleration) (k : Nat),taints_borne.l1 x l k = some (if (l.any fun t =>bearB t x) = true then Out.ret true else Out.go ()):=by
  intro l
  induction l with
  | nil =>intro k; rfl
  | cons t l ih =>
   intro k
   rw [taints_borne.l1,ih,List.any_cons,tbear_eq]
   cases bearB t x<;>rfl
 rw [key]
 cases l.any fun t =>bearB t x<;>rfl
theorem Unborne_eq (l : List T_api_Toleration) (ts : List T_api_Taint) (e : Int) (h : ts.length≤1000) : taints_Unborne l ts e = some (ts.filter fun x =>(decide (e = 0) || decide (x.Effect = e)) && !borneB l x):=by
 unfold taints_Unborne taints_some_taints_Unborne_1
 have key : ∀ (ts : List T_api_Taint) (k : Nat) (acc : List T_api_Taint),ts.length + acc.length≤1000→taints_some_taints_Unborne_1.l1 e l ts k acc = some (acc++ts.filter fun x =>(decide (e = 0) || decide (x.Effect = e)) && !borneB l x):=by
  intro ts
  induction ts with
  | nil =>intro k acc _; simp [taints_some_taints_Unborne_1.l1]
  | cons x ts ih =>
   intro k acc h
   rw [List.length_cons] at h
   have hq : taints_Unborne_1 x e l = some ((decide (e = 0) || decide (x.Effect = e)) && !borneB l x):=by
    unfold taints_Unborne_1 taints_of
    rw [borne_eq]
    by_cases a : e = 0<;>by_cases b : x.Effect = e<;>simp [a,b]
   rw [taints_some_taints_Unborne_1.l1,hq]
   simp only [Option.bind_some]
   cases hc : ((decide (e = 0) || decide (x.Effect = e)) && !borneB l x) with
   | true =>
    rw [if_pos rfl,ap_ok (by omega) (by simp; omega)]
    simp only [Option.bind_some]
    rw [ih (k + 1) _ (by simp; omega)]
    simp only [List.filter_cons,hc,if_true]
    simp
   | false =>
    rw [if_neg (by simp),ih (k + 1) _ (by omega)]
    simp only [List.filter_cons,hc,Bool.false_eq_true,if_false]
 rw [key ts 0 [] (by simpa using h)]
 rfl
end Go.Proofs.YtbgfffdnaijmhaaGreat.M

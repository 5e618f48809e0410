/-
  The logic over plain values: what the printed models are made of, and the laws that their proofs use. Own text.
-/
import Derived.Test.YtkondhigbbgidaaGreatVDraw
namespace Go.Proofs.YtkondhigbbgidaaGreat.V
open Go
set_option linter.unusedVariables false
theorem bnd {α β : Type} {o : Option α} {f : α→Option β} {r : β} (h : o.bind f = some r) : ∃ x,o = some x∧f x = some r:=Option.bind_eq_some_iff.1 h
theorem ite_or {α : Type} {c : Prop} [Decidable c] {a b : Option α} {r : α} (h : (if c then a else b) = some r) : (c∧a = some r)∨(¬c∧b = some r):=by
 by_cases hc : c
 ·rw [if_pos hc] at h; exact .inl ⟨hc,h⟩
 ·rw [if_neg hc] at h; exact .inr ⟨hc,h⟩
theorem bf {b : Bool} (h : ¬b = true) : b = false:=by cases b<;>simp_all
inductive Out (ρ σ : Type) where
 | ret (r : ρ)
 | go (s : σ)
def Out.on {ρ σ : Type} (o : Out ρ σ) (k : σ→Option ρ) : Option ρ:=match o with | .ret r =>some r | .go s =>k s
def FU : Nat:=1152921504606846976
def gl {α : Type} (l : List α) (i : Int) : Option α:=if 0≤i then l[i.toNat]? else none
def gi (s : ByteArray) (i : Int) : Option Int:=if 0≤i∧i < s.size then some (bt s i.toNat) else none
def ss (s : ByteArray) (l h : Option Int) : Option ByteArray :=
 if (0≤l.getD 0∧0≤h.getD 0)∧lowN l≤highN s.size h∧highN s.size h≤s.size then some (s.extract (lowN l) (highN s.size h)) else none
def sl {α : Type} (s : List α) (l h : Option Int) : Option (List α) :=
 if (0≤l.getD 0∧0≤h.getD 0)∧lowN l≤highN s.length h∧highN s.length h≤s.length then some ((s.take (highN s.length h)).drop (lowN l)) else none
def cat (s t : ByteArray) : Option ByteArray:=if s.size + t.size≤maxLen then some (s++t) else none
def ap {α : Type} (by_ : Nat) (l m : List α) : Option (List α):=if l.length + m.length≤maxLen∧(l.length + m.length) * by_≤140737488355328 then some (l++m) else none
def quo (a b : Int) : Option Int:=if b = 0 then none else some (a.tdiv b)
def rem (a b : Int) : Option Int:=if b = 0 then none else some (a.tmod b)
def bytesL (s : ByteArray) : List Int:=s.data.toList.map fun b =>(b.toNat : Int)
abbrev seq (s t : ByteArray) : Bool:=s.toList == t.toList
abbrev slt (s t : ByteArray) : Bool:=Op.bytesLess s.toList t.toList
theorem gl_some {α : Type} {l : List α} {i : Int} {x : α} (h : gl l i = some x) : 0≤i∧l[i.toNat]? = some x:=by
 unfold gl at h; split at h
 ·exact ⟨‹_›,h⟩
 ·cases h
theorem gl_map {α : Type} (f : α→VV) {l : List α} {n : Nat} {x : α} (h : l[n]? = some x) : (l.map f)[n]? = some (f x):=by simp [h]
theorem gl_lt {α : Type} {l : List α} {i : Int} {x : α} (f : α→VV) (h : 0≤i∧l[i.toNat]? = some x) : i < ((l.map f).length : Nat):=by
 have:=(List.getElem?_eq_some_iff.1 h.2).1
 simp; omega
theorem gi_some {s : ByteArray} {i c : Int} (h : gi s i = some c) : (0≤i∧i < s.size)∧c = bt s i.toNat:=by
 unfold gi at h; split at h
 ·simp only [Option.some.injEq] at h; exact ⟨‹_›,h.symm⟩
 ·cases h
theorem nn {o : Option Int} (h : 0≤o.getD 0) : nonneg o:=by cases o<;>simp_all [nonneg]
theorem ss_some {s t : ByteArray} {l h : Option Int} (hh : ss s l h = some t) : (nonneg l∧nonneg h)∧(lowN l≤highN s.size h∧highN s.size h≤s.size)∧t = s.extract (lowN l) (highN s.size h):=by
 unfold ss at hh; split at hh
 ·rename_i q
  simp only [Option.some.injEq] at hh
  exact ⟨⟨nn q.1.1,nn q.1.2⟩,q.2,hh.symm⟩
 ·cases hh
theorem sl_some {α : Type} {s t : List α} {l h : Option Int} (hh : sl s l h = some t) : (nonneg l∧nonneg h)∧(lowN l≤highN s.length h∧highN s.length h≤s.length)∧t = (s.take (highN s.length h)).drop (lowN l):=by
 unfold sl at hh; split at hh
 ·rename_i q
  simp only [Option.some.injEq] at hh
  exact ⟨⟨nn q.1.1,nn q.1.2⟩,q.2,hh.symm⟩
 ·cases hh
theorem cat_some {s t u : ByteArray} (h : cat s t = some u) : s.size + t.size≤maxLen∧u = s++t:=by
 unfold cat at h; split at h
 ·simp only [Option.some.injEq] at h; exact ⟨‹_›,h.symm⟩
 ·cases h
theorem ap_some {α : Type} {b : Nat} {l m u : List α} (h : ap b l m = some u) : (l.length + m.length≤maxLen∧(l.length + m.length) * b≤140737488355328)∧u = l++m:=by
 unfold ap at h; split at h
 ·simp only [Option.some.injEq] at h; exact ⟨‹_›,h.symm⟩
 ·cases h
theorem quo_some {a b c : Int} (h : quo a b = some c) : b≠0∧c = a.tdiv b:=by
 unfold quo at h; split at h
 ·cases h
 ·simp only [Option.some.injEq] at h; exact ⟨‹_›,h.symm⟩
theorem rem_some {a b c : Int} (h : rem a b = some c) : b≠0∧c = a.tmod b:=by
 unfold rem at h; split at h
 ·cases h
 ·simp only [Option.some.injEq] at h; exact ⟨‹_›,h.symm⟩
theorem wnext (n : Nat) (h : n < 9223372036854775807) : IntKind.i64.wrap ((n : Int) + 1) = ((n + 1 : Nat) : Int):=by
 have e : ((n : Int) + 1) % 18446744073709551616 = (n : Int) + 1:=by omega
 have e2 : decide ((n : Int) + 1≥9223372036854775808) = false:=by simp; omega
 simp [IntKind.wrap,IntKind.bits,IntKind.signed,e,e2]
theorem k_lt {α : Type} {l : List α} {k : Nat} {x : α} (h : l[k]? = some x) : decide ((k : Int) < (l.length : Int)) = true:=by
 have:=(List.getElem?_eq_some_iff.1 h).1
 simp; omega
theorem k_end {α : Type} {l : List α} {k : Nat} (h : k = l.length) : decide ((k : Int) < (l.length : Int)) = false:=by subst h; simp
theorem k_next {α : Type} {l : List α} {k : Nat} {x : α} (h : l[k]? = some x) (hl : l.length≤maxLen) : VV.int .i64 (IntKind.i64.wrap ((k : Int) + 1)) = VV.int .i64 ((k + 1 : Nat) : Int):=by
 have h1 : k < 9223372036854775807:=by
  have:=(List.getElem?_eq_some_iff.1 h).1
  unfold maxLen at hl; omega
 rw [wnext _ h1]
section
variable {P : Program} {N : Nat} {env : Env} {H : List HE} {D : Cx} {w : World}
theorem VC.run {f : FuncId} {fn : Func} {c : Code} {args : List VV} {rs : List ResultVar} {R : VV→List HE→Prop} (hf : P.funcs[f]? = some fn) (hb : fn.body = some c) (hrs : fn.results = rs.toArray) (hn' : Nat.ble args.length fn.ntmps = true)
  (h : VW P fn.ntmps c (fun e env' H' =>(e = .ret∨e = .normal)∧∃ xs,ResA P env' H' rs xs∧∃ idx H'',pick idx H' = some H''∧R (resV xs) H'') (env0 args) H) : VC P f args H R:=by
 have h0:=VC.body (R:=fun x H' =>∃ idx H'',pick idx H' = some H''∧R x H'') hf hb hrs (Nat.le_of_ble_eq_true hn') h
 intro D w vs h1 h2 h3
 refine (h0 D w vs h1 h2 h3).mono ?_
 rintro e w' ⟨v,x,H',D',rfl,⟨idx,H'',hp,hR⟩,hrd,hi,hF⟩
 obtain ⟨D2,a1,a2,a3⟩:=(Shift.pick (P:=P) (env:=[(0,x)]) (env':=[(0,x)]) idx hp ⟨rfl,trivial⟩) D' w' #[v] (fun s y hy =>by
  simp only [get] at hy
  split at hy
  ·rename_i e
   have e2 : s = 0:=by simpa using e
   subst e2
   simp only [Option.some.injEq] at hy
   subst hy
   exact ⟨v,rfl,hrd⟩
  ·cases hy) hi
 obtain ⟨u,hu,hru⟩:=a1 0 x rfl
 have : u = v:=by simpa using hu.symm
 subst this
 exact ⟨u,x,H'',D2,rfl,hR,hru,a2,hF.trans a3⟩
theorem VL.eachS {Q : Post} {α σ γ ρ : Type} {c : Code} {l : List α} {R : ρ} (m : List α→Nat→σ→Option ρ) (tm : Nat→σ→γ→Env) (th : Nat→σ→γ→List HE) (s : σ) (g : γ)
  (hsh : Shift P env H (tm 0 s g) (th 0 s g)) (hm : m l 0 s = some R)
  (hnil : ∀ k s g,k = l.length→m [] k s = some R→VW P N c (Post.then (fun _ _ =>False) Q) (tm k s g) (th k s g))
  (hcons : ∀ k x rest s g,l[k]? = some x→m (x :: rest) k s = some R →
   VW P N c (Post.then (fun env' H' =>∃ s' g',m rest (k + 1) s' = some R∧Shift P env' H' (tm (k + 1) s' g') (th (k + 1) s' g')) Q) (tm k s g) (th k s g)) : VL P N c Q (l.length + 1) env H :=
 VL.shift hsh (VL.each m tm th hnil hcons l 0 s g rfl (Nat.zero_le _) hm)
theorem VL.fuelS {Q : Post} {σ γ ρ : Type} {c : Code} {R : ρ} (m : Nat→σ→Option ρ) (tm : σ→γ→Env) (th : σ→γ→List HE) (s : σ) (g : γ) (h0 : ∀ s,m 0 s = none)
  (hsh : Shift P env H (tm s g) (th s g)) (hm : m FU s = some R)
  (hs : ∀ n s g,m (n + 1) s = some R→VW P N c (Post.then (fun env' H' =>∃ s' g',m n s' = some R∧Shift P env' H' (tm s' g') (th s' g')) Q) (tm s g) (th s g)) : VL P N c Q FU env H :=
 VL.shift hsh (VL.fuel m tm th h0 hs FU s g hm)
theorem VP.pickB {dst : Option Tmp} {ty : TypeId} {pos : String} {aft : Array Edge} {g : Option (Nat × Bool)} {c x x' : Operand} {b : Bool} {y : VV} (b' : Bool) (hc : ev env c = some (.bool b)) (hb : b = b') (h : ev env (if b' then x else x') = some y) :
  VP P N ⟨dst,.pick c x x',ty,pos,aft,g⟩ env H y:=VP.pick hc (by subst hb; exact h)
theorem bytesL_get (s : ByteArray) : (bytesL s).map (VV.int .u8) = s.data.toList.map fun b =>VV.int .u8 (b.toNat : Int):=by simp [bytesL]
end
end Go.Proofs.YtkondhigbbgidaaGreat.V

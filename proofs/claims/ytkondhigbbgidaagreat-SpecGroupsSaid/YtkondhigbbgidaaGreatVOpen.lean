/-
  The logic over plain values: what a row's arguments are read as, of every type that is made of numbers, truths, texts, lists and structs. Own text.
-/
import Derived.Test.YtkondhigbbgidaaGreatVLaw
import Derived.Deep.Slices
import Derived.ChangeArms
import Derived.WideShapes
import Derived.ChangeMaps
import Derived.ChangeOld
import Derived.Carry
namespace Go.Proofs.YtkondhigbbgidaaGreat.V
open Go Go.RowKit Go.ChangeShapes Go.WideShapes
set_option linter.unusedVariables false
structure OC (P : Program) (W : World) (cs : List Value) (ys : List VV) : Prop where
  len : cs.length = ys.length
  rd : ∀ (j : Nat) (v : Value) (y : VV),cs[j]? = some v→ys[j]? = some y→Rd P (DW W) W v y
def Opens (P : Program) (W : World) (t : TypeId) {α : Type} (cells : α→List VV) (ok : α→Prop) : Prop :=
  ∀ (H : Type) (enc : TypeId × Value→H) (fuel : Nat) (cs : List Value) (x : DataW H × List MemPlace),DataW.trod enc P W 0 (fun _ =>true) true fuel t cs = some x→∃ a : α,ok a∧OC P W cs (cells a)
theorem chooseList {α β : Type} {p : Nat→α→β→Prop} (d : β) : ∀ n,(∀ i,i < n→∃ a f,p i a f)→∃ l : List α,l.length = n∧∃ f : Nat→β,∀ i a,l[i]? = some a→p i a (f i)
  | 0,_ =>⟨[],rfl,fun _ =>d,by simp⟩
  | n + 1,h =>by
    obtain ⟨l,hl,f,hf⟩:=chooseList d n (fun i hi =>h i (by omega))
    obtain ⟨a,g,hg⟩:=h n (by omega)
    refine ⟨l++[a],by simp [hl],fun i =>if i = n then g else f i,fun i a' ha' =>?_⟩
    by_cases hi : i = n
    · subst hi
      rw [List.getElem?_append_right (by omega),hl,Nat.sub_self,List.getElem?_cons_zero,Option.some.injEq] at ha'
      subst ha'
      simp only [if_true]
      exact hg
    · have hin : i < l.length:=by
        have:=(List.getElem?_eq_some_iff.1 ha').1
        simp at this; omega
      rw [List.getElem?_append_left hin] at ha'
      simp only [if_neg hi]
      exact hf i a' ha'
section
variable {P : Program} {W : World}
theorem OC.nil : OC P W [] []:=⟨rfl,fun j v y h _ =>by simp at h⟩
theorem OC.one {v : Value} {y : VV} (h : Rd P (DW W) W v y) : OC P W [v] [y]:=⟨rfl,fun j u x hu hx =>by
  cases j with
  | zero =>simp only [List.getElem?_cons_zero,Option.some.injEq] at hu hx; subst hu; subst hx; exact h
  | succ j =>simp at hu⟩
theorem OC.append {cs ds : List Value} {xs ys : List VV} (h : OC P W cs xs) (h' : OC P W ds ys) : OC P W (cs++ds) (xs++ys):=by
  refine ⟨by rw [List.length_append,List.length_append,h.len,h'.len],fun j v y hv hy =>?_⟩
  by_cases hj : j < cs.length
  · rw [List.getElem?_append_left hj] at hv
    rw [List.getElem?_append_left (by rw [← h.len]; exact hj)] at hy
    exact h.rd j v y hv hy
  · rw [List.getElem?_append_right (by omega)] at hv
    rw [List.getElem?_append_right (by rw [← h.len]; omega),← h.len] at hy
    exact h'.rd _ v y hv hy
theorem OC.fld {cs : List Value} {k n : Nat} {a b : List VV} (h1 : OC P W ((cs.drop k).take n) a) (h2 : OC P W (cs.drop (k + n)) b) : OC P W (cs.drop k) (a++b):=by
  have e : cs.drop k = (cs.drop k).take n++cs.drop (k + n):=by rw [← List.drop_drop,List.take_append_drop]
  rw [e]
  exact h1.append h2
theorem OC.fin {cs : List Value} {k : Nat} (h : cs.length = k) : OC P W (cs.drop k) []:=by
  rw [List.drop_eq_nil_of_le (by omega)]; exact .nil
theorem OC.all {cs : List Value} {a : List VV} (h : OC P W (cs.drop 0) a) : OC P W cs a:=h
theorem Opens.int {t : TypeId} {k : IntKind} (ht : P.underlying t = some (.int k)) : Opens P W t (fun n : Int =>[VV.int k n]) (fun n =>k.min≤n∧n≤k.max):=by
  intro H enc fuel cs x h
  obtain ⟨n,rfl,_,hw⟩:=DataW.trod_int ht h
  refine ⟨n,?_,.one (.int k n)⟩
  simp only [Lit.wf,Bool.and_eq_true,decide_eq_true_eq] at hw
  exact hw
theorem Opens.bool {t : TypeId} (ht : P.underlying t = some .bool) : Opens P W t (fun b : Bool =>[VV.bool b]) (fun _ =>True):=by
  intro H enc fuel cs x h
  obtain ⟨n,rfl,_⟩:=DataW.trod_bool ht h
  exact ⟨n,trivial,.one (.bool n)⟩
theorem Opens.str {t : TypeId} (ht : P.underlying t = some .string) : Opens P W t (fun b : ByteArray =>[VV.str b]) (fun b =>b.size≤maxLen):=by
  intro H enc fuel cs x h
  obtain ⟨n,rfl,_,hs⟩:=DataW.trod_string ht h
  exact ⟨n,hs,.one (.str n hs)⟩
theorem Opens.list {t e : TypeId} {α : Type} {cells : α→List VV} {ok : α→Prop} {sz : Nat} (vv : α→VV) (hvv : ∀ a,(vv a).cells = cells a) (h0 : 0 < sz) (ht : elB P t e sz = true) (hel : ∀ a,(vv a).el sz) (he : Opens P W e cells ok) :
    Opens P W t (fun l : List α =>[VV.list e (l.map vv)]) (fun l =>l.length≤maxLen∧∀ a,a ∈ l→ok a):=by
  intro H enc fuel cs x h
  have hsz:=elB_cells ht
  rcases Deep.open_slice (elB_und ht) h with ⟨rfl,_⟩ | ⟨a,len,cap,m,n,D,Pl,rfl,_,hl,hm,hmm,_,hx⟩
  · exact ⟨[],⟨Nat.zero_le _,by simp⟩,.one (.listNil e none)⟩
  · simp only [if_true] at hmm
    subst hmm
    by_cases hc : m = 0
    · subst hc
      obtain rfl : len = 0:=by omega
      exact ⟨[],⟨Nat.zero_le _,by simp⟩,.one (.listNil e (some a))⟩
    · rw [hsz] at hx
      -- the block is there,and the address has no spot
      obtain ⟨cs0,hc0,ht0⟩:=hx 0 (by omega)
      obtain ⟨_,hl0,hcell0⟩:=World.cells?_some hc0
      have hc1 : ∃ v,W.cell? a = some v:=by
        have hlen : 0 < cs0.length:=by omega
        have:=hcell0 0 h0
        simp only [Nat.zero_mul] at this
        exact ⟨_,by simpa [Addr.add,List.getElem?_eq_getElem hlen] using this⟩
      obtain ⟨v0,hv0⟩:=hc1
      obtain ⟨b,off,sp⟩:=a
      have hsp : sp = none∧b < W.heap.size:=by
        unfold World.cell? at hv0
        split at hv0
        · rename_i c t' f hb
          have hlt:=(Array.getElem?_eq_some_iff.1 hb).1
          split at hv0
          · cases hv0
          · rename_i h1; simp at h1; exact ⟨h1,hlt⟩
        · cases hv0
      obtain ⟨rfl,hb⟩:=hsp
      have key : ∀ i,i < len→∃ a : α,ok a∧∃ f : Nat→Value,(∀ (j : Nat) (y : VV),(cells a)[j]? = some y→W.cell? ⟨b,off + i * sz + j,none⟩ = some (f j))∧∀ (j : Nat) (y : VV),(cells a)[j]? = some y→Rd P (DW W) W (f j) y:=by
        intro i hi
        obtain ⟨cs',hc',ht'⟩:=hx i (by omega)
        obtain ⟨_,hl',hcell'⟩:=World.cells?_some hc'
        obtain ⟨a,hok,hoc⟩:=he H enc _ _ _ ht'
        refine ⟨a,hok,fun j =>cs'.getD j undef,?_,?_⟩
        · intro j y hy
          have hj : j < cs'.length:=by rw [hoc.len]; exact (List.getElem?_eq_some_iff.1 hy).1
          have:=hcell' j (by omega)
          rw [Deep.add_add,Addr.add_mk] at this
          have e : cs'.getD j undef = cs'[j]:=by rw [List.getD_eq_getElem?_getD,List.getElem?_eq_getElem hj,Option.getD_some]
          show W.cell? _ = some (cs'.getD j undef)
          rw [e,← List.getElem?_eq_getElem hj,Nat.add_assoc]
          exact this
        · intro j y hy
          have hj : j < cs'.length:=by rw [hoc.len]; exact (List.getElem?_eq_some_iff.1 hy).1
          show Rd P (DW W) W (cs'.getD j undef) y
          rw [List.getD_eq_getElem?_getD,List.getElem?_eq_getElem hj,Option.getD_some]
          exact hoc.rd j _ y (List.getElem?_eq_getElem hj) hy
      have ch : ∃ l : List α,l.length = len∧∃ f : Nat→Nat→Value,∀ i a,l[i]? = some a→ok a∧(∀ (j : Nat) (y : VV),(cells a)[j]? = some y→W.cell? ⟨b,off + i * sz + j,none⟩ = some (f i j))∧∀ (j : Nat) (y : VV),(cells a)[j]? = some y→Rd P (DW W) W (f i j) y:=by
        exact chooseList (p:=fun i a (f : Nat→Value) =>ok a∧(∀ (j : Nat) (y : VV),(cells a)[j]? = some y→W.cell? ⟨b,off + i * sz + j,none⟩ = some (f j))∧∀ (j : Nat) (y : VV),(cells a)[j]? = some y→Rd P (DW W) W (f j) y) (fun _ =>undef) len
          (fun i hi =>let ⟨a,h1,f,h2,h3⟩:=key i hi; ⟨a,f,h1,h2,h3⟩)
      obtain ⟨l,hll,f,hf⟩:=ch
      have hlm : (l.map vv).length = len:=by simp [hll]
      have hmm : maxLen = maxLen:=rfl
      refine ⟨l,⟨by omega,fun a ha =>?_⟩,.one ?_⟩
      · obtain ⟨i,hi⟩:=List.getElem?_of_mem ha
        exact (hf i a hi).1
      · have : Value.slice (some ⟨b,off,none⟩) len m = Value.slice (some ⟨b,off,none⟩) (l.map vv).length m:=by rw [hlm]
        rw [this]
        refine .list e _ b off m f (by omega) hm hb ?_ ?_ ?_
        · intro x hx
          obtain ⟨a,_,rfl⟩:=List.mem_map.1 hx
          rw [hsz]; exact hel a
        · intro i x hx j y hy
          rw [List.getElem?_map,Option.map_eq_some_iff] at hx
          obtain ⟨a,ha,rfl⟩:=hx
          rw [hvv] at hy
          rw [hsz]
          exact (hf i a ha).2.1 j y hy
        · intro i x hx j y hy
          rw [List.getElem?_map,Option.map_eq_some_iff] at hx
          obtain ⟨a,ha,rfl⟩:=hx
          rw [hvv] at hy
          exact (hf i a ha).2.2 j y hy
def fldB (P : Program) (t i off sz ty : Nat) : Bool :=
  match P.underlying t with
  | some (.struct fs) =>(match fs[i]? with | some f =>f.offset == off && f.type == ty && P.cellsOf ty == sz | none =>false)
  | _ =>false
def stcB (P : Program) (t sz : Nat) : Bool:=(match P.underlying t with | some (.struct _) =>true | _ =>false) && P.cellsOf t == sz
theorem trod_flds {H : Type} {enc : TypeId × Value→H} {fuel : Nat} {t : TypeId} {cs : List Value} {x : DataW H × List MemPlace} {sz : Nat} (hs : stcB P t sz = true) (h : DataW.trod enc P W 0 (fun _ =>true) true fuel t cs = some x) :
    cs.length = sz∧∃ n,∀ i off s ty,fldB P t i off s ty = true→∃ y,DataW.trod enc P W 0 (fun _ =>true) true n ty ((cs.drop off).take s) = some y:=by
  unfold stcB at hs
  simp only [Bool.and_eq_true,beq_iff_eq] at hs
  obtain ⟨hs1,hs2⟩:=hs
  split at hs1
  · rename_i fs hu
    obtain ⟨xs,n,_,_,hl,hxl,hf⟩:=DataW.trod_struct hu h
    refine ⟨by rw [hl,hs2],n,fun i off s ty hb =>?_⟩
    unfold fldB at hb
    rw [hu] at hb
    simp only at hb
    split at hb
    · rename_i f hfi
      simp only [Bool.and_eq_true,beq_iff_eq] at hb
      obtain ⟨⟨h1,h2⟩,h3⟩:=hb
      have:=hf i f hfi
      rw [h1,h2,h3] at this
      have hi : i < xs.length:=by rw [hxl]; exact (Array.getElem?_eq_some_iff.1 hfi).1
      rw [List.getElem?_eq_getElem hi] at this
      exact ⟨_,this⟩
    · cases hb
  · cases hs1
theorem Opens.argS {r : Reach} {b0 : Nat} {H : Type} {enc : TypeId × Value→H} {t : TypeId} {α : Type} {cells : α→List VV} {ok : α→Prop} {v : Value} {d : DataW H} {ps : List MemPlace} {sz : Nat} (hs : stcB P t sz = true) (ho : Opens P W t cells ok) (hv : Value.okWide P W r b0 t v)
    (h : DataW.Trod enc P W 0 (fun _ =>true) true t v d ps) : ∃ a,ok a∧Rd P (DW W) W v (.agg (cells a)):=by
  unfold stcB at hs
  simp only [Bool.and_eq_true,beq_iff_eq] at hs
  obtain ⟨hs1,hs2⟩:=hs
  split at hs1
  · rename_i fs hu
    unfold Value.okWide at hv
    rw [hu] at hv
    obtain ⟨cs,rfl,_,_⟩:=hv
    obtain ⟨fuel,hf⟩:=h
    obtain ⟨a,hok,hoc⟩:=ho H enc _ _ _ hf
    simp only [Value.cells] at hoc
    refine ⟨a,hok,.agg cs _ (by simpa using hoc.len) fun j v x hv hx =>hoc.rd j v x (by simpa using hv) hx⟩
  · cases hs1
theorem trod_blk {H : Type} {enc : TypeId × Value→H} {t : TypeId} {v : Value} {d : DataW H} {ps : List MemPlace} (h : DataW.Trod enc P W 0 (fun _ =>true) true t v d ps) : ∀ x ∈ ps,x.block < W.heap.size:=by
  obtain ⟨m,hm⟩:=h; exact DataW.trod_lt m _ _ _ hm
end
end Go.Proofs.YtkondhigbbgidaaGreat.V

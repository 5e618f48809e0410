/-
  Printed by a program of this session out of the loaded functions: models and their proofs. Own text.
-/
import Derived.Test.YtbgfffdnaijmhaaGreatDWF0
namespace Go.Proofs.YtbgfffdnaijmhaaGreat.M
open Go Go.Proofs Go.Proofs.YtbgfffdnaijmhaaGreat.V
open Go.IntKind (i64)
set_option linter.unusedVariables false
set_option maxRecDepth 20000
set_option maxHeartbeats 40000000
/-! (*trireme/cloud.Cloud).pool -/
def cloud_Cloud_pool.l1 (c : T_cloud_Cloud) (name : ByteArray) (pools : List T_cloud_pool) : Nat → Int → Option (Out Nat Unit)
 | 0, _ => none
 | n + 1, v2 =>
  if (decide (v2 < (c.pools.length : Int))) = true then
   (V.gl c.pools v2).bind fun x =>
   (V.pg pools x).bind fun x2 =>
   if (V.seq x2.Group.Name name) = true then
    some (Out.ret x)
   else
    cloud_Cloud_pool.l1 c name pools n (i64.wrap (v2 + 1))
  else
   some (Out.go ())
def cloud_Cloud_pool (c : T_cloud_Cloud) (name : ByteArray) (pools : List T_cloud_pool) : Option Nat :=
 (cloud_Cloud_pool.l1 c name pools FU (0 : Int)).bind fun o =>
 o.on fun j =>
 some 0
theorem K67 (A0 A1 : Nat) (c : T_cloud_Cloud) (name : ByteArray) (pools : List T_cloud_pool) (b : Nat) (ob : Option Nat) (cap : Nat) (ob2 : Option Nat) (cap2 : Nat) (bs : List Nat) : VS Tryz.prog 148 (cloud_Cloud_pool c name pools) [.ptr b 0, .str name] [.box b 149 [Z140 A0 A1 ob c.pools cap, Z152 A0 A1 ob2 c.insts cap2, Iw c.delay, Iw c.now, Iw c.calls], Q140 A0 A1 ob cap c.pools, Q152 A0 A1 ob2 cap2 c.insts, .ar A0 144 bs (List.map T_cloud_pool.cells pools)] (fun r=>V.Pp A0 r) (fun r=>[.box b 149 [Z140 A0 A1 ob c.pools cap, Z152 A0 A1 ob2 c.insts cap2, Iw c.delay, Iw c.now, Iw c.calls], Q140 A0 A1 ob cap c.pools, Q152 A0 A1 ob2 cap2 c.insts, .ar A0 144 bs (List.map T_cloud_pool.cells pools)]) := by
 refine A8 [.tmp 4] Tryz.func148 R R R fun r hm=>?_
 unfold cloud_Cloud_pool at hm
 refine Ae<|Aa R R (Dd A0)<|Ac<|Af<|Ae<|Ad tbk [0] 4 R R<|Aa R R (Cx (V.Pp A0) R Tryz.underlying146)<|Aa R R (Ai R)<|Ac<|B5 hm (fun _ (_:Unit)=>[]) (fun _ (_:Unit)=>[.box b 149 [Z140 A0 A1 ob c.pools cap,Z152 A0 A1 ob2 c.insts cap2,Iw c.delay,Iw c.now,Iw c.calls],Q140 A0 A1 ob cap c.pools,Q152 A0 A1 ob2 cap2 c.insts,.ar A0 144 bs (List.map T_cloud_pool.cells pools)]) (fun o hm h2=>?_) fun j _ hm=> ?_
 ·refine Ca (fun zn (zs:Int)=>cloud_Cloud_pool.l1 c name pools zn zs) (fun zs (_:Unit)=>[(1,.str name),(10,Z140 A0 A1 ob c.pools cap),(11,Iw (c.pools.length : Int)),(12,Iw zs)]) (fun _ (_:Unit)=>[.box b 149 [Z140 A0 A1 ob c.pools cap,Z152 A0 A1 ob2 c.insts cap2,Iw c.delay,Iw c.now,Iw c.calls],Q140 A0 A1 ob cap c.pools,Q152 A0 A1 ob2 cap2 c.insts,.ar A0 144 bs (List.map T_cloud_pool.cells pools)]) _ () (fun _=>R) hm (Ah [0,1,2,3] R R) fun n v2 _ hm=> ?_
  rw [cloud_Cloud_pool.l1] at hm
  refine Ag tbk [] R R<|Af<|Ao hm R (fun h3 hm=>?_) fun h3 hm=> ?_
  ·refine Al<|Af<|Aw<|Ae<|Bd hm fun x h4 hm=>Cg 1 R (gl_pos (V.Pp A0) h4) fun b2 h5=> ?_
   subst h5
   exact Aa R R (Cm (V.Pp A0) R R el146 h4)<|Aa R R (Ce (i:=1) (y:=(V.Pp A0) x) R R R (gl_map _ (gl_some h4).2) ld140 R)<|Aa R R (Aj R)<|Ac<|Ae<|Aa R R (Ai R)<|Bd hm fun x2 h6 hm=>Aa R R (Bp R h6)<|Aa R R (B2 R h6 fa144_0)<|Aa R R (B2 R h6 fa139_0)<|Aa R R (Cb 3 (f:=T_cloud_pool.cells) (y:=x2) R R h6 ld9 R)<|Ad tbk [] 2 R R<|Ac<|Ao hm R (fun h7 hm=>Ag tbk [] R R<|have hm:=Lr hm h2;Rt1 hm R [0,1,2,3] R R R) fun h7 hm=>Al<|Ba tbk [] R R<|Ap _ () hm (Ah [0,1,2,3] R R)
  exact A6<|Ar () hm (Ah [0,1,2,3] R R)
 exact Ae<|Aa R R (Dd A0)<|Ac<|Rt1 hm R [0,1,2,3] R R R

/-! (*trireme/cloud.Cloud).find -/
def cloud_Cloud_find (c : T_cloud_Cloud) (name : ByteArray) (n : Int) (pools : List T_cloud_pool) : Option (Nat × Int) :=
 (cloud_Cloud_there c).bind fun r =>
 if (!r) = true then
  some (0, 23)
 else
  (cloud_Cloud_pool c name pools).bind fun r2 =>
  if (r2 == 0) = true then
   some (0, 16)
  else
   if (decide (n < 1)) = true then
    some (0, 1)
   else
    some (r2, 0)
theorem K68 (A0 A1 : Nat) (c : T_cloud_Cloud) (name : ByteArray) (n : Int) (pools : List T_cloud_pool) (b : Nat) (ob : Option Nat) (cap : Nat) (ob2 : Option Nat) (cap2 : Nat) (bs : List Nat) : VS Tryz.prog 81 (cloud_Cloud_find c name n pools) [.ptr b 0, .str name, Iw n] [.box b 149 [Z140 A0 A1 ob c.pools cap, Z152 A0 A1 ob2 c.insts cap2, Iw c.delay, Iw c.now, Iw c.calls], Q140 A0 A1 ob cap c.pools, Q152 A0 A1 ob2 cap2 c.insts, .ar A0 144 bs (List.map T_cloud_pool.cells pools)] (fun r=>.tup [V.Pp A0 r.1, Iw r.2]) (fun r=>[.box b 149 [Z140 A0 A1 ob c.pools cap, Z152 A0 A1 ob2 c.insts cap2, Iw c.delay, Iw c.now, Iw c.calls], Q140 A0 A1 ob cap c.pools, Q152 A0 A1 ob2 cap2 c.insts, .ar A0 144 bs (List.map T_cloud_pool.cells pools)]) := by
 refine A8 [.tmp 6,.tmp 7] Tryz.func81 R R R fun r hm=>?_
 unfold cloud_Cloud_find at hm
 exact Ae<|Aa R R (Dd A0)<|Aa R R (Aj R)<|Ac<|Af<|Ae<|Aa R R (Ai R)<|Ab R R<|Ay hm 3 R fn83 R (K37 A0 A1 _ _ _ _ _ _) fun r hm=>Aa R R (Cp R)<|Ac<|Ao hm R (fun h2 hm=>Ae<|Aa R R (Dd A0)<|Aa R R (Aj R)<|Ac<|Rt2 hm R [0,1,2,3] R R R R) fun h2 hm=>Al<|Ae<|Ad tbk [] 2 R R<|Ab R R<|Ay hm 4 R fn148 R (K67 A0 A1 _ _ _ _ _ _ _ _ _) fun r2 hm=>Aa R R (Aj R)<|Ac<|Af<|Aw<|Ae<|Aa R R (Ai R)<|Aa R R (C2 Tryz.underlying140 R R)<|Aa R R (Aj R)<|Ac<|Ao hm R (fun h4 hm=>Ae<|Aa R R (Dd A0)<|Aa R R (Aj R)<|Ac<|Rt2 hm R [0,1,2,3] R R R R) fun h4 hm=>Ag tbk [] R R<|Ao hm R (fun h5 hm=>Ae<|Aa R R (Dd A0)<|Aa R R (Aj R)<|Ac<|Rt2 hm R [0,1,2,3] R R R R) fun h5 hm=>Al<|Ag tbk [] R R<|Rt2 hm R [0,1,2,3] R R R R

/-! (*trireme/cloud.Cloud).Increase -/
def cloud_Cloud_Increase (c : T_cloud_Cloud) (name : ByteArray) (n : Int) (pools : List T_cloud_pool) (insts : List T_cloud_inst) : Option (Int × T_cloud_Cloud × List T_cloud_pool × List T_cloud_inst) :=
 (cloud_Cloud_find c name n pools).bind fun r =>
 if (r.2 != 0) = true then
  some (r.2, c, pools, insts)
 else
  (V.pg pools r.1).bind fun x =>
  (V.pg pools r.1).bind fun x2 =>
  if (decide (n > (i64.wrap (x.Group.Max - x2.target)))) = true then
   some (21, c, pools, insts)
  else
   (V.pg pools r.1).bind fun x3 =>
   if x3.broken = true then
    some (26, c, pools, insts)
   else
    (V.pg pools r.1).bind fun x4 =>
    (V.pg pools r.1).bind fun x5 =>
    (cloud_Cloud_more c r.1 n (I_cloud_state.c151 (⟨c.delay⟩ : T_cloud_creating)) (V.pst pools r.1 (⟨x5.Group, (i64.wrap (x4.target + n)), x5.last, x5.broken⟩ : T_cloud_pool)) insts).bind fun r2 =>
    some (0, (⟨r2.1.pools, r2.1.insts, r2.1.delay, r2.1.now, (i64.wrap (r2.1.calls + 1))⟩ : T_cloud_Cloud), r2.2.1, r2.2.2)
theorem K69 (A0 A1 : Nat) (c : T_cloud_Cloud) (name : ByteArray) (n : Int) (pools : List T_cloud_pool) (insts : List T_cloud_inst) (b : Nat) (ob : Option Nat) (cap : Nat) (ob2 : Option Nat) (cap2 : Nat) (bs : List Nat) (bs2 : List Nat) : ∀ r : Int × T_cloud_Cloud × List T_cloud_pool × List T_cloud_inst, cloud_Cloud_Increase c name n pools insts = some r → VC Tryz.prog 24 [.ptr b 0, .str name, Iw n] [.box b 149 [Z140 A0 A1 ob c.pools cap, Z152 A0 A1 ob2 c.insts cap2, Iw c.delay, Iw c.now, Iw c.calls], Q140 A0 A1 ob cap c.pools, Q152 A0 A1 ob2 cap2 c.insts, .ar A0 144 bs (List.map T_cloud_pool.cells pools), .ar A1 157 bs2 (List.map (T_cloud_inst.cells A0 A1) insts)] fun zx zH => ∃ (ob0_0 : Option Nat) (cap0_0 : Nat) (ob0_1 : Option Nat) (cap0_1 : Nat) (bs_1 : List Nat) (bs_2 : List Nat), zx = Iw r.1 ∧ zH = [.box b 149 [Z140 A0 A1 ob0_0 r.2.1.pools cap0_0, Z152 A0 A1 ob0_1 r.2.1.insts cap0_1, Iw r.2.1.delay, Iw r.2.1.now, Iw r.2.1.calls], Q140 A0 A1 ob0_0 cap0_0 r.2.1.pools, Q152 A0 A1 ob0_1 cap0_1 r.2.1.insts, .ar A0 144 bs_1 (List.map T_cloud_pool.cells r.2.2.1), .ar A1 157 bs_2 (List.map (T_cloud_inst.cells A0 A1) r.2.2.2)] := by
 refine Cl [.tmp 6] Tryz.func24 R R R fun r hm=>?_
 unfold cloud_Cloud_Increase at hm
 refine Ag tbk [] R R<|Ae<|Ad tbk [] 3 R R<|Ab R R<|Ay hm 4 R fn81 R (K68 A0 A1 _ _ _ _ _ _ _ _ _ _) fun r hm=>Ad tbk [] 5 R R<|Ac<|Af<|Aw<|Ag tbk [] R R<|Ao hm R (fun h2 hm=>?_) fun h2 hm=> ?_
 ·refine Ag tbk [] R R<|?_
  obtain rfl:=Option.some.inj hm
  exact Bq ⟨.inl R,_,.cons (.tmp _ _ R) .nil,[0,1,2,3,4],_,R,ob,cap,ob2,cap2,bs,bs2,R,R⟩
 refine Af<|Bi 0 mixed<|A9 tbk [0,1] [] (by kernel_rfl) R R R<|Bd hm fun x h3 hm=>Bb 2 R R R (by kernel_rfl) (Bp R h3)<|Bb 3 R R R (by kernel_rfl) (B2 R h3 fa144_0)<|Bb 4 R R R (by kernel_rfl) (B2 R h3 fa139_2)<|Bb 5 R R R (by kernel_rfl) (Cb 3 (f:=T_cloud_pool.cells) (y:=x) R R h3 ld3 R)<|Bb 6 R R R (by kernel_rfl) (Ai R)<|Bd hm fun x2 h4 hm=>Bb 7 R R R (by kernel_rfl) (Bp R h4)<|Bb 8 R R R (by kernel_rfl) (B2 R h4 fa144_1)<|Bb 9 R R R (by kernel_rfl) (Cb 3 (f:=T_cloud_pool.cells) (y:=x2) R R h4 ld3 R)<|A9 tbk [10,11,12] [] (by kernel_rfl) R R R<|A5 (by kernel_rfl)<|Ao hm R (fun h5 hm=>?_) fun h5 hm=> ?_
 ·refine Ag tbk [] R R<|?_
  obtain rfl:=Option.some.inj hm
  exact Bq ⟨.inl R,_,.cons (.tmp _ _ R) .nil,[0,1,2,3,4],_,R,ob,cap,ob2,cap2,bs,bs2,R,R⟩
 refine Ae<|Aa R R (Ai R)<|Bd hm fun x3 h6 hm=>Aa R R (Bp R h6)<|Aa R R (B2 R h6 fa144_3)<|Aa R R (Cb 3 (f:=T_cloud_pool.cells) (y:=x3) R R h6 ld4 R)<|Aa R R (Aj R)<|Ac<|Ao hm R (fun h7 hm=>?_) fun h7 hm=> ?_
 ·refine Ag tbk [] R R<|?_
  obtain rfl:=Option.some.inj hm
  exact Bq ⟨.inl R,_,.cons (.tmp _ _ R) .nil,[0,1,2,3,4],_,R,ob,cap,ob2,cap2,bs,bs2,R,R⟩
 refine Al<|Ae<|Aa R R (Ai R)<|Bd hm fun x4 h8 hm=>Aa R R (Bp R h8)<|Aa R R (B2 R h8 fa144_1)<|Aa R R (Cb 3 (f:=T_cloud_pool.cells) (y:=x4) R R h8 ld3 R)<|Ad tbk [] 2 R R<|Bd hm fun x5 h9 hm=>Aa R R (Bp R h9)<|Aa R R (B2 R h9 fa144_1)<|Ab R R<|Di 3 (f:=T_cloud_pool.cells) (u:=x5) (u':=(⟨x5.Group,(IntKind.i64.wrap (x4.target + n)),x5.last,x5.broken⟩ : T_cloud_pool)) R R R h9 ld3 R R R R<|Ac<|Ae<|Ad tbk [0] 7 R R<|Aa R R (Bn pl151 R R)<|Aa R R (Dw nif151 R)<|Bd hm fun r2 h10 hm=>Ab R R<|Aq 5 R fn82 R (K32 A0 A1 c r.1 n (I_cloud_state.c151 (⟨c.delay⟩ : T_cloud_creating)) (V.pst pools r.1 (⟨x5.Group,(IntKind.i64.wrap (x4.target + n)),x5.last,x5.broken⟩ : T_cloud_pool)) insts b ob cap ob2 cap2 bs bs2 r2 h10) fun _ _ h11=> ?_
 obtain ⟨ob3,cap3,ob4,cap4,bs3,bs4,rfl,rfl⟩:=h11
 refine Ac<|Ae<|Ad tbk [0] 7 R R<|Ab R R<|Ak (i:=0) R R R ld3 R R R<|Ac<|Ag tbk [] R R<|?_
 obtain rfl:=Option.some.inj hm
 exact Bq ⟨.inl R,_,.cons (.tmp _ _ R) .nil,[0,1,2,3,4],_,R,ob3,cap3,ob4,cap4,bs3,bs4,R,R⟩

/-! (trireme/cloud.creating).tick -/
def cloud_creating_tick (x : T_cloud_creating) (broken : Bool) : Option I_cloud_state :=
 if (decide (x.ticks > 1)) = true then
  some (I_cloud_state.c151 (⟨(i64.wrap (x.ticks - 1))⟩ : T_cloud_creating))
 else
  if broken = true then
   some (I_cloud_state.c225 (⟨⟩ : T_cloud_failed))
  else
   some (I_cloud_state.c160 (⟨⟩ : T_cloud_running))
theorem K70 (x : T_cloud_creating) (broken : Bool) : VS Tryz.prog 313 (cloud_creating_tick x broken) [T_cloud_creating.vv x, .bool broken] [] (fun r=>I_cloud_state.vv r) N0 := by
 refine A8 [.tmp 4] Tryz.func313 R R R fun r hm=>?_
 unfold cloud_creating_tick at hm
 exact Ae<|Ab R R<|Bg R R fun b=>Aa R R (Dt 0 .any)<|Ac<|Af<|Aw<|Ag tbk [0] R R<|Ao hm R (fun h2 hm=>Ae<|Ad tbk [0] 3 R R<|Aa R R (Bn pl151 R R)<|Aa R R (Dw nif151 R)<|Aa R R (Aj R)<|Ac<|Rt1 hm R [] R R R) fun h2 hm=>Ag tbk [] R R<|Ao hm R (fun h3 hm=>Ae<|Aa R R (Bn pl225 R R)<|Aa R R (Dw nif225 R)<|Aa R R (Aj R)<|Ac<|Rt1 hm R [] R R R) fun h3 hm=>Al<|Ae<|Aa R R (Bn pl160 R R)<|Aa R R (Dw nif160 R)<|Aa R R (Aj R)<|Ac<|Rt1 hm R [] R R R

/-! (trireme/cloud.leaving).tick -/
def cloud_leaving_tick (x : T_cloud_leaving) (a : Bool) : Option I_cloud_state :=
 some I_cloud_state.nil
theorem K71 (x : T_cloud_leaving) (a : Bool) : VS Tryz.prog 316 (cloud_leaving_tick x a) [T_cloud_leaving.vv x, .bool a] [] (fun r=>I_cloud_state.vv r) N0 := by
 refine A8 [.tmp 4] Tryz.func316 R R R fun r hm=>?_
 unfold cloud_leaving_tick at hm
 exact Ae<|Ab R R<|Bg R R fun b=>Aa R R (Dt 0 .any)<|Ac<|Ae<|Aa R R (Dt 0 .any)<|Ac<|Rt1 hm R [] R R R

/-! (trireme/cloud.running).tick -/
def cloud_running_tick (x : T_cloud_running) (a : Bool) : Option I_cloud_state :=
 some (I_cloud_state.c160 (⟨⟩ : T_cloud_running))
theorem K72 (x : T_cloud_running) (a : Bool) : VS Tryz.prog 319 (cloud_running_tick x a) [T_cloud_running.vv x, .bool a] [] (fun r=>I_cloud_state.vv r) N0 := by
 refine A8 [.tmp 4] Tryz.func319 R R R fun r hm=>?_
 unfold cloud_running_tick at hm
 exact Ae<|Ab R R<|Bg R R fun b=>Aa R R (Dt 0 .any)<|Ac<|Ae<|Ad tbk [0] 1 R R<|Aa R R (Dw nif160 R)<|Aa R R (Aj R)<|Ac<|Rt1 hm R [] R R R

/-! (trireme/cloud.failed).tick -/
def cloud_failed_tick (x : T_cloud_failed) (a : Bool) : Option I_cloud_state :=
 some (I_cloud_state.c225 (⟨⟩ : T_cloud_failed))
theorem K73 (x : T_cloud_failed) (a : Bool) : VS Tryz.prog 322 (cloud_failed_tick x a) [T_cloud_failed.vv x, .bool a] [] (fun r=>I_cloud_state.vv r) N0 := by
 refine A8 [.tmp 4] Tryz.func322 R R R fun r hm=>?_
 unfold cloud_failed_tick at hm
 exact Ae<|Ab R R<|Bg R R fun b=>Aa R R (Dt 0 .any)<|Ac<|Ae<|Ad tbk [0] 1 R R<|Aa R R (Dw nif225 R)<|Aa R R (Aj R)<|Ac<|Rt1 hm R [] R R R

def I_cloud_state.m_tick : I_cloud_state → Bool → Option I_cloud_state
 | .nil, _ => none
 | .c151 y, x0 => cloud_creating_tick y x0
 | .c159 y, x0 => cloud_leaving_tick y x0
 | .c160 y, x0 => cloud_running_tick y x0
 | .c225 y, x0 => cloud_failed_tick y x0
theorem I_cloud_state.m_tick_ok (x : I_cloud_state) (x0 : Bool) (r : I_cloud_state) (h : I_cloud_state.m_tick x x0 = some r) : VI Tryz.prog x.isNil x.ty x.val "trireme/cloud.tick" [.bool x0] (I_cloud_state.vv r) := by
  cases x with
  | nil => cases h
  | c151 y => exact ⟨R,313,mt151_tick,fn313,K70 y x0 r h⟩
  | c159 y => exact ⟨R,316,mt159_tick,fn316,K71 y x0 r h⟩
  | c160 y => exact ⟨R,319,mt160_tick,fn319,K72 y x0 r h⟩
  | c225 y => exact ⟨R,322,mt225_tick,fn322,K73 y x0 r h⟩

/-! (*trireme/cloud.Cloud).Tick -/
def cloud_Cloud_Tick.l1 (c : T_cloud_Cloud) (pools : List T_cloud_pool) : Nat → (List Nat) → Int → (List T_cloud_inst) → Option (List Nat × List T_cloud_inst)
 | 0, _, _, _ => none
 | n + 1, l2, v2, xs2 =>
  if (decide (v2 < (c.insts.length : Int))) = true then
   (V.gl ((⟨c.pools, c.insts, c.delay, (i64.wrap (c.now + 1)), c.calls⟩ : T_cloud_Cloud).insts) v2).bind fun x =>
   (V.pg xs2 x).bind fun x2 =>
   (V.pg xs2 x).bind fun x3 =>
   (V.grd (!(I_cloud_state.isNil x2.in_))).bind fun u =>
   (V.pg pools x3.of).bind fun x4 =>
   (I_cloud_state.m_tick x2.in_ x4.broken).bind fun r2 =>
   (V.pg xs2 x).bind fun x5 =>
   (V.pg (V.pst xs2 x (⟨x5.name, x5.of, x5.since, r2⟩ : T_cloud_inst)) x).bind fun x6 =>
   if (!(I_cloud_state.isNil x6.in_)) = true then
    (V.ap 8 l2 [x]).bind fun l5 =>
    cloud_Cloud_Tick.l1 c pools n l5 (i64.wrap (v2 + 1)) (V.pst xs2 x (⟨x5.name, x5.of, x5.since, r2⟩ : T_cloud_inst))
   else
    cloud_Cloud_Tick.l1 c pools n l2 (i64.wrap (v2 + 1)) (V.pst xs2 x (⟨x5.name, x5.of, x5.since, r2⟩ : T_cloud_inst))
  else
   some (l2, xs2)
def cloud_Cloud_Tick (c : T_cloud_Cloud) (pools : List T_cloud_pool) (insts : List T_cloud_inst) : Option (T_cloud_Cloud × List T_cloud_inst) :=
 (cloud_Cloud_there c).bind fun r =>
 if (!r) = true then
  some (c, insts)
 else
  (cloud_Cloud_Tick.l1 c pools FU ([] : List Nat) 0 insts).bind fun j =>
  some ((⟨(⟨c.pools, c.insts, c.delay, (i64.wrap (c.now + 1)), c.calls⟩ : T_cloud_Cloud).pools, j.1, (⟨c.pools, c.insts, c.delay, (i64.wrap (c.now + 1)), c.calls⟩ : T_cloud_Cloud).delay, (⟨c.pools, c.insts, c.delay, (i64.wrap (c.now + 1)), c.calls⟩ : T_cloud_Cloud).now, (⟨c.pools, c.insts, c.delay, (i64.wrap (c.now + 1)), c.calls⟩ : T_cloud_Cloud).calls⟩ : T_cloud_Cloud), j.2)
theorem K74 (A0 A1 : Nat) (c : T_cloud_Cloud) (pools : List T_cloud_pool) (insts : List T_cloud_inst) (b : Nat) (ob : Option Nat) (cap : Nat) (ob2 : Option Nat) (cap2 : Nat) (bs : List Nat) (bs2 : List Nat) : ∀ r : T_cloud_Cloud × List T_cloud_inst, cloud_Cloud_Tick c pools insts = some r → VC Tryz.prog 61 [.ptr b 0] [.box b 149 [Z140 A0 A1 ob c.pools cap, Z152 A0 A1 ob2 c.insts cap2, Iw c.delay, Iw c.now, Iw c.calls], Q140 A0 A1 ob cap c.pools, Q152 A0 A1 ob2 cap2 c.insts, .ar A0 144 bs (List.map T_cloud_pool.cells pools), .ar A1 157 bs2 (List.map (T_cloud_inst.cells A0 A1) insts)] fun zx zH => ∃ (ob0_0 : Option Nat) (cap0_0 : Nat) (ob0_1 : Option Nat) (cap0_1 : Nat) (bs_2 : List Nat), zx = .tup [] ∧ zH = [.box b 149 [Z140 A0 A1 ob0_0 r.1.pools cap0_0, Z152 A0 A1 ob0_1 r.1.insts cap0_1, Iw r.1.delay, Iw r.1.now, Iw r.1.calls], Q140 A0 A1 ob0_0 cap0_0 r.1.pools, Q152 A0 A1 ob0_1 cap0_1 r.1.insts, .ar A0 144 bs (List.map T_cloud_pool.cells pools), .ar A1 157 bs_2 (List.map (T_cloud_inst.cells A0 A1) r.2)] := by
 refine Cl [] Tryz.func61 R R R fun r hm=>?_
 unfold cloud_Cloud_Tick at hm
 refine Af<|Ae<|Aa R R (Ai R)<|Ab R R<|Ay hm 3 R fn83 R (K37 A0 A1 _ _ _ _ _ _) fun r hm=>Aa R R (Cp R)<|Ac<|Ao hm R (fun h2 hm=>?_) fun h2 hm=> ?_
 ·obtain rfl:=Option.some.inj hm
  exact Bq ⟨.inl R,_,.nil,[0,1,2,3,4],_,R,ob,cap,ob2,cap2,bs2,R,R⟩
 refine Al<|Ae<|Ad tbk [0] 7 R R<|Ab R R<|Ak (i:=0) R R R ld3 R R R<|Ac<|Ag tbk [] R R<|Af<|Ae<|Ad tbk [0] 4 R R<|Aa R R (Cx (V.Pp A1) R Dp)<|Aa R R (Ai R)<|Ac<|Cc hm (fun j (gg:Option Nat × Nat)=>[(0,.ptr b 0),(2,Z152 A0 A1 gg.1 j.1 gg.2)]) (fun j (gg:Option Nat × Nat)=>[Q152 A0 A1 gg.1 gg.2 j.1,.box b 149 [Z140 A0 A1 ob ((⟨c.pools,c.insts,c.delay,(IntKind.i64.wrap (c.now + (1 : Int))),c.calls⟩ : T_cloud_Cloud).pools) cap,Z152 A0 A1 ob2 ((⟨c.pools,c.insts,c.delay,(IntKind.i64.wrap (c.now + (1 : Int))),c.calls⟩ : T_cloud_Cloud).insts) cap2,Iw ((⟨c.pools,c.insts,c.delay,(IntKind.i64.wrap (c.now + (1 : Int))),c.calls⟩ : T_cloud_Cloud).delay),Iw ((⟨c.pools,c.insts,c.delay,(IntKind.i64.wrap (c.now + (1 : Int))),c.calls⟩ : T_cloud_Cloud).now),Iw ((⟨c.pools,c.insts,c.delay,(IntKind.i64.wrap (c.now + (1 : Int))),c.calls⟩ : T_cloud_Cloud).calls)],Q140 A0 A1 ob cap ((⟨c.pools,c.insts,c.delay,(IntKind.i64.wrap (c.now + (1 : Int))),c.calls⟩ : T_cloud_Cloud).pools),Q152 A0 A1 ob2 cap2 ((⟨c.pools,c.insts,c.delay,(IntKind.i64.wrap (c.now + (1 : Int))),c.calls⟩ : T_cloud_Cloud).insts),.ar A0 144 bs (List.map T_cloud_pool.cells pools),.ar A1 157 bs2 (List.map (T_cloud_inst.cells A0 A1) j.2)]) (fun o hm=>?_) fun j=>Pq fun ob5 cap5 hm=> ?_
 ·refine Ca (fun zn (zs:List Nat × Int × List T_cloud_inst)=>cloud_Cloud_Tick.l1 c pools zn zs.1 zs.2.1 zs.2.2) (fun zs (zg:Option Nat × Nat)=>[(0,.ptr b 0),(2,Z152 A0 A1 zg.1 zs.1 zg.2),(18,Z152 A0 A1 ob2 ((⟨c.pools,c.insts,c.delay,(IntKind.i64.wrap (c.now + (1 : Int))),c.calls⟩ : T_cloud_Cloud).insts) cap2),(19,Iw (c.insts.length : Int)),(20,Iw zs.2.1)]) (fun zs (zg:Option Nat × Nat)=>[Q152 A0 A1 zg.1 zg.2 zs.1,.box b 149 [Z140 A0 A1 ob ((⟨c.pools,c.insts,c.delay,(IntKind.i64.wrap (c.now + (1 : Int))),c.calls⟩ : T_cloud_Cloud).pools) cap,Z152 A0 A1 ob2 ((⟨c.pools,c.insts,c.delay,(IntKind.i64.wrap (c.now + (1 : Int))),c.calls⟩ : T_cloud_Cloud).insts) cap2,Iw ((⟨c.pools,c.insts,c.delay,(IntKind.i64.wrap (c.now + (1 : Int))),c.calls⟩ : T_cloud_Cloud).delay),Iw ((⟨c.pools,c.insts,c.delay,(IntKind.i64.wrap (c.now + (1 : Int))),c.calls⟩ : T_cloud_Cloud).now),Iw ((⟨c.pools,c.insts,c.delay,(IntKind.i64.wrap (c.now + (1 : Int))),c.calls⟩ : T_cloud_Cloud).calls)],Q140 A0 A1 ob cap ((⟨c.pools,c.insts,c.delay,(IntKind.i64.wrap (c.now + (1 : Int))),c.calls⟩ : T_cloud_Cloud).pools),Q152 A0 A1 ob2 cap2 ((⟨c.pools,c.insts,c.delay,(IntKind.i64.wrap (c.now + (1 : Int))),c.calls⟩ : T_cloud_Cloud).insts),.ar A0 144 bs (List.map T_cloud_pool.cells pools),.ar A1 157 bs2 (List.map (T_cloud_inst.cells A0 A1) zs.2.2)]) (([] : List Nat),(0 : Int),insts) (none,0) (fun _=>R) hm (B1 (Bf 152) (Ah [0,1,2,3,4,5] (by kernel_rfl) (by kernel_rfl))) fun n=>Pq fun l2=>Pq fun v2 xs2=>Pq fun ob4 cap4 hm=> ?_
  rw [cloud_Cloud_Tick.l1] at hm
  refine Ag tbk [] R R<|Af<|Ao hm R (fun h7 hm=>?_) fun h7 hm=> ?_
  ·refine Al<|Af<|Aw<|Ae<|Bd hm fun x h8 hm=>Cg 3 R (gl_pos (V.Pp A1) h8) fun b2 h9=> ?_
   subst h9
   refine Aa R R (Cm (V.Pp A1) R R el147 h8)<|Aa R R (Ce (i:=3) (y:=(V.Pp A1) x) R R R (gl_map _ (gl_some h8).2) ld152 R)<|Aa R R (Aj R)<|Ac<|Af<|Bu (Ax [5,0,1,2,3,4] R)<|Bi 1 mixed<|A9 tbk [0,1] [] (by kernel_rfl) R R R<|Bd hm fun x2 h10 hm=>Bb 2 R R R (by kernel_rfl) (Bp R h10)<|Bb 3 R R R (by kernel_rfl) (B2 R h10 fa157_3)<|Bb 5 R R R (by kernel_rfl) (Ai R)<|Bd hm fun x3 h11 hm=>Bb 6 R R R (by kernel_rfl) (Bp R h11)<|Bb 7 R R R (by kernel_rfl) (B2 R h11 fa157_1)<|?_
   refine B3 [4,8] (by kernel_rfl) ⟨?_,?_,trivial⟩
   ·exact An R R R<|B7 (Cb 0 (f:=(T_cloud_inst.cells A0 A1)) (y:=x2) R R h10 ld155 R)<|Bd hm fun u h12 hm=>Bb 12 R R R (by kernel_rfl) (VP.nilCheckI R (V.grd_f h12))<|Bb 13 R R R (by kernel_rfl) (Ai R)<|Am 8 (by kernel_rfl)<|An R R R<|B7 (Cb 0 (f:=(T_cloud_inst.cells A0 A1)) (y:=x3) R R h11 ld140 R)<|Bd hm fun x4 h13 hm=>Bb 9 R R R (by kernel_rfl) (Bp R h13)<|Bb 10 R R R (by kernel_rfl) (B2 R h13 fa144_3)<|Bb 11 R R R (by kernel_rfl) (Cb 4 (f:=T_cloud_pool.cells) (y:=x4) R R h13 ld4 R)<|Am 14 (by kernel_rfl)<|Bd hm fun r2 h14 hm=>An R R R<|VO.inv R R (I_cloud_state.m_tick_ok x2.in_ x4.broken r2 h14)<|Bd hm fun x5 h15 hm=>Bb 15 R R R (by kernel_rfl) (Bp R h15)<|Bb 16 R R R (by kernel_rfl) (B2 R h15 fa157_3)<|Am 17 (by kernel_rfl)<|An R R R<|Di 0 (f:=(T_cloud_inst.cells A0 A1)) (u:=x5) (u':=(⟨x5.name,x5.of,x5.since,r2⟩ : T_cloud_inst)) R R R h15 ld155 R R R R<|A5 (by kernel_rfl)<|Ae<|Aa R R (Ai R)<|Bd hm fun x6 h16 hm=>Aa R R (Bp R h16)<|Aa R R (B2 R h16 fa157_3)<|Aa R R (Cb 0 (f:=(T_cloud_inst.cells A0 A1)) (y:=x6) R R h16 ld155 R)<|Aa R R (VP.ifNot ifb155 R)<|Ac<|Ao hm R (fun h17 hm=>Bv<|Ad tbk [] 2 R R<|Ab R R<|A4 ap147 R R R R R fun b3=>Bd hm fun l5 h19 hm=>Ab R R<|Bo 2 (V.Pp A1) (l:=l2) (l2:=[x]) ap147 R R (sT_row 0 (V.Pp A1) el147 R R) h19 fun ob6 cap6=>Aa R R (Aj R)<|Ac<|Ba tbk [] R R<|Ap (l5,(IntKind.i64.wrap (v2 + (1 : Int))),(V.pst xs2 x (⟨x5.name,x5.of,x5.since,r2⟩ : T_cloud_inst))) (ob6,cap6) hm (Ah [2,3,4,5,6,1] (by kernel_rfl) (by kernel_rfl))) fun h17 hm=>Al<|Ba tbk [] R R<|Ap (l2,(IntKind.i64.wrap (v2 + (1 : Int))),(V.pst xs2 x (⟨x5.name,x5.of,x5.since,r2⟩ : T_cloud_inst))) (ob4,cap4) hm (Ah [1,2,3,4,5,0] (by kernel_rfl) (by kernel_rfl))
   ·exact An R R R<|B7 (Cb 0 (f:=(T_cloud_inst.cells A0 A1)) (y:=x3) R R h11 ld140 R)<|Bd hm fun u2 h20 hm=>Bd hm fun x7 h21 hm=>Bb 9 R R R (by kernel_rfl) (Bp R h21)<|Bb 10 R R R (by kernel_rfl) (B2 R h21 fa144_3)<|Bb 11 R R R (by kernel_rfl) (Cb 4 (f:=T_cloud_pool.cells) (y:=x7) R R h21 ld4 R)<|Am 4 (by kernel_rfl)<|An R R R<|B7 (Cb 0 (f:=(T_cloud_inst.cells A0 A1)) (y:=x2) R R h10 ld155 R)<|Bb 12 R R R (by kernel_rfl) (VP.nilCheckI R (V.grd_f h20))<|Bb 13 R R R (by kernel_rfl) (Ai R)<|Am 14 (by kernel_rfl)<|Bd hm fun r3 h22 hm=>An R R R<|VO.inv R R (I_cloud_state.m_tick_ok x2.in_ x7.broken r3 h22)<|Bd hm fun x8 h23 hm=>Bb 15 R R R (by kernel_rfl) (Bp R h23)<|Bb 16 R R R (by kernel_rfl) (B2 R h23 fa157_3)<|Am 17 (by kernel_rfl)<|An R R R<|Di 0 (f:=(T_cloud_inst.cells A0 A1)) (u:=x8) (u':=(⟨x8.name,x8.of,x8.since,r3⟩ : T_cloud_inst)) R R R h23 ld155 R R R R<|A5 (by kernel_rfl)<|Ae<|Aa R R (Ai R)<|Bd hm fun x9 h24 hm=>Aa R R (Bp R h24)<|Aa R R (B2 R h24 fa157_3)<|Aa R R (Cb 0 (f:=(T_cloud_inst.cells A0 A1)) (y:=x9) R R h24 ld155 R)<|Aa R R (VP.ifNot ifb155 R)<|Ac<|Ao hm R (fun h25 hm=>Bv<|Ad tbk [] 2 R R<|Ab R R<|A4 ap147 R R R R R fun b4=>Bd hm fun l6 h27 hm=>Ab R R<|Bo 2 (V.Pp A1) (l:=l2) (l2:=[x]) ap147 R R (sT_row 0 (V.Pp A1) el147 R R) h27 fun ob7 cap7=>Aa R R (Aj R)<|Ac<|Ba tbk [] R R<|Ap (l6,(IntKind.i64.wrap (v2 + (1 : Int))),(V.pst xs2 x (⟨x8.name,x8.of,x8.since,r3⟩ : T_cloud_inst))) (ob7,cap7) hm (Ah [2,3,4,5,6,1] (by kernel_rfl) (by kernel_rfl))) fun h25 hm=>Al<|Ba tbk [] R R<|Ap (l2,(IntKind.i64.wrap (v2 + (1 : Int))),(V.pst xs2 x (⟨x8.name,x8.of,x8.since,r3⟩ : T_cloud_inst))) (ob4,cap4) hm (Ah [1,2,3,4,5,0] (by kernel_rfl) (by kernel_rfl))
  exact A6<|As (ob4,cap4) hm (Ah [0,1,2,3,4,5] (by kernel_rfl) (by kernel_rfl))
 refine Bv<|Ad tbk [] 4 R R<|Ab R R<|Ak (i:=1) R R R ld147 R R R<|Ac<|?_
 obtain rfl:=Option.some.inj hm
 exact ⟨.inr R,_,.nil,[1,2,0,4,5],_,R,ob,cap,ob5,cap5,bs2,R,R⟩

/-! (*trireme/world.World).names -/
def world_World_names.l1 : List T_api_Inst → Nat → (List (ByteArray × Int)) → Option (List (ByteArray × Int))
 | [], k, n2 => some n2
 | x :: l, k, n2 =>
  world_World_names.l1 l (k + 1) (V.mp n2 x.Name (i64.wrap (((V.mg n2 x.Name).getD 0) + 1)))
def world_World_names (w : T_world_World) (c : T_cloud_Cloud) (pools : List T_cloud_pool) (insts : List T_cloud_inst) : Option (List (ByteArray × Int)) :=
 (cloud_Cloud_Insts c pools insts).bind fun r =>
 (world_World_names.l1 r 0 ([] : List (ByteArray × Int))).bind fun n32 =>
 some n32
theorem K75 (A0 A1 : Nat) (w : T_world_World) (c : T_cloud_Cloud) (pools : List T_cloud_pool) (insts : List T_cloud_inst) (b : Nat) (ob : Option Nat) (cap : Nat) (ob2 : Option Nat) (cap2 : Nat) (ob3 : Option Nat) (cap3 : Nat) (ob4 : Option Nat) (cap4 : Nat) (b2 : Nat) (b3 : Nat) (ob5 : Option Nat) (cap5 : Nat) (ob6 : Option Nat) (cap6 : Nat) (bs : List Nat) (bs2 : List Nat) : VS1 Tryz.prog 71 (world_World_names w c pools insts) [.ptr b 0] [.box b 43 [.ptr b3 0, Z139 ob w.groups cap, Z103 ob2 w.budgets cap2, Z68 ob3 w.ms cap3, Z64 ob4 w.bs cap4, .map b2], Q139 ob cap w.groups, Q103 ob2 cap2 w.budgets, Q68 ob3 cap3 w.ms, Q64 ob4 cap4 w.bs, .map b2 (List.map (pf VV.str (VV.int .i64)) w.held), .box b3 149 [Z140 A0 A1 ob5 c.pools cap5, Z152 A0 A1 ob6 c.insts cap6, Iw c.delay, Iw c.now, Iw c.calls], Q140 A0 A1 ob5 cap5 c.pools, Q152 A0 A1 ob6 cap6 c.insts, .ar A0 144 bs (List.map T_cloud_pool.cells pools), .ar A1 157 bs2 (List.map (T_cloud_inst.cells A0 A1) insts)] (fun r b_0=>.map b_0) (fun r b_0=>[.map b_0 (List.map (pf VV.str (VV.int .i64)) r), .box b 43 [.ptr b3 0, Z139 ob w.groups cap, Z103 ob2 w.budgets cap2, Z68 ob3 w.ms cap3, Z64 ob4 w.bs cap4, .map b2], Q139 ob cap w.groups, Q103 ob2 cap2 w.budgets, Q68 ob3 cap3 w.ms, Q64 ob4 cap4 w.bs, .map b2 (List.map (pf VV.str (VV.int .i64)) w.held), .box b3 149 [Z140 A0 A1 ob5 c.pools cap5, Z152 A0 A1 ob6 c.insts cap6, Iw c.delay, Iw c.now, Iw c.calls], Q140 A0 A1 ob5 cap5 c.pools, Q152 A0 A1 ob6 cap6 c.insts, .ar A0 144 bs (List.map T_cloud_pool.cells pools), .ar A1 157 bs2 (List.map (T_cloud_inst.cells A0 A1) insts)]) := by
 refine VS1.run [.tmp 2] Tryz.func71 R R R fun r hm=>?_
 unfold world_World_names at hm
 refine Ag tbk [] R R<|Ae<|Ab R R<|Dc fun b4=>Aa R R (Aj R)<|Ac<|Af<|Ae<|Ad tbk [1] 4 R R<|Av (Ax [7,8,9,10,11,0,1,2,3,4,5,6] R)<|Ab R R<|Cj hm 5 R fn27 R (K46 A0 A1 _ _ _ _ _ _ _ _ _ _) fun r ob7 cap7 hm=>Av (Az 0 [(11,L70 r)] R ⟨⟨_,R,.here _ R⟩,trivial⟩ (FzH.refl _))<|Aa R R (A7 T_api_Inst.vv R C9)<|Aa R R (Ai R)<|Ac<|B4 11 R fun h6=>Cc hm (fun _ (_:Unit)=>[(3,.map b4)]) (fun n32 (_:Unit)=>[.box b3 149 [Z140 A0 A1 ob5 c.pools cap5,Z152 A0 A1 ob6 c.insts cap6,Iw c.delay,Iw c.now,Iw c.calls],Q140 A0 A1 ob5 cap5 c.pools,Q152 A0 A1 ob6 cap6 c.insts,.ar A0 144 bs (List.map T_cloud_pool.cells pools),.ar A1 157 bs2 (List.map (T_cloud_inst.cells A0 A1) insts),.map b4 (List.map (pf VV.str (VV.int .i64)) n32),.box b 43 [.ptr b3 0,Z139 ob w.groups cap,Z103 ob2 w.budgets cap2,Z68 ob3 w.ms cap3,Z64 ob4 w.bs cap4,.map b2],Q139 ob cap w.groups,Q103 ob2 cap2 w.budgets,Q68 ob3 cap3 w.ms,Q64 ob4 cap4 w.bs,.map b2 (List.map (pf VV.str (VV.int .i64)) w.held)]) (fun o hm=>?_) fun n32 _ hm=> ?_
 ·refine Cf (r) (fun zl zk (zs:List (ByteArray × Int))=>world_World_names.l1 zl zk zs) (fun k _ (_:Unit)=>[(3,.map b4),(11,L70 r),(12,Iw (r.length : Int)),(13,Iw (k : Int))]) (fun _ zs (_:Unit)=>[.box b3 149 [Z140 A0 A1 ob5 c.pools cap5,Z152 A0 A1 ob6 c.insts cap6,Iw c.delay,Iw c.now,Iw c.calls],Q140 A0 A1 ob5 cap5 c.pools,Q152 A0 A1 ob6 cap6 c.insts,.ar A0 144 bs (List.map T_cloud_pool.cells pools),.ar A1 157 bs2 (List.map (T_cloud_inst.cells A0 A1) insts),.map b4 (List.map (pf VV.str (VV.int .i64)) zs),.box b 43 [.ptr b3 0,Z139 ob w.groups cap,Z103 ob2 w.budgets cap2,Z68 ob3 w.ms cap3,Z64 ob4 w.bs cap4,.map b2],Q139 ob cap w.groups,Q103 ob2 cap2 w.budgets,Q68 ob3 cap3 w.ms,Q64 ob4 cap4 w.bs,.map b2 (List.map (pf VV.str (VV.int .i64)) w.held)]) ([] : List (ByteArray × Int)) () hm (Ah [0,1,2,3,4,5,6,7,8,9,10,11] (by kernel_rfl) (by kernel_rfl)) (fun k n2 _ hk hm=>?_) fun k x l n2 _ h7 hm=> ?_
  ·rw [world_World_names.l1] at hm
   exact Ag tbk [] R R<|Af<|Bm R (k_end hk)<|A6<|As () hm (Ah [0,1,2,3,4,5,6,7,8,9,10,11] (by kernel_rfl) (by kernel_rfl))
  rw [world_World_names.l1] at hm
  exact Ag tbk [] R R<|Af<|Bl R (k_lt h7)<|Al<|Af<|Aw<|Ae<|Aa R R (B8 T_api_Inst.vv R R el54 h7)<|Aa R R (Bt R ld70 R)<|Ab R R<|Au z70 fun b5=>Ab R R<|Ak (i:=0) R R R ld70 R R R<|Ac<|Bv<|Ad tbk [0] 3 R R<|Aa R R (Cy 6 (kf:=VV.str) (vf:=(VV.int .i64)) (l:=n2) (k:=x.Name) (z:=(0 : Int)) false mk9 B9 R R R zc3 R)<|Aa R R (Br R R R)<|Ab R R<|De 6 (kf:=VV.str) (vf:=(VV.int .i64)) (l:=n2) (k:=x.Name) (z:=(IntKind.i64.wrap (((V.mg n2 x.Name).getD (0 : Int)) + (1 : Int)))) mk9 B9 R R R R<|Ac<|Ba tbk [] R R<|Ap (V.mp n2 x.Name (IntKind.i64.wrap (((V.mg n2 x.Name).getD (0 : Int)) + (1 : Int)))) () hm (Be [1,2,3,4,5,6,7,8,9,10,11,12] (by kernel_rfl) ⟨R,R,R,congrArg some (k_next h7 h6),trivial⟩)
 exact Ag tbk [] R R<|Rg1 hm R [5,6,7,8,9,10,11,0,1,2,3,4] b4 (.cons (.tmp _ _ R) .nil) R R

/-! trireme/yard.On -/
def yard_On.l1 (name : ByteArray) : List T_api_Bound → Nat → (List T_api_Pod) → Option (List T_api_Pod)
 | [], k, l2 => some l2
 | x :: l4, k, l2 =>
  if (V.seq x.On name) = true then
   (V.ap 272 l2 [x.Pod]).bind fun l5 =>
   yard_On.l1 name l4 (k + 1) l5
  else
   yard_On.l1 name l4 (k + 1) l2
def yard_On (bs : List T_api_Bound) (name : ByteArray) : Option (List T_api_Pod) :=
 (yard_On.l1 name bs 0 ([] : List T_api_Pod)).bind fun l32 =>
 some l32
theorem K76 (bs : List T_api_Bound) (name : ByteArray) : VS2 Tryz.prog 123 (yard_On bs name) [L64 bs, .str name] [] (fun r ob0 cap0=>Z29 ob0 r cap0) (fun r ob0 cap0=>[Q29 ob0 cap0 r]) := by
 refine Cz [.tmp 4] Tryz.func123 R R R fun r hm=>?_
 unfold yard_On at hm
 refine Ag tbk [] R R<|Ag tbk [] R R<|Af<|Ae<|Aa R R (Ai R)<|Aa R R (A7 T_api_Bound.vv R B6)<|Aa R R (Ai R)<|Ac<|B4 8 R fun h5=>Cc hm (fun l32 (gg:Option Nat × Nat)=>[(5,Z29 gg.1 l32 gg.2)]) (fun l32 (gg:Option Nat × Nat)=>[Q29 gg.1 gg.2 l32]) (fun o hm=>?_) fun l32=>Pq fun ob3 cap3 hm=> ?_
 ·refine Cf (bs) (fun zl zk (zs:List T_api_Pod)=>yard_On.l1 name zl zk zs) (fun k zs (zg:Option Nat × Nat)=>[(1,.str name),(5,Z29 zg.1 zs zg.2),(8,L64 bs),(9,Iw (bs.length : Int)),(10,Iw (k : Int))]) (fun _ zs (zg:Option Nat × Nat)=>[Q29 zg.1 zg.2 zs]) _ (none,0) hm (B1 (Bf 29) (Ah [0] R R)) (fun k l2=>Pq fun ob2 cap2 hk hm=>?_) fun k x l4 l2=>Pq fun ob2 cap2 h6 hm=> ?_
  ·rw [yard_On.l1] at hm
   exact Ag tbk [] R R<|Af<|Bm R (k_end hk)<|A6<|As (ob2,cap2) hm (Ah [0] R R)
  rw [yard_On.l1] at hm
  exact Ag tbk [] R R<|Af<|Bl R (k_lt h6)<|Al<|Af<|Aw<|Ae<|Aa R R (B8 T_api_Bound.vv R R el40 h6)<|Aa R R (Bt R ld64 R)<|Ab R R<|Au z64 fun b=>Ab R R<|Ak (i:=0) R R R ld64 R R R<|Ac<|Ag tbk [0] R R<|Ao hm R (fun h8 hm=>Bv<|Ad tbk [0] 3 R R<|Ab R R<|A4 ap193 R R R R R fun b2=>Bd hm fun l5 h10 hm=>Ab R R<|Bo 2 T_api_Pod.vv (l:=l2) (l2:=[x.Pod]) ap193 R R (sT_row 0 T_api_Pod.vv el193 R R) h10 fun ob4 cap4=>Aa R R (Aj R)<|Ac<|Ba tbk [] R R<|Ap _ (ob4,cap4) hm (Be [2] R ⟨R,R,R,R,congrArg some (k_next h6 h5),trivial⟩)) fun h8 hm=>Al<|Ba tbk [] R R<|Ap _ (ob2,cap2) hm (Be [1] R ⟨R,R,R,R,congrArg some (k_next h6 h5),trivial⟩)
 exact Ag tbk [] R R<|Rg2 hm R [0] ob3 cap3 (.cons (.tmp _ _ R) .nil) R R

/-! (*trireme/world.World).leave -/
def world_World_leave.l1 (w : T_world_World) (r : (List (ByteArray × Int))) : Nat → (List T_api_Machine) → (List (ByteArray × Int)) → (List ByteArray) → Int → Option (List T_api_Machine × (List (ByteArray × Int)) × List ByteArray)
 | 0, _, _, _, _ => none
 | n + 1, ms2, gone2, order2, v2 =>
  if (decide (v2 < (w.ms.length : Int))) = true then
   (V.gl w.ms v2).bind fun x =>
   if ((V.seq x.Group (⟨#[]⟩ : ByteArray)) || (decide (((V.mg r x.Name).getD 0) > 0))) = true then
    (V.ap 128 ms2 [x]).bind fun ms4 =>
    world_World_leave.l1 w r n ms4 gone2 order2 (i64.wrap (v2 + 1))
   else
    (V.ap 16 order2 [x.Name]).bind fun order4 =>
    world_World_leave.l1 w r n ms2 (V.mp gone2 x.Name (i64.wrap (((V.mg gone2 x.Name).getD 0) + 1))) order4 (i64.wrap (v2 + 1))
  else
   some (ms2, gone2, order2)
def world_World_leave.l2 (w : T_world_World) (j : List T_api_Machine × (List (ByteArray × Int)) × List ByteArray) : Nat → T_world_World → Int → Option T_world_World
 | 0, _, _ => none
 | n2 + 1, w3, v4 =>
  if (decide (v4 < (w.bs.length : Int))) = true then
   (V.gl w.bs v4).bind fun x2 =>
   if (((V.mg j.2.1 x2.On).getD 0) == 0) = true then
    (V.ap 288 w3.bs [x2]).bind fun l3 =>
    world_World_leave.l2 w j n2 (⟨(), w3.groups, w3.budgets, w3.ms, l3, w3.held⟩ : T_world_World) (i64.wrap (v4 + 1))
   else
    world_World_leave.l2 w j n2 w3 (i64.wrap (v4 + 1))
  else
   some w3
def world_World_leave.l4 (r2 : List T_api_Pod) : Nat → T_world_World → Int → Option T_world_World
 | 0, _, _ => none
 | n4 + 1, w8, v8 =>
  if (decide (v8 < (r2.length : Int))) = true then
   (V.gl r2 v8).bind fun x5 =>
   if (!x5.Daemon) = true then
    (V.ap 288 w8.bs [(⟨x5, (⟨#[]⟩ : ByteArray)⟩ : T_api_Bound)]).bind fun l7 =>
    world_World_leave.l4 r2 n4 (⟨(), w8.groups, w8.budgets, w8.ms, l7, w8.held⟩ : T_world_World) (i64.wrap (v8 + 1))
   else
    world_World_leave.l4 r2 n4 w8 (i64.wrap (v8 + 1))
  else
   some w8
def world_World_leave.l3 (w : T_world_World) (j : List T_api_Machine × (List (ByteArray × Int)) × List ByteArray) : Nat → T_world_World → Int → Option T_world_World
 | 0, _, _ => none
 | n3 + 1, w6, v6 =>
  if (decide (v6 < (j.2.2.length : Int))) = true then
   (V.gl j.2.2 v6).bind fun x4 =>
   (yard_On w.bs x4).bind fun r2 =>
   (world_World_leave.l4 r2 FU w6 (0 : Int)).bind fun w92 =>
   world_World_leave.l3 w j n3 w92 (i64.wrap (v6 + 1))
  else
   some w6
def world_World_leave (w : T_world_World) (c : T_cloud_Cloud) (pools : List T_cloud_pool) (insts : List T_cloud_inst) : Option T_world_World :=
 (world_World_names w c pools insts).bind fun r =>
 (world_World_leave.l1 w r FU ([] : List T_api_Machine) ([] : List (ByteArray × Int)) ([] : List ByteArray) (0 : Int)).bind fun j =>
 if ((j.2.2.length : Int) == 0) = true then
  some (⟨(), w.groups, w.budgets, j.1, w.bs, w.held⟩ : T_world_World)
 else
  (world_World_leave.l2 w j FU (⟨(), w.groups, w.budgets, j.1, ([] : List T_api_Bound), w.held⟩ : T_world_World) (0 : Int)).bind fun w42 =>
  (world_World_leave.l3 w j FU w42 (0 : Int)).bind fun x32 =>
  some x32
theorem K77 (A0 A1 : Nat) (w : T_world_World) (c : T_cloud_Cloud) (pools : List T_cloud_pool) (insts : List T_cloud_inst) (b : Nat) (ob : Option Nat) (cap : Nat) (ob2 : Option Nat) (cap2 : Nat) (ob3 : Option Nat) (cap3 : Nat) (ob4 : Option Nat) (cap4 : Nat) (b2 : Nat) (b3 : Nat) (ob5 : Option Nat) (cap5 : Nat) (ob6 : Option Nat) (cap6 : Nat) (bs : List Nat) (bs2 : List Nat) : ∀ r : T_world_World, world_World_leave w c pools insts = some r → VC Tryz.prog 62 [.ptr b 0] [.box b 43 [.ptr b3 0, Z139 ob w.groups cap, Z103 ob2 w.budgets cap2, Z68 ob3 w.ms cap3, Z64 ob4 w.bs cap4, .map b2], Q139 ob cap w.groups, Q103 ob2 cap2 w.budgets, Q68 ob3 cap3 w.ms, Q64 ob4 cap4 w.bs, .map b2 (List.map (pf VV.str (VV.int .i64)) w.held), .box b3 149 [Z140 A0 A1 ob5 c.pools cap5, Z152 A0 A1 ob6 c.insts cap6, Iw c.delay, Iw c.now, Iw c.calls], Q140 A0 A1 ob5 cap5 c.pools, Q152 A0 A1 ob6 cap6 c.insts, .ar A0 144 bs (List.map T_cloud_pool.cells pools), .ar A1 157 bs2 (List.map (T_cloud_inst.cells A0 A1) insts)] fun zx zH => ∃ (ob0_1 : Option Nat) (cap0_1 : Nat) (ob0_2 : Option Nat) (cap0_2 : Nat) (ob0_3 : Option Nat) (cap0_3 : Nat) (ob0_4 : Option Nat) (cap0_4 : Nat) (b0_5 : Nat), zx = .tup [] ∧ zH = [.box b 43 [.ptr b3 0, Z139 ob0_1 r.groups cap0_1, Z103 ob0_2 r.budgets cap0_2, Z68 ob0_3 r.ms cap0_3, Z64 ob0_4 r.bs cap0_4, .map b0_5], Q139 ob0_1 cap0_1 r.groups, Q103 ob0_2 cap0_2 r.budgets, Q68 ob0_3 cap0_3 r.ms, Q64 ob0_4 cap0_4 r.bs, .map b0_5 (List.map (pf VV.str (VV.int .i64)) r.held), .box b3 149 [Z140 A0 A1 ob5 c.pools cap5, Z152 A0 A1 ob6 c.insts cap6, Iw c.delay, Iw c.now, Iw c.calls], Q140 A0 A1 ob5 cap5 c.pools, Q152 A0 A1 ob6 cap6 c.insts, .ar A0 144 bs (List.map T_cloud_pool.cells pools), .ar A1 157 bs2 (List.map (T_cloud_inst.cells A0 A1) insts)] := by
 refine Cl [] Tryz.func62 R R R fun r hm=>?_
 unfold world_World_leave at hm
 refine Ae<|Aa R R (Ai R)<|Ab R R<|Ea hm 11 R fn71 R (K75 A0 A1 _ _ _ _ _ _ _ _ _ _ _ _ _ _ _ _ _ _ _ _ _) fun r b4 hm=>Aa R R (Aj R)<|Ac<|Ag tbk [] R R<|Ae<|Ab R R<|Dc fun b5=>Aa R R (Aj R)<|Ac<|Ag tbk [] R R<|Af<|Ae<|Ad tbk [2] 4 R R<|Aa R R (Cx T_api_Machine.vv R Cv)<|Aa R R (Ai R)<|Ac<|Cc hm (fun j (gg:Option Nat × Nat × Option Nat × Nat)=>[(0,.ptr b 0),(3,Z68 gg.1 j.1 gg.2.1),(4,.map b5),(5,Z9 gg.2.2.1 j.2.2 gg.2.2.2)]) (fun j (gg:Option Nat × Nat × Option Nat × Nat)=>[Q68 gg.1 gg.2.1 j.1,Q9 gg.2.2.1 gg.2.2.2 j.2.2,.map b5 (List.map (pf VV.str (VV.int .i64)) j.2.1),.box b 43 [.ptr b3 0,Z139 ob w.groups cap,Z103 ob2 w.budgets cap2,Z68 ob3 w.ms cap3,Z64 ob4 w.bs cap4,.map b2],Q139 ob cap w.groups,Q103 ob2 cap2 w.budgets,Q68 ob3 cap3 w.ms,Q64 ob4 cap4 w.bs,.map b2 (List.map (pf VV.str (VV.int .i64)) w.held),.box b3 149 [Z140 A0 A1 ob5 c.pools cap5,Z152 A0 A1 ob6 c.insts cap6,Iw c.delay,Iw c.now,Iw c.calls],Q140 A0 A1 ob5 cap5 c.pools,Q152 A0 A1 ob6 cap6 c.insts,.ar A0 144 bs (List.map T_cloud_pool.cells pools),.ar A1 157 bs2 (List.map (T_cloud_inst.cells A0 A1) insts)]) (fun o hm=>?_) fun j=>Pq fun ob11=>Pq fun cap11=>Pq fun ob12 cap12 hm=> ?_
 ·refine Ca (fun zn (zs:List T_api_Machine × List (ByteArray × Int) × List ByteArray × Int)=>world_World_leave.l1 w r zn zs.1 zs.2.1 zs.2.2.1 zs.2.2.2) (fun zs (zg:Option Nat × Nat × Option Nat × Nat)=>[(0,.ptr b 0),(2,.map b4),(3,Z68 zg.1 zs.1 zg.2.1),(4,.map b5),(5,Z9 zg.2.2.1 zs.2.2.1 zg.2.2.2),(21,Z68 ob3 w.ms cap3),(22,Iw (w.ms.length : Int)),(23,Iw zs.2.2.2)]) (fun zs (zg:Option Nat × Nat × Option Nat × Nat)=>[Q68 zg.1 zg.2.1 zs.1,Q9 zg.2.2.1 zg.2.2.2 zs.2.2.1,.map b5 (List.map (pf VV.str (VV.int .i64)) zs.2.1),.map b4 (List.map (pf VV.str (VV.int .i64)) r),.box b 43 [.ptr b3 0,Z139 ob w.groups cap,Z103 ob2 w.budgets cap2,Z68 ob3 w.ms cap3,Z64 ob4 w.bs cap4,.map b2],Q139 ob cap w.groups,Q103 ob2 cap2 w.budgets,Q68 ob3 cap3 w.ms,Q64 ob4 cap4 w.bs,.map b2 (List.map (pf VV.str (VV.int .i64)) w.held),.box b3 149 [Z140 A0 A1 ob5 c.pools cap5,Z152 A0 A1 ob6 c.insts cap6,Iw c.delay,Iw c.now,Iw c.calls],Q140 A0 A1 ob5 cap5 c.pools,Q152 A0 A1 ob6 cap6 c.insts,.ar A0 144 bs (List.map T_cloud_pool.cells pools),.ar A1 157 bs2 (List.map (T_cloud_inst.cells A0 A1) insts)]) (([] : List T_api_Machine),([] : List (ByteArray × Int)),([] : List ByteArray),(0 : Int)) (none,0,none,0) (fun _=>R) hm (B1 (Bf 68) (B1 (Bf 9) (Ah [1,0,2,3,4,5,6,7,8,9,10,11,12,13,14] (by kernel_rfl) (by kernel_rfl)))) fun n=>Pq fun ms2=>Pq fun gone2=>Pq fun order2 v2=>Pq fun ob9=>Pq fun cap9=>Pq fun ob10 cap10 hm=> ?_
  rw [world_World_leave.l1] at hm
  refine Ag tbk [] R R<|Af<|Ao hm R (fun h10 hm=>?_) fun h10 hm=> ?_
  ·refine Al<|Af<|Aw<|Ae<|Bd hm fun x h11 hm=>Cg 7 R (gl_pos T_api_Machine.vv h11) fun b6 h12=> ?_
   subst h12
   exact Aa R R (Cm T_api_Machine.vv R R el39 h11)<|Aa R R (Ce (i:=7) (y:=T_api_Machine.vv x) R R R (gl_map _ (gl_some h11).2) ld68 R)<|Ab R R<|Au z68 fun b7=>Ab R R<|Ak (i:=0) R R R ld68 R R R<|Ac<|Af<|Ae<|Ad tbk [0] 4 R R<|C0 6 36 30 R (fun K' J=>Ad tbk [] 6 R R<|J 5 R R R) (fun h14 K' J=>Ad tbk [0] 3 R R<|Bk R R R R R (Cy 4 (kf:=VV.str) (vf:=(VV.int .i64)) (l:=r) (k:=x.Name) (z:=(0 : Int)) false mk9 B9 R R R zc3 R)<|Ad tbk [] 2 R R<|J 5 R R R)<|Ac<|Ao hm R (fun h15 hm=>Ae<|Ad tbk [0] 2 R R<|Ab R R<|A4 ap39 R R R R R fun b8=>Bd hm fun ms4 h17 hm=>Ab R R<|Bo 2 T_api_Machine.vv (l:=ms2) (l2:=[x]) ap39 R R (sT_row 0 T_api_Machine.vv el39 R R) h17 fun ob13 cap13=>Aa R R (Aj R)<|Ac<|A6<|Ba tbk [] R R<|Ap (ms4,gone2,order2,(IntKind.i64.wrap (v2 + (1 : Int)))) (ob13,cap13,ob10,cap10) hm (Ah [2,3,4,5,6,7,8,9,10,11,12,13,14,15,16] (by kernel_rfl) (by kernel_rfl))) fun h15 hm=>Al<|Ae<|Ad tbk [0] 3 R R<|Aa R R (Cy 3 (kf:=VV.str) (vf:=(VV.int .i64)) (l:=gone2) (k:=x.Name) (z:=(0 : Int)) false mk9 B9 R R R zc3 R)<|Aa R R (Br R R R)<|Ab R R<|De 3 (kf:=VV.str) (vf:=(VV.int .i64)) (l:=gone2) (k:=x.Name) (z:=(IntKind.i64.wrap (((V.mg gone2 x.Name).getD (0 : Int)) + (1 : Int)))) mk9 B9 R R R R<|Ac<|Bv<|Ad tbk [0] 3 R R<|Ab R R<|A4 ap61 R R R R R fun b9=>Bd hm fun order4 h19 hm=>Ab R R<|Bo 3 VV.str (l:=order2) (l2:=[x.Name]) ap61 R R (sT_row 0 VV.str el61 R R) h19 fun ob14 cap14=>Aa R R (Aj R)<|Ac<|Ba tbk [] R R<|Ap (ms2,(V.mp gone2 x.Name (IntKind.i64.wrap (((V.mg gone2 x.Name).getD (0 : Int)) + (1 : Int)))),order4,(IntKind.i64.wrap (v2 + (1 : Int)))) (ob9,cap9,ob14,cap14) hm (Ah [2,3,4,5,6,7,8,9,10,11,12,13,14,15,16] (by kernel_rfl) (by kernel_rfl))
  exact A6<|As (ob9,cap9,ob10,cap10) hm (Ah [0,1,2,4,5,6,7,8,9,10,11,12,13,14] (by kernel_rfl) (by kernel_rfl))
 refine Ae<|Ad tbk [] 4 R R<|Ab R R<|Ak (i:=3) R R R ld39 R R R<|Ac<|Af<|Ae<|Aa R R (Ai R)<|Aa R R (Cx VV.str R Bz)<|Aa R R (Br R R R)<|Ac<|Ao hm R (fun h22 hm=>?_) fun h22 hm=> ?_
 ·obtain rfl:=Option.some.inj hm
  exact Bq ⟨.inl R,_,.nil,[3,4,5,0,7,8,9,10,11,12,13],_,R,ob,cap,ob2,cap2,ob11,cap11,ob4,cap4,b2,R,R⟩
 refine Al<|Ag tbk [3] R R<|Ae<|Ad tbk [] 3 R R<|Ab R R<|Ak (i:=3) R R R ld40 R R R<|Ac<|Af<|Ae<|Aa R R (Ai R)<|Aa R R (Cx T_api_Bound.vv R B6)<|Aa R R (Ai R)<|Ac<|Cc hm (fun _ (gg:Option Nat × Nat)=>[(0,.ptr b 0),(5,Z9 ob12 j.2.2 cap12),(8,Z64 ob4 w.bs cap4)]) (fun w42 (gg:Option Nat × Nat)=>[Q64 gg.1 gg.2 w42.bs,Q68 ob11 cap11 w42.ms,Q9 ob12 cap12 j.2.2,.box b 43 [.ptr b3 0,Z139 ob w42.groups cap,Z103 ob2 w42.budgets cap2,Z68 ob11 w42.ms cap11,Z64 gg.1 w42.bs gg.2,.map b2],Q139 ob cap w42.groups,Q103 ob2 cap2 w42.budgets,Q68 ob3 cap3 w.ms,Q64 ob4 cap4 w.bs,.map b2 (List.map (pf VV.str (VV.int .i64)) w42.held),.box b3 149 [Z140 A0 A1 ob5 c.pools cap5,Z152 A0 A1 ob6 c.insts cap6,Iw c.delay,Iw c.now,Iw c.calls],Q140 A0 A1 ob5 cap5 c.pools,Q152 A0 A1 ob6 cap6 c.insts,.ar A0 144 bs (List.map T_cloud_pool.cells pools),.ar A1 157 bs2 (List.map (T_cloud_inst.cells A0 A1) insts)]) (fun o2 hm=>?_) fun w42=>Pq fun ob17 cap17 hm=> ?_
 ·refine Ca (fun zn (zs:T_world_World × Int)=>world_World_leave.l2 w j zn zs.1 zs.2) (fun zs (_:Option Nat × Nat)=>[(0,.ptr b 0),(4,.map b5),(5,Z9 ob12 j.2.2 cap12),(8,Z64 ob4 w.bs cap4),(66,Z64 ob4 w.bs cap4),(67,Iw (w.bs.length : Int)),(68,Iw zs.2)]) (fun zs (zg:Option Nat × Nat)=>[Q64 zg.1 zg.2 zs.1.bs,Q68 ob11 cap11 zs.1.ms,Q9 ob12 cap12 j.2.2,.map b5 (List.map (pf VV.str (VV.int .i64)) j.2.1),.box b 43 [.ptr b3 0,Z139 ob zs.1.groups cap,Z103 ob2 zs.1.budgets cap2,Z68 ob11 zs.1.ms cap11,Z64 zg.1 zs.1.bs zg.2,.map b2],Q139 ob cap zs.1.groups,Q103 ob2 cap2 zs.1.budgets,Q68 ob3 cap3 w.ms,Q64 ob4 cap4 w.bs,.map b2 (List.map (pf VV.str (VV.int .i64)) zs.1.held),.box b3 149 [Z140 A0 A1 ob5 c.pools cap5,Z152 A0 A1 ob6 c.insts cap6,Iw c.delay,Iw c.now,Iw c.calls],Q140 A0 A1 ob5 cap5 c.pools,Q152 A0 A1 ob6 cap6 c.insts,.ar A0 144 bs (List.map T_cloud_pool.cells pools),.ar A1 157 bs2 (List.map (T_cloud_inst.cells A0 A1) insts)]) ((⟨(),w.groups,w.budgets,j.1,([] : List T_api_Bound),w.held⟩ : T_world_World),(0 : Int)) (none,0) (fun _=>R) hm (B1 (Bf 64) (Ah [0,1,2,3,4,5,6,7,8,9,10,11,12,13,14] (by kernel_rfl) (by kernel_rfl))) fun n2=>Pq fun w3 v4=>Pq fun ob16 cap16 hm=> ?_
  rw [world_World_leave.l2] at hm
  refine Ag tbk [] R R<|Af<|Ao hm R (fun h27 hm=>?_) fun h27 hm=> ?_
  ·refine Al<|Af<|Aw<|Ae<|Bd hm fun x2 h28 hm=>Cg 8 R (gl_pos T_api_Bound.vv h28) fun b10 h29=> ?_
   subst h29
   refine Aa R R (Cm T_api_Bound.vv R R el40 h28)<|Aa R R (Ce (i:=8) (y:=T_api_Bound.vv x2) R R R (gl_map _ (gl_some h28).2) ld64 R)<|Ab R R<|Au z64 fun b11=>Ab R R<|Ak (i:=0) R R R ld64 R R R<|Ac<|Ae<|Ad tbk [0] 3 R R<|Aa R R (Cy 4 (kf:=VV.str) (vf:=(VV.int .i64)) (l:=j.2.1) (k:=x2.On) (z:=(0 : Int)) false mk9 B9 R R R zc3 R)<|Aa R R (Br R R R)<|Ac<|Ao hm R (fun h31 hm=>?_) fun h31 hm=> ?_
   ·refine Bu (Ax [1,5,0,2,3,4,6,7,8,9,10,11,12,13,14,15] R)<|Bi 2 mixed<|A9 tbk [0,1,2,3,5] [0] (by kernel_rfl) R R R<|?_
    refine B3 [4,6] (by kernel_rfl) ⟨?_,?_,trivial⟩
    ·exact An R R R<|B7 (B0 (i:=1) R R ld40 R)<|Am 6 (by kernel_rfl)<|An R R R<|A4 ap40 R R R R R fun b12=>Am 7 (by kernel_rfl)<|Bd hm fun l3 h33 hm=>An R R R<|Bo 1 T_api_Bound.vv (l:=w3.bs) (l2:=[x2]) ap40 R R (sT_row 0 T_api_Bound.vv el40 R R) h33 fun ob18 cap18=>A9 tbk [8,9] [] (by kernel_rfl) R R R<|Am 10 (by kernel_rfl)<|An R R R<|Ak (i:=2) R R R ld40 R R R<|A5 (by kernel_rfl)<|Ba tbk [] R R<|Ap ((⟨(),w3.groups,w3.budgets,w3.ms,l3,w3.held⟩ : T_world_World),(IntKind.i64.wrap (v4 + (1 : Int)))) (ob18,cap18) hm (Ah [1,4,5,6,2,7,8,9,10,11,12,13,14,15,16] (by kernel_rfl) (by kernel_rfl))
    ·exact An R R R<|A4 ap40 R R R R R fun b13=>Am 4 (by kernel_rfl)<|An R R R<|B7 (B0 (i:=2) R R ld40 R)<|Am 7 (by kernel_rfl)<|Bd hm fun l4 h35 hm=>An R R R<|Bo 1 T_api_Bound.vv (l:=w3.bs) (l2:=[x2]) ap40 R R (sT_row 0 T_api_Bound.vv el40 R R) h35 fun ob19 cap19=>A9 tbk [8,9] [] (by kernel_rfl) R R R<|Am 10 (by kernel_rfl)<|An R R R<|Ak (i:=2) R R R ld40 R R R<|A5 (by kernel_rfl)<|Ba tbk [] R R<|Ap ((⟨(),w3.groups,w3.budgets,w3.ms,l4,w3.held⟩ : T_world_World),(IntKind.i64.wrap (v4 + (1 : Int)))) (ob19,cap19) hm (Ah [1,4,5,6,2,7,8,9,10,11,12,13,14,15,16] (by kernel_rfl) (by kernel_rfl))
   exact Al<|Ba tbk [] R R<|Ap (w3,(IntKind.i64.wrap (v4 + (1 : Int)))) (ob16,cap16) hm (Ah [1,2,3,4,5,6,7,8,9,10,11,12,13,14,15] (by kernel_rfl) (by kernel_rfl))
  exact A6<|As (ob16,cap16) hm (Ah [0,1,2,4,5,6,7,8,9,10,11,12,13,14] (by kernel_rfl) (by kernel_rfl))
 refine Ae<|Aa R R (Ai R)<|Aa R R (Cx VV.str R Bz)<|Aa R R (Ai R)<|Ac<|Cc hm (fun _ (gg:Option Nat × Nat)=>[]) (fun x32 (gg:Option Nat × Nat)=>[Q64 gg.1 gg.2 x32.bs,Q68 ob11 cap11 x32.ms,.box b 43 [.ptr b3 0,Z139 ob x32.groups cap,Z103 ob2 x32.budgets cap2,Z68 ob11 x32.ms cap11,Z64 gg.1 x32.bs gg.2,.map b2],Q139 ob cap x32.groups,Q103 ob2 cap2 x32.budgets,Q68 ob3 cap3 w.ms,Q64 ob4 cap4 w.bs,.map b2 (List.map (pf VV.str (VV.int .i64)) x32.held),.box b3 149 [Z140 A0 A1 ob5 c.pools cap5,Z152 A0 A1 ob6 c.insts cap6,Iw c.delay,Iw c.now,Iw c.calls],Q140 A0 A1 ob5 cap5 c.pools,Q152 A0 A1 ob6 cap6 c.insts,.ar A0 144 bs (List.map T_cloud_pool.cells pools),.ar A1 157 bs2 (List.map (T_cloud_inst.cells A0 A1) insts)]) (fun o3 hm=>?_) fun x32=>Pq fun ob22 cap22 hm=> ?_
 ·refine Ca (fun zn (zs:T_world_World × Int)=>world_World_leave.l3 w j zn zs.1 zs.2) (fun zs (_:Option Nat × Nat)=>[(0,.ptr b 0),(8,Z64 ob4 w.bs cap4),(88,Z9 ob12 j.2.2 cap12),(89,Iw (j.2.2.length : Int)),(90,Iw zs.2)]) (fun zs (zg:Option Nat × Nat)=>[Q64 zg.1 zg.2 zs.1.bs,Q68 ob11 cap11 zs.1.ms,Q9 ob12 cap12 j.2.2,.box b 43 [.ptr b3 0,Z139 ob zs.1.groups cap,Z103 ob2 zs.1.budgets cap2,Z68 ob11 zs.1.ms cap11,Z64 zg.1 zs.1.bs zg.2,.map b2],Q139 ob cap zs.1.groups,Q103 ob2 cap2 zs.1.budgets,Q68 ob3 cap3 w.ms,Q64 ob4 cap4 w.bs,.map b2 (List.map (pf VV.str (VV.int .i64)) zs.1.held),.box b3 149 [Z140 A0 A1 ob5 c.pools cap5,Z152 A0 A1 ob6 c.insts cap6,Iw c.delay,Iw c.now,Iw c.calls],Q140 A0 A1 ob5 cap5 c.pools,Q152 A0 A1 ob6 cap6 c.insts,.ar A0 144 bs (List.map T_cloud_pool.cells pools),.ar A1 157 bs2 (List.map (T_cloud_inst.cells A0 A1) insts)]) (w42,(0 : Int)) (ob17,cap17) (fun _=>R) hm (Ah [0,1,2,3,4,5,6,7,8,9,10,11,12,13] (by kernel_rfl) (by kernel_rfl)) fun n3=>Pq fun w6 v6=>Pq fun ob21 cap21 hm=> ?_
  rw [world_World_leave.l3] at hm
  refine Ag tbk [] R R<|Af<|Ao hm R (fun h39 hm=>?_) fun h39 hm=> ?_
  ·refine Al<|Af<|Aw<|Ae<|Bd hm fun x4 h40 hm=>Cg 2 R (gl_pos VV.str h40) fun b14 h41=> ?_
   subst h41
   refine Aa R R (Cm VV.str R R el61 h40)<|Aa R R (Ce (i:=2) (y:=VV.str x4) R R R (gl_map _ (gl_some h40).2) ld9 R)<|Aa R R (Aj R)<|Ac<|Ae<|Ad tbk [] 2 R R<|Bd hm fun r2 h42 hm=>Ab R R<|VO.callT [64] (LS.freezeE [64] 7 [(8,L64 w.bs),(94,L64 w.bs)] R R ⟨⟨_,R,.here _ R⟩,⟨_,R,.here _ R⟩,trivial⟩ (FzH.refl _)) [.same,.same] R fn123 R (K76 w.bs x4 r2 h42) fun _ _ h55=> ?_
   obtain ⟨ob23,cap23,rfl,rfl⟩:=h55
   refine ⟨by simp [noT,noTs],by simp [noH,noTs_map no29_64],?_⟩
   refine Aa R R (Cx T_api_Pod.vv R C4)<|Aa R R (Ai R)<|Ac<|Cc hm (fun _ (gg:Option Nat × Nat)=>[(0,.ptr b 0),(8,Z64 ob4 w.bs cap4),(88,Z9 (some b14) j.2.2 cap12),(89,Iw (j.2.2.length : Int)),(90,Iw v6)]) (fun w92 (gg:Option Nat × Nat)=>[Q64 gg.1 gg.2 w92.bs,Q68 ob11 cap11 w92.ms,Q9 (some b14) cap12 j.2.2,.box b 43 [.ptr b3 0,Z139 ob w92.groups cap,Z103 ob2 w92.budgets cap2,Z68 ob11 w92.ms cap11,Z64 gg.1 w92.bs gg.2,.map b2],Q139 ob cap w92.groups,Q103 ob2 cap2 w92.budgets,Q68 ob3 cap3 w.ms,Q64 ob4 cap4 w.bs,.map b2 (List.map (pf VV.str (VV.int .i64)) w92.held),.box b3 149 [Z140 A0 A1 ob5 c.pools cap5,Z152 A0 A1 ob6 c.insts cap6,Iw c.delay,Iw c.now,Iw c.calls],Q140 A0 A1 ob5 cap5 c.pools,Q152 A0 A1 ob6 cap6 c.insts,.ar A0 144 bs (List.map T_cloud_pool.cells pools),.ar A1 157 bs2 (List.map (T_cloud_inst.cells A0 A1) insts)]) (fun o4 hm=>?_) fun w92=>Pq fun ob26 cap26 hm=> ?_
   ·refine Ca (fun zn (zs:T_world_World × Int)=>world_World_leave.l4 r2 zn zs.1 zs.2) (fun zs (_:Option Nat × Nat)=>[(0,.ptr b 0),(8,Z64 ob4 w.bs cap4),(88,Z9 (some b14) j.2.2 cap12),(89,Iw (j.2.2.length : Int)),(90,Iw v6),(96,Z29 ob23 r2 cap23),(97,Iw (r2.length : Int)),(98,Iw zs.2)]) (fun zs (zg:Option Nat × Nat)=>[Q29 ob23 cap23 r2,Q64 zg.1 zg.2 zs.1.bs,Q68 ob11 cap11 zs.1.ms,Q9 (some b14) cap12 j.2.2,.box b 43 [.ptr b3 0,Z139 ob zs.1.groups cap,Z103 ob2 zs.1.budgets cap2,Z68 ob11 zs.1.ms cap11,Z64 zg.1 zs.1.bs zg.2,.map b2],Q139 ob cap zs.1.groups,Q103 ob2 cap2 zs.1.budgets,Q68 ob3 cap3 w.ms,Q64 ob4 cap4 w.bs,.map b2 (List.map (pf VV.str (VV.int .i64)) zs.1.held),.box b3 149 [Z140 A0 A1 ob5 c.pools cap5,Z152 A0 A1 ob6 c.insts cap6,Iw c.delay,Iw c.now,Iw c.calls],Q140 A0 A1 ob5 cap5 c.pools,Q152 A0 A1 ob6 cap6 c.insts,.ar A0 144 bs (List.map T_cloud_pool.cells pools),.ar A1 157 bs2 (List.map (T_cloud_inst.cells A0 A1) insts)]) (w6,(0 : Int)) (ob21,cap21) (fun _=>R) hm (Ah [0,1,2,3,4,5,6,7,8,9,10,11,12,13,14] (by kernel_rfl) (by kernel_rfl)) fun n4=>Pq fun w8 v8=>Pq fun ob25 cap25 hm=> ?_
    rw [world_World_leave.l4] at hm
    refine Ag tbk [] R R<|Af<|Ao hm R (fun h46 hm=>?_) fun h46 hm=> ?_
    ·refine Al<|Af<|Aw<|Ae<|Bd hm fun x5 h47 hm=>Cg 0 R (gl_pos T_api_Pod.vv h47) fun b15 h48=> ?_
     subst h48
     refine Aa R R (Cm T_api_Pod.vv R R el193 h47)<|Aa R R (Ce (i:=0) (y:=T_api_Pod.vv x5) R R R (gl_map _ (gl_some h47).2) ld29 R)<|Ab R R<|Au z29 fun b16=>Ab R R<|Ak (i:=0) R R R ld29 R R R<|Ac<|Ag tbk [0] R R<|Ao hm R (fun h50 hm=>?_) fun h50 hm=> ?_
     ·refine Bu (Ax [2,5,0,1,3,4,6,7,8,9,10,11,12,13,14,15] R)<|Bi 2 mixed<|A9 tbk [0,1,2,3,5] [0] (by kernel_rfl) R R R<|Bb 6 R R R (by kernel_rfl) (Bn pl64 R R)<|?_
      refine B3 [4,7] (by kernel_rfl) ⟨?_,?_,trivial⟩
      ·exact An R R R<|B7 (B0 (i:=1) R R ld40 R)<|Am 7 (by kernel_rfl)<|An R R R<|A4 ap40 R R R R R fun b17=>Am 8 (by kernel_rfl)<|Bd hm fun l7 h52 hm=>An R R R<|Bo 1 T_api_Bound.vv (l:=w8.bs) (l2:=[(⟨x5,(⟨#[]⟩ : ByteArray)⟩ : T_api_Bound)]) ap40 R R (sT_row 0 T_api_Bound.vv el40 R R) h52 fun ob27 cap27=>A9 tbk [9,10] [] (by kernel_rfl) R R R<|Am 11 (by kernel_rfl)<|An R R R<|Ak (i:=2) R R R ld40 R R R<|A5 (by kernel_rfl)<|Ba tbk [] R R<|Ap ((⟨(),w8.groups,w8.budgets,w8.ms,l7,w8.held⟩ : T_world_World),(IntKind.i64.wrap (v8 + (1 : Int)))) (ob27,cap27) hm (Ah [4,1,5,6,2,7,8,9,10,11,12,13,14,15,16] (by kernel_rfl) (by kernel_rfl))
      ·exact An R R R<|A4 ap40 R R R R R fun b18=>Am 4 (by kernel_rfl)<|An R R R<|B7 (B0 (i:=2) R R ld40 R)<|Am 8 (by kernel_rfl)<|Bd hm fun l8 h54 hm=>An R R R<|Bo 1 T_api_Bound.vv (l:=w8.bs) (l2:=[(⟨x5,(⟨#[]⟩ : ByteArray)⟩ : T_api_Bound)]) ap40 R R (sT_row 0 T_api_Bound.vv el40 R R) h54 fun ob28 cap28=>A9 tbk [9,10] [] (by kernel_rfl) R R R<|Am 11 (by kernel_rfl)<|An R R R<|Ak (i:=2) R R R ld40 R R R<|A5 (by kernel_rfl)<|Ba tbk [] R R<|Ap ((⟨(),w8.groups,w8.budgets,w8.ms,l8,w8.held⟩ : T_world_World),(IntKind.i64.wrap (v8 + (1 : Int)))) (ob28,cap28) hm (Ah [4,1,5,6,2,7,8,9,10,11,12,13,14,15,16] (by kernel_rfl) (by kernel_rfl))
     exact Al<|Ba tbk [] R R<|Ap (w8,(IntKind.i64.wrap (v8 + (1 : Int)))) (ob25,cap25) hm (Ah [1,2,3,4,5,6,7,8,9,10,11,12,13,14,15] (by kernel_rfl) (by kernel_rfl))
    exact A6<|As (ob25,cap25) hm (Ah [1,2,3,4,5,6,7,8,9,10,11,12,13,14] (by kernel_rfl) (by kernel_rfl))
   exact Ba tbk [] R R<|Ap (w92,(IntKind.i64.wrap (v6 + (1 : Int)))) (ob26,cap26) hm (Ah [0,1,2,3,4,5,6,7,8,9,10,11,12,13] (by kernel_rfl) (by kernel_rfl))
  exact A6<|As (ob21,cap21) hm (Ah [0,1,3,4,5,6,7,8,9,10,11,12,13] (by kernel_rfl) (by kernel_rfl))
 obtain rfl:=Option.some.inj hm
 exact ⟨.inr R,_,.nil,[2,3,4,1,0,7,8,9,10,11,12],_,R,ob,cap,ob2,cap2,ob11,cap11,ob22,cap22,b2,R,R⟩

/-! trireme/sched.Order$1 -/
def sched_Order_1 (a : Int) (b : Int) (a2 : List T_api_Bound) : Option Bool :=
 (V.gl a2 a).bind fun x =>
 (V.gl a2 b).bind fun x2 =>
 some (decide (x.Pod.Rank > x2.Pod.Rank))
theorem K78 (a : Int) (b : Int) (a2 : List T_api_Bound) (b2 : Nat) : VS Tryz.prog 181 (sched_Order_1 a b a2) [Iw a, Iw b, .ptr b2 0] [.box b2 40 [L64 a2]] .bool (fun r=>[.box b2 40 [L64 a2]]) := by
 refine A8 [.tmp 5] Tryz.func181 R R R fun r hm=>?_
 unfold sched_Order_1 at hm
 exact Ag tbk [] R R<|Af<|Bi 0 mixed<|A9 tbk [0,1] [0] (by kernel_rfl) R R R<|Bd hm fun x h1 hm=>Bb 2 R R R (by kernel_rfl) (Bw T_api_Bound.vv R R el40 h1)<|A9 tbk [3,4,5,6,7] [0] (by kernel_rfl) R R R<|Bd hm fun x2 h2 hm=>Bb 8 R R R (by kernel_rfl) (Bw T_api_Bound.vv R R el40 h2)<|A9 tbk [9,10,11,12,13] [] (by kernel_rfl) R R R<|A5 (by kernel_rfl)<|Rt1 hm R [0] R R R

/-! trireme/sched.sorted -/
def sched_sorted_sched_Order_1.l1 (c : List T_api_Bound) : Nat → (List Int) → (List Int) → (List Int) → Option (List Int × List Int × List Int)
 | 0, _, _, _ => none
 | n + 1, a2, b3, out2 =>
  if ((decide ((a2.length : Int) > 0)) && (decide ((b3.length : Int) > 0))) = true then
   (V.gl b3 (0 : Int)).bind fun x =>
   (V.gl a2 (0 : Int)).bind fun x2 =>
   (sched_Order_1 x x2 c).bind fun r3 =>
   if r3 = true then
    (V.gl b3 (0 : Int)).bind fun x3 =>
    (V.ap 8 out2 [x3]).bind fun out4 =>
    (V.sl b3 (some 1) none).bind fun v4 =>
    sched_sorted_sched_Order_1.l1 c n a2 v4 out4
   else
    (V.gl a2 (0 : Int)).bind fun x4 =>
    (V.ap 8 out2 [x4]).bind fun out5 =>
    (V.sl a2 (some 1) none).bind fun v5 =>
    sched_sorted_sched_Order_1.l1 c n v5 b3 out5
  else
   some (a2, b3, out2)
def sched_sorted_sched_Order_1 : Nat → (List Int) → (List T_api_Bound) → Option (List Int)
 | 0, _, _ => none
 | nn + 1, l, c =>
  if (decide ((l.length : Int) < 2)) = true then
   some l
  else
   (V.quo (l.length : Int) (2 : Int)).bind fun v =>
   (V.sl l none (some (i64.wrap v))).bind fun v2 =>
   (V.sl l (some (i64.wrap v)) none).bind fun v3 =>
   ((sched_sorted_sched_Order_1 nn) v2 c).bind fun r =>
   ((sched_sorted_sched_Order_1 nn) v3 c).bind fun r2 =>
   (sched_sorted_sched_Order_1.l1 c FU r r2 ([] : List Int)).bind fun j =>
   (V.ap 8 j.2.2 j.1).bind fun out6 =>
   (V.ap 8 out6 j.2.1).bind fun out7 =>
   some out7
theorem K79 (nn : Nat) : ∀ (l : List Int) (c : List T_api_Bound) (b : Nat), VS Tryz.prog 180 (sched_sorted_sched_Order_1 nn l c) [L3 l, .clo (.func 181) [] [.ptr b 0]] [.box b 40 [L64 c]] (fun r=>L3 r) (fun r=>[.box b 40 [L64 c]]) := by
 induction nn with
 | zero => intro l c b; exact VS.none (by rw [sched_sorted_sched_Order_1])
 | succ nn ih =>
  intro l c b
  refine A8 [.tmp 4] Tryz.func180 R R R fun r hm=>?_
  rw [sched_sorted_sched_Order_1] at hm
  refine Ag tbk [] R R<|Af<|Ae<|Aa R R (Ai R)<|Aa R R (A7 (VV.int .i64) R Co)<|Aa R R (Br R R R)<|Ac<|Ao hm R (fun h1 hm=>Ag tbk [] R R<|Rt1 hm R [0] R R R) fun h1 hm=>Al<|Ae<|Aa R R (Ai R)<|Aa R R (A7 (VV.int .i64) R Co)<|Bd hm fun v h2 hm=>Aa R R (VP.quoT R R h2)<|Aa R R (Aj R)<|Ac<|Af<|Bi 1 mixed<|A9 tbk [0,1] [] (by kernel_rfl) R R R<|Bd hm fun v2 h3 hm=>Bb 2 R R R (by kernel_rfl) (Dv R R R el27 h3)<|A9 tbk [3,5,6] [] (by kernel_rfl) R R R<|Bd hm fun v3 h4 hm=>Bb 7 R R R (by kernel_rfl) (Dv R R R el27 h4)<|Bb 8 R R R (by kernel_rfl) (Ai R)<|Am 4 (by kernel_rfl)<|Bd hm fun r h5 hm=>An R R R<|Aq 1 R fn180 R (ih v2 c b r h5) fun _ _ h30=> ?_
  obtain ⟨rfl,rfl⟩:=h30
  refine Am 9 (by kernel_rfl)<|Bd hm fun r2 h6 hm=>An R R R<|Aq 1 R fn180 R (ih v3 c b r2 h6) fun _ _ h29=> ?_
  obtain ⟨rfl,rfl⟩:=h29
  refine A9 tbk [10,11] [] (by kernel_rfl) R R R<|A5 (by kernel_rfl)<|Ag tbk [] R R<|Dq hm (fun j (gg:Option Nat × Nat)=>[(6,L3 j.1),(7,L3 j.2.1),(8,Z3 gg.1 j.2.2 gg.2)]) (fun j (gg:Option Nat × Nat)=>[Q3 gg.1 gg.2 j.2.2,.box b 40 [L64 c]]) (fun o hm=>?_) fun j=>Pq fun ob3 cap3 hm=> ?_
  ·refine Ca (fun zn (zs:List Int × List Int × List Int)=>sched_sorted_sched_Order_1.l1 c zn zs.1 zs.2.1 zs.2.2) (fun zs (zg:Option Nat × Nat)=>[(1,.clo (.func 181) [] [.ptr b 0]),(6,L3 zs.1),(7,L3 zs.2.1),(8,Z3 zg.1 zs.2.2 zg.2)]) (fun zs (zg:Option Nat × Nat)=>[Q3 zg.1 zg.2 zs.2.2,.box b 40 [L64 c]]) (r,r2,([] : List Int)) (none,0) (fun _=>R) hm (B1 (Bf 3) (Ah [0,1] R R)) fun n=>Pq fun a2=>Pq fun b3 out2=>Pq fun ob2 cap2 hm=> ?_
   rw [sched_sorted_sched_Order_1.l1] at hm
   refine Af<|Ae<|Aa R R (Ai R)<|Aa R R (A7 (VV.int .i64) R Co)<|Ad tbk [] 2 R R<|D0 4 33 29 R (fun h11 K' J=>Bk R R R R R (Ai R)<|Bk R R R R R (A7 (VV.int .i64) R Co)<|Ad tbk [] 2 R R<|J 3 R R R) (fun K' J=>Ad tbk [] 4 R R<|J 3 R R R)<|Ac<|Ao hm R (fun h12 hm=>?_) fun h12 hm=> ?_
   ·refine Al<|Aw<|Af<|Bu (Ax [1,0] R)<|Bi 1 mixed<|A9 tbk [0,1] [] (by kernel_rfl) R R R<|Bd hm fun x h13 hm=>Bb 2 R R R (by kernel_rfl) (Bw (VV.int .i64) R R el27 h13)<|A9 tbk [3,4] [] (by kernel_rfl) R R R<|Bd hm fun x2 h14 hm=>Bb 5 R R R (by kernel_rfl) (Bw (VV.int .i64) R R el27 h14)<|Bb 6 R R R (by kernel_rfl) (Bt R ld3 R)<|Am 7 (by kernel_rfl)<|Bd hm fun r3 h15 hm=>An R R R<|Aq 1 R fn181 R (K78 x x2 c b r3 h15) fun _ _ h25=> ?_
    obtain ⟨rfl,rfl⟩:=h25
    exact A5 (by kernel_rfl)<|Ao hm R (fun h16 hm=>Ae<|Ad tbk [] 2 R R<|Bd hm fun x3 h17 hm=>Aa R R (Bw (VV.int .i64) R R el27 h17)<|Aa R R (Bt R ld3 R)<|Ab R R<|A4 ap27 R R R R R fun b5=>Bd hm fun out4 h19 hm=>Ab R R<|Bo 2 (VV.int .i64) (l:=out2) (l2:=[x3]) ap27 R R (sT_row 0 (VV.int .i64) el27 R R) h19 fun ob4 cap4=>Aa R R (Aj R)<|Ac<|Bv<|Aa R R (Ai R)<|Bd hm fun v4 h20 hm=>Aa R R (Dv R R R el27 h20)<|Aa R R (Aj R)<|Ac<|Ap (a2,v4,out4) (ob4,cap4) hm (Ah [2,1] R R)) fun h16 hm=>Ae<|Ad tbk [] 2 R R<|Bd hm fun x4 h21 hm=>Aa R R (Bw (VV.int .i64) R R el27 h21)<|Aa R R (Bt R ld3 R)<|Ab R R<|A4 ap27 R R R R R fun b6=>Bd hm fun out5 h23 hm=>Ab R R<|Bo 2 (VV.int .i64) (l:=out2) (l2:=[x4]) ap27 R R (sT_row 0 (VV.int .i64) el27 R R) h23 fun ob5 cap5=>Aa R R (Aj R)<|Ac<|Bv<|Aa R R (Ai R)<|Bd hm fun v5 h24 hm=>Aa R R (Dv R R R el27 h24)<|Aa R R (Aj R)<|Ac<|Ap (v5,b3,out5) (ob5,cap5) hm (Ah [2,1] R R)
   exact A6<|As (ob2,cap2) hm (Ah [0,1] R R)
  exact Ae<|Ad tbk [] 2 R R<|Bd hm fun out6 h27 hm=>Ab R R<|Bo 0 (VV.int .i64) (l:=j.2.2) (l2:=j.1) ap27 R R (sT_list (VV.int .i64) el27 R R) h27 fun ob6 cap6=>Aa R R (Aj R)<|Ac<|Ae<|Ad tbk [] 2 R R<|Bd hm fun out7 h28 hm=>Ab R R<|Bo 0 (VV.int .i64) (l:=out6) (l2:=j.2.1) ap27 R R (sT_list (VV.int .i64) el27 R R) h28 fun ob7 cap7=>Aa R R (Aj R)<|Ac<|Bu (Az 0 [(63,L3 out7),(4,L3 out7)] R ⟨⟨_,R,.here _ R⟩,⟨_,R,.here _ R⟩,trivial⟩ (FzH.refl _))<|Rt1 hm R [0] R R R

/-! trireme/sched.Order -/
def sched_Order.l1 : List T_api_Bound → Nat → (List Int) → Option (List Int)
 | [], k, l2 => some l2
 | x :: l4, k, l2 =>
  if (V.seq x.On (⟨#[]⟩ : ByteArray)) = true then
   (V.ap 8 l2 [(k : Int)]).bind fun l5 =>
   sched_Order.l1 l4 (k + 1) l5
  else
   sched_Order.l1 l4 (k + 1) l2
def sched_Order (bs : List T_api_Bound) : Option (List Int) :=
 (sched_Order.l1 bs 0 ([] : List Int)).bind fun l32 =>
 (sched_sorted_sched_Order_1 FU l32 bs).bind fun r =>
 some r
theorem K80 (bs : List T_api_Bound) : VS Tryz.prog 127 (sched_Order bs) [L64 bs] [] (fun r=>L3 r) N0 := by
 refine A8 [.tmp 2] Tryz.func127 R R R fun r hm=>?_
 unfold sched_Order at hm
 refine Ae<|Ab R R<|Bg R R fun b=>Aa R R (Aj R)<|Ac<|Ag tbk [] R R<|Af<|Ae<|Ad tbk [0] 1 R R<|Aa R R (A7 T_api_Bound.vv R B6)<|Aa R R (Ai R)<|Ac<|B4 6 R fun h6=>Cc hm (fun l32 (gg:Option Nat × Nat)=>[(1,.ptr b 0),(3,Z3 gg.1 l32 gg.2)]) (fun l32 (gg:Option Nat × Nat)=>[Q3 gg.1 gg.2 l32,.box b 40 [L64 bs]]) (fun o hm=>?_) fun l32=>Pq fun ob3 cap3 hm=> ?_
 ·refine Cf (bs) (fun zl zk (zs:List Int)=>sched_Order.l1 zl zk zs) (fun k zs (zg:Option Nat × Nat)=>[(1,.ptr b 0),(3,Z3 zg.1 zs zg.2),(6,L64 bs),(7,Iw (bs.length : Int)),(8,Iw (k : Int))]) (fun _ zs (zg:Option Nat × Nat)=>[Q3 zg.1 zg.2 zs,.box b 40 [L64 bs]]) _ (none,0) hm (B1 (Bf 3) (Ah [0,1] R R)) (fun k l2=>Pq fun ob2 cap2 hk hm=>?_) fun k x l4 l2=>Pq fun ob2 cap2 h7 hm=> ?_
  ·rw [sched_Order.l1] at hm
   exact Ag tbk [] R R<|Af<|Bm R (k_end hk)<|A6<|As (ob2,cap2) hm (Ah [0,1] R R)
  rw [sched_Order.l1] at hm
  exact Ag tbk [] R R<|Af<|Bl R (k_lt h7)<|Al<|Af<|Aw<|Ae<|Aa R R (Ai R)<|Aa R R (B8 T_api_Bound.vv R R el40 h7)<|Aa R R (Bt R ld64 R)<|Ab R R<|Au z64 fun b2=>Aa R R (Aj R)<|Ab R R<|Ak (i:=0) R R R ld64 R R R<|Ac<|Ag tbk [0] R R<|Ao hm R (fun h9 hm=>Bv<|Ad tbk [] 2 R R<|Ab R R<|A4 ap27 R R R R R fun b3=>Bd hm fun l5 h11 hm=>Ab R R<|Bo 2 (VV.int .i64) (l:=l2) (l2:=[(k : Int)]) ap27 R R (sT_row 0 (VV.int .i64) el27 R R) h11 fun ob4 cap4=>Aa R R (Aj R)<|Ac<|Ba tbk [] R R<|Ap _ (ob4,cap4) hm (Be [2,3] R ⟨R,R,R,R,congrArg some (k_next h7 h6),trivial⟩)) fun h9 hm=>Al<|Ba tbk [] R R<|Ap _ (ob2,cap2) hm (Be [1,2] R ⟨R,R,R,R,congrArg some (k_next h7 h6),trivial⟩)
 exact Ae<|Aa R R (Ai R)<|Aa R R (Ct R R)<|Av (Az 0 [(3,L3 l32),(21,L3 l32)] R ⟨⟨_,R,.here _ R⟩,⟨_,R,.here _ R⟩,trivial⟩ (FzH.refl _))<|Ab R R<|Ay hm 1 R fn180 R (K79 FU _ _ _) fun r hm=>Aa R R (Aj R)<|Ac<|Rt1 hm R [] R R R

/-! trireme/labels.at -/
def labels_at.l1 (key : ByteArray) : List T_api_Label → Nat → Option (Out (Int × Bool) Unit)
 | [], k => some (Out.go ())
 | x :: l2, k =>
  if (!(V.slt x.Key key)) = true then
   some (Out.ret ((k : Int), (V.seq x.Key key)))
  else
   labels_at.l1 key l2 (k + 1)
def labels_at (l : List T_api_Label) (key : ByteArray) : Option (Int × Bool) :=
 (labels_at.l1 key l 0).bind fun o =>
 o.on fun j =>
 some ((l.length : Int), false)
theorem K81 (l : List T_api_Label) (key : ByteArray) : VS Tryz.prog 240 (labels_at l key) [L232 l, .str key] [] (fun r=>.tup [Iw r.1, .bool r.2]) N0 := by
 refine A8 [.tmp 4,.tmp 5] Tryz.func240 R R R fun r hm=>?_
 unfold labels_at at hm
 refine Ag tbk [] R R<|Af<|Ae<|Aa R R (Ai R)<|Aa R R (A7 T_api_Label.vv R Cd)<|Aa R R (Ai R)<|Ac<|B4 0 R fun h3=>B5 hm (fun _ (_:Unit)=>[(0,L232 l)]) (fun _ (_:Unit)=>[]) (fun o hm h2=>?_) fun j _ hm=> ?_
 ·refine Cf (l) (fun zl zk (zs:Unit)=>labels_at.l1 key zl zk) (fun k _ (_:Unit)=>[(0,L232 l),(1,.str key),(8,L232 l),(9,Iw (l.length : Int)),(10,Iw (k : Int))]) (fun _ _ (_:Unit)=>[]) () () hm (Ah [] R R) (fun k _ _ hk hm=>?_) fun k x l2 _ _ h4 hm=> ?_
  ·rw [labels_at.l1] at hm
   exact Ag tbk [] R R<|Af<|Bm R (k_end hk)<|A6<|Ar () hm (Ah [] R R)
  rw [labels_at.l1] at hm
  exact Ag tbk [] R R<|Af<|Bl R (k_lt h4)<|Al<|Af<|Aw<|Ae<|Aa R R (Ai R)<|Aa R R (B8 T_api_Label.vv R R el24 h4)<|Aa R R (Bt R ld232 R)<|Ab R R<|Au z232 fun b=>Aa R R (Aj R)<|Ab R R<|Ak (i:=0) R R R ld232 R R R<|Ac<|Ag tbk [0] R R<|Ao hm R (fun h6 hm=>Af<|Bi 0 mixed<|A9 tbk [0,1,2,3,4,5,6] [0] (by kernel_rfl) R R R<|A5 (by kernel_rfl)<|have hm:=Lr hm h2;Rt2 hm R [] R R R R) fun h6 hm=>Al<|Ba tbk [] R R<|Ap () () hm (Be [] R ⟨R,R,R,R,congrArg some (k_next h4 h3),trivial⟩)
 exact Ae<|Aa R R (Ai R)<|Aa R R (A7 T_api_Label.vv R Cd)<|Ad tbk [] 2 R R<|Ac<|Rt2 hm R [] R R R R

/-! trireme/labels.Get -/
def labels_Get (l : List T_api_Label) (key : ByteArray) : Option (ByteArray × Bool) :=
 (labels_at l key).bind fun r =>
 if (!r.2) = true then
  some ((⟨#[]⟩ : ByteArray), false)
 else
  (V.gl l r.1).bind fun x =>
  some (x.Val, true)
theorem K82 (l : List T_api_Label) (key : ByteArray) : VS Tryz.prog 224 (labels_Get l key) [L232 l, .str key] [] (fun r=>.tup [.str r.1, .bool r.2]) N0 := by
 refine A8 [.tmp 4,.tmp 5] Tryz.func224 R R R fun r hm=>?_
 unfold labels_Get at hm
 exact Ag tbk [] R R<|Ae<|Ad tbk [] 2 R R<|Ab R R<|Ay hm 0 R fn240 R (K81 _ _) fun r hm=>Ad tbk [] 5 R R<|Ac<|Af<|Ag tbk [] R R<|Ao hm R (fun h2 hm=>Ag tbk [] R R<|Rt2 hm R [] R R R R) fun h2 hm=>Al<|Ae<|Ad tbk [] 2 R R<|Bd hm fun x h3 hm=>Aa R R (Bw T_api_Label.vv R R el24 h3)<|Ad tbk [] 4 R R<|Ac<|Rt2 hm R [] R R R R

/-! trireme/labels.Has -/
def labels_Has.l1 (l : List T_api_Label) : List T_api_Label → Nat → Option (Out Bool Unit)
 | [], k => some (Out.go ())
 | x :: l2, k =>
  (labels_Get l x.Key).bind fun r =>
  if ((!r.2) || (!(V.seq r.1 x.Val))) = true then
   some (Out.ret false)
  else
   labels_Has.l1 l l2 (k + 1)
def labels_Has (l : List T_api_Label) (some_ : List T_api_Label) : Option Bool :=
 (labels_Has.l1 l some_ 0).bind fun o =>
 o.on fun j =>
 some true
theorem K83 (l : List T_api_Label) (some_ : List T_api_Label) : VS Tryz.prog 191 (labels_Has l some_) [L232 l, L232 some_] [] .bool N0 := by
 refine A8 [.tmp 4] Tryz.func191 R R R fun r hm=>?_
 unfold labels_Has at hm
 refine Ag tbk [] R R<|Af<|Ae<|Aa R R (Ai R)<|Aa R R (A7 T_api_Label.vv R Cd)<|Aa R R (Ai R)<|Ac<|B4 9 R fun h3=>B5 hm (fun _ (_:Unit)=>[]) (fun _ (_:Unit)=>[]) (fun o hm h2=>?_) fun j _ hm=> ?_
 ·refine Cf (some_) (fun zl zk (zs:Unit)=>labels_Has.l1 l zl zk) (fun k _ (_:Unit)=>[(0,L232 l),(9,L232 some_),(10,Iw (some_.length : Int)),(11,Iw (k : Int))]) (fun _ _ (_:Unit)=>[]) () () hm (Ah [] R R) (fun k _ _ hk hm=>?_) fun k x l2 _ _ h4 hm=> ?_
  ·rw [labels_Has.l1] at hm
   exact Ag tbk [] R R<|Af<|Bm R (k_end hk)<|A6<|Ar () hm (Ah [] R R)
  rw [labels_Has.l1] at hm
  exact Ag tbk [] R R<|Af<|Bl R (k_lt h4)<|Al<|Af<|Aw<|Ae<|Aa R R (B8 T_api_Label.vv R R el24 h4)<|Aa R R (Bt R ld232 R)<|Ab R R<|Au z232 fun b=>Ab R R<|Ak (i:=0) R R R ld232 R R R<|Ac<|Ae<|Ad tbk [0] 3 R R<|Ab R R<|Ay hm 0 R fn224 R (K82 _ _) fun r hm=>Ad tbk [] 5 R R<|Ac<|Ae<|Ad tbk [] 3 R R<|Cq tbk [0] 5 29 24 R R R R R<|Ac<|Ao hm R (fun h8 hm=>Ag tbk [] R R<|have hm:=Lr hm h2;Rt1 hm R [] R R R) fun h8 hm=>Al<|Ba tbk [] R R<|Ap () () hm (Be [] R ⟨R,R,R,congrArg some (k_next h4 h3),trivial⟩)
 exact Ag tbk [] R R<|Rt1 hm R [] R R R

/-! trireme/labels.among -/
def labels_among.l1 (s : ByteArray) : List ByteArray → Nat → Option (Out Bool Unit)
 | [], k => some (Out.go ())
 | x :: l2, k =>
  if (V.seq x s) = true then
   some (Out.ret true)
  else
   labels_among.l1 s l2 (k + 1)
def labels_among (l : List ByteArray) (s : ByteArray) : Option Bool :=
 (labels_among.l1 s l 0).bind fun o =>
 o.on fun j =>
 some false
theorem K84 (l : List ByteArray) (s : ByteArray) : VS Tryz.prog 290 (labels_among l s) [L9 l, .str s] [] .bool N0 := by
 refine A8 [.tmp 4] Tryz.func290 R R R fun r hm=>?_
 unfold labels_among at hm
 refine Ag tbk [] R R<|Af<|Ae<|Aa R R (Ai R)<|Aa R R (A7 VV.str R Bz)<|Aa R R (Ai R)<|Ac<|B4 7 R fun h3=>B5 hm (fun _ (_:Unit)=>[]) (fun _ (_:Unit)=>[]) (fun o hm h2=>?_) fun j _ hm=> ?_
 ·refine Cf (l) (fun zl zk (zs:Unit)=>labels_among.l1 s zl zk) (fun k _ (_:Unit)=>[(1,.str s),(7,L9 l),(8,Iw (l.length : Int)),(9,Iw (k : Int))]) (fun _ _ (_:Unit)=>[]) () () hm (Ah [] R R) (fun k _ _ hk hm=>?_) fun k x l2 _ _ h4 hm=> ?_
  ·rw [labels_among.l1] at hm
   exact Ag tbk [] R R<|Af<|Bm R (k_end hk)<|A6<|Ar () hm (Ah [] R R)
  rw [labels_among.l1] at hm
  exact Ag tbk [] R R<|Af<|Bl R (k_lt h4)<|Al<|Af<|Aw<|Ae<|Aa R R (B8 VV.str R R el61 h4)<|Ad tbk [] 2 R R<|Ac<|Ag tbk [] R R<|Ao hm R (fun h5 hm=>Ag tbk [] R R<|have hm:=Lr hm h2;Rt1 hm R [] R R R) fun h5 hm=>Al<|Ba tbk [] R R<|Ap () () hm (Be [] R ⟨R,R,R,congrArg some (k_next h4 h3),trivial⟩)
 exact Ag tbk [] R R<|Rt1 hm R [] R R R

/-! trireme/labels.Meets -/
def labels_Meets (l : List T_api_Label) (t : T_api_Term) : Option Bool :=
 (labels_Get l t.Key).bind fun r =>
 if (t.Op == 1) = true then
  (if r.2 = true then (labels_among t.Vals r.1).bind fun r2 =>
  some r2 else some false).bind fun c =>
  some c
 else
  if (t.Op == 2) = true then
   (if (!r.2) = true then some true else (labels_among t.Vals r.1).bind fun r3 =>
   some (!r3)).bind fun c2 =>
   some c2
  else
   if (t.Op == 3) = true then
    some r.2
   else
    if (t.Op == 4) = true then
     some (!r.2)
    else
     if ((!r.2) || ((t.Vals.length : Int) != 1)) = true then
      some false
     else
      (labels_number r.1).bind fun r4 =>
      (V.gl t.Vals (0 : Int)).bind fun x =>
      (labels_number x).bind fun r5 =>
      if (t.Op == 6) = true then
       some (r4.2 && (decide (r5.1 > r4.1)))
      else
       some (r4.2 && (decide (r4.1 > r5.1)))
theorem K85 (l : List T_api_Label) (t : T_api_Term) : VS Tryz.prog 275 (labels_Meets l t) [L232 l, T_api_Term.vv t] [] .bool N0 := by
 refine A8 [.tmp 4] Tryz.func275 R R R fun r hm=>?_
 unfold labels_Meets at hm
 exact Ae<|Ab R R<|Bg R R fun b=>Aa R R (Aj R)<|Ac<|Ae<|Ad tbk [0] 3 R R<|Ab R R<|Ay hm 0 R fn224 R (K82 _ _) fun r hm=>Ad tbk [] 5 R R<|Ac<|Af<|Ag tbk [0] R R<|Aw<|Ag tbk [] R R<|Ao hm R (fun h3 hm=>Ae<|Ad tbk [] 2 R R<|Bx hm 5 28 23 R (fun _ K' h4 J hm=>Ad tbk [0] 3 R R<|Bh R R R R R<|Ay hm 0 R fn290 R (K84 _ _) fun r2 hm=>Aa R R (Bs true R R R)<|J 4 R R (Bj hm)) (fun _ K' h4 J hm=>Ad tbk [] 5 R R<|J 4 R R (Bj hm)) fun c hm=>Aa R R (Aj R)<|Ac<|Rt1 hm R [] R R R) fun h3 hm=>Ag tbk [] R R<|Ao hm R (fun h7 hm=>Ae<|Ad tbk [] 3 R R<|Bx hm 6 39 33 R (fun _ K' h8 J hm=>Ad tbk [] 6 R R<|J 5 R R (Bj hm)) (fun _ K' h8 J hm=>Ad tbk [0] 3 R R<|Bh R R R R R<|Ay hm 0 R fn290 R (K84 _ _) fun r3 hm=>Ad tbk [] 2 R R<|J 5 R R (Bj hm)) fun c2 hm=>Aa R R (Aj R)<|Ac<|Rt1 hm R [] R R R) fun h7 hm=>Ag tbk [] R R<|Ao hm R (fun h11 hm=>Ag tbk [] R R<|Rt1 hm R [] R R R) fun h11 hm=>Ag tbk [] R R<|Ao hm R (fun h12 hm=>Ag tbk [] R R<|Rt1 hm R [] R R R) fun h12 hm=>Al<|Af<|Ae<|Ad tbk [] 3 R R<|C0 5 54 49 R (fun K' J=>Ad tbk [] 5 R R<|J 4 R R R) (fun h13 K' J=>Ad tbk [0] 2 R R<|Bk R R R R R (A7 VV.str R Bz)<|Ad tbk [] 2 R R<|J 4 R R R)<|Ac<|Ao hm R (fun h14 hm=>Ag tbk [] R R<|Rt1 hm R [] R R R) fun h14 hm=>Al<|Ae<|Aa R R (Ai R)<|Ab R R<|Ay hm 0 R fn186 R (K58 _) fun r4 hm=>Ad tbk [] 5 R R<|Ac<|Ae<|Ad tbk [0] 2 R R<|Bd hm fun x h16 hm=>Aa R R (Bw VV.str R R el61 h16)<|Aa R R (Bt R ld9 R)<|Ab R R<|Ay hm 0 R fn186 R (K58 _) fun r5 hm=>Ad tbk [] 5 R R<|Ac<|Af<|Ag tbk [0] R R<|Ao hm R (fun h18 hm=>Ba tbk [] R R<|Ae<|Ad tbk [] 2 R R<|Cu tbk [] 4 78 74 R R R R R<|Aa R R (Aj R)<|Ac<|Rt1 hm R [] R R R) fun h18 hm=>Al<|Ae<|Ad tbk [] 2 R R<|Cu tbk [] 4 78 74 R R R R R<|Aa R R (Aj R)<|Ac<|Rt1 hm R [] R R R

/-! trireme/labels.All -/
def labels_All.l1 (l : List T_api_Label) : List T_api_Term → Nat → Option (Out Bool Unit)
 | [], k => some (Out.go ())
 | x :: l2, k =>
  (labels_Meets l x).bind fun r =>
  if (!r) = true then
   some (Out.ret false)
  else
   labels_All.l1 l l2 (k + 1)
def labels_All (l : List T_api_Label) (terms : List T_api_Term) : Option Bool :=
 (labels_All.l1 l terms 0).bind fun o =>
 o.on fun j =>
 some true
theorem K86 (l : List T_api_Label) (terms : List T_api_Term) : VS Tryz.prog 258 (labels_All l terms) [L232 l, L189 terms] [] .bool N0 := by
 refine A8 [.tmp 4] Tryz.func258 R R R fun r hm=>?_
 unfold labels_All at hm
 refine Ag tbk [] R R<|Af<|Ae<|Aa R R (Ai R)<|Aa R R (A7 T_api_Term.vv R C6)<|Aa R R (Ai R)<|Ac<|B4 7 R fun h3=>B5 hm (fun _ (_:Unit)=>[]) (fun _ (_:Unit)=>[]) (fun o hm h2=>?_) fun j _ hm=> ?_
 ·refine Cf (terms) (fun zl zk (zs:Unit)=>labels_All.l1 l zl zk) (fun k _ (_:Unit)=>[(0,L232 l),(7,L189 terms),(8,Iw (terms.length : Int)),(9,Iw (k : Int))]) (fun _ _ (_:Unit)=>[]) () () hm (Ah [] R R) (fun k _ _ hk hm=>?_) fun k x l2 _ _ h4 hm=> ?_
  ·rw [labels_All.l1] at hm
   exact Ag tbk [] R R<|Af<|Bm R (k_end hk)<|A6<|Ar () hm (Ah [] R R)
  rw [labels_All.l1] at hm
  exact Ag tbk [] R R<|Af<|Bl R (k_lt h4)<|Al<|Af<|Aw<|Ae<|Aa R R (B8 T_api_Term.vv R R el25 h4)<|Aa R R (Bt R ld189 R)<|Ab R R<|Au z189 fun b=>Ab R R<|Ak (i:=0) R R R ld189 R R R<|Ac<|Ae<|Ad tbk [0] 2 R R<|Ab R R<|Ay hm 0 R fn275 R (K85 _ _) fun r hm=>Aa R R (Cp R)<|Ac<|Ao hm R (fun h7 hm=>Ag tbk [] R R<|have hm:=Lr hm h2;Rt1 hm R [] R R R) fun h7 hm=>Al<|Ba tbk [] R R<|Ap () () hm (Be [] R ⟨R,R,R,congrArg some (k_next h4 h3),trivial⟩)
 exact Ag tbk [] R R<|Rt1 hm R [] R R R

/-! trireme/taints.of -/
def taints_of (x : T_api_Taint) (effect : Int) : Option Bool :=
 some ((effect == 0) || (x.Effect == effect))
theorem K87 (x : T_api_Taint) (effect : Int) : VS Tryz.prog 145 (taints_of x effect) [T_api_Taint.vv x, Iw effect] [] .bool N0 := by
 refine A8 [.tmp 4] Tryz.func145 R R R fun r hm=>?_
 unfold taints_of at hm
 exact Ae<|Ab R R<|Bg R R fun b=>Aa R R (Aj R)<|Ac<|Ae<|Ad tbk [] 3 R R<|Cq tbk [0] 5 12 7 R R R R R<|Aa R R (Aj R)<|Ac<|Rt1 hm R [] R R R

/-! trireme/taints.Bears -/
def taints_Bears (t : T_api_Toleration) (x : T_api_Taint) : Option Bool :=
 if ((t.Effect != 0) && (t.Effect != x.Effect)) = true then
  some false
 else
  if ((!(V.seq t.Key (⟨#[]⟩ : ByteArray))) && (!(V.seq t.Key x.Key))) = true then
   some false
  else
   some (t.Any || (V.seq t.Val x.Val))
theorem K88 (t : T_api_Toleration) (x : T_api_Taint) : VS Tryz.prog 281 (taints_Bears t x) [T_api_Toleration.vv t, T_api_Taint.vv x] [] .bool N0 := by
 refine A8 [.tmp 4] Tryz.func281 R R R fun r hm=>?_
 unfold taints_Bears at hm
 exact Ae<|Ab R R<|Bg R R fun b=>Ab R R<|Bg R R fun b2=>Aa R R (Aj R)<|Ac<|Af<|Aw<|Ae<|Ad tbk [1] 4 R R<|Cu tbk [1,0] 6 15 9 R R R R R<|Aa R R (Aj R)<|Ac<|Ao hm R (fun h4 hm=>Ag tbk [] R R<|Rt1 hm R [] R R R) fun h4 hm=>Ae<|Ad tbk [1] 4 R R<|Cu tbk [1,0] 6 26 20 R R R R R<|Aa R R (Aj R)<|Ac<|Ao hm R (fun h6 hm=>Ag tbk [] R R<|Rt1 hm R [] R R R) fun h6 hm=>Al<|Ae<|Ad tbk [1] 3 R R<|Cq tbk [1,0] 6 35 29 R R R R R<|Aa R R (Aj R)<|Ac<|Rt1 hm R [] R R R

/-! trireme/taints.borne -/
def taints_borne.l1 (x : T_api_Taint) : List T_api_Toleration → Nat → Option (Out Bool Unit)
 | [], k => some (Out.go ())
 | x2 :: l2, k =>
  (taints_Bears x2 x).bind fun r =>
  if r = true then
   some (Out.ret true)
  else
   taints_borne.l1 x l2 (k + 1)
def taints_borne (l : List T_api_Toleration) (x : T_api_Taint) : Option Bool :=
 (taints_borne.l1 x l 0).bind fun o =>
 o.on fun j =>
 some false
theorem K89 (l : List T_api_Toleration) (x : T_api_Taint) : VS Tryz.prog 269 (taints_borne l x) [L191 l, T_api_Taint.vv x] [] .bool N0 := by
 refine A8 [.tmp 4] Tryz.func269 R R R fun r hm=>?_
 unfold taints_borne at hm
 refine Ae<|Ab R R<|Bg R R fun b=>Aa R R (Aj R)<|Ac<|Af<|Ae<|Aa R R (Ai R)<|Aa R R (A7 T_api_Toleration.vv R Db)<|Aa R R (Ai R)<|Ac<|B4 7 R fun h4=>B5 hm (fun _ (_:Unit)=>[]) (fun _ (_:Unit)=>[]) (fun o hm h3=>?_) fun j _ hm=> ?_
 ·refine Cf (l) (fun zl zk (zs:Unit)=>taints_borne.l1 x zl zk) (fun k _ (_:Unit)=>[(3,.ptr b 0),(7,L191 l),(8,Iw (l.length : Int)),(9,Iw (k : Int))]) (fun _ _ (_:Unit)=>[X31 b x]) () () hm (Ah [0] R R) (fun k _ _ hk hm=>?_) fun k x2 l2 _ _ h5 hm=> ?_
  ·rw [taints_borne.l1] at hm
   exact Ag tbk [] R R<|Af<|Bm R (k_end hk)<|A6<|Ar () hm (Ah [] R R)
  rw [taints_borne.l1] at hm
  exact Ag tbk [] R R<|Af<|Bl R (k_lt h5)<|Al<|Af<|Aw<|Ae<|Aa R R (B8 T_api_Toleration.vv R R el26 h5)<|Aa R R (Bt R ld191 R)<|Ab R R<|Au z191 fun b2=>Ab R R<|Ak (i:=0) R R R ld191 R R R<|Ac<|Ae<|Ad tbk [0,1] 2 R R<|Ab R R<|Ay hm 0 R fn281 R (K88 _ _) fun r hm=>Ac<|Ao hm R (fun h8 hm=>Ag tbk [] R R<|have hm:=Lr hm h3;Rt1 hm R [] R R R) fun h8 hm=>Al<|Ba tbk [] R R<|Ap () () hm (Be [1] R ⟨R,R,R,congrArg some (k_next h5 h4),trivial⟩)
 exact Ag tbk [] R R<|Rt1 hm R [] R R R

/-! trireme/taints.Unborne$1 -/
def taints_Unborne_1 (x : T_api_Taint) (a : Int) (a2 : List T_api_Toleration) : Option Bool :=
 (taints_of x a).bind fun r =>
 (if r = true then (taints_borne a2 x).bind fun r2 =>
 some (!r2) else some false).bind fun c =>
 some c
theorem K90 (x : T_api_Taint) (a : Int) (a2 : List T_api_Toleration) (b : Nat) (b2 : Nat) : VS Tryz.prog 268 (taints_Unborne_1 x a a2) [T_api_Taint.vv x, .ptr b 0, .ptr b2 0] [.box b 3 [Iw a], .box b2 26 [L191 a2]] .bool (fun r=>[.box b 3 [Iw a], .box b2 26 [L191 a2]]) := by
 refine A8 [.tmp 4] Tryz.func268 R R R fun r hm=>?_
 unfold taints_Unborne_1 at hm
 exact Ae<|Ab R R<|Bg R R fun b3=>Aa R R (Aj R)<|Ac<|Ae<|Ad tbk [0,1] 2 R R<|Ab R R<|Ay hm 0 R fn145 R (K87 _ _) fun r hm=>Aa R R (Ai R)<|Bx hm 5 13 8 R (fun _ K' h3 J hm=>Ad tbk [2,0] 2 R R<|Bh R R R R R<|Ay hm 0 R fn269 R (K89 _ _) fun r2 hm=>Ad tbk [] 2 R R<|J 4 R R (Bj hm)) (fun _ K' h3 J hm=>Ad tbk [] 5 R R<|J 4 R R (Bj hm)) fun c hm=>Aa R R (Aj R)<|Ac<|Rt1 hm R [1,2] R R R

/-! trireme/taints.some -/
def taints_some_taints_Unborne_1.l1 (c : Int) (c2 : List T_api_Toleration) : List T_api_Taint → Nat → (List T_api_Taint) → Option (List T_api_Taint)
 | [], k, out2 => some out2
 | x :: l2, k, out2 =>
  (taints_Unborne_1 x c c2).bind fun r =>
  if r = true then
   (V.ap 40 out2 [x]).bind fun out4 =>
   taints_some_taints_Unborne_1.l1 c c2 l2 (k + 1) out4
  else
   taints_some_taints_Unborne_1.l1 c c2 l2 (k + 1) out2
def taints_some_taints_Unborne_1 (l : List T_api_Taint) (c : Int) (c2 : List T_api_Toleration) : Option (List T_api_Taint) :=
 (taints_some_taints_Unborne_1.l1 c c2 l 0 ([] : List T_api_Taint)).bind fun out32 =>
 some out32
theorem K91 (l : List T_api_Taint) (c : Int) (c2 : List T_api_Toleration) (b : Nat) (b2 : Nat) : VS2 Tryz.prog 139 (taints_some_taints_Unborne_1 l c c2) [L31 l, .clo (.func 268) [] [.ptr b 0, .ptr b2 0]] [.box b 3 [Iw c], .box b2 26 [L191 c2]] (fun r ob0 cap0=>Z31 ob0 r cap0) (fun r ob0 cap0=>[Q31 ob0 cap0 r, .box b 3 [Iw c], .box b2 26 [L191 c2]]) := by
 refine Cz [.tmp 4] D6 R R R fun r hm=>?_
 unfold taints_some_taints_Unborne_1 at hm
 refine Ag tbk [] R R<|Ag tbk [] R R<|Af<|Ae<|Aa R R (Ai R)<|Aa R R (A7 T_api_Taint.vv R Ch)<|Aa R R (Ai R)<|Ac<|B4 8 R fun h5=>Cc hm (fun out32 (gg:Option Nat × Nat)=>[(5,Z31 gg.1 out32 gg.2)]) (fun out32 (gg:Option Nat × Nat)=>[Q31 gg.1 gg.2 out32,.box b 3 [Iw c],.box b2 26 [L191 c2]]) (fun o hm=>?_) fun out32=>Pq fun ob3 cap3 hm=> ?_
 ·refine Cf (l) (fun zl zk (zs:List T_api_Taint)=>taints_some_taints_Unborne_1.l1 c c2 zl zk zs) (fun k zs (zg:Option Nat × Nat)=>[(1,.clo (.func 268) [] [.ptr b 0,.ptr b2 0]),(5,Z31 zg.1 zs zg.2),(8,L31 l),(9,Iw (l.length : Int)),(10,Iw (k : Int))]) (fun _ zs (zg:Option Nat × Nat)=>[Q31 zg.1 zg.2 zs,.box b 3 [Iw c],.box b2 26 [L191 c2]]) _ (none,0) hm (B1 (Bf 31) (Ah [0,1,2] R R)) (fun k out2=>Pq fun ob2 cap2 hk hm=>?_) fun k x l2 out2=>Pq fun ob2 cap2 h6 hm=> ?_
  ·rw [taints_some_taints_Unborne_1.l1] at hm
   exact Ag tbk [] R R<|Af<|Bm R (k_end hk)<|A6<|As (ob2,cap2) hm (Ah [0,1,2] R R)
  rw [taints_some_taints_Unborne_1.l1] at hm
  exact Ag tbk [] R R<|Af<|Bl R (k_lt h6)<|Al<|Af<|Aw<|Ae<|Aa R R (B8 T_api_Taint.vv R R el66 h6)<|Aa R R (Bt R ld31 R)<|Ab R R<|Au z31 fun b3=>Ab R R<|Ak (i:=0) R R R ld31 R R R<|Ac<|Ae<|Ad tbk [0] 2 R R<|Av (Ax [2,3,0,1] R)<|Ab R R<|Ay hm 2 R fn268 R (K90 _ _ _ _ _) fun r hm=>Ac<|Ao hm R (fun h9 hm=>Bv<|Ad tbk [2] 2 R R<|Ab R R<|A4 ap66 R R R R R fun b4=>Bd hm fun out4 h11 hm=>Ab R R<|Bo 4 T_api_Taint.vv (l:=out2) (l2:=[x]) ap66 R R (sT_row 0 T_api_Taint.vv el66 R R) h11 fun ob4 cap4=>Aa R R (Aj R)<|Ac<|Ba tbk [] R R<|Ap _ (ob4,cap4) hm (Be [4,1,2] R ⟨R,R,R,R,congrArg some (k_next h6 h5),trivial⟩)) fun h9 hm=>Al<|Ba tbk [] R R<|Ap _ (ob2,cap2) hm (Be [3,0,1] R ⟨R,R,R,R,congrArg some (k_next h6 h5),trivial⟩)
 exact Ag tbk [] R R<|Rg2 hm R [0,1,2] ob3 cap3 (.cons (.tmp _ _ R) .nil) R R

/-! trireme/taints.Unborne -/
def taints_Unborne (l : List T_api_Toleration) (taints : List T_api_Taint) (effect : Int) : Option (List T_api_Taint) :=
 (taints_some_taints_Unborne_1 taints effect l).bind fun r =>
 some r
theorem K92 (l : List T_api_Toleration) (taints : List T_api_Taint) (effect : Int) : VS Tryz.prog 252 (taints_Unborne l taints effect) [L191 l, L31 taints, Iw effect] [] (fun r=>L31 r) N0 := by
 refine A8 [.tmp 6] Tryz.func252 R R R fun r hm=>?_
 unfold taints_Unborne at hm
 exact Ae<|Ab R R<|Bg R R fun b=>Ab R R<|Bg R R fun b2=>Aa R R (Aj R)<|Ac<|Ae<|Aa R R (Ai R)<|Aa R R (Ct R R)<|Ab R R<|Cj hm 2 R fn139 R (K91 _ _ _ _ _) fun r ob cap hm=>Av (Az 0 [(9,L31 r)] R ⟨⟨_,R,.here _ R⟩,trivial⟩ (FzH.refl _))<|Aa R R (Aj R)<|Ac<|Rt1 hm R [] R R R

/-! trireme/taints.Allows -/
def taints_Allows (l : List T_api_Toleration) (taints : List T_api_Taint) : Option Bool :=
 (taints_Unborne l taints (1 : Int)).bind fun r =>
 (taints_Unborne l taints (3 : Int)).bind fun r2 =>
 some ((i64.wrap ((r.length : Int) + (r2.length : Int))) == 0)
theorem K93 (l : List T_api_Toleration) (taints : List T_api_Taint) : VS Tryz.prog 259 (taints_Allows l taints) [L191 l, L31 taints] [] .bool N0 := by
 refine A8 [.tmp 4] Tryz.func259 R R R fun r hm=>?_
 unfold taints_Allows at hm
 exact Ag tbk [] R R<|Ae<|Ad tbk [] 2 R R<|Ab R R<|Ay hm 0 R fn252 R (K92 _ _ _) fun r hm=>Aa R R (A7 T_api_Taint.vv R Ch)<|Ad tbk [] 2 R R<|Ab R R<|Ay hm 0 R fn252 R (K92 _ _ _) fun r2 hm=>Aa R R (A7 T_api_Taint.vv R Ch)<|Ad tbk [] 3 R R<|Ac<|Rt1 hm R [] R R R

/-! trireme/suit.Place -/
def suit_Place (m : T_api_Machine) (p : T_api_Pod) : Option Int :=
 if (!m.Ready) = true then
  some 1
 else
  (labels_Has m.Labels p.Select).bind fun r =>
  if (!r) = true then
   some 4
  else
   (labels_All m.Labels p.Terms).bind fun r2 =>
   if (!r2) = true then
    some 5
   else
    (taints_Allows p.Bears m.Taints).bind fun r3 =>
    if (!r3) = true then
     some 6
    else
     some 0
theorem K94 (m : T_api_Machine) (p : T_api_Pod) : VS Tryz.prog 246 (suit_Place m p) [T_api_Machine.vv m, T_api_Pod.vv p] [] Iw N0 := by
 refine A8 [.tmp 4] Tryz.func246 R R R fun r hm=>?_
 unfold suit_Place at hm
 exact Ae<|Ab R R<|Bg R R fun b=>Ab R R<|Bg R R fun b2=>Aa R R (Aj R)<|Ac<|Ag tbk [] R R<|Af<|Aw<|Ag tbk [1] R R<|Ao hm R (fun h3 hm=>Ba tbk [] R R<|Ag tbk [] R R<|Rt1 hm R [] R R R) fun h3 hm=>Ae<|Ad tbk [1,0] 4 R R<|Ab R R<|Ay hm 0 R fn191 R (K83 _ _) fun r hm=>Ad tbk [] 2 R R<|Ac<|Ao hm R (fun h5 hm=>Ba tbk [] R R<|Ag tbk [] R R<|Rt1 hm R [] R R R) fun h5 hm=>Ae<|Ad tbk [1,0] 4 R R<|Ab R R<|Ay hm 0 R fn258 R (K86 _ _) fun r2 hm=>Ad tbk [] 2 R R<|Ac<|Ao hm R (fun h7 hm=>Ba tbk [] R R<|Ag tbk [] R R<|Rt1 hm R [] R R R) fun h7 hm=>Ae<|Ad tbk [0,1] 4 R R<|Ab R R<|Ay hm 0 R fn259 R (K93 _ _) fun r3 hm=>Ad tbk [] 2 R R<|Ac<|Ao hm R (fun h9 hm=>Ba tbk [] R R<|Ag tbk [] R R<|Rt1 hm R [] R R R) fun h9 hm=>Al<|Ag tbk [] R R<|Rt1 hm R [] R R R

/-! trireme/suit.others -/
def suit_others.l1 (name : ByteArray) : List T_api_Bound → Nat → (List T_api_Bound) → Option (List T_api_Bound)
 | [], k, l2 => some l2
 | x :: l4, k, l2 =>
  if (!(V.seq x.Pod.Name name)) = true then
   (V.ap 288 l2 [x]).bind fun l5 =>
   suit_others.l1 name l4 (k + 1) l5
  else
   suit_others.l1 name l4 (k + 1) l2
def suit_others (bs : List T_api_Bound) (name : ByteArray) : Option (List T_api_Bound) :=
 (suit_others.l1 name bs 0 ([] : List T_api_Bound)).bind fun l32 =>
 some l32
theorem K95 (bs : List T_api_Bound) (name : ByteArray) : VS2 Tryz.prog 260 (suit_others bs name) [L64 bs, .str name] [] (fun r ob0 cap0=>Z64 ob0 r cap0) (fun r ob0 cap0=>[Q64 ob0 cap0 r]) := by
 refine Cz [.tmp 4] Tryz.func260 R R R fun r hm=>?_
 unfold suit_others at hm
 refine Ag tbk [] R R<|Ag tbk [] R R<|Af<|Ae<|Aa R R (Ai R)<|Aa R R (A7 T_api_Bound.vv R B6)<|Aa R R (Ai R)<|Ac<|B4 8 R fun h5=>Cc hm (fun l32 (gg:Option Nat × Nat)=>[(5,Z64 gg.1 l32 gg.2)]) (fun l32 (gg:Option Nat × Nat)=>[Q64 gg.1 gg.2 l32]) (fun o hm=>?_) fun l32=>Pq fun ob3 cap3 hm=> ?_
 ·refine Cf (bs) (fun zl zk (zs:List T_api_Bound)=>suit_others.l1 name zl zk zs) (fun k zs (zg:Option Nat × Nat)=>[(1,.str name),(5,Z64 zg.1 zs zg.2),(8,L64 bs),(9,Iw (bs.length : Int)),(10,Iw (k : Int))]) (fun _ zs (zg:Option Nat × Nat)=>[Q64 zg.1 zg.2 zs]) _ (none,0) hm (B1 (Bf 64) (Ah [0] R R)) (fun k l2=>Pq fun ob2 cap2 hk hm=>?_) fun k x l4 l2=>Pq fun ob2 cap2 h6 hm=> ?_
  ·rw [suit_others.l1] at hm
   exact Ag tbk [] R R<|Af<|Bm R (k_end hk)<|A6<|As (ob2,cap2) hm (Ah [0] R R)
  rw [suit_others.l1] at hm
  exact Ag tbk [] R R<|Af<|Bl R (k_lt h6)<|Al<|Af<|Aw<|Ae<|Aa R R (B8 T_api_Bound.vv R R el40 h6)<|Aa R R (Bt R ld64 R)<|Ab R R<|Au z64 fun b=>Ab R R<|Ak (i:=0) R R R ld64 R R R<|Ac<|Ag tbk [0] R R<|Ao hm R (fun h8 hm=>Bv<|Ad tbk [0] 2 R R<|Ab R R<|A4 ap40 R R R R R fun b2=>Bd hm fun l5 h10 hm=>Ab R R<|Bo 2 T_api_Bound.vv (l:=l2) (l2:=[x]) ap40 R R (sT_row 0 T_api_Bound.vv el40 R R) h10 fun ob4 cap4=>Aa R R (Aj R)<|Ac<|Ba tbk [] R R<|Ap _ (ob4,cap4) hm (Be [2] R ⟨R,R,R,R,congrArg some (k_next h6 h5),trivial⟩)) fun h8 hm=>Al<|Ba tbk [] R R<|Ap _ (ob2,cap2) hm (Be [1] R ⟨R,R,R,R,congrArg some (k_next h6 h5),trivial⟩)
 exact Ag tbk [] R R<|Rg2 hm R [0] ob3 cap3 (.cons (.tmp _ _ R) .nil) R R

/-! trireme/yard.Used$1 -/
def yard_Used_1 (i : Int) (a : List T_api_Pod) : Option Bool :=
 (V.gl a i).bind fun x =>
 (res_Right x.Need).bind fun r =>
 some (!r)
theorem K96 (i : Int) (a : List T_api_Pod) (b : Nat) : VS Tryz.prog 234 (yard_Used_1 i a) [Iw i, .ptr b 0] [.box b 193 [L29 a]] .bool (fun r=>[.box b 193 [L29 a]]) := by
 refine A8 [.tmp 3] Tryz.func234 R R R fun r hm=>?_
 unfold yard_Used_1 at hm
 exact Ag tbk [] R R<|Ae<|Ad tbk [0] 2 R R<|Bd hm fun x h1 hm=>Aa R R (Bw T_api_Pod.vv R R el193 h1)<|Ad tbk [] 2 R R<|Ab R R<|Ay hm 0 R fn133 R (K19 _) fun r hm=>Ad tbk [] 2 R R<|Ac<|Rt1 hm R [0] R R R

/-! trireme/yard.first -/
def yard_first_yard_Used_1.l1 (n : Int) (c : List T_api_Pod) : Nat → Int → Option (Out Int Unit)
 | 0, _ => none
 | n2 + 1, v2 =>
  if (decide (v2 < n)) = true then
   (yard_Used_1 v2 c).bind fun r =>
   if r = true then
    some (Out.ret v2)
   else
    yard_first_yard_Used_1.l1 n c n2 (i64.wrap (v2 + 1))
  else
   some (Out.go ())
def yard_first_yard_Used_1 (n : Int) (c : List T_api_Pod) : Option Int :=
 (yard_first_yard_Used_1.l1 n c FU (0 : Int)).bind fun o =>
 o.on fun j =>
 some (-1)
theorem K97 (n : Int) (c : List T_api_Pod) (b : Nat) : VS Tryz.prog 136 (yard_first_yard_Used_1 n c) [Iw n, .clo (.func 234) [] [.ptr b 0]] [.box b 193 [L29 c]] Iw (fun r=>[.box b 193 [L29 c]]) := by
 refine A8 [.tmp 4] D4 R R R fun r hm=>?_
 unfold yard_first_yard_Used_1 at hm
 refine Ag tbk [] R R<|Af<|Ag tbk [] R R<|B5 hm (fun _ (_:Unit)=>[]) (fun _ (_:Unit)=>[.box b 193 [L29 c]]) (fun o hm h2=>?_) fun j _ hm=> ?_
 ·refine Ca (fun zn (zs:Int)=>yard_first_yard_Used_1.l1 n c zn zs) (fun zs (_:Unit)=>[(1,.clo (.func 234) [] [.ptr b 0]),(6,Iw n),(7,Iw zs)]) (fun _ (_:Unit)=>[.box b 193 [L29 c]]) _ () (fun _=>R) hm (Ah [0] R R) fun n2 v2 _ hm=> ?_
  rw [yard_first_yard_Used_1.l1] at hm
  exact Ag tbk [] R R<|Af<|Ao hm R (fun h3 hm=>Al<|Af<|Aw<|Ag tbk [] R R<|Ae<|Ad tbk [] 2 R R<|Ab R R<|Ay hm 1 R fn234 R (K96 _ _ _) fun r hm=>Ac<|Ao hm R (fun h5 hm=>Ag tbk [] R R<|have hm:=Lr hm h2;Rt1 hm R [0] R R R) fun h5 hm=>Al<|Ba tbk [] R R<|Ap _ () hm (Ah [0] R R)) fun h3 hm=>A6<|Ar () hm (Ah [0] R R)
 exact Ag tbk [] R R<|Rt1 hm R [0] R R R

/-! trireme/res.Add$1 -/
def res_Add_1 (x : Int) (y : Int) : Option Int :=
 some (i64.wrap (x + y))
theorem K98 (x : Int) (y : Int) : VS Tryz.prog 251 (res_Add_1 x y) [Iw x, Iw y] [] Iw N0 := by
 refine A8 [.tmp 4] Tryz.func251 R R R fun r hm=>?_
 unfold res_Add_1 at hm
 exact Ag tbk [] R R<|Ag tbk [] R R<|Rt1 hm R [] R R R

/-! trireme/res.back -/
def res_back (l : Arr5_Int) : Option T_api_Res :=
 some (⟨l.x0, l.x1, l.x2, l.x3, l.x4⟩ : T_api_Res)
theorem K99 (l : Arr5_Int) : VS Tryz.prog 267 (res_back l) [Arr5_Int.vv l] [] (fun r=>T_api_Res.vv r) N0 := by
 refine A8 [.cell 2 23] Tryz.func267 R R R fun r hm=>?_
 unfold res_back at hm
 exact Ae<|Ab R R<|Bg R R fun b=>Ab R R<|Au z23 fun b2=>Ac<|Ae<|Aa R R (C1 R R ar247 (by decide) (by decide))<|Ad tbk [1] 1 R R<|Aa R R (C1 R R ar247 (by decide) (by decide))<|Ad tbk [1] 1 R R<|Aa R R (C1 R R ar247 (by decide) (by decide))<|Ad tbk [1] 1 R R<|Aa R R (C1 R R ar247 (by decide) (by decide))<|Ad tbk [1] 1 R R<|Aa R R (C1 R R ar247 (by decide) (by decide))<|Ad tbk [1] 1 R R<|Aa R R (Bn pl23 R R)<|Ab R R<|Ak (i:=0) R R R ld23 R R R<|Ac<|Rt0 hm R [] (.cons (.cell _ _ _ _ 0 _ _ _ _ R R ld23 R) .nil) R R

/-! trireme/res.each -/
def res_each_res_Add_1.l1 (j : Arr5_Int × Arr5_Int) : Nat → Arr5_Int → Int → Option Arr5_Int
 | 0, _, _ => none
 | n + 1, l3, v2 =>
  if (decide (v2 < 5)) = true then
   (V.gl (Arr5_Int.l l3) v2).bind fun x =>
   (V.gl (Arr5_Int.l j.2) v2).bind fun x2 =>
   (res_Add_1 x x2).bind fun r19 =>
   (V.gl (Arr5_Int.l l3) v2).bind fun x3 =>
   (Arr5_Int.put l3 v2 r19).bind fun l6 =>
   res_each_res_Add_1.l1 j n l6 (i64.wrap (v2 + 1))
  else
   some l3
def res_each_res_Add_1 (a : T_api_Res) (b : T_api_Res) (wrong : Int) : Option (T_api_Res × Int) :=
 (res_Right a).bind fun r =>
 (if (!r) = true then some true else (res_Right b).bind fun r2 =>
 some (!r2)).bind fun c =>
 if c = true then
  some ((⟨0, 0, 0, 0, 0⟩ : T_api_Res), 1)
 else
  ((res_row a).bind fun r3 =>
  (res_row b).bind fun r4 =>
  some (r3, r4)).bind fun j =>
  (res_each_res_Add_1.l1 j FU j.1 (0 : Int)).bind fun l42 =>
  (res_back l42).bind fun r20 =>
  (res_Right r20).bind fun r21 =>
  if r21 = true then
   some (r20, 0)
  else
   some ((⟨0, 0, 0, 0, 0⟩ : T_api_Res), wrong)
theorem K100 (a : T_api_Res) (b : T_api_Res) (wrong : Int) : VS Tryz.prog 250 (res_each_res_Add_1 a b wrong) [T_api_Res.vv a, T_api_Res.vv b, .clo (.func 251) [] [], Iw wrong] [] (fun r=>.tup [T_api_Res.vv r.1, Iw r.2]) N0 := by
 refine A8 [.cell 8 23,.tmp 9] D7 R R R fun r hm=>?_
 unfold res_each_res_Add_1 at hm
 refine Ae<|Ab R R<|Bg R R fun b2=>Ab R R<|Bg R R fun b3=>Ab R R<|Au z23 fun b4=>Aa R R (Aj R)<|Ac<|Af<|Ae<|Ad tbk [2] 1 R R<|Ab R R<|Ay hm 0 R fn133 R (K19 _) fun r hm=>Ad tbk [] 2 R R<|Bx hm 4 21 17 R (fun _ K' h5 J hm=>Ad tbk [] 4 R R<|J 3 R R (Bj hm)) (fun _ K' h5 J hm=>Ad tbk [1] 1 R R<|Bh R R R R R<|Ay hm 0 R fn133 R (K19 _) fun r2 hm=>Ad tbk [] 2 R R<|J 3 R R (Bj hm)) fun c hm=>Ac<|Ao hm R (fun h8 hm=>Ae<|Aa R R (Bn pl23 R R)<|Ab R R<|Ak (i:=0) R R R ld23 R R R<|Aa R R (Aj R)<|Ac<|Rt0 hm R [] (.cons (.cell _ _ _ _ 0 _ _ _ _ R R ld23 R) (.cons (.tmp _ _ R) .nil)) R R) fun h8 hm=>Al<|Dq hm (fun _ (gg:Nat × Nat)=>[(2,.clo (.func 251) [] []),(3,Iw wrong),(8,.ptr b4 0),(10,.ptr gg.1 0),(11,.ptr gg.2 0)]) (fun j (gg:Nat × Nat)=>[X247 gg.2 j.2,X247 gg.1 j.1,X23 b4 (⟨(0 : Int),(0 : Int),(0 : Int),(0 : Int),(0 : Int)⟩ : T_api_Res)]) (fun o hm=>?_) fun j=>Pq fun b5 b6 hm=> ?_
 ·refine Bi 0 mixed<|A9 tbk [0,2] [2,1] (by kernel_rfl) R R R<|?_
  refine B3 [1,4,5] (by kernel_rfl) ⟨?_,?_,?_,trivial⟩
  ·refine Bd hm fun r3 h13 hm=>An R R R<|Aq 0 R fn190 R (K18 a r3 h13) fun _ _ h34=> ?_
   obtain ⟨rfl,rfl⟩:=h34
   refine B3 [3,4,5] (by kernel_rfl) ⟨?_,?_,?_,trivial⟩
   ·refine Bd hm fun r4 h14 hm=>An R R R<|Aq 0 R fn190 R (K18 b r4 h14) fun _ _ h19=> ?_
    obtain ⟨rfl,rfl⟩:=h19
    refine B3 [4,5] (by kernel_rfl) ⟨?_,?_,trivial⟩
    ·exact An R R R<|Au z247 fun b7=>Am 5 (by kernel_rfl)<|An R R R<|Au z247 fun b8=>Am 6 (by kernel_rfl)<|An R R R<|Ak (i:=1) R R R ld247 R R R<|Am 7 (by kernel_rfl)<|An R R R<|Ak (i:=0) R R R ld247 R R R<|A5 (by kernel_rfl)<|As (b7,b8) hm (Ah [0,1,2] R R)
    ·exact An R R R<|Au z247 fun b9=>Am 4 (by kernel_rfl)<|An R R R<|Au z247 fun b10=>Am 6 (by kernel_rfl)<|An R R R<|Ak (i:=0) R R R ld247 R R R<|Am 7 (by kernel_rfl)<|An R R R<|Ak (i:=1) R R R ld247 R R R<|A5 (by kernel_rfl)<|As (b10,b9) hm (Ah [1,0,2] R R)
   ·refine An R R R<|Au z247 fun b11=> ?_
    refine B3 [3,5] (by kernel_rfl) ⟨?_,?_,trivial⟩
    ·refine Bd hm fun r5 h21 hm=>An R R R<|Aq 0 R fn190 R (K18 b r5 h21) fun _ _ h23=> ?_
     obtain ⟨rfl,rfl⟩:=h23
     exact Am 5 (by kernel_rfl)<|An R R R<|Au z247 fun b12=>Am 6 (by kernel_rfl)<|An R R R<|Ak (i:=1) R R R ld247 R R R<|Am 7 (by kernel_rfl)<|An R R R<|Ak (i:=0) R R R ld247 R R R<|A5 (by kernel_rfl)<|As (b11,b12) hm (Ah [0,1,2] R R)
    ·refine An R R R<|Au z247 fun b13=>Am 3 (by kernel_rfl)<|Bd hm fun r6 h25 hm=>An R R R<|Aq 0 R fn190 R (K18 b r6 h25) fun _ _ h26=> ?_
     obtain ⟨rfl,rfl⟩:=h26
     exact Am 6 (by kernel_rfl)<|An R R R<|Ak (i:=1) R R R ld247 R R R<|Am 7 (by kernel_rfl)<|An R R R<|Ak (i:=0) R R R ld247 R R R<|A5 (by kernel_rfl)<|As (b11,b13) hm (Ah [0,1,2] R R)
   ·refine An R R R<|Au z247 fun b14=> ?_
    refine B3 [3,4] (by kernel_rfl) ⟨?_,?_,trivial⟩
    ·refine Bd hm fun r7 h28 hm=>An R R R<|Aq 0 R fn190 R (K18 b r7 h28) fun _ _ h30=> ?_
     obtain ⟨rfl,rfl⟩:=h30
     exact Am 4 (by kernel_rfl)<|An R R R<|Au z247 fun b15=>Am 6 (by kernel_rfl)<|An R R R<|Ak (i:=0) R R R ld247 R R R<|Am 7 (by kernel_rfl)<|An R R R<|Ak (i:=1) R R R ld247 R R R<|A5 (by kernel_rfl)<|As (b15,b14) hm (Ah [1,0,2] R R)
    ·refine An R R R<|Au z247 fun b16=>Am 3 (by kernel_rfl)<|Bd hm fun r8 h32 hm=>An R R R<|Aq 0 R fn190 R (K18 b r8 h32) fun _ _ h33=> ?_
     obtain ⟨rfl,rfl⟩:=h33
     exact Am 6 (by kernel_rfl)<|An R R R<|Ak (i:=0) R R R ld247 R R R<|Am 7 (by kernel_rfl)<|An R R R<|Ak (i:=1) R R R ld247 R R R<|A5 (by kernel_rfl)<|As (b16,b14) hm (Ah [1,0,2] R R)
  ·refine An R R R<|Au z247 fun b17=> ?_
   refine B3 [1,5] (by kernel_rfl) ⟨?_,?_,trivial⟩
   ·refine Bd hm fun r9 h36 hm=>An R R R<|Aq 0 R fn190 R (K18 a r9 h36) fun _ _ h43=> ?_
    obtain ⟨rfl,rfl⟩:=h43
    refine B3 [3,5] (by kernel_rfl) ⟨?_,?_,trivial⟩
    ·refine Bd hm fun r10 h37 hm=>An R R R<|Aq 0 R fn190 R (K18 b r10 h37) fun _ _ h39=> ?_
     obtain ⟨rfl,rfl⟩:=h39
     exact Am 5 (by kernel_rfl)<|An R R R<|Au z247 fun b18=>Am 6 (by kernel_rfl)<|An R R R<|Ak (i:=1) R R R ld247 R R R<|Am 7 (by kernel_rfl)<|An R R R<|Ak (i:=0) R R R ld247 R R R<|A5 (by kernel_rfl)<|As (b17,b18) hm (Ah [0,1,2] R R)
    ·refine An R R R<|Au z247 fun b19=>Am 3 (by kernel_rfl)<|Bd hm fun r11 h41 hm=>An R R R<|Aq 0 R fn190 R (K18 b r11 h41) fun _ _ h42=> ?_
     obtain ⟨rfl,rfl⟩:=h42
     exact Am 6 (by kernel_rfl)<|An R R R<|Ak (i:=1) R R R ld247 R R R<|Am 7 (by kernel_rfl)<|An R R R<|Ak (i:=0) R R R ld247 R R R<|A5 (by kernel_rfl)<|As (b17,b19) hm (Ah [0,1,2] R R)
   ·refine An R R R<|Au z247 fun b20=>Am 1 (by kernel_rfl)<|Bd hm fun r12 h45 hm=>An R R R<|Aq 0 R fn190 R (K18 a r12 h45) fun _ _ h48=> ?_
    obtain ⟨rfl,rfl⟩:=h48
    refine Am 3 (by kernel_rfl)<|Bd hm fun r13 h46 hm=>An R R R<|Aq 0 R fn190 R (K18 b r13 h46) fun _ _ h47=> ?_
    obtain ⟨rfl,rfl⟩:=h47
    exact Am 6 (by kernel_rfl)<|An R R R<|Ak (i:=1) R R R ld247 R R R<|Am 7 (by kernel_rfl)<|An R R R<|Ak (i:=0) R R R ld247 R R R<|A5 (by kernel_rfl)<|As (b17,b20) hm (Ah [0,1,2] R R)
  ·refine An R R R<|Au z247 fun b21=> ?_
   refine B3 [1,4] (by kernel_rfl) ⟨?_,?_,trivial⟩
   ·refine Bd hm fun r14 h50 hm=>An R R R<|Aq 0 R fn190 R (K18 a r14 h50) fun _ _ h57=> ?_
    obtain ⟨rfl,rfl⟩:=h57
    refine B3 [3,4] (by kernel_rfl) ⟨?_,?_,trivial⟩
    ·refine Bd hm fun r15 h51 hm=>An R R R<|Aq 0 R fn190 R (K18 b r15 h51) fun _ _ h53=> ?_
     obtain ⟨rfl,rfl⟩:=h53
     exact Am 4 (by kernel_rfl)<|An R R R<|Au z247 fun b22=>Am 6 (by kernel_rfl)<|An R R R<|Ak (i:=0) R R R ld247 R R R<|Am 7 (by kernel_rfl)<|An R R R<|Ak (i:=1) R R R ld247 R R R<|A5 (by kernel_rfl)<|As (b22,b21) hm (Ah [1,0,2] R R)
    ·refine An R R R<|Au z247 fun b23=>Am 3 (by kernel_rfl)<|Bd hm fun r16 h55 hm=>An R R R<|Aq 0 R fn190 R (K18 b r16 h55) fun _ _ h56=> ?_
     obtain ⟨rfl,rfl⟩:=h56
     exact Am 6 (by kernel_rfl)<|An R R R<|Ak (i:=0) R R R ld247 R R R<|Am 7 (by kernel_rfl)<|An R R R<|Ak (i:=1) R R R ld247 R R R<|A5 (by kernel_rfl)<|As (b23,b21) hm (Ah [1,0,2] R R)
   ·refine An R R R<|Au z247 fun b24=>Am 1 (by kernel_rfl)<|Bd hm fun r17 h59 hm=>An R R R<|Aq 0 R fn190 R (K18 a r17 h59) fun _ _ h62=> ?_
    obtain ⟨rfl,rfl⟩:=h62
    refine Am 3 (by kernel_rfl)<|Bd hm fun r18 h60 hm=>An R R R<|Aq 0 R fn190 R (K18 b r18 h60) fun _ _ h61=> ?_
    obtain ⟨rfl,rfl⟩:=h61
    exact Am 6 (by kernel_rfl)<|An R R R<|Ak (i:=0) R R R ld247 R R R<|Am 7 (by kernel_rfl)<|An R R R<|Ak (i:=1) R R R ld247 R R R<|A5 (by kernel_rfl)<|As (b24,b21) hm (Ah [1,0,2] R R)
 refine Af<|Ag tbk [] R R<|Cc hm (fun _ (_:Unit)=>[(3,Iw wrong),(8,.ptr b4 0),(10,.ptr b5 0)]) (fun l42 (_:Unit)=>[X247 b5 l42,X23 b4 (⟨(0 : Int),(0 : Int),(0 : Int),(0 : Int),(0 : Int)⟩ : T_api_Res)]) (fun o2 hm=>?_) fun l42 _ hm=> ?_
 ·refine Ca (fun zn (zs:Arr5_Int × Int)=>res_each_res_Add_1.l1 j zn zs.1 zs.2) (fun zs (_:Unit)=>[(2,.clo (.func 251) [] []),(3,Iw wrong),(8,.ptr b4 0),(10,.ptr b5 0),(11,.ptr b6 0),(27,Iw zs.2)]) (fun zs (_:Unit)=>[X247 b6 j.2,X247 b5 zs.1,X23 b4 (⟨(0 : Int),(0 : Int),(0 : Int),(0 : Int),(0 : Int)⟩ : T_api_Res)]) (j.1,(0 : Int)) () (fun _=>R) hm (Ah [0,1,2] R R) fun n=>Pq fun l3 v2 _ hm=> ?_
  rw [res_each_res_Add_1.l1] at hm
  exact Ag tbk [] R R<|Af<|Ao hm R (fun h65 hm=>Al<|Af<|Aw<|Ag tbk [] R R<|Bu (Ax [1,0,2] R)<|Bi 1 mixed<|A9 tbk [0,1,2] [] (by kernel_rfl) R R R<|Bd hm fun x h66 hm=>Bb 3 R R R (by kernel_rfl) (C1 R R ar247 (gl_pos2 h66).1 (gl_pos2 h66).2)<|Bb 5 R R R (by kernel_rfl) (Ai R)<|Bd hm fun x2 h67 hm=>Bb 6 R R R (by kernel_rfl) (C1 R R ar247 (gl_pos2 h67).1 (gl_pos2 h67).2)<|Bb 7 R R R (by kernel_rfl) (Dz 0 (f:=(VV.int .i64)) (l:=Arr5_Int.l j.2) R R ld3 R h67)<|Am 4 (by kernel_rfl)<|An R R R<|B7 (Dz 0 (f:=(VV.int .i64)) (l:=Arr5_Int.l l3) R R ld3 R h66)<|Am 8 (by kernel_rfl)<|An R R R<|Ay hm 0 R fn251 R (K98 _ _) fun r19 hm=>Bd hm fun x3 h69 hm=>Bb 9 R R R (by kernel_rfl) (C1 R R ar247 (gl_pos2 h69).1 (gl_pos2 h69).2)<|Am 10 (by kernel_rfl)<|Bd hm fun l6 h70 hm=>An R R R<|VO.storeA 0 (f:=(VV.int .i64)) (l:=Arr5_Int.l l3) R R R ld3 R R (Arr5_Int.put_some h70)<|A5 (by kernel_rfl)<|Ba tbk [] R R<|Ap (l6,(IntKind.i64.wrap (v2 + (1 : Int)))) () hm (Ah [1,0,2] R R)) fun h65 hm=>A6<|As () hm (Ah [1,2] R R)
 exact Af<|Ae<|Ad tbk [0] 1 R R<|Ab R R<|Ay hm 0 R fn267 R (K99 _) fun r20 hm=>Ab R R<|Au z23 fun b25=>Ab R R<|Ak (i:=0) R R R ld23 R R R<|Ac<|Ae<|Ad tbk [0] 1 R R<|Ab R R<|Ay hm 0 R fn133 R (K19 _) fun r21 hm=>Ac<|Ao hm R (fun h74 hm=>Ae<|Ad tbk [0] 1 R R<|Ab R R<|Ak (i:=2) R R R ld23 R R R<|Aa R R (Aj R)<|Ac<|Rt0 hm R [] (.cons (.cell _ _ _ _ 2 _ _ _ _ R R ld23 R) (.cons (.tmp _ _ R) .nil)) R R) fun h74 hm=>Al<|Ae<|Aa R R (Bn pl23 R R)<|Aa R R (Ai R)<|Ab R R<|Ak (i:=2) R R R ld23 R R R<|Aa R R (Aj R)<|Ac<|Rt0 hm R [] (.cons (.cell _ _ _ _ 2 _ _ _ _ R R ld23 R) (.cons (.tmp _ _ R) .nil)) R R

/-! trireme/res.Add -/
def res_Add (a : T_api_Res) (b : T_api_Res) : Option (T_api_Res × Int) :=
 (res_each_res_Add_1 a b (10 : Int)).bind fun r =>
 some (r.1, r.2)
theorem K101 (a : T_api_Res) (b : T_api_Res) : VS Tryz.prog 235 (res_Add a b) [T_api_Res.vv a, T_api_Res.vv b] [] (fun r=>.tup [T_api_Res.vv r.1, Iw r.2]) N0 := by
 refine A8 [.cell 4 23,.tmp 5] Tryz.func235 R R R fun r hm=>?_
 unfold res_Add at hm
 exact Ae<|Ab R R<|Bg R R fun b2=>Ab R R<|Bg R R fun b3=>Ab R R<|Au z23 fun b4=>Aa R R (Aj R)<|Ac<|Ae<|Ad tbk [2,1] 2 R R<|Ab R R<|Ay hm 0 R fn250 R (K100 _ _ _) fun r hm=>Ad tbk [] 2 R R<|Ab R R<|Ak (i:=0) R R R ld23 R R R<|Aa R R (Aj R)<|Ac<|Rt0 hm R [] (.cons (.cell _ _ _ _ 0 _ _ _ _ R R ld23 R) (.cons (.tmp _ _ R) .nil)) R R

/-! trireme/yard.Used -/
def yard_Used.l1 : List T_api_Pod → Nat → T_api_Res → Option (Out (T_api_Res × Int) T_api_Res)
 | [], k, sum2 => some (Out.go sum2)
 | x :: l, k, sum2 =>
  (res_Add sum2 x.Need).bind fun r3 =>
  if (r3.2 != 0) = true then
   some (Out.ret ((⟨0, 0, 0, 0, 0⟩ : T_api_Res), r3.2))
  else
   yard_Used.l1 l (k + 1) r3.1
def yard_Used (bs : List T_api_Bound) (name : ByteArray) : Option (T_api_Res × Int) :=
 (yard_On bs name).bind fun r =>
 (yard_first_yard_Used_1 (r.length : Int) r).bind fun r2 =>
 if (r2 != (-1)) = true then
  some ((⟨0, 0, 0, 0, 0⟩ : T_api_Res), 12)
 else
  (yard_Used.l1 r 0 (⟨0, 0, 0, 0, 0⟩ : T_api_Res)).bind fun o =>
  o.on fun sum32 =>
  some (sum32, 0)
theorem K102 (bs : List T_api_Bound) (name : ByteArray) : VS Tryz.prog 219 (yard_Used bs name) [L64 bs, .str name] [] (fun r=>.tup [T_api_Res.vv r.1, Iw r.2]) N0 := by
 refine A8 [.cell 4 23,.tmp 5] Tryz.func219 R R R fun r hm=>?_
 unfold yard_Used at hm
 refine Ae<|Ab R R<|Au z23 fun b=>Aa R R (Aj R)<|Ac<|Ae<|Ad tbk [] 2 R R<|Ab R R<|Cj hm 0 R fn123 R (K76 _ _) fun r ob cap hm=>Av (Az 0 [(14,L29 r)] R ⟨⟨_,R,.here _ R⟩,trivial⟩ (FzH.refl _))<|Ab R R<|Au z193 fun b2=>Ab R R<|Ak (i:=0) R R R ld193 R R R<|Ac<|Af<|Ae<|Ad tbk [0] 1 R R<|Aa R R (A7 T_api_Pod.vv R C4)<|Aa R R (Ct R R)<|Ab R R<|Ay hm 1 R fn136 R (K97 _ _ _) fun r2 hm=>Aa R R (Br R R R)<|Ac<|Ao hm R (fun h6 hm=>Ae<|Aa R R (Bn pl23 R R)<|Ab R R<|Ak (i:=1) R R R ld23 R R R<|Aa R R (Aj R)<|Ac<|Rt0 hm R [] (.cons (.cell _ _ _ _ 1 _ _ _ _ R R ld23 R) (.cons (.tmp _ _ R) .nil)) R R) fun h6 hm=>Al<|Ae<|Aa R R (Bn pl23 R R)<|Ab R R<|Au z23 fun b3=>Ab R R<|Ak (i:=0) R R R ld23 R R R<|Ac<|Af<|Ae<|Ad tbk [1] 1 R R<|Aa R R (A7 T_api_Pod.vv R C4)<|Aa R R (Ai R)<|Ac<|B4 22 R fun h10=>B5 hm (fun _ (_:Unit)=>[(4,.ptr b 0),(7,.ptr b3 0)]) (fun sum32 (_:Unit)=>[X23 b3 sum32,X23 b (⟨(0 : Int),(0 : Int),(0 : Int),(0 : Int),(0 : Int)⟩ : T_api_Res)]) (fun o hm h9=>?_) fun sum32 _ hm=> ?_
 ·refine Cf (r) (fun zl zk (zs:T_api_Res)=>yard_Used.l1 zl zk zs) (fun k _ (_:Unit)=>[(4,.ptr b 0),(7,.ptr b3 0),(22,L29 r),(23,Iw (r.length : Int)),(24,Iw (k : Int))]) (fun _ zs (_:Unit)=>[X23 b3 zs,X23 b (⟨(0 : Int),(0 : Int),(0 : Int),(0 : Int),(0 : Int)⟩ : T_api_Res)]) _ () hm (Ah [0,2] R R) (fun k sum2 _ hk hm=>?_) fun k x l sum2 _ h11 hm=> ?_
  ·rw [yard_Used.l1] at hm
   exact Ag tbk [] R R<|Af<|Bm R (k_end hk)<|A6<|Ar () hm (Ah [0,1] R R)
  rw [yard_Used.l1] at hm
  exact Ag tbk [] R R<|Af<|Bl R (k_lt h11)<|Al<|Af<|Aw<|Ae<|Aa R R (B8 T_api_Pod.vv R R el193 h11)<|Aa R R (Bt R ld29 R)<|Ab R R<|Au z29 fun b4=>Ab R R<|Ak (i:=0) R R R ld29 R R R<|Ac<|Ae<|Ad tbk [1,0] 3 R R<|Ab R R<|Ay hm 0 R fn235 R (K101 _ _) fun r3 hm=>Ad tbk [] 3 R R<|Ab R R<|Au z23 fun b5=>Ab R R<|Ak (i:=0) R R R ld23 R R R<|Aa R R (Aj R)<|Ac<|Af<|Ag tbk [] R R<|Ao hm R (fun h15 hm=>Ae<|Aa R R (Bn pl23 R R)<|Aa R R (Ai R)<|Ab R R<|Ak (i:=3) R R R ld23 R R R<|Aa R R (Aj R)<|Ac<|have hm:=Lr hm h9;Rt0 hm R [] (.cons (.cell _ _ _ _ 3 _ _ _ _ R R ld23 R) (.cons (.tmp _ _ R) .nil)) R R) fun h15 hm=>Al<|Bv<|Ad tbk [0] 1 R R<|Ab R R<|Ak (i:=2) R R R ld23 R R R<|Ac<|Ba tbk [] R R<|Ap _ () hm (Be [2,3] R ⟨R,R,R,R,congrArg some (k_next h11 h10),trivial⟩)
 exact Ae<|Ad tbk [0] 1 R R<|Ab R R<|Ak (i:=1) R R R ld23 R R R<|Aa R R (Aj R)<|Ac<|Rt0 hm R [] (.cons (.cell _ _ _ _ 1 _ _ _ _ R R ld23 R) (.cons (.tmp _ _ R) .nil)) R R

/-! trireme/res.Least$1 -/
def res_Least_1 (x : Int) (y : Int) : Option Int :=
 some (min x y)
theorem K103 (x : Int) (y : Int) : VS Tryz.prog 292 (res_Least_1 x y) [Iw x, Iw y] [] Iw N0 := by
 refine A8 [.tmp 4] Tryz.func292 R R R fun r hm=>?_
 unfold res_Least_1 at hm
 exact Ag tbk [] R R<|Ae<|Ad tbk [] 2 R R<|Aa R R (VP.min2 R R)<|Aa R R (Aj R)<|Ac<|Rt1 hm R [] R R R

/-! trireme/res.each -/
def res_each_res_Least_1.l1 (j : Arr5_Int × Arr5_Int) : Nat → Arr5_Int → Int → Option Arr5_Int
 | 0, _, _ => none
 | n + 1, l3, v2 =>
  if (decide (v2 < 5)) = true then
   (V.gl (Arr5_Int.l l3) v2).bind fun x =>
   (V.gl (Arr5_Int.l j.2) v2).bind fun x2 =>
   (res_Least_1 x x2).bind fun r19 =>
   (V.gl (Arr5_Int.l l3) v2).bind fun x3 =>
   (Arr5_Int.put l3 v2 r19).bind fun l6 =>
   res_each_res_Least_1.l1 j n l6 (i64.wrap (v2 + 1))
  else
   some l3
def res_each_res_Least_1 (a : T_api_Res) (b : T_api_Res) (wrong : Int) : Option (T_api_Res × Int) :=
 (res_Right a).bind fun r =>
 (if (!r) = true then some true else (res_Right b).bind fun r2 =>
 some (!r2)).bind fun c =>
 if c = true then
  some ((⟨0, 0, 0, 0, 0⟩ : T_api_Res), 1)
 else
  ((res_row a).bind fun r3 =>
  (res_row b).bind fun r4 =>
  some (r3, r4)).bind fun j =>
  (res_each_res_Least_1.l1 j FU j.1 (0 : Int)).bind fun l42 =>
  (res_back l42).bind fun r20 =>
  (res_Right r20).bind fun r21 =>
  if r21 = true then
   some (r20, 0)
  else
   some ((⟨0, 0, 0, 0, 0⟩ : T_api_Res), wrong)
theorem K104 (a : T_api_Res) (b : T_api_Res) (wrong : Int) : VS Tryz.prog 250 (res_each_res_Least_1 a b wrong) [T_api_Res.vv a, T_api_Res.vv b, .clo (.func 292) [] [], Iw wrong] [] (fun r=>.tup [T_api_Res.vv r.1, Iw r.2]) N0 := by
 refine A8 [.cell 8 23,.tmp 9] D7 R R R fun r hm=>?_
 unfold res_each_res_Least_1 at hm
 refine Ae<|Ab R R<|Bg R R fun b2=>Ab R R<|Bg R R fun b3=>Ab R R<|Au z23 fun b4=>Aa R R (Aj R)<|Ac<|Af<|Ae<|Ad tbk [2] 1 R R<|Ab R R<|Ay hm 0 R fn133 R (K19 _) fun r hm=>Ad tbk [] 2 R R<|Bx hm 4 21 17 R (fun _ K' h5 J hm=>Ad tbk [] 4 R R<|J 3 R R (Bj hm)) (fun _ K' h5 J hm=>Ad tbk [1] 1 R R<|Bh R R R R R<|Ay hm 0 R fn133 R (K19 _) fun r2 hm=>Ad tbk [] 2 R R<|J 3 R R (Bj hm)) fun c hm=>Ac<|Ao hm R (fun h8 hm=>Ae<|Aa R R (Bn pl23 R R)<|Ab R R<|Ak (i:=0) R R R ld23 R R R<|Aa R R (Aj R)<|Ac<|Rt0 hm R [] (.cons (.cell _ _ _ _ 0 _ _ _ _ R R ld23 R) (.cons (.tmp _ _ R) .nil)) R R) fun h8 hm=>Al<|Dq hm (fun _ (gg:Nat × Nat)=>[(2,.clo (.func 292) [] []),(3,Iw wrong),(8,.ptr b4 0),(10,.ptr gg.1 0),(11,.ptr gg.2 0)]) (fun j (gg:Nat × Nat)=>[X247 gg.2 j.2,X247 gg.1 j.1,X23 b4 (⟨(0 : Int),(0 : Int),(0 : Int),(0 : Int),(0 : Int)⟩ : T_api_Res)]) (fun o hm=>?_) fun j=>Pq fun b5 b6 hm=> ?_
 ·refine Bi 0 mixed<|A9 tbk [0,2] [2,1] (by kernel_rfl) R R R<|?_
  refine B3 [1,4,5] (by kernel_rfl) ⟨?_,?_,?_,trivial⟩
  ·refine Bd hm fun r3 h13 hm=>An R R R<|Aq 0 R fn190 R (K18 a r3 h13) fun _ _ h34=> ?_
   obtain ⟨rfl,rfl⟩:=h34
   refine B3 [3,4,5] (by kernel_rfl) ⟨?_,?_,?_,trivial⟩
   ·refine Bd hm fun r4 h14 hm=>An R R R<|Aq 0 R fn190 R (K18 b r4 h14) fun _ _ h19=> ?_
    obtain ⟨rfl,rfl⟩:=h19
    refine B3 [4,5] (by kernel_rfl) ⟨?_,?_,trivial⟩
    ·exact An R R R<|Au z247 fun b7=>Am 5 (by kernel_rfl)<|An R R R<|Au z247 fun b8=>Am 6 (by kernel_rfl)<|An R R R<|Ak (i:=1) R R R ld247 R R R<|Am 7 (by kernel_rfl)<|An R R R<|Ak (i:=0) R R R ld247 R R R<|A5 (by kernel_rfl)<|As (b7,b8) hm (Ah [0,1,2] R R)
    ·exact An R R R<|Au z247 fun b9=>Am 4 (by kernel_rfl)<|An R R R<|Au z247 fun b10=>Am 6 (by kernel_rfl)<|An R R R<|Ak (i:=0) R R R ld247 R R R<|Am 7 (by kernel_rfl)<|An R R R<|Ak (i:=1) R R R ld247 R R R<|A5 (by kernel_rfl)<|As (b10,b9) hm (Ah [1,0,2] R R)
   ·refine An R R R<|Au z247 fun b11=> ?_
    refine B3 [3,5] (by kernel_rfl) ⟨?_,?_,trivial⟩
    ·refine Bd hm fun r5 h21 hm=>An R R R<|Aq 0 R fn190 R (K18 b r5 h21) fun _ _ h23=> ?_
     obtain ⟨rfl,rfl⟩:=h23
     exact Am 5 (by kernel_rfl)<|An R R R<|Au z247 fun b12=>Am 6 (by kernel_rfl)<|An R R R<|Ak (i:=1) R R R ld247 R R R<|Am 7 (by kernel_rfl)<|An R R R<|Ak (i:=0) R R R ld247 R R R<|A5 (by kernel_rfl)<|As (b11,b12) hm (Ah [0,1,2] R R)
    ·refine An R R R<|Au z247 fun b13=>Am 3 (by kernel_rfl)<|Bd hm fun r6 h25 hm=>An R R R<|Aq 0 R fn190 R (K18 b r6 h25) fun _ _ h26=> ?_
     obtain ⟨rfl,rfl⟩:=h26
     exact Am 6 (by kernel_rfl)<|An R R R<|Ak (i:=1) R R R ld247 R R R<|Am 7 (by kernel_rfl)<|An R R R<|Ak (i:=0) R R R ld247 R R R<|A5 (by kernel_rfl)<|As (b11,b13) hm (Ah [0,1,2] R R)
   ·refine An R R R<|Au z247 fun b14=> ?_
    refine B3 [3,4] (by kernel_rfl) ⟨?_,?_,trivial⟩
    ·refine Bd hm fun r7 h28 hm=>An R R R<|Aq 0 R fn190 R (K18 b r7 h28) fun _ _ h30=> ?_
     obtain ⟨rfl,rfl⟩:=h30
     exact Am 4 (by kernel_rfl)<|An R R R<|Au z247 fun b15=>Am 6 (by kernel_rfl)<|An R R R<|Ak (i:=0) R R R ld247 R R R<|Am 7 (by kernel_rfl)<|An R R R<|Ak (i:=1) R R R ld247 R R R<|A5 (by kernel_rfl)<|As (b15,b14) hm (Ah [1,0,2] R R)
    ·refine An R R R<|Au z247 fun b16=>Am 3 (by kernel_rfl)<|Bd hm fun r8 h32 hm=>An R R R<|Aq 0 R fn190 R (K18 b r8 h32) fun _ _ h33=> ?_
     obtain ⟨rfl,rfl⟩:=h33
     exact Am 6 (by kernel_rfl)<|An R R R<|Ak (i:=0) R R R ld247 R R R<|Am 7 (by kernel_rfl)<|An R R R<|Ak (i:=1) R R R ld247 R R R<|A5 (by kernel_rfl)<|As (b16,b14) hm (Ah [1,0,2] R R)
  ·refine An R R R<|Au z247 fun b17=> ?_
   refine B3 [1,5] (by kernel_rfl) ⟨?_,?_,trivial⟩
   ·refine Bd hm fun r9 h36 hm=>An R R R<|Aq 0 R fn190 R (K18 a r9 h36) fun _ _ h43=> ?_
    obtain ⟨rfl,rfl⟩:=h43
    refine B3 [3,5] (by kernel_rfl) ⟨?_,?_,trivial⟩
    ·refine Bd hm fun r10 h37 hm=>An R R R<|Aq 0 R fn190 R (K18 b r10 h37) fun _ _ h39=> ?_
     obtain ⟨rfl,rfl⟩:=h39
     exact Am 5 (by kernel_rfl)<|An R R R<|Au z247 fun b18=>Am 6 (by kernel_rfl)<|An R R R<|Ak (i:=1) R R R ld247 R R R<|Am 7 (by kernel_rfl)<|An R R R<|Ak (i:=0) R R R ld247 R R R<|A5 (by kernel_rfl)<|As (b17,b18) hm (Ah [0,1,2] R R)
    ·refine An R R R<|Au z247 fun b19=>Am 3 (by kernel_rfl)<|Bd hm fun r11 h41 hm=>An R R R<|Aq 0 R fn190 R (K18 b r11 h41) fun _ _ h42=> ?_
     obtain ⟨rfl,rfl⟩:=h42
     exact Am 6 (by kernel_rfl)<|An R R R<|Ak (i:=1) R R R ld247 R R R<|Am 7 (by kernel_rfl)<|An R R R<|Ak (i:=0) R R R ld247 R R R<|A5 (by kernel_rfl)<|As (b17,b19) hm (Ah [0,1,2] R R)
   ·refine An R R R<|Au z247 fun b20=>Am 1 (by kernel_rfl)<|Bd hm fun r12 h45 hm=>An R R R<|Aq 0 R fn190 R (K18 a r12 h45) fun _ _ h48=> ?_
    obtain ⟨rfl,rfl⟩:=h48
    refine Am 3 (by kernel_rfl)<|Bd hm fun r13 h46 hm=>An R R R<|Aq 0 R fn190 R (K18 b r13 h46) fun _ _ h47=> ?_
    obtain ⟨rfl,rfl⟩:=h47
    exact Am 6 (by kernel_rfl)<|An R R R<|Ak (i:=1) R R R ld247 R R R<|Am 7 (by kernel_rfl)<|An R R R<|Ak (i:=0) R R R ld247 R R R<|A5 (by kernel_rfl)<|As (b17,b20) hm (Ah [0,1,2] R R)
  ·refine An R R R<|Au z247 fun b21=> ?_
   refine B3 [1,4] (by kernel_rfl) ⟨?_,?_,trivial⟩
   ·refine Bd hm fun r14 h50 hm=>An R R R<|Aq 0 R fn190 R (K18 a r14 h50) fun _ _ h57=> ?_
    obtain ⟨rfl,rfl⟩:=h57
    refine B3 [3,4] (by kernel_rfl) ⟨?_,?_,trivial⟩
    ·refine Bd hm fun r15 h51 hm=>An R R R<|Aq 0 R fn190 R (K18 b r15 h51) fun _ _ h53=> ?_
     obtain ⟨rfl,rfl⟩:=h53
     exact Am 4 (by kernel_rfl)<|An R R R<|Au z247 fun b22=>Am 6 (by kernel_rfl)<|An R R R<|Ak (i:=0) R R R ld247 R R R<|Am 7 (by kernel_rfl)<|An R R R<|Ak (i:=1) R R R ld247 R R R<|A5 (by kernel_rfl)<|As (b22,b21) hm (Ah [1,0,2] R R)
    ·refine An R R R<|Au z247 fun b23=>Am 3 (by kernel_rfl)<|Bd hm fun r16 h55 hm=>An R R R<|Aq 0 R fn190 R (K18 b r16 h55) fun _ _ h56=> ?_
     obtain ⟨rfl,rfl⟩:=h56
     exact Am 6 (by kernel_rfl)<|An R R R<|Ak (i:=0) R R R ld247 R R R<|Am 7 (by kernel_rfl)<|An R R R<|Ak (i:=1) R R R ld247 R R R<|A5 (by kernel_rfl)<|As (b23,b21) hm (Ah [1,0,2] R R)
   ·refine An R R R<|Au z247 fun b24=>Am 1 (by kernel_rfl)<|Bd hm fun r17 h59 hm=>An R R R<|Aq 0 R fn190 R (K18 a r17 h59) fun _ _ h62=> ?_
    obtain ⟨rfl,rfl⟩:=h62
    refine Am 3 (by kernel_rfl)<|Bd hm fun r18 h60 hm=>An R R R<|Aq 0 R fn190 R (K18 b r18 h60) fun _ _ h61=> ?_
    obtain ⟨rfl,rfl⟩:=h61
    exact Am 6 (by kernel_rfl)<|An R R R<|Ak (i:=0) R R R ld247 R R R<|Am 7 (by kernel_rfl)<|An R R R<|Ak (i:=1) R R R ld247 R R R<|A5 (by kernel_rfl)<|As (b24,b21) hm (Ah [1,0,2] R R)
 refine Af<|Ag tbk [] R R<|Cc hm (fun _ (_:Unit)=>[(3,Iw wrong),(8,.ptr b4 0),(10,.ptr b5 0)]) (fun l42 (_:Unit)=>[X247 b5 l42,X23 b4 (⟨(0 : Int),(0 : Int),(0 : Int),(0 : Int),(0 : Int)⟩ : T_api_Res)]) (fun o2 hm=>?_) fun l42 _ hm=> ?_
 ·refine Ca (fun zn (zs:Arr5_Int × Int)=>res_each_res_Least_1.l1 j zn zs.1 zs.2) (fun zs (_:Unit)=>[(2,.clo (.func 292) [] []),(3,Iw wrong),(8,.ptr b4 0),(10,.ptr b5 0),(11,.ptr b6 0),(27,Iw zs.2)]) (fun zs (_:Unit)=>[X247 b6 j.2,X247 b5 zs.1,X23 b4 (⟨(0 : Int),(0 : Int),(0 : Int),(0 : Int),(0 : Int)⟩ : T_api_Res)]) (j.1,(0 : Int)) () (fun _=>R) hm (Ah [0,1,2] R R) fun n=>Pq fun l3 v2 _ hm=> ?_
  rw [res_each_res_Least_1.l1] at hm
  exact Ag tbk [] R R<|Af<|Ao hm R (fun h65 hm=>Al<|Af<|Aw<|Ag tbk [] R R<|Bu (Ax [1,0,2] R)<|Bi 1 mixed<|A9 tbk [0,1,2] [] (by kernel_rfl) R R R<|Bd hm fun x h66 hm=>Bb 3 R R R (by kernel_rfl) (C1 R R ar247 (gl_pos2 h66).1 (gl_pos2 h66).2)<|Bb 5 R R R (by kernel_rfl) (Ai R)<|Bd hm fun x2 h67 hm=>Bb 6 R R R (by kernel_rfl) (C1 R R ar247 (gl_pos2 h67).1 (gl_pos2 h67).2)<|Bb 7 R R R (by kernel_rfl) (Dz 0 (f:=(VV.int .i64)) (l:=Arr5_Int.l j.2) R R ld3 R h67)<|Am 4 (by kernel_rfl)<|An R R R<|B7 (Dz 0 (f:=(VV.int .i64)) (l:=Arr5_Int.l l3) R R ld3 R h66)<|Am 8 (by kernel_rfl)<|An R R R<|Ay hm 0 R fn292 R (K103 _ _) fun r19 hm=>Bd hm fun x3 h69 hm=>Bb 9 R R R (by kernel_rfl) (C1 R R ar247 (gl_pos2 h69).1 (gl_pos2 h69).2)<|Am 10 (by kernel_rfl)<|Bd hm fun l6 h70 hm=>An R R R<|VO.storeA 0 (f:=(VV.int .i64)) (l:=Arr5_Int.l l3) R R R ld3 R R (Arr5_Int.put_some h70)<|A5 (by kernel_rfl)<|Ba tbk [] R R<|Ap (l6,(IntKind.i64.wrap (v2 + (1 : Int)))) () hm (Ah [1,0,2] R R)) fun h65 hm=>A6<|As () hm (Ah [1,2] R R)
 exact Af<|Ae<|Ad tbk [0] 1 R R<|Ab R R<|Ay hm 0 R fn267 R (K99 _) fun r20 hm=>Ab R R<|Au z23 fun b25=>Ab R R<|Ak (i:=0) R R R ld23 R R R<|Ac<|Ae<|Ad tbk [0] 1 R R<|Ab R R<|Ay hm 0 R fn133 R (K19 _) fun r21 hm=>Ac<|Ao hm R (fun h74 hm=>Ae<|Ad tbk [0] 1 R R<|Ab R R<|Ak (i:=2) R R R ld23 R R R<|Aa R R (Aj R)<|Ac<|Rt0 hm R [] (.cons (.cell _ _ _ _ 2 _ _ _ _ R R ld23 R) (.cons (.tmp _ _ R) .nil)) R R) fun h74 hm=>Al<|Ae<|Aa R R (Bn pl23 R R)<|Aa R R (Ai R)<|Ab R R<|Ak (i:=2) R R R ld23 R R R<|Aa R R (Aj R)<|Ac<|Rt0 hm R [] (.cons (.cell _ _ _ _ 2 _ _ _ _ R R ld23 R) (.cons (.tmp _ _ R) .nil)) R R

/-! trireme/res.Least -/
def res_Least (a : T_api_Res) (b : T_api_Res) : Option T_api_Res :=
 (res_each_res_Least_1 a b (10 : Int)).bind fun r =>
 some r.1
theorem K105 (a : T_api_Res) (b : T_api_Res) : VS Tryz.prog 277 (res_Least a b) [T_api_Res.vv a, T_api_Res.vv b] [] (fun r=>T_api_Res.vv r) N0 := by
 refine A8 [.cell 4 23] Tryz.func277 R R R fun r hm=>?_
 unfold res_Least at hm
 exact Ae<|Ab R R<|Bg R R fun b2=>Ab R R<|Bg R R fun b3=>Ab R R<|Au z23 fun b4=>Ac<|Ae<|Ad tbk [2,1] 2 R R<|Ab R R<|Ay hm 0 R fn250 R (K104 _ _ _) fun r hm=>Ad tbk [] 3 R R<|Ab R R<|Au z23 fun b5=>Ab R R<|Ak (i:=0) R R R ld23 R R R<|Aa R R (Aj R)<|Ac<|Ae<|Ad tbk [0] 1 R R<|Ab R R<|Ak (i:=1) R R R ld23 R R R<|Ac<|Rt0 hm R [] (.cons (.cell _ _ _ _ 1 _ _ _ _ R R ld23 R) .nil) R R

/-! trireme/res.Sub$1 -/
def res_Sub_1 (x : Int) (y : Int) : Option Int :=
 some (i64.wrap (x - y))
theorem K106 (x : Int) (y : Int) : VS Tryz.prog 291 (res_Sub_1 x y) [Iw x, Iw y] [] Iw N0 := by
 refine A8 [.tmp 4] Tryz.func291 R R R fun r hm=>?_
 unfold res_Sub_1 at hm
 exact Ag tbk [] R R<|Ag tbk [] R R<|Rt1 hm R [] R R R

/-! trireme/res.each -/
def res_each_res_Sub_1.l1 (j : Arr5_Int × Arr5_Int) : Nat → Arr5_Int → Int → Option Arr5_Int
 | 0, _, _ => none
 | n + 1, l3, v2 =>
  if (decide (v2 < 5)) = true then
   (V.gl (Arr5_Int.l l3) v2).bind fun x =>
   (V.gl (Arr5_Int.l j.2) v2).bind fun x2 =>
   (res_Sub_1 x x2).bind fun r19 =>
   (V.gl (Arr5_Int.l l3) v2).bind fun x3 =>
   (Arr5_Int.put l3 v2 r19).bind fun l6 =>
   res_each_res_Sub_1.l1 j n l6 (i64.wrap (v2 + 1))
  else
   some l3
def res_each_res_Sub_1 (a : T_api_Res) (b : T_api_Res) (wrong : Int) : Option (T_api_Res × Int) :=
 (res_Right a).bind fun r =>
 (if (!r) = true then some true else (res_Right b).bind fun r2 =>
 some (!r2)).bind fun c =>
 if c = true then
  some ((⟨0, 0, 0, 0, 0⟩ : T_api_Res), 1)
 else
  ((res_row a).bind fun r3 =>
  (res_row b).bind fun r4 =>
  some (r3, r4)).bind fun j =>
  (res_each_res_Sub_1.l1 j FU j.1 (0 : Int)).bind fun l42 =>
  (res_back l42).bind fun r20 =>
  (res_Right r20).bind fun r21 =>
  if r21 = true then
   some (r20, 0)
  else
   some ((⟨0, 0, 0, 0, 0⟩ : T_api_Res), wrong)
theorem K107 (a : T_api_Res) (b : T_api_Res) (wrong : Int) : VS Tryz.prog 250 (res_each_res_Sub_1 a b wrong) [T_api_Res.vv a, T_api_Res.vv b, .clo (.func 291) [] [], Iw wrong] [] (fun r=>.tup [T_api_Res.vv r.1, Iw r.2]) N0 := by
 refine A8 [.cell 8 23,.tmp 9] D7 R R R fun r hm=>?_
 unfold res_each_res_Sub_1 at hm
 refine Ae<|Ab R R<|Bg R R fun b2=>Ab R R<|Bg R R fun b3=>Ab R R<|Au z23 fun b4=>Aa R R (Aj R)<|Ac<|Af<|Ae<|Ad tbk [2] 1 R R<|Ab R R<|Ay hm 0 R fn133 R (K19 _) fun r hm=>Ad tbk [] 2 R R<|Bx hm 4 21 17 R (fun _ K' h5 J hm=>Ad tbk [] 4 R R<|J 3 R R (Bj hm)) (fun _ K' h5 J hm=>Ad tbk [1] 1 R R<|Bh R R R R R<|Ay hm 0 R fn133 R (K19 _) fun r2 hm=>Ad tbk [] 2 R R<|J 3 R R (Bj hm)) fun c hm=>Ac<|Ao hm R (fun h8 hm=>Ae<|Aa R R (Bn pl23 R R)<|Ab R R<|Ak (i:=0) R R R ld23 R R R<|Aa R R (Aj R)<|Ac<|Rt0 hm R [] (.cons (.cell _ _ _ _ 0 _ _ _ _ R R ld23 R) (.cons (.tmp _ _ R) .nil)) R R) fun h8 hm=>Al<|Dq hm (fun _ (gg:Nat × Nat)=>[(2,.clo (.func 291) [] []),(3,Iw wrong),(8,.ptr b4 0),(10,.ptr gg.1 0),(11,.ptr gg.2 0)]) (fun j (gg:Nat × Nat)=>[X247 gg.2 j.2,X247 gg.1 j.1,X23 b4 (⟨(0 : Int),(0 : Int),(0 : Int),(0 : Int),(0 : Int)⟩ : T_api_Res)]) (fun o hm=>?_) fun j=>Pq fun b5 b6 hm=> ?_
 ·refine Bi 0 mixed<|A9 tbk [0,2] [2,1] (by kernel_rfl) R R R<|?_
  refine B3 [1,4,5] (by kernel_rfl) ⟨?_,?_,?_,trivial⟩
  ·refine Bd hm fun r3 h13 hm=>An R R R<|Aq 0 R fn190 R (K18 a r3 h13) fun _ _ h34=> ?_
   obtain ⟨rfl,rfl⟩:=h34
   refine B3 [3,4,5] (by kernel_rfl) ⟨?_,?_,?_,trivial⟩
   ·refine Bd hm fun r4 h14 hm=>An R R R<|Aq 0 R fn190 R (K18 b r4 h14) fun _ _ h19=> ?_
    obtain ⟨rfl,rfl⟩:=h19
    refine B3 [4,5] (by kernel_rfl) ⟨?_,?_,trivial⟩
    ·exact An R R R<|Au z247 fun b7=>Am 5 (by kernel_rfl)<|An R R R<|Au z247 fun b8=>Am 6 (by kernel_rfl)<|An R R R<|Ak (i:=1) R R R ld247 R R R<|Am 7 (by kernel_rfl)<|An R R R<|Ak (i:=0) R R R ld247 R R R<|A5 (by kernel_rfl)<|As (b7,b8) hm (Ah [0,1,2] R R)
    ·exact An R R R<|Au z247 fun b9=>Am 4 (by kernel_rfl)<|An R R R<|Au z247 fun b10=>Am 6 (by kernel_rfl)<|An R R R<|Ak (i:=0) R R R ld247 R R R<|Am 7 (by kernel_rfl)<|An R R R<|Ak (i:=1) R R R ld247 R R R<|A5 (by kernel_rfl)<|As (b10,b9) hm (Ah [1,0,2] R R)
   ·refine An R R R<|Au z247 fun b11=> ?_
    refine B3 [3,5] (by kernel_rfl) ⟨?_,?_,trivial⟩
    ·refine Bd hm fun r5 h21 hm=>An R R R<|Aq 0 R fn190 R (K18 b r5 h21) fun _ _ h23=> ?_
     obtain ⟨rfl,rfl⟩:=h23
     exact Am 5 (by kernel_rfl)<|An R R R<|Au z247 fun b12=>Am 6 (by kernel_rfl)<|An R R R<|Ak (i:=1) R R R ld247 R R R<|Am 7 (by kernel_rfl)<|An R R R<|Ak (i:=0) R R R ld247 R R R<|A5 (by kernel_rfl)<|As (b11,b12) hm (Ah [0,1,2] R R)
    ·refine An R R R<|Au z247 fun b13=>Am 3 (by kernel_rfl)<|Bd hm fun r6 h25 hm=>An R R R<|Aq 0 R fn190 R (K18 b r6 h25) fun _ _ h26=> ?_
     obtain ⟨rfl,rfl⟩:=h26
     exact Am 6 (by kernel_rfl)<|An R R R<|Ak (i:=1) R R R ld247 R R R<|Am 7 (by kernel_rfl)<|An R R R<|Ak (i:=0) R R R ld247 R R R<|A5 (by kernel_rfl)<|As (b11,b13) hm (Ah [0,1,2] R R)
   ·refine An R R R<|Au z247 fun b14=> ?_
    refine B3 [3,4] (by kernel_rfl) ⟨?_,?_,trivial⟩
    ·refine Bd hm fun r7 h28 hm=>An R R R<|Aq 0 R fn190 R (K18 b r7 h28) fun _ _ h30=> ?_
     obtain ⟨rfl,rfl⟩:=h30
     exact Am 4 (by kernel_rfl)<|An R R R<|Au z247 fun b15=>Am 6 (by kernel_rfl)<|An R R R<|Ak (i:=0) R R R ld247 R R R<|Am 7 (by kernel_rfl)<|An R R R<|Ak (i:=1) R R R ld247 R R R<|A5 (by kernel_rfl)<|As (b15,b14) hm (Ah [1,0,2] R R)
    ·refine An R R R<|Au z247 fun b16=>Am 3 (by kernel_rfl)<|Bd hm fun r8 h32 hm=>An R R R<|Aq 0 R fn190 R (K18 b r8 h32) fun _ _ h33=> ?_
     obtain ⟨rfl,rfl⟩:=h33
     exact Am 6 (by kernel_rfl)<|An R R R<|Ak (i:=0) R R R ld247 R R R<|Am 7 (by kernel_rfl)<|An R R R<|Ak (i:=1) R R R ld247 R R R<|A5 (by kernel_rfl)<|As (b16,b14) hm (Ah [1,0,2] R R)
  ·refine An R R R<|Au z247 fun b17=> ?_
   refine B3 [1,5] (by kernel_rfl) ⟨?_,?_,trivial⟩
   ·refine Bd hm fun r9 h36 hm=>An R R R<|Aq 0 R fn190 R (K18 a r9 h36) fun _ _ h43=> ?_
    obtain ⟨rfl,rfl⟩:=h43
    refine B3 [3,5] (by kernel_rfl) ⟨?_,?_,trivial⟩
    ·refine Bd hm fun r10 h37 hm=>An R R R<|Aq 0 R fn190 R (K18 b r10 h37) fun _ _ h39=> ?_
     obtain ⟨rfl,rfl⟩:=h39
     exact Am 5 (by kernel_rfl)<|An R R R<|Au z247 fun b18=>Am 6 (by kernel_rfl)<|An R R R<|Ak (i:=1) R R R ld247 R R R<|Am 7 (by kernel_rfl)<|An R R R<|Ak (i:=0) R R R ld247 R R R<|A5 (by kernel_rfl)<|As (b17,b18) hm (Ah [0,1,2] R R)
    ·refine An R R R<|Au z247 fun b19=>Am 3 (by kernel_rfl)<|Bd hm fun r11 h41 hm=>An R R R<|Aq 0 R fn190 R (K18 b r11 h41) fun _ _ h42=> ?_
     obtain ⟨rfl,rfl⟩:=h42
     exact Am 6 (by kernel_rfl)<|An R R R<|Ak (i:=1) R R R ld247 R R R<|Am 7 (by kernel_rfl)<|An R R R<|Ak (i:=0) R R R ld247 R R R<|A5 (by kernel_rfl)<|As (b17,b19) hm (Ah [0,1,2] R R)
   ·refine An R R R<|Au z247 fun b20=>Am 1 (by kernel_rfl)<|Bd hm fun r12 h45 hm=>An R R R<|Aq 0 R fn190 R (K18 a r12 h45) fun _ _ h48=> ?_
    obtain ⟨rfl,rfl⟩:=h48
    refine Am 3 (by kernel_rfl)<|Bd hm fun r13 h46 hm=>An R R R<|Aq 0 R fn190 R (K18 b r13 h46) fun _ _ h47=> ?_
    obtain ⟨rfl,rfl⟩:=h47
    exact Am 6 (by kernel_rfl)<|An R R R<|Ak (i:=1) R R R ld247 R R R<|Am 7 (by kernel_rfl)<|An R R R<|Ak (i:=0) R R R ld247 R R R<|A5 (by kernel_rfl)<|As (b17,b20) hm (Ah [0,1,2] R R)
  ·refine An R R R<|Au z247 fun b21=> ?_
   refine B3 [1,4] (by kernel_rfl) ⟨?_,?_,trivial⟩
   ·refine Bd hm fun r14 h50 hm=>An R R R<|Aq 0 R fn190 R (K18 a r14 h50) fun _ _ h57=> ?_
    obtain ⟨rfl,rfl⟩:=h57
    refine B3 [3,4] (by kernel_rfl) ⟨?_,?_,trivial⟩
    ·refine Bd hm fun r15 h51 hm=>An R R R<|Aq 0 R fn190 R (K18 b r15 h51) fun _ _ h53=> ?_
     obtain ⟨rfl,rfl⟩:=h53
     exact Am 4 (by kernel_rfl)<|An R R R<|Au z247 fun b22=>Am 6 (by kernel_rfl)<|An R R R<|Ak (i:=0) R R R ld247 R R R<|Am 7 (by kernel_rfl)<|An R R R<|Ak (i:=1) R R R ld247 R R R<|A5 (by kernel_rfl)<|As (b22,b21) hm (Ah [1,0,2] R R)
    ·refine An R R R<|Au z247 fun b23=>Am 3 (by kernel_rfl)<|Bd hm fun r16 h55 hm=>An R R R<|Aq 0 R fn190 R (K18 b r16 h55) fun _ _ h56=> ?_
     obtain ⟨rfl,rfl⟩:=h56
     exact Am 6 (by kernel_rfl)<|An R R R<|Ak (i:=0) R R R ld247 R R R<|Am 7 (by kernel_rfl)<|An R R R<|Ak (i:=1) R R R ld247 R R R<|A5 (by kernel_rfl)<|As (b23,b21) hm (Ah [1,0,2] R R)
   ·refine An R R R<|Au z247 fun b24=>Am 1 (by kernel_rfl)<|Bd hm fun r17 h59 hm=>An R R R<|Aq 0 R fn190 R (K18 a r17 h59) fun _ _ h62=> ?_
    obtain ⟨rfl,rfl⟩:=h62
    refine Am 3 (by kernel_rfl)<|Bd hm fun r18 h60 hm=>An R R R<|Aq 0 R fn190 R (K18 b r18 h60) fun _ _ h61=> ?_
    obtain ⟨rfl,rfl⟩:=h61
    exact Am 6 (by kernel_rfl)<|An R R R<|Ak (i:=0) R R R ld247 R R R<|Am 7 (by kernel_rfl)<|An R R R<|Ak (i:=1) R R R ld247 R R R<|A5 (by kernel_rfl)<|As (b24,b21) hm (Ah [1,0,2] R R)
 refine Af<|Ag tbk [] R R<|Cc hm (fun _ (_:Unit)=>[(3,Iw wrong),(8,.ptr b4 0),(10,.ptr b5 0)]) (fun l42 (_:Unit)=>[X247 b5 l42,X23 b4 (⟨(0 : Int),(0 : Int),(0 : Int),(0 : Int),(0 : Int)⟩ : T_api_Res)]) (fun o2 hm=>?_) fun l42 _ hm=> ?_
 ·refine Ca (fun zn (zs:Arr5_Int × Int)=>res_each_res_Sub_1.l1 j zn zs.1 zs.2) (fun zs (_:Unit)=>[(2,.clo (.func 291) [] []),(3,Iw wrong),(8,.ptr b4 0),(10,.ptr b5 0),(11,.ptr b6 0),(27,Iw zs.2)]) (fun zs (_:Unit)=>[X247 b6 j.2,X247 b5 zs.1,X23 b4 (⟨(0 : Int),(0 : Int),(0 : Int),(0 : Int),(0 : Int)⟩ : T_api_Res)]) (j.1,(0 : Int)) () (fun _=>R) hm (Ah [0,1,2] R R) fun n=>Pq fun l3 v2 _ hm=> ?_
  rw [res_each_res_Sub_1.l1] at hm
  exact Ag tbk [] R R<|Af<|Ao hm R (fun h65 hm=>Al<|Af<|Aw<|Ag tbk [] R R<|Bu (Ax [1,0,2] R)<|Bi 1 mixed<|A9 tbk [0,1,2] [] (by kernel_rfl) R R R<|Bd hm fun x h66 hm=>Bb 3 R R R (by kernel_rfl) (C1 R R ar247 (gl_pos2 h66).1 (gl_pos2 h66).2)<|Bb 5 R R R (by kernel_rfl) (Ai R)<|Bd hm fun x2 h67 hm=>Bb 6 R R R (by kernel_rfl) (C1 R R ar247 (gl_pos2 h67).1 (gl_pos2 h67).2)<|Bb 7 R R R (by kernel_rfl) (Dz 0 (f:=(VV.int .i64)) (l:=Arr5_Int.l j.2) R R ld3 R h67)<|Am 4 (by kernel_rfl)<|An R R R<|B7 (Dz 0 (f:=(VV.int .i64)) (l:=Arr5_Int.l l3) R R ld3 R h66)<|Am 8 (by kernel_rfl)<|An R R R<|Ay hm 0 R fn291 R (K106 _ _) fun r19 hm=>Bd hm fun x3 h69 hm=>Bb 9 R R R (by kernel_rfl) (C1 R R ar247 (gl_pos2 h69).1 (gl_pos2 h69).2)<|Am 10 (by kernel_rfl)<|Bd hm fun l6 h70 hm=>An R R R<|VO.storeA 0 (f:=(VV.int .i64)) (l:=Arr5_Int.l l3) R R R ld3 R R (Arr5_Int.put_some h70)<|A5 (by kernel_rfl)<|Ba tbk [] R R<|Ap (l6,(IntKind.i64.wrap (v2 + (1 : Int)))) () hm (Ah [1,0,2] R R)) fun h65 hm=>A6<|As () hm (Ah [1,2] R R)
 exact Af<|Ae<|Ad tbk [0] 1 R R<|Ab R R<|Ay hm 0 R fn267 R (K99 _) fun r20 hm=>Ab R R<|Au z23 fun b25=>Ab R R<|Ak (i:=0) R R R ld23 R R R<|Ac<|Ae<|Ad tbk [0] 1 R R<|Ab R R<|Ay hm 0 R fn133 R (K19 _) fun r21 hm=>Ac<|Ao hm R (fun h74 hm=>Ae<|Ad tbk [0] 1 R R<|Ab R R<|Ak (i:=2) R R R ld23 R R R<|Aa R R (Aj R)<|Ac<|Rt0 hm R [] (.cons (.cell _ _ _ _ 2 _ _ _ _ R R ld23 R) (.cons (.tmp _ _ R) .nil)) R R) fun h74 hm=>Al<|Ae<|Aa R R (Bn pl23 R R)<|Aa R R (Ai R)<|Ab R R<|Ak (i:=2) R R R ld23 R R R<|Aa R R (Aj R)<|Ac<|Rt0 hm R [] (.cons (.cell _ _ _ _ 2 _ _ _ _ R R ld23 R) (.cons (.tmp _ _ R) .nil)) R R

/-! trireme/res.Sub -/
def res_Sub (a : T_api_Res) (b : T_api_Res) : Option (T_api_Res × Int) :=
 (res_each_res_Sub_1 a b (11 : Int)).bind fun r =>
 some (r.1, r.2)
theorem K108 (a : T_api_Res) (b : T_api_Res) : VS Tryz.prog 276 (res_Sub a b) [T_api_Res.vv a, T_api_Res.vv b] [] (fun r=>.tup [T_api_Res.vv r.1, Iw r.2]) N0 := by
 refine A8 [.cell 4 23,.tmp 5] Tryz.func276 R R R fun r hm=>?_
 unfold res_Sub at hm
 exact Ae<|Ab R R<|Bg R R fun b2=>Ab R R<|Bg R R fun b3=>Ab R R<|Au z23 fun b4=>Aa R R (Aj R)<|Ac<|Ae<|Ad tbk [2,1] 2 R R<|Ab R R<|Ay hm 0 R fn250 R (K107 _ _ _) fun r hm=>Ad tbk [] 2 R R<|Ab R R<|Ak (i:=0) R R R ld23 R R R<|Aa R R (Aj R)<|Ac<|Rt0 hm R [] (.cons (.cell _ _ _ _ 0 _ _ _ _ R R ld23 R) (.cons (.tmp _ _ R) .nil)) R R

/-! trireme/yard.Left -/
def yard_Left (m : T_api_Machine) (bs : List T_api_Bound) : Option T_api_Res :=
 (yard_Used bs m.Name).bind fun r =>
 if (r.2 != 0) = true then
  some (⟨0, 0, 0, 0, 0⟩ : T_api_Res)
 else
  (res_Least r.1 m.Has).bind fun r2 =>
  (res_Sub m.Has r2).bind fun r3 =>
  some r3.1
theorem K109 (m : T_api_Machine) (bs : List T_api_Bound) : VS Tryz.prog 262 (yard_Left m bs) [T_api_Machine.vv m, L64 bs] [] (fun r=>T_api_Res.vv r) N0 := by
 refine A8 [.cell 4 23] Tryz.func262 R R R fun r hm=>?_
 unfold yard_Left at hm
 refine Ae<|Ab R R<|Bg R R fun b=>Ab R R<|Au z23 fun b2=>Ac<|Ae<|Ad tbk [1] 3 R R<|Ab R R<|Ay hm 0 R fn219 R (K102 _ _) fun r hm=>Ad tbk [] 3 R R<|Ab R R<|Au z23 fun b3=>Ab R R<|Ak (i:=0) R R R ld23 R R R<|Aa R R (Aj R)<|Ac<|Af<|Ag tbk [] R R<|Ao hm R (fun h5 hm=>Ae<|Aa R R (Bn pl23 R R)<|Ab R R<|Ak (i:=1) R R R ld23 R R R<|Ac<|Rt0 hm R [] (.cons (.cell _ _ _ _ 1 _ _ _ _ R R ld23 R) .nil) R R) fun h5 hm=>Al<|Af<|Bi 0 mixed<|A9 tbk [0,1,2,3,4] [2,0,2] (by kernel_rfl) R R R<|?_
 refine B3 [5,10] (by kernel_rfl) ⟨?_,?_,trivial⟩
 ·refine Bd hm fun r2 h6 hm=>An R R R<|Aq 0 R fn277 R (K105 r.1 m.Has r2 h6) fun _ _ h13=> ?_
  obtain ⟨rfl,rfl⟩:=h13
  refine B3 [6,10] (by kernel_rfl) ⟨?_,?_,trivial⟩
  ·refine Bd hm fun r3 h7 hm=>An R R R<|Aq 0 R fn276 R (K108 m.Has r2 r3 h7) fun _ _ h9=> ?_
   obtain ⟨rfl,rfl⟩:=h9
   exact A9 tbk [7,8,9] [] (by kernel_rfl) R R R<|Am 10 (by kernel_rfl)<|An R R R<|Au z23 fun b4=>Am 11 (by kernel_rfl)<|An R R R<|Ak (i:=0) R R R ld23 R R R<|Bb 12 R R R (by kernel_rfl) (Aj R)<|A5 (by kernel_rfl)<|Ae<|Ad tbk [0] 1 R R<|Ab R R<|Ak (i:=2) R R R ld23 R R R<|Ac<|Rt0 hm R [] (.cons (.cell _ _ _ _ 2 _ _ _ _ R R ld23 R) .nil) R R
  ·refine An R R R<|Au z23 fun b5=>Am 6 (by kernel_rfl)<|Bd hm fun r4 h11 hm=>An R R R<|Aq 0 R fn276 R (K108 m.Has r2 r4 h11) fun _ _ h12=> ?_
   obtain ⟨rfl,rfl⟩:=h12
   exact A9 tbk [7,8,9] [] (by kernel_rfl) R R R<|Am 11 (by kernel_rfl)<|An R R R<|Ak (i:=0) R R R ld23 R R R<|Bb 12 R R R (by kernel_rfl) (Aj R)<|A5 (by kernel_rfl)<|Ae<|Ad tbk [0] 1 R R<|Ab R R<|Ak (i:=2) R R R ld23 R R R<|Ac<|Rt0 hm R [] (.cons (.cell _ _ _ _ 2 _ _ _ _ R R ld23 R) .nil) R R
 ·refine An R R R<|Au z23 fun b6=>Am 5 (by kernel_rfl)<|Bd hm fun r5 h15 hm=>An R R R<|Aq 0 R fn277 R (K105 r.1 m.Has r5 h15) fun _ _ h18=> ?_
  obtain ⟨rfl,rfl⟩:=h18
  refine Am 6 (by kernel_rfl)<|Bd hm fun r6 h16 hm=>An R R R<|Aq 0 R fn276 R (K108 m.Has r5 r6 h16) fun _ _ h17=> ?_
  obtain ⟨rfl,rfl⟩:=h17
  exact A9 tbk [7,8,9] [] (by kernel_rfl) R R R<|Am 11 (by kernel_rfl)<|An R R R<|Ak (i:=0) R R R ld23 R R R<|Bb 12 R R R (by kernel_rfl) (Aj R)<|A5 (by kernel_rfl)<|Ae<|Ad tbk [0] 1 R R<|Ab R R<|Ak (i:=2) R R R ld23 R R R<|Ac<|Rt0 hm R [] (.cons (.cell _ _ _ _ 2 _ _ _ _ R R ld23 R) .nil) R R

/-! trireme/res.Fits -/
def res_Fits (a : T_api_Res) (b : T_api_Res) : Option Bool :=
 (res_Sub b a).bind fun r =>
 some (r.2 == 0)
theorem K110 (a : T_api_Res) (b : T_api_Res) : VS Tryz.prog 261 (res_Fits a b) [T_api_Res.vv a, T_api_Res.vv b] [] .bool N0 := by
 refine A8 [.tmp 4] Tryz.func261 R R R fun r hm=>?_
 unfold res_Fits at hm
 exact Ae<|Ab R R<|Bg R R fun b2=>Ab R R<|Bg R R fun b3=>Aa R R (Aj R)<|Ac<|Ae<|Ad tbk [0,1] 2 R R<|Ab R R<|Ay hm 0 R fn276 R (K108 _ _) fun r hm=>Ad tbk [] 3 R R<|Ab R R<|Au z23 fun b4=>Ab R R<|Ak (i:=0) R R R ld23 R R R<|Aa R R (Aj R)<|Ac<|Ag tbk [] R R<|Rt1 hm R [] R R R

/-! trireme/suit.common -/
def suit_common.l1 : Nat → (List Int) → (List Int) → Option (Out Bool Unit)
 | 0, _, _ => none
 | n + 1, a3, b3 =>
  if ((decide ((a3.length : Int) > 0)) && (decide ((b3.length : Int) > 0))) = true then
   (V.gl a3 (0 : Int)).bind fun x =>
   (V.gl b3 (0 : Int)).bind fun x2 =>
   if (x == x2) = true then
    some (Out.ret true)
   else
    (V.gl a3 (0 : Int)).bind fun x3 =>
    (V.gl b3 (0 : Int)).bind fun x4 =>
    if (decide (x3 < x4)) = true then
     (V.sl a3 (some 1) none).bind fun v =>
     suit_common.l1 n v b3
    else
     (V.sl b3 (some 1) none).bind fun v2 =>
     suit_common.l1 n a3 v2
  else
   some (Out.go ())
def suit_common (a : List Int) (b : List Int) : Option Bool :=
 (suit_common.l1 FU a b).bind fun o =>
 o.on fun j =>
 some false
theorem K111 (a : List Int) (b : List Int) : VS Tryz.prog 263 (suit_common a b) [L3 a, L3 b] [] .bool N0 := by
 refine A8 [.tmp 4] Tryz.func263 R R R fun r hm=>?_
 unfold suit_common at hm
 refine Ag tbk [] R R<|VW.jo hm (fun _ (_:Unit)=>[]) (fun _ (_:Unit)=>[]) (fun o hm h2=>?_) fun j _ hm=> ?_
 ·refine Ca (fun zn (zs:List Int × List Int)=>suit_common.l1 zn zs.1 zs.2) (fun zs (_:Unit)=>[(0,L3 zs.1),(1,L3 zs.2)]) (fun _ (_:Unit)=>[]) (a,b) () (fun _=>R) hm (Ah [] R R) fun n=>Pq fun a3 b3 _ hm=> ?_
  rw [suit_common.l1] at hm
  exact Af<|Ae<|Aa R R (Ai R)<|Aa R R (A7 (VV.int .i64) R Co)<|Ad tbk [] 2 R R<|D0 4 12 8 R (fun h3 K' J=>Bk R R R R R (Ai R)<|Bk R R R R R (A7 (VV.int .i64) R Co)<|Ad tbk [] 2 R R<|J 3 R R R) (fun K' J=>Ad tbk [] 4 R R<|J 3 R R R)<|Ac<|Ao hm R (fun h4 hm=>Al<|Aw<|Aw<|Af<|Bi 0 mixed<|Bb 0 R R R (by kernel_rfl) (Ai R)<|Bd hm fun x h5 hm=>Bb 1 R R R (by kernel_rfl) (Bw (VV.int .i64) R R el27 h5)<|A9 tbk [2,3] [] (by kernel_rfl) R R R<|Bd hm fun x2 h6 hm=>Bb 4 R R R (by kernel_rfl) (Bw (VV.int .i64) R R el27 h6)<|A9 tbk [5,6,7] [] (by kernel_rfl) R R R<|A5 (by kernel_rfl)<|Ao hm R (fun h7 hm=>Ag tbk [] R R<|have hm:=Lr hm h2;Rt1 hm R [] R R R) fun h7 hm=>Af<|Bi 0 mixed<|Bb 0 R R R (by kernel_rfl) (Ai R)<|Bd hm fun x3 h8 hm=>Bb 1 R R R (by kernel_rfl) (Bw (VV.int .i64) R R el27 h8)<|A9 tbk [2,3] [] (by kernel_rfl) R R R<|Bd hm fun x4 h9 hm=>Bb 4 R R R (by kernel_rfl) (Bw (VV.int .i64) R R el27 h9)<|A9 tbk [5,6,7] [] (by kernel_rfl) R R R<|A5 (by kernel_rfl)<|Ao hm R (fun h10 hm=>Bv<|Aa R R (Ai R)<|Bd hm fun v h11 hm=>Aa R R (Dv R R R el27 h11)<|Aa R R (Aj R)<|Ac<|Ap (v,b3) () hm (Ah [] R R)) fun h10 hm=>Bv<|Aa R R (Ai R)<|Bd hm fun v2 h12 hm=>Aa R R (Dv R R R el27 h12)<|Aa R R (Aj R)<|Ac<|Ap (a3,v2) () hm (Ah [] R R)) fun h4 hm=>A6<|Ar () hm (Ah [] R R)
 exact Ag tbk [] R R<|Rt1 hm R [] R R R

/-! trireme/suit.Room -/
def suit_Room.l1 (p : T_api_Pod) : List T_api_Pod → Nat → Option (Out Int Unit)
 | [], k => some (Out.go ())
 | x :: l, k =>
  (suit_common p.Ports x.Ports).bind fun r5 =>
  if r5 = true then
   some (Out.ret 3)
  else
   suit_Room.l1 p l (k + 1)
def suit_Room (m : T_api_Machine) (bs : List T_api_Bound) (p : T_api_Pod) : Option Int :=
 (suit_others bs p.Name).bind fun r =>
 (yard_Left m r).bind fun r2 =>
 (res_Fits p.Need r2).bind fun r3 =>
 if (!r3) = true then
  some 2
 else
  (yard_On r m.Name).bind fun r4 =>
  (suit_Room.l1 p r4 0).bind fun o =>
  o.on fun j =>
  some 0
theorem K112 (m : T_api_Machine) (bs : List T_api_Bound) (p : T_api_Pod) : VS Tryz.prog 247 (suit_Room m bs p) [T_api_Machine.vv m, L64 bs, T_api_Pod.vv p] [] Iw N0 := by
 refine A8 [.tmp 6] Tryz.func247 R R R fun r hm=>?_
 unfold suit_Room at hm
 refine Ae<|Ab R R<|Bg R R fun b=>Ab R R<|Bg R R fun b2=>Aa R R (Aj R)<|Ac<|Ae<|Ad tbk [0] 3 R R<|Ab R R<|Cj hm 0 R fn260 R (K95 _ _) fun r ob cap hm=>Av (Az 0 [(13,L64 r)] R ⟨⟨_,R,.here _ R⟩,trivial⟩ (FzH.refl _))<|Aa R R (Aj R)<|Ac<|Af<|Af<|Bi 0 mixed<|A9 tbk [0,1,2,3] [0,1] (by kernel_rfl) R R R<|Am 4 (by kernel_rfl)<|Bd hm fun r2 h5 hm=>An R R R<|Aq 0 R fn262 R (K109 m r r2 h5) fun _ _ h18=> ?_
 obtain ⟨rfl,rfl⟩:=h18
 refine Am 5 (by kernel_rfl)<|Bd hm fun r3 h6 hm=>An R R R<|Aq 0 R fn261 R (K110 p.Need r2 r3 h6) fun _ _ h17=> ?_
 obtain ⟨rfl,rfl⟩:=h17
 refine Bb 6 R R R (by kernel_rfl) (Cp R)<|A5 (by kernel_rfl)<|Ao hm R (fun h7 hm=>Ag tbk [] R R<|Rt1 hm R [] R R R) fun h7 hm=>Al<|Af<|Ae<|Ad tbk [1] 3 R R<|Ab R R<|Cj hm 0 R fn123 R (K76 _ _) fun r4 ob2 cap2 hm=>Av (Az 0 [(24,L29 r4)] R ⟨⟨_,R,.here _ R⟩,trivial⟩ (FzH.refl _))<|Aa R R (A7 T_api_Pod.vv R C4)<|Aa R R (Ai R)<|Ac<|B4 24 R fun h12=>B5 hm (fun _ (_:Unit)=>[]) (fun _ (_:Unit)=>[]) (fun o hm h11=>?_) fun j _ hm=> ?_
 ·refine Cf (r4) (fun zl zk (zs:Unit)=>suit_Room.l1 p zl zk) (fun k _ (_:Unit)=>[(5,.ptr b2 0),(24,L29 r4),(25,Iw (r4.length : Int)),(26,Iw (k : Int))]) (fun _ _ (_:Unit)=>[X29 b2 p]) () () hm (Ah [0] R R) (fun k _ _ hk hm=>?_) fun k x l _ _ h13 hm=> ?_
  ·rw [suit_Room.l1] at hm
   exact Ag tbk [] R R<|Af<|Bm R (k_end hk)<|A6<|Ar () hm (Ah [] R R)
  rw [suit_Room.l1] at hm
  exact Ag tbk [] R R<|Af<|Bl R (k_lt h13)<|Al<|Af<|Aw<|Ae<|Aa R R (B8 T_api_Pod.vv R R el193 h13)<|Aa R R (Bt R ld29 R)<|Ab R R<|Au z29 fun b3=>Ab R R<|Ak (i:=0) R R R ld29 R R R<|Ac<|Ae<|Ad tbk [1,0] 4 R R<|Ab R R<|Ay hm 0 R fn263 R (K111 _ _) fun r5 hm=>Ac<|Ao hm R (fun h16 hm=>Ag tbk [] R R<|have hm:=Lr hm h11;Rt1 hm R [] R R R) fun h16 hm=>Al<|Ba tbk [] R R<|Ap () () hm (Be [1] R ⟨R,R,R,congrArg some (k_next h13 h12),trivial⟩)
 exact Ag tbk [] R R<|Rt1 hm R [] R R R

/-! trireme/suit.Suits -/
def suit_Suits (m : T_api_Machine) (bs : List T_api_Bound) (p : T_api_Pod) : Option Int :=
 (suit_Place m p).bind fun r =>
 if (r == 1) = true then
  some r
 else
  if (r == 4) = true then
   some r
  else
   if (r == 5) = true then
    some r
   else
    if (r == 6) = true then
     some r
    else
     (suit_Room m bs p).bind fun r2 =>
     some r2
theorem K113 (m : T_api_Machine) (bs : List T_api_Bound) (p : T_api_Pod) : VS Tryz.prog 232 (suit_Suits m bs p) [T_api_Machine.vv m, L64 bs, T_api_Pod.vv p] [] Iw N0 := by
 refine A8 [.tmp 6] Tryz.func232 R R R fun r hm=>?_
 unfold suit_Suits at hm
 exact Ae<|Ab R R<|Bg R R fun b=>Ab R R<|Bg R R fun b2=>Aa R R (Aj R)<|Ac<|Ae<|Ad tbk [1,0] 2 R R<|Ab R R<|Ay hm 0 R fn246 R (K94 _ _) fun r hm=>Aa R R (Aj R)<|Ac<|Af<|Ag tbk [] R R<|Aw<|Af<|Aw<|Aw<|Aw<|Af<|Af<|Ag tbk [] R R<|Ao hm R (fun h4 hm=>A6<|Af<|Ag tbk [] R R<|Rt1 hm R [] R R R) fun h4 hm=>Al<|Af<|Ag tbk [] R R<|Ao hm R (fun h5 hm=>A6<|Af<|Ag tbk [] R R<|Rt1 hm R [] R R R) fun h5 hm=>Al<|Af<|Ag tbk [] R R<|Ao hm R (fun h6 hm=>Al<|Bl R h6<|A6<|Af<|Ag tbk [] R R<|Rt1 hm R [] R R R) fun h6 hm=>Ba tbk [] R R<|Ao hm R (fun h7 hm=>A6<|Af<|Ag tbk [] R R<|Rt1 hm R [] R R R) fun h7 hm=>Al<|A6<|Ae<|Ad tbk [1,0] 3 R R<|Ab R R<|Ay hm 0 R fn247 R (K112 _ _ _) fun r2 hm=>Aa R R (Aj R)<|Ac<|Rt1 hm R [] R R R

/-! trireme/apart.zones -/
def apart_zones.l1 : List T_api_Machine → Nat → (List (ByteArray × ByteArray)) → Option (List (ByteArray × ByteArray))
 | [], k, out2 => some out2
 | x :: l, k, out2 =>
  (labels_Get x.Labels (⟨#[122, 111, 110, 101]⟩ : ByteArray)).bind fun r =>
  if r.2 = true then
   apart_zones.l1 l (k + 1) (V.mp out2 x.Name r.1)
  else
   apart_zones.l1 l (k + 1) out2
def apart_zones (ms : List T_api_Machine) : Option (List (ByteArray × ByteArray)) :=
 (apart_zones.l1 ms 0 ([] : List (ByteArray × ByteArray))).bind fun out32 =>
 some out32
theorem K114 (ms : List T_api_Machine) : VS1 Tryz.prog 264 (apart_zones ms) [L68 ms] [] (fun r b_0=>.map b_0) (fun r b_0=>[.map b_0 (List.map (pf VV.str VV.str) r)]) := by
 refine VS1.run [.tmp 2] Tryz.func264 R R R fun r hm=>?_
 unfold apart_zones at hm
 refine Ag tbk [] R R<|Ae<|Ab R R<|Dc fun b=>Aa R R (Aj R)<|Ac<|Af<|Ae<|Aa R R (Ai R)<|Aa R R (A7 T_api_Machine.vv R Cv)<|Aa R R (Ai R)<|Ac<|B4 9 R fun h4=>Cc hm (fun _ (_:Unit)=>[(3,.map b)]) (fun out32 (_:Unit)=>[.map b (List.map (pf VV.str VV.str) out32)]) (fun o hm=>?_) fun out32 _ hm=> ?_
 ·refine Cf (ms) (fun zl zk (zs:List (ByteArray × ByteArray))=>apart_zones.l1 zl zk zs) (fun k _ (_:Unit)=>[(3,.map b),(9,L68 ms),(10,Iw (ms.length : Int)),(11,Iw (k : Int))]) (fun _ zs (_:Unit)=>[.map b (List.map (pf VV.str VV.str) zs)]) _ () hm (Ah [0] R R) (fun k out2 _ hk hm=>?_) fun k x l out2 _ h5 hm=> ?_
  ·rw [apart_zones.l1] at hm
   exact Ag tbk [] R R<|Af<|Bm R (k_end hk)<|A6<|As () hm (Ah [0] R R)
  rw [apart_zones.l1] at hm
  exact Ag tbk [] R R<|Af<|Bl R (k_lt h5)<|Al<|Af<|Aw<|Ae<|Aa R R (B8 T_api_Machine.vv R R el39 h5)<|Aa R R (Bt R ld68 R)<|Ab R R<|Au z68 fun b2=>Ab R R<|Ak (i:=0) R R R ld68 R R R<|Ac<|Ae<|Ad tbk [0] 2 R R<|Ab R R<|Ay hm 0 R fn224 R (K82 _ _) fun r hm=>Ad tbk [] 5 R R<|Ac<|Ag tbk [] R R<|Ao hm R (fun h8 hm=>Bv<|Ad tbk [0] 4 R R<|Ab R R<|De 1 (kf:=VV.str) (vf:=VV.str) (l:=out2) (k:=x.Name) (z:=r.1) mk9 C8 R R R R<|Ac<|Ba tbk [] R R<|Ap _ () hm (Be [1] R ⟨R,R,R,congrArg some (k_next h5 h4),trivial⟩)) fun h8 hm=>Al<|Ba tbk [] R R<|Ap _ () hm (Be [1] R ⟨R,R,R,congrArg some (k_next h5 h4),trivial⟩)
 exact Ag tbk [] R R<|Rg1 hm R [0] b (.cons (.tmp _ _ R) .nil) R R

/-! (trireme/apart.place).one -/
def apart_place_one (x : T_apart_place) (a : ByteArray) (b2 : ByteArray) (wide : Bool) : Option Bool :=
 if ((V.seq a b2) || (!wide)) = true then
  some (V.seq a b2)
 else
  some ((((V.mg x.zones a).isSome) && ((V.mg x.zones b2).isSome)) && (V.seq ((V.mg x.zones a).getD (⟨#[]⟩ : ByteArray)) ((V.mg x.zones b2).getD (⟨#[]⟩ : ByteArray))))
theorem K115 (x : T_apart_place) (a : ByteArray) (b2 : ByteArray) (wide : Bool) (b : Nat) : VS Tryz.prog 278 (apart_place_one x a b2 wide) [.agg [.map b], .str a, .str b2, .bool wide] [.map b (List.map (pf VV.str VV.str) x.zones)] .bool (fun r=>[.map b (List.map (pf VV.str VV.str) x.zones)]) := by
 refine A8 [.tmp 8] Tryz.func278 R R R fun r hm=>?_
 unfold apart_place_one at hm
 exact Ae<|Ab R R<|Bg R R fun b3=>Aa R R (Aj R)<|Ac<|Af<|Ae<|Ad tbk [] 4 R R<|Cq tbk [] 3 19 16 R R R R R<|Ac<|Ao hm R (fun h3 hm=>Ag tbk [] R R<|Rt1 hm R [1] R R R) fun h3 hm=>Al<|Ae<|Ad tbk [0] 3 R R<|Aa R R (Cy 1 (kf:=VV.str) (vf:=VV.str) (l:=x.zones) (k:=a) (z:=(⟨#[]⟩ : ByteArray)) true mk9 C8 R R R zc9 R)<|Ad tbk [] 5 R R<|Ac<|Ae<|Ad tbk [0] 3 R R<|Aa R R (Cy 1 (kf:=VV.str) (vf:=VV.str) (l:=x.zones) (k:=b2) (z:=(⟨#[]⟩ : ByteArray)) true mk9 C8 R R R zc9 R)<|Ad tbk [] 5 R R<|Ac<|Ae<|Ad tbk [] 2 R R<|Cu tbk [] 2 40 38 R R R R R<|Aa R R (Ai R)<|Cu tbk [] 4 45 41 R R R R R<|Aa R R (Aj R)<|Ac<|Rt1 hm R [1] R R R

/-! (trireme/apart.place).bars -/
def apart_place_bars (x : T_apart_place) (p : T_api_Pod) (q_ : T_api_Pod) (a : ByteArray) (b2 : ByteArray) : Option Bool :=
 (if (decide ((p.Apart.length : Int) > 0)) = true then (labels_Has q_.Labels p.Apart).bind fun r =>
 some r else some false).bind fun c =>
 (if c = true then (apart_place_one x a b2 p.Wide).bind fun r2 =>
 some r2 else some false).bind fun c2 =>
 some c2
theorem K116 (x : T_apart_place) (p : T_api_Pod) (q_ : T_api_Pod) (a : ByteArray) (b2 : ByteArray) (b : Nat) : VS Tryz.prog 265 (apart_place_bars x p q_ a b2) [.agg [.map b], T_api_Pod.vv p, T_api_Pod.vv q_, .str a, .str b2] [.map b (List.map (pf VV.str VV.str) x.zones)] .bool (fun r=>[.map b (List.map (pf VV.str VV.str) x.zones)]) := by
 refine A8 [.tmp 10] Tryz.func265 R R R fun r hm=>?_
 unfold apart_place_bars at hm
 exact Ae<|Ab R R<|Bg R R fun b3=>Ab R R<|Bg R R fun b4=>Ab R R<|Bg R R fun b5=>Aa R R (Aj R)<|Ac<|Ae<|Ad tbk [1] 2 R R<|Aa R R (A7 T_api_Label.vv R Cd)<|Ad tbk [] 2 R R<|Bx hm 6 21 15 R (fun _ K' h4 J hm=>Ad tbk [0,1] 4 R R<|Bh R R R R R<|Ay hm 0 R fn191 R (K83 _ _) fun r hm=>Aa R R (Bs true R R R)<|J 5 R R (Bj hm)) (fun _ K' h4 J hm=>Ad tbk [] 6 R R<|J 5 R R (Bj hm)) fun c hm=>Aa R R (Ai R)<|Bx hm 7 29 22 R (fun _ K' h7 J hm=>Ad tbk [2,1] 5 R R<|Av (Ax [3,0,1,2] R)<|Bh R R R R R<|Ay hm 1 R fn278 R (K115 _ _ _ _ _) fun r2 hm=>Aa R R (Bs true R R R)<|Av (Ax [1,2,3,0] R)<|J 6 R R (Bj hm)) (fun _ K' h7 J hm=>Ad tbk [] 7 R R<|J 6 R R (Bj hm)) fun c2 hm=>Aa R R (Aj R)<|Ac<|Rt1 hm R [3] R R R

/-! trireme/apart.Near -/
def apart_Near.l1 (p : T_api_Pod) (on_ : ByteArray) (r2 : (List (ByteArray × ByteArray))) : List T_api_Bound → Nat → Option (Out Bool Unit)
 | [], k => some (Out.go ())
 | x :: l, k =>
  if ((V.seq x.On (⟨#[]⟩ : ByteArray)) || (V.seq x.Pod.Name p.Name)) = true then
   apart_Near.l1 p on_ r2 l (k + 1)
  else
   (apart_place_bars (⟨r2⟩ : T_apart_place) p x.Pod on_ x.On).bind fun r3 =>
   (if r3 = true then some true else (apart_place_bars (⟨r2⟩ : T_apart_place) x.Pod p x.On on_).bind fun r4 =>
   some r4).bind fun c =>
   if c = true then
    some (Out.ret true)
   else
    apart_Near.l1 p on_ r2 l (k + 1)
def apart_Near (ms : List T_api_Machine) (bs : List T_api_Bound) (p : T_api_Pod) (on_ : ByteArray) : Option Bool :=
 (yard_Find ms on_).bind fun r =>
 if (decide (r < 0)) = true then
  some false
 else
  (apart_zones ms).bind fun r2 =>
  (apart_Near.l1 p on_ r2 bs 0).bind fun o =>
  o.on fun j =>
  some false
theorem K117 (ms : List T_api_Machine) (bs : List T_api_Bound) (p : T_api_Pod) (on_ : ByteArray) : VS Tryz.prog 248 (apart_Near ms bs p on_) [L68 ms, L64 bs, T_api_Pod.vv p, .str on_] [] .bool N0 := by
 refine A8 [.tmp 8] Tryz.func248 R R R fun r hm=>?_
 unfold apart_Near at hm
 refine Ae<|Ab R R<|Bg R R fun b=>Aa R R (Aj R)<|Ac<|Af<|Ae<|Ad tbk [] 2 R R<|Ab R R<|Ay hm 0 R fn72 R (K49 _ _) fun r hm=>Aa R R (Br R R R)<|Ac<|Ao hm R (fun h3 hm=>Ag tbk [] R R<|Rt1 hm R [] R R R) fun h3 hm=>Al<|Ae<|Aa R R (Ai R)<|Ab R R<|Ea hm 0 R fn264 R (K114 _) fun r2 b2 hm=>Aa R R (Bn pl291 R R)<|Ab R R<|Au z291 fun b3=>Ab R R<|Ak (i:=0) R R R ld291 R R R<|Ac<|Af<|Ae<|Aa R R (Ai R)<|Aa R R (A7 T_api_Bound.vv R B6)<|Aa R R (Ai R)<|Ac<|B4 19 R fun h9=>B5 hm (fun _ (_:Unit)=>[]) (fun _ (_:Unit)=>[]) (fun o hm h8=>?_) fun j _ hm=> ?_
 ·refine Cf (bs) (fun zl zk (zs:Unit)=>apart_Near.l1 p on_ r2 zl zk) (fun k _ (_:Unit)=>[(3,.str on_),(6,.ptr b 0),(9,.ptr b3 0),(19,L64 bs),(20,Iw (bs.length : Int)),(21,Iw (k : Int))]) (fun _ _ (_:Unit)=>[.box b3 291 [.map b2],.map b2 (List.map (pf VV.str VV.str) ((⟨r2⟩ : T_apart_place).zones)),X29 b p]) () () hm (Ah [0,1,2] R R) (fun k _ _ hk hm=>?_) fun k x l _ _ h10 hm=> ?_
  ·rw [apart_Near.l1] at hm
   exact Ag tbk [] R R<|Af<|Bm R (k_end hk)<|A6<|Ar () hm (Ah [] R R)
  rw [apart_Near.l1] at hm
  exact Ag tbk [] R R<|Af<|Bl R (k_lt h10)<|Al<|Af<|Aw<|Ae<|Aa R R (B8 T_api_Bound.vv R R el40 h10)<|Aa R R (Bt R ld64 R)<|Ab R R<|Au z64 fun b4=>Ab R R<|Ak (i:=0) R R R ld64 R R R<|Ac<|Af<|Ae<|Ad tbk [0] 4 R R<|Cq tbk [0,3] 7 35 28 R R R R R<|Ac<|Ao hm R (fun h13 hm=>A6<|Ba tbk [] R R<|Ap () () hm (Be [1,2,3] R ⟨R,R,R,R,R,congrArg some (k_next h10 h9),trivial⟩)) fun h13 hm=>Al<|Ae<|Ad tbk [1,3,0,0] 7 R R<|Av (Ax [2,0,1,3] R)<|Ab R R<|Ay hm 1 R fn265 R (K116 _ _ _ _ _ _) fun r3 hm=>Aa R R (Ai R)<|Bx hm 9 53 44 R (fun _ K' h15 J hm=>Ad tbk [] 9 R R<|J 8 R R (Bj hm)) (fun _ K' h15 J hm=>Ad tbk [2,1,3,1] 7 R R<|Bh R R R R R<|Ay hm 1 R fn265 R (K116 _ _ _ _ _ _) fun r4 hm=>Aa R R (Bs false R R R)<|J 8 R R (Bj hm)) fun c hm=>Ac<|Ao hm R (fun h18 hm=>Ag tbk [] R R<|have hm:=Lr hm h8;Rt1 hm R [] R R R) fun h18 hm=>Al<|Ba tbk [] R R<|Ap () () hm (Be [2,0,3] R ⟨R,R,R,R,R,congrArg some (k_next h10 h9),trivial⟩)
 exact Ag tbk [] R R<|Rt1 hm R [] R R R

/-! trireme/apart.tally -/
def apart_tally.l1 (p : T_api_Pod) (r : (List (ByteArray × ByteArray))) : List T_api_Bound → Nat → (List (ByteArray × Int)) → Option (List (ByteArray × Int))
 | [], k, n2 => some n2
 | x :: l, k, n2 =>
  (if ((((V.mg r x.On).isSome) && (!(V.seq x.On (⟨#[]⟩ : ByteArray)))) && (!(V.seq x.Pod.Name p.Name))) = true then (labels_Has x.Pod.Labels p.Spread).bind fun r2 =>
  some r2 else some false).bind fun c =>
  if c = true then
   apart_tally.l1 p r l (k + 1) (V.mp n2 ((V.mg r x.On).getD (⟨#[]⟩ : ByteArray)) (i64.wrap (((V.mg n2 ((V.mg r x.On).getD (⟨#[]⟩ : ByteArray))).getD 0) + 1)))
  else
   apart_tally.l1 p r l (k + 1) n2
def apart_tally (ms : List T_api_Machine) (bs : List T_api_Bound) (p : T_api_Pod) : Option (List (ByteArray × Int)) :=
 (apart_zones ms).bind fun r =>
 (apart_tally.l1 p r bs 0 ([] : List (ByteArray × Int))).bind fun n32 =>
 some n32
theorem K118 (ms : List T_api_Machine) (bs : List T_api_Bound) (p : T_api_Pod) : VS1 Tryz.prog 279 (apart_tally ms bs p) [L68 ms, L64 bs, T_api_Pod.vv p] [] (fun r b_0=>.map b_0) (fun r b_0=>[.map b_0 (List.map (pf VV.str (VV.int .i64)) r)]) := by
 refine VS1.run [.tmp 6] Tryz.func279 R R R fun r hm=>?_
 unfold apart_tally at hm
 refine Ae<|Ab R R<|Bg R R fun b=>Aa R R (Aj R)<|Ac<|Ae<|Aa R R (Ai R)<|Ab R R<|Ea hm 0 R fn264 R (K114 _) fun r b2 hm=>Aa R R (Aj R)<|Ac<|Ae<|Ab R R<|Dc fun b3=>Aa R R (Aj R)<|Ac<|Af<|Ae<|Aa R R (Ai R)<|Aa R R (A7 T_api_Bound.vv R B6)<|Aa R R (Ai R)<|Ac<|B4 16 R fun h7=>Cc hm (fun _ (_:Unit)=>[(8,.map b3)]) (fun n32 (_:Unit)=>[.map b3 (List.map (pf VV.str (VV.int .i64)) n32)]) (fun o hm=>?_) fun n32 _ hm=> ?_
 ·refine Cf (bs) (fun zl zk (zs:List (ByteArray × Int))=>apart_tally.l1 p r zl zk zs) (fun k _ (_:Unit)=>[(5,.ptr b 0),(7,.map b2),(8,.map b3),(16,L64 bs),(17,Iw (bs.length : Int)),(18,Iw (k : Int))]) (fun _ zs (_:Unit)=>[.map b3 (List.map (pf VV.str (VV.int .i64)) zs),.map b2 (List.map (pf VV.str VV.str) r),X29 b p]) _ () hm (Ah [0,1,2] R R) (fun k n2 _ hk hm=>?_) fun k x l n2 _ h8 hm=> ?_
  ·rw [apart_tally.l1] at hm
   exact Ag tbk [] R R<|Af<|Bm R (k_end hk)<|A6<|As () hm (Ah [0] R R)
  rw [apart_tally.l1] at hm
  exact Ag tbk [] R R<|Af<|Bl R (k_lt h8)<|Al<|Af<|Aw<|Ae<|Aa R R (B8 T_api_Bound.vv R R el40 h8)<|Aa R R (Bt R ld64 R)<|Ab R R<|Au z64 fun b4=>Ab R R<|Ak (i:=0) R R R ld64 R R R<|Ac<|Ae<|Ad tbk [0] 3 R R<|Aa R R (Cy 2 (kf:=VV.str) (vf:=VV.str) (l:=r) (k:=x.On) (z:=(⟨#[]⟩ : ByteArray)) true mk9 C8 R R R zc9 R)<|Ad tbk [] 5 R R<|Ac<|Ae<|Ad tbk [] 2 R R<|Cu tbk [0] 4 34 30 R R R R R<|Aa R R (Ai R)<|Cu tbk [0,3] 7 42 35 R R R R R<|Aa R R (Ai R)<|Bx hm 7 50 43 R (fun _ K' h12 J hm=>Ad tbk [0,3] 5 R R<|Bh R R R R R<|Ay hm 0 R fn191 R (K83 _ _) fun r2 hm=>Aa R R (Bs true R R R)<|J 6 R R (Bj hm)) (fun _ K' h12 J hm=>Ad tbk [] 7 R R<|J 6 R R (Bj hm)) fun c hm=>Ac<|Ao hm R (fun h15 hm=>Bv<|Ad tbk [] 2 R R<|Aa R R (Cy 1 (kf:=VV.str) (vf:=(VV.int .i64)) (l:=n2) (k:=((V.mg r x.On).getD (⟨#[]⟩ : ByteArray))) (z:=(0 : Int)) false mk9 B9 R R R zc3 R)<|Aa R R (Br R R R)<|Ab R R<|De 1 (kf:=VV.str) (vf:=(VV.int .i64)) (l:=n2) (k:=((V.mg r x.On).getD (⟨#[]⟩ : ByteArray))) (z:=(IntKind.i64.wrap (((V.mg n2 ((V.mg r x.On).getD (⟨#[]⟩ : ByteArray))).getD (0 : Int)) + (1 : Int)))) mk9 B9 R R R R<|Ac<|Ba tbk [] R R<|Ap _ () hm (Be [1,2,3] R ⟨R,R,R,R,R,congrArg some (k_next h8 h7),trivial⟩)) fun h15 hm=>Al<|Ba tbk [] R R<|Ap _ () hm (Be [1,2,3] R ⟨R,R,R,R,R,congrArg some (k_next h8 h7),trivial⟩)
 exact Ag tbk [] R R<|Rg1 hm R [0] b3 (.cons (.tmp _ _ R) .nil) R R

/-! trireme/yard.Zones -/
def yard_Zones.l1 : List T_api_Machine → Nat → (List (ByteArray × Int)) → (List ByteArray) → Option (List ByteArray)
 | [], k, had2, l2 => some l2
 | x :: l4, k, had2, l2 =>
  (labels_Get x.Labels (⟨#[122, 111, 110, 101]⟩ : ByteArray)).bind fun r =>
  if ((!r.2) || (!x.Ready)) = true then
   yard_Zones.l1 l4 (k + 1) had2 l2
  else
   if (((V.mg (V.mp had2 r.1 (i64.wrap (((V.mg had2 r.1).getD 0) + 1))) r.1).getD 0) == 1) = true then
    (V.ap 16 l2 [r.1]).bind fun l5 =>
    yard_Zones.l1 l4 (k + 1) (V.mp had2 r.1 (i64.wrap (((V.mg had2 r.1).getD 0) + 1))) l5
   else
    yard_Zones.l1 l4 (k + 1) (V.mp had2 r.1 (i64.wrap (((V.mg had2 r.1).getD 0) + 1))) l2
def yard_Zones (ms : List T_api_Machine) : Option (List ByteArray) :=
 (yard_Zones.l1 ms 0 ([] : List (ByteArray × Int)) ([] : List ByteArray)).bind fun l32 =>
 some l32
theorem K119 (ms : List T_api_Machine) : VS2 Tryz.prog 280 (yard_Zones ms) [L68 ms] [] (fun r ob0 cap0=>Z9 ob0 r cap0) (fun r ob0 cap0=>[Q9 ob0 cap0 r]) := by
 refine Cz [.tmp 2] Tryz.func280 R R R fun r hm=>?_
 unfold yard_Zones at hm
 refine Ag tbk [] R R<|Ae<|Ab R R<|Dc fun b=>Aa R R (Aj R)<|Ac<|Ag tbk [] R R<|Af<|Ae<|Aa R R (Ai R)<|Aa R R (A7 T_api_Machine.vv R Cv)<|Aa R R (Ai R)<|Ac<|B4 10 R fun h6=>Cc hm (fun l32 (gg:Option Nat × Nat)=>[(4,Z9 gg.1 l32 gg.2)]) (fun l32 (gg:Option Nat × Nat)=>[Q9 gg.1 gg.2 l32]) (fun o hm=>?_) fun l32=>Pq fun ob3 cap3 hm=> ?_
 ·refine Cf (ms) (fun zl zk (zs:List (ByteArray × Int) × List ByteArray)=>yard_Zones.l1 zl zk zs.1 zs.2) (fun k zs (zg:Option Nat × Nat)=>[(3,.map b),(4,Z9 zg.1 zs.2 zg.2),(10,L68 ms),(11,Iw (ms.length : Int)),(12,Iw (k : Int))]) (fun _ zs (zg:Option Nat × Nat)=>[Q9 zg.1 zg.2 zs.2,.map b (List.map (pf VV.str (VV.int .i64)) zs.1)]) (([] : List (ByteArray × Int)),([] : List ByteArray)) (none,0) hm (B1 (Bf 9) (Ah [0,1] R R)) (fun k=>Pq fun had2 l2=>Pq fun ob2 cap2 hk hm=>?_) fun k x l4=>Pq fun had2 l2=>Pq fun ob2 cap2 h7 hm=> ?_
  ·rw [yard_Zones.l1] at hm
   exact Ag tbk [] R R<|Af<|Bm R (k_end hk)<|A6<|As (ob2,cap2) hm (Ah [0] R R)
  rw [yard_Zones.l1] at hm
  exact Ag tbk [] R R<|Af<|Bl R (k_lt h7)<|Al<|Af<|Aw<|Ae<|Aa R R (B8 T_api_Machine.vv R R el39 h7)<|Aa R R (Bt R ld68 R)<|Ab R R<|Au z68 fun b2=>Ab R R<|Ak (i:=0) R R R ld68 R R R<|Ac<|Ae<|Ad tbk [0] 2 R R<|Ab R R<|Ay hm 0 R fn224 R (K82 _ _) fun r hm=>Ad tbk [] 5 R R<|Ac<|Af<|Ae<|Ad tbk [] 3 R R<|Cq tbk [0] 4 28 24 R R R R R<|Ac<|Ao hm R (fun h11 hm=>A6<|Ba tbk [] R R<|Ap (had2,l2) (ob2,cap2) hm (Be [1,2] R ⟨R,R,R,R,congrArg some (k_next h7 h6),trivial⟩)) fun h11 hm=>Al<|Ae<|Ad tbk [] 2 R R<|Aa R R (Cy 2 (kf:=VV.str) (vf:=(VV.int .i64)) (l:=had2) (k:=r.1) (z:=(0 : Int)) false mk9 B9 R R R zc3 R)<|Aa R R (Br R R R)<|Ab R R<|De 2 (kf:=VV.str) (vf:=(VV.int .i64)) (l:=had2) (k:=r.1) (z:=(IntKind.i64.wrap (((V.mg had2 r.1).getD (0 : Int)) + (1 : Int)))) mk9 B9 R R R R<|Ac<|Ae<|Ad tbk [] 2 R R<|Aa R R (Cy 2 (kf:=VV.str) (vf:=(VV.int .i64)) (l:=(V.mp had2 r.1 (IntKind.i64.wrap (((V.mg had2 r.1).getD (0 : Int)) + (1 : Int))))) (k:=r.1) (z:=(0 : Int)) false mk9 B9 R R R zc3 R)<|Aa R R (Br R R R)<|Ac<|Ao hm R (fun h12 hm=>Bv<|Ad tbk [] 2 R R<|Ab R R<|A4 ap61 R R R R R fun b3=>Bd hm fun l5 h14 hm=>Ab R R<|Bo 2 VV.str (l:=l2) (l2:=[r.1]) ap61 R R (sT_row 0 VV.str el61 R R) h14 fun ob4 cap4=>Aa R R (Aj R)<|Ac<|Ba tbk [] R R<|Ap ((V.mp had2 r.1 (IntKind.i64.wrap (((V.mg had2 r.1).getD (0 : Int)) + (1 : Int)))),l5) (ob4,cap4) hm (Be [2,3] R ⟨R,R,R,R,congrArg some (k_next h7 h6),trivial⟩)) fun h12 hm=>Al<|Ba tbk [] R R<|Ap ((V.mp had2 r.1 (IntKind.i64.wrap (((V.mg had2 r.1).getD (0 : Int)) + (1 : Int)))),l2) (ob2,cap2) hm (Be [1,2] R ⟨R,R,R,R,congrArg some (k_next h7 h6),trivial⟩)
 exact Ag tbk [] R R<|Rg2 hm R [0] ob3 cap3 (.cons (.tmp _ _ R) .nil) R R

/-! trireme/apart.Counts -/
def apart_Counts.l1 (r : (List (ByteArray × Int))) : List ByteArray → Nat → (List Int) → Option (List Int)
 | [], k, out2 => some out2
 | x :: l, k, out2 =>
  (V.ap 8 out2 [((V.mg r x).getD 0)]).bind fun out4 =>
  apart_Counts.l1 r l (k + 1) out4
def apart_Counts (ms : List T_api_Machine) (bs : List T_api_Bound) (p : T_api_Pod) : Option (List ByteArray × List Int) :=
 (apart_tally ms bs p).bind fun r =>
 (yard_Zones ms).bind fun r2 =>
 (apart_Counts.l1 r r2 0 ([] : List Int)).bind fun out32 =>
 some (r2, out32)
theorem K120 (ms : List T_api_Machine) (bs : List T_api_Bound) (p : T_api_Pod) : VS2 Tryz.prog 266 (apart_Counts ms bs p) [L68 ms, L64 bs, T_api_Pod.vv p] [] (fun r ob1 cap1=>.tup [L9 r.1, Z3 ob1 r.2 cap1]) (fun r ob1 cap1=>[Q3 ob1 cap1 r.2]) := by
 refine Cz [.tmp 6,.tmp 7] Tryz.func266 R R R fun r hm=>?_
 unfold apart_Counts at hm
 refine Ae<|Ab R R<|Bg R R fun b=>Ad tbk [] 2 R R<|Ac<|Ae<|Ad tbk [0] 3 R R<|Ab R R<|Ea hm 0 R fn279 R (K118 _ _ _) fun r b2 hm=>Aa R R (Aj R)<|Ac<|Ae<|Aa R R (Ai R)<|Ab R R<|Cj hm 0 R fn280 R (K119 _) fun r2 ob cap hm=>Av (Az 0 [(18,L9 r2)] R ⟨⟨_,R,.here _ R⟩,trivial⟩ (FzH.refl _))<|Aa R R (Aj R)<|Ac<|Ag tbk [] R R<|Af<|Ae<|Aa R R (Ai R)<|Aa R R (A7 VV.str R Bz)<|Aa R R (Ai R)<|Ac<|B4 9 R fun h10=>Cc hm (fun out32 (gg:Option Nat × Nat)=>[(9,L9 r2),(10,Z3 gg.1 out32 gg.2)]) (fun out32 (gg:Option Nat × Nat)=>[Q3 gg.1 gg.2 out32]) (fun o hm=>?_) fun out32=>Pq fun ob4 cap4 hm=> ?_
 ·refine Cf (r2) (fun zl zk (zs:List Int)=>apart_Counts.l1 r zl zk zs) (fun k zs (zg:Option Nat × Nat)=>[(8,.map b2),(9,L9 r2),(10,Z3 zg.1 zs zg.2),(19,L9 r2),(20,Iw (r2.length : Int)),(21,Iw (k : Int))]) (fun _ zs (zg:Option Nat × Nat)=>[Q3 zg.1 zg.2 zs,.map b2 (List.map (pf VV.str (VV.int .i64)) r)]) _ (none,0) hm (B1 (Bf 3) (Ah [0,1] R R)) (fun k out2=>Pq fun ob3 cap3 hk hm=>?_) fun k x l out2=>Pq fun ob3 cap3 h11 hm=> ?_
  ·rw [apart_Counts.l1] at hm
   exact Ag tbk [] R R<|Af<|Bm R (k_end hk)<|A6<|As (ob3,cap3) hm (Ah [0] R R)
  rw [apart_Counts.l1] at hm
  exact Ag tbk [] R R<|Af<|Bl R (k_lt h11)<|Al<|Af<|Aw<|Ae<|Aa R R (B8 VV.str R R el61 h11)<|Ad tbk [] 2 R R<|Ac<|Bv<|Ad tbk [] 3 R R<|Aa R R (Cy 1 (kf:=VV.str) (vf:=(VV.int .i64)) (l:=r) (k:=x) (z:=(0 : Int)) false mk9 B9 R R R zc3 R)<|Ab R R<|A4 ap27 R R R R R fun b3=>Bd hm fun out4 h13 hm=>Ab R R<|Bo 1 (VV.int .i64) (l:=out2) (l2:=[((V.mg r x).getD (0 : Int))]) ap27 R R (sT_row 0 (VV.int .i64) el27 R R) h13 fun ob5 cap5=>Aa R R (Aj R)<|Ac<|Ba tbk [] R R<|Ap _ (ob5,cap5) hm (Be [1,2] R ⟨R,R,R,R,R,congrArg some (k_next h11 h10),trivial⟩)
 exact Ag tbk [] R R<|Rg2 hm R [0] ob4 cap4 (.cons (.tmp _ _ R) (.cons (.tmp _ _ R) .nil)) R R

/-! trireme/apart.Many -/
def apart_Many.l1 (on_ : ByteArray) (r2 : (List (ByteArray × ByteArray))) (r3 : List ByteArray × List Int) : List ByteArray → Nat → Bool → Int → Int → Option (Bool × Int × Int)
 | [], k, met2, mine2, least2 => some (met2, mine2, least2)
 | x :: l, k, met2, mine2, least2 =>
  (V.gl r3.2 (k : Int)).bind fun x2 =>
  if (((V.mg r2 on_).isSome) && (V.seq x ((V.mg r2 on_).getD (⟨#[]⟩ : ByteArray)))) = true then
   (V.gl r3.2 (k : Int)).bind fun x3 =>
   apart_Many.l1 on_ r2 r3 l (k + 1) true x3 (min least2 x2)
  else
   apart_Many.l1 on_ r2 r3 l (k + 1) met2 mine2 (min least2 x2)
def apart_Many (ms : List T_api_Machine) (bs : List T_api_Bound) (p : T_api_Pod) (on_ : ByteArray) : Option Bool :=
 (if ((p.Spread.length : Int) == 0) = true then some true else (yard_Find ms on_).bind fun r =>
 some (decide (r < 0))).bind fun c =>
 if c = true then
  some false
 else
  (apart_zones ms).bind fun r2 =>
  (apart_Counts ms bs p).bind fun r3 =>
  (apart_Many.l1 on_ r2 r3 r3.1 0 false 0 (401 : Int)).bind fun j =>
  (labels_Has p.Labels p.Spread).bind fun r4 =>
  if r4 = true then
   some ((!j.1) || (decide ((i64.wrap (j.2.1 + 1)) > (i64.wrap (j.2.2 + p.Skew)))))
  else
   some ((!j.1) || (decide (j.2.1 > (i64.wrap (j.2.2 + p.Skew)))))
theorem K121 (ms : List T_api_Machine) (bs : List T_api_Bound) (p : T_api_Pod) (on_ : ByteArray) : VS Tryz.prog 249 (apart_Many ms bs p on_) [L68 ms, L64 bs, T_api_Pod.vv p, .str on_] [] .bool N0 := by
 refine A8 [.tmp 8] Tryz.func249 R R R fun r hm=>?_
 unfold apart_Many at hm
 refine Ae<|Ab R R<|Bg R R fun b=>Aa R R (Aj R)<|Ac<|Af<|Ae<|Ad tbk [0] 2 R R<|Aa R R (A7 T_api_Label.vv R Cd)<|Ad tbk [] 2 R R<|Bx hm 5 27 22 R (fun _ K' h2 J hm=>Ad tbk [] 5 R R<|J 4 R R (Bj hm)) (fun _ K' h2 J hm=>Ad tbk [] 2 R R<|Bh R R R R R<|Ay hm 0 R fn72 R (K49 _ _) fun r hm=>Ad tbk [] 2 R R<|J 4 R R (Bj hm)) fun c hm=>Ac<|Ao hm R (fun h5 hm=>Ag tbk [] R R<|Rt1 hm R [] R R R) fun h5 hm=>Al<|Ae<|Aa R R (Ai R)<|Ab R R<|Ea hm 0 R fn264 R (K114 _) fun r2 b2 hm=>Aa R R (Ai R)<|Aa R R (Cy 0 (kf:=VV.str) (vf:=VV.str) (l:=r2) (k:=on_) (z:=(⟨#[]⟩ : ByteArray)) true mk9 C8 R R R zc9 R)<|Ad tbk [] 5 R R<|Ac<|Ae<|Ad tbk [1] 3 R R<|Ab R R<|Cj hm 0 R fn266 R (K120 _ _ _) fun r3 ob cap hm=>Ad tbk [] 5 R R<|Ac<|Ag tbk [] R R<|Ag tbk [] R R<|Af<|Ae<|Aa R R (Ai R)<|Aa R R (A7 VV.str R Bz)<|Aa R R (Ai R)<|Ac<|B4 42 R fun h12=>Cc hm (fun j (_:Unit)=>[(6,.ptr b 0),(13,.bool j.1),(14,Iw j.2.1),(15,Iw j.2.2)]) (fun _ (_:Unit)=>[X29 b p]) (fun o hm=>?_) fun j _ hm=> ?_
 ·refine Cf (r3.1) (fun zl zk (zs:Bool × Int × Int)=>apart_Many.l1 on_ r2 r3 zl zk zs.1 zs.2.1 zs.2.2) (fun k zs (_:Unit)=>[(6,.ptr b 0),(9,.str ((V.mg r2 on_).getD (⟨#[]⟩ : ByteArray))),(10,.bool ((V.mg r2 on_).isSome)),(12,Z3 ob r3.2 cap),(13,.bool zs.1),(14,Iw zs.2.1),(15,Iw zs.2.2),(42,L9 r3.1),(43,Iw (r3.1.length : Int)),(44,Iw (k : Int))]) (fun _ _ (_:Unit)=>[Q3 ob cap r3.2,X29 b p]) (false,(0 : Int),(401 : Int)) () hm (Ah [0,2] R R) (fun k=>Pq fun met2=>Pq fun mine2 least2 _ hk hm=>?_) fun k x l=>Pq fun met2=>Pq fun mine2 least2 _ h13 hm=> ?_
  ·rw [apart_Many.l1] at hm
   exact Ag tbk [] R R<|Af<|Bm R (k_end hk)<|A6<|As () hm (Ah [1] R R)
  rw [apart_Many.l1] at hm
  refine Ag tbk [] R R<|Af<|Bl R (k_lt h13)<|Al<|Af<|Aw<|Ae<|Aa R R (Ai R)<|Aa R R (B8 VV.str R R el61 h13)<|Ad tbk [] 3 R R<|Ac<|Ae<|Ad tbk [] 3 R R<|Bd hm fun x2 h14 hm=>Cg 0 R (gl_pos (VV.int .i64) h14) fun b3 h15=> ?_
  subst h15
  exact Aa R R (Cm (VV.int .i64) R R el27 h14)<|Aa R R (Ce (i:=0) (y:=(VV.int .i64) x2) R R R (gl_map _ (gl_some h14).2) ld3 R)<|Aa R R (VP.min2 R R)<|Aa R R (Aj R)<|Ac<|Ae<|Ad tbk [] 2 R R<|Cu tbk [] 4 60 56 R R R R R<|Ac<|Ao hm R (fun h17 hm=>Bi 0 mixed<|A9 tbk [0,1] [] (by kernel_rfl) R R R<|Bd hm fun x3 h18 hm=>Bb 2 R R R (by kernel_rfl) (Cm (VV.int .i64) R R el27 h18)<|Bb 3 R R R (by kernel_rfl) (Ce (i:=0) (y:=(VV.int .i64) x3) R R R (gl_map _ (gl_some h18).2) ld3 R)<|A9 tbk [4,5] [] (by kernel_rfl) R R R<|A5 (by kernel_rfl)<|Ba tbk [] R R<|Ap (true,x3,(min least2 x2)) () hm (Be [0,1] R ⟨R,R,R,R,R,R,R,R,R,congrArg some (k_next h13 h12),trivial⟩)) fun h17 hm=>Al<|Ba tbk [] R R<|Ap (met2,mine2,(min least2 x2)) () hm (Be [0,1] R ⟨R,R,R,R,R,R,R,R,R,congrArg some (k_next h13 h12),trivial⟩)
 exact Af<|Ae<|Ad tbk [0,0] 4 R R<|Ab R R<|Ay hm 0 R fn191 R (K83 _ _) fun r4 hm=>Ac<|Ao hm R (fun h20 hm=>Ba tbk [] R R<|Ae<|Ad tbk [] 3 R R<|Cq tbk [0] 7 82 75 R R R R R<|Aa R R (Aj R)<|Ac<|Rt1 hm R [] R R R) fun h20 hm=>Al<|Ae<|Ad tbk [] 3 R R<|Cq tbk [0] 7 82 75 R R R R R<|Aa R R (Aj R)<|Ac<|Rt1 hm R [] R R R

/-! trireme/apart.Why -/
def apart_Why (ms : List T_api_Machine) (bs : List T_api_Bound) (p : T_api_Pod) (on_ : ByteArray) : Option Int :=
 (apart_Near ms bs p on_).bind fun r =>
 if r = true then
  some 7
 else
  (apart_Many ms bs p on_).bind fun r2 =>
  if r2 = true then
   some 8
  else
   some 0
theorem K122 (ms : List T_api_Machine) (bs : List T_api_Bound) (p : T_api_Pod) (on_ : ByteArray) : VS Tryz.prog 233 (apart_Why ms bs p on_) [L68 ms, L64 bs, T_api_Pod.vv p, .str on_] [] Iw N0 := by
 refine A8 [.tmp 8] Tryz.func233 R R R fun r hm=>?_
 unfold apart_Why at hm
 exact Ae<|Ab R R<|Bg R R fun b=>Aa R R (Aj R)<|Ac<|Af<|Aw<|Ae<|Ad tbk [0] 4 R R<|Ab R R<|Ay hm 0 R fn248 R (K117 _ _ _ _) fun r hm=>Aa R R (Aj R)<|Ac<|Ao hm R (fun h3 hm=>Ag tbk [] R R<|Rt1 hm R [] R R R) fun h3 hm=>Ae<|Ad tbk [0] 4 R R<|Ab R R<|Ay hm 0 R fn249 R (K121 _ _ _ _) fun r2 hm=>Aa R R (Aj R)<|Ac<|Ao hm R (fun h5 hm=>Ag tbk [] R R<|Rt1 hm R [] R R R) fun h5 hm=>Al<|Ag tbk [] R R<|Rt1 hm R [] R R R

/-! (trireme/fit.asker).why -/
def fit_asker_why (a : T_fit_asker) (m : T_api_Machine) : Option Int :=
 (suit_Suits m a.bs a.p).bind fun r =>
 if (r != 0) = true then
  some r
 else
  (apart_Why a.ms a.bs a.p m.Name).bind fun r2 =>
  some r2
theorem K123 (a : T_fit_asker) (m : T_api_Machine) : VS Tryz.prog 217 (fit_asker_why a m) [T_fit_asker.vv a, T_api_Machine.vv m] [] Iw N0 := by
 refine A8 [.tmp 4] Tryz.func217 R R R fun r hm=>?_
 unfold fit_asker_why at hm
 exact Ae<|Ab R R<|Bg R R fun b=>Ab R R<|Bg R R fun b2=>Aa R R (Aj R)<|Ac<|Af<|Ae<|Ad tbk [0,1,1] 5 R R<|Ab R R<|Ay hm 0 R fn232 R (K113 _ _ _) fun r hm=>Aa R R (Aj R)<|Ac<|Ag tbk [] R R<|Ao hm R (fun h4 hm=>Ag tbk [] R R<|Rt1 hm R [] R R R) fun h4 hm=>Al<|Ae<|Ad tbk [1,1,1,0] 8 R R<|Ab R R<|Ay hm 0 R fn233 R (K122 _ _ _ _) fun r2 hm=>Aa R R (Aj R)<|Ac<|Rt1 hm R [] R R R

/-! trireme/fit.Where$1 -/
def fit_Where_1 (name : ByteArray) (why : Int) (a : List ByteArray) : Option (List ByteArray) :=
 if (why == 0) = true then
  (V.ap 16 a [name]).bind fun l =>
  some l
 else
  some a
theorem K124 (name : ByteArray) (why : Int) (a : List ByteArray) (b : Nat) (ob : Option Nat) (cap : Nat) : VS2 Tryz.prog 218 (fit_Where_1 name why a) [.str name, Iw why, .ptr b 0] [.box b 61 [Z9 ob a cap], Q9 ob cap a] (fun r ob0_0 cap0_0=>.tup []) (fun r ob0_0 cap0_0=>[.box b 61 [Z9 ob0_0 r cap0_0], Q9 ob0_0 cap0_0 r]) := by
 refine Cz [] Tryz.func218 R R R fun r hm=>?_
 unfold fit_Where_1 at hm
 refine Ag tbk [] R R<|Ao hm R (fun h1 hm=>?_) fun h1 hm=> ?_
 ·refine Bv<|Ad tbk [0] 2 R R<|Ab R R<|A4 ap61 R R R R R fun b2=>Bd hm fun l h3 hm=>Ab R R<|Bo 2 VV.str (l:=a) (l2:=[name]) ap61 R R (sT_row 0 VV.str el61 R R) h3 fun ob2 cap2=>Ab R R<|Ak (i:=1) R R R ld61 R R R<|Ac<|?_
  obtain rfl:=Option.some.inj hm
  exact ⟨.inr R,_,.nil,[1,2],_,R,ob2,cap2,R,R⟩
 refine Al<|?_
 obtain rfl:=Option.some.inj hm
 exact ⟨.inr R,_,.nil,[0,1],_,R,ob,cap,R,R⟩

/-! trireme/fit.each -/
def fit_each_fit_asker_why_fit_Where_1.l1 (c : T_fit_asker) : List T_api_Machine → Nat → (List ByteArray) → Option (List ByteArray)
 | [], k, do_2 => some do_2
 | x :: l3, k, do_2 =>
  (fit_asker_why c x).bind fun r =>
  (fit_Where_1 x.Name r do_2).bind fun r2 =>
  fit_each_fit_asker_why_fit_Where_1.l1 c l3 (k + 1) r2
def fit_each_fit_asker_why_fit_Where_1 (ms : List T_api_Machine) (c : T_fit_asker) (c2 : List ByteArray) : Option (List ByteArray) :=
 (fit_each_fit_asker_why_fit_Where_1.l1 c ms 0 c2).bind fun l2 =>
 some l2
theorem K125 (ms : List T_api_Machine) (c : T_fit_asker) (c2 : List ByteArray) (b : Nat) (ob : Option Nat) (cap : Nat) : VS2 Tryz.prog 216 (fit_each_fit_asker_why_fit_Where_1 ms c c2) [L68 ms, .clo (.func 217) [T_fit_asker.vv c] [], .clo (.func 218) [] [.ptr b 0]] [.box b 61 [Z9 ob c2 cap], Q9 ob cap c2] (fun r ob0_0 cap0_0=>.tup []) (fun r ob0_0 cap0_0=>[.box b 61 [Z9 ob0_0 r cap0_0], Q9 ob0_0 cap0_0 r]) := by
 refine Cz [] Tryz.func216 R R R fun r hm=>?_
 unfold fit_each_fit_asker_why_fit_Where_1 at hm
 refine Ae<|Aa R R (Ai R)<|Aa R R (A7 T_api_Machine.vv R Cv)<|Aa R R (Ai R)<|Ac<|B4 8 R fun h3=>Cc hm (fun _ (gg:Option Nat × Nat)=>[]) (fun l2 (gg:Option Nat × Nat)=>[.box b 61 [Z9 gg.1 l2 gg.2],Q9 gg.1 gg.2 l2]) (fun o hm=>?_) fun l2=>Pq fun ob4 cap4 hm=> ?_
 ·refine Cf (ms) (fun zl zk (zs:List ByteArray)=>fit_each_fit_asker_why_fit_Where_1.l1 c zl zk zs) (fun k _ (_:Option Nat × Nat)=>[(1,.clo (.func 217) [T_fit_asker.vv c] []),(2,.clo (.func 218) [] [.ptr b 0]),(8,L68 ms),(9,Iw (ms.length : Int)),(10,Iw (k : Int))]) (fun _ zs (zg:Option Nat × Nat)=>[.box b 61 [Z9 zg.1 zs zg.2],Q9 zg.1 zg.2 zs]) _ (ob,cap) hm (Ah [0,1] R R) (fun k do_2=>Pq fun ob3 cap3 hk hm=>?_) fun k x l3 do_2=>Pq fun ob3 cap3 h4 hm=> ?_
  ·rw [fit_each_fit_asker_why_fit_Where_1.l1] at hm
   exact Ag tbk [] R R<|Af<|Bm R (k_end hk)<|A6<|As (ob3,cap3) hm (Ah [0,1] R R)
  rw [fit_each_fit_asker_why_fit_Where_1.l1] at hm
  refine Ag tbk [] R R<|Af<|Bl R (k_lt h4)<|Al<|Af<|Aw<|Ae<|Aa R R (B8 T_api_Machine.vv R R el39 h4)<|Aa R R (Bt R ld68 R)<|Ab R R<|Au z68 fun b2=>Ab R R<|Ak (i:=0) R R R ld68 R R R<|Ac<|Bu (Ax [1,2,0] R)<|Bi 2 mixed<|A9 tbk [0,1,2,3,4] [0,0] (by kernel_rfl) R R R<|Am 5 (by kernel_rfl)<|Bd hm fun r h6 hm=>An R R R<|Aq 0 R fn217 R (K123 c x r h6) fun _ _ h9=> ?_
  obtain ⟨rfl,rfl⟩:=h9
  refine Am 6 (by kernel_rfl)<|Bd hm fun r2 h7 hm=>An R R R<|Aq 2 R fn218 R (K124 x.Name r do_2 b ob3 cap3 r2 h7) fun _ _ h8=> ?_
  obtain ⟨ob5,cap5,rfl,rfl⟩:=h8
  exact A5 (by kernel_rfl)<|Ba tbk [] R R<|Ap _ (ob5,cap5) hm (Be [0,1] R ⟨R,R,R,R,congrArg some (k_next h4 h3),trivial⟩)
 obtain rfl:=Option.some.inj hm
 exact ⟨.inr R,_,.nil,[0,1],_,R,ob4,cap4,R,R⟩

/-! trireme/fit.Where -/
def fit_Where (ms : List T_api_Machine) (bs : List T_api_Bound) (p : T_api_Pod) : Option (List ByteArray) :=
 (fit_each_fit_asker_why_fit_Where_1 ms (⟨ms, bs, p⟩ : T_fit_asker) ([] : List ByteArray)).bind fun r =>
 some r
theorem K126 (ms : List T_api_Machine) (bs : List T_api_Bound) (p : T_api_Pod) : VS2 Tryz.prog 182 (fit_Where ms bs p) [L68 ms, L64 bs, T_api_Pod.vv p] [] (fun r ob0 cap0=>Z9 ob0 r cap0) (fun r ob0 cap0=>[Q9 ob0 cap0 r]) := by
 refine Cz [.tmp 6] Tryz.func182 R R R fun r hm=>?_
 unfold fit_Where at hm
 exact Ae<|Ab R R<|Bg R R fun b=>Aa R R (Aj R)<|Ac<|Ae<|Ab R R<|Au z61 fun b2=>Ac<|Ae<|Ad tbk [1] 4 R R<|Aa R R (Bn pl263 R R)<|Aa R R (Ct R R)<|Aa R R (Ct R R)<|Av (Bf 9)<|Av (Ax [1,0,2] R)<|Ab R R<|Cj hm 2 R fn216 R (K125 _ _ _ _ _ _) fun r ob cap hm=>Ac<|Ag tbk [0] R R<|Rg2 hm R [1] ob cap (.cons (.tmp _ _ R) .nil) R R

/-! trireme/taints.Prefers -/
def taints_Prefers (l : List T_api_Toleration) (taints : List T_api_Taint) : Option Int :=
 (taints_Unborne l taints (2 : Int)).bind fun r =>
 some (r.length : Int)
theorem K127 (l : List T_api_Toleration) (taints : List T_api_Taint) : VS Tryz.prog 236 (taints_Prefers l taints) [L191 l, L31 taints] [] Iw N0 := by
 refine A8 [.tmp 4] Tryz.func236 R R R fun r hm=>?_
 unfold taints_Prefers at hm
 exact Ag tbk [] R R<|Ae<|Ad tbk [] 2 R R<|Ab R R<|Ay hm 0 R fn252 R (K92 _ _ _) fun r hm=>Aa R R (A7 T_api_Taint.vv R Ch)<|Aa R R (Aj R)<|Ac<|Rt1 hm R [] R R R

/-! trireme/suit.Prefers -/
def suit_Prefers (m : T_api_Machine) (p : T_api_Pod) : Option Int :=
 (taints_Prefers p.Bears m.Taints).bind fun r =>
 some r
theorem K128 (m : T_api_Machine) (p : T_api_Pod) : VS Tryz.prog 220 (suit_Prefers m p) [T_api_Machine.vv m, T_api_Pod.vv p] [] Iw N0 := by
 refine A8 [.tmp 4] Tryz.func220 R R R fun r hm=>?_
 unfold suit_Prefers at hm
 exact Ae<|Ab R R<|Bg R R fun b=>Ab R R<|Bg R R fun b2=>Aa R R (Aj R)<|Ac<|Ae<|Ad tbk [0,1] 4 R R<|Ab R R<|Ay hm 0 R fn236 R (K127 _ _) fun r hm=>Aa R R (Aj R)<|Ac<|Rt1 hm R [] R R R

/-! trireme/res.part -/
def res_part (a : Int) (b : Int) : Option Int :=
 if (decide (b > 0)) = true then
  (V.quo (i64.wrap (1000 * a)) b).bind fun v =>
  some (min (i64.wrap v) 1000000)
 else
  if (decide (a > 0)) = true then
   some 1000000
  else
   some 0
theorem K129 (a : Int) (b : Int) : VS Tryz.prog 237 (res_part a b) [Iw a, Iw b] [] Iw N0 := by
 refine A8 [.tmp 4] Tryz.func237 R R R fun r hm=>?_
 unfold res_part at hm
 exact Ag tbk [] R R<|Af<|Aw<|Ag tbk [] R R<|Ao hm R (fun h1 hm=>Ae<|Ad tbk [] 3 R R<|Bd hm fun v h2 hm=>Aa R R (VP.quoT R R h2)<|Aa R R (VP.min2 R R)<|Aa R R (Aj R)<|Ac<|Rt1 hm R [] R R R) fun h1 hm=>Ag tbk [] R R<|Ao hm R (fun h3 hm=>Ag tbk [] R R<|Rt1 hm R [] R R R) fun h3 hm=>Al<|Ag tbk [] R R<|Rt1 hm R [] R R R

/-! trireme/res.Share -/
def res_Share (a : T_api_Res) (b : T_api_Res) : Option Int :=
 (res_Right a).bind fun r =>
 (if (!r) = true then some true else (res_Right b).bind fun r2 =>
 some (!r2)).bind fun c =>
 if c = true then
  some 0
 else
  (res_part a.Cpu b.Cpu).bind fun r3 =>
  (res_part a.Mem b.Mem).bind fun r4 =>
  some (max r3 r4)
theorem K130 (a : T_api_Res) (b : T_api_Res) : VS Tryz.prog 221 (res_Share a b) [T_api_Res.vv a, T_api_Res.vv b] [] Iw N0 := by
 refine A8 [.tmp 4] Tryz.func221 R R R fun r hm=>?_
 unfold res_Share at hm
 refine Ae<|Ab R R<|Bg R R fun b2=>Ab R R<|Bg R R fun b3=>Aa R R (Aj R)<|Ac<|Af<|Ae<|Ad tbk [1] 1 R R<|Ab R R<|Ay hm 0 R fn133 R (K19 _) fun r hm=>Ad tbk [] 2 R R<|Bx hm 4 12 8 R (fun _ K' h4 J hm=>Ad tbk [] 4 R R<|J 3 R R (Bj hm)) (fun _ K' h4 J hm=>Ad tbk [0] 1 R R<|Bh R R R R R<|Ay hm 0 R fn133 R (K19 _) fun r2 hm=>Ad tbk [] 2 R R<|J 3 R R (Bj hm)) fun c hm=>Ac<|Ao hm R (fun h7 hm=>Ag tbk [] R R<|Rt1 hm R [] R R R) fun h7 hm=>Al<|Af<|Bi 0 mixed<|A9 tbk [0,1,2,3,5,6,7,8] [1,0,1,0] (by kernel_rfl) R R R<|Am 4 (by kernel_rfl)<|Bd hm fun r3 h8 hm=>An R R R<|Aq 0 R fn237 R (K129 a.Cpu b.Cpu r3 h8) fun _ _ h11=> ?_
 obtain ⟨rfl,rfl⟩:=h11
 refine Am 9 (by kernel_rfl)<|Bd hm fun r4 h9 hm=>An R R R<|Aq 0 R fn237 R (K129 a.Mem b.Mem r4 h9) fun _ _ h10=> ?_
 obtain ⟨rfl,rfl⟩:=h10
 exact Bb 10 R R R (by kernel_rfl) (VP.max2 R R)<|Bb 11 R R R (by kernel_rfl) (Aj R)<|A5 (by kernel_rfl)<|Rt1 hm R [] R R R

/-! trireme/sched.of -/
def sched_of.l1 (p : T_api_Pod) : List T_api_Bound → Nat → (List T_api_Bound) → Option (List T_api_Bound)
 | [], k, others2 => some others2
 | x :: l, k, others2 =>
  if (!(V.seq x.Pod.Name p.Name)) = true then
   (V.ap 288 others2 [x]).bind fun others4 =>
   sched_of.l1 p l (k + 1) others4
  else
   sched_of.l1 p l (k + 1) others2
def sched_of (m : T_api_Machine) (bs : List T_api_Bound) (p : T_api_Pod) : Option T_sched_score :=
 (sched_of.l1 p bs 0 ([] : List T_api_Bound)).bind fun others32 =>
 (yard_Used others32 m.Name).bind fun r =>
 (suit_Prefers m p).bind fun r2 =>
 (res_Share r.1 m.Has).bind fun r3 =>
 some (⟨r2, r3⟩ : T_sched_score)
theorem K131 (m : T_api_Machine) (bs : List T_api_Bound) (p : T_api_Pod) : VS Tryz.prog 183 (sched_of m bs p) [T_api_Machine.vv m, L64 bs, T_api_Pod.vv p] [] (fun r=>T_sched_score.vv r) N0 := by
 refine A8 [.cell 6 239] Tryz.func183 R R R fun r hm=>?_
 unfold sched_of at hm
 refine Ae<|Ab R R<|Bg R R fun b=>Ab R R<|Bg R R fun b2=>Ab R R<|Au z239 fun b3=>Ac<|Ag tbk [] R R<|Af<|Ae<|Aa R R (Ai R)<|Aa R R (A7 T_api_Bound.vv R B6)<|Aa R R (Ai R)<|Ac<|B4 12 R fun h8=>Cc hm (fun others32 (gg:Option Nat × Nat)=>[(3,.ptr b 0),(5,.ptr b2 0),(6,.ptr b3 0),(7,Z64 gg.1 others32 gg.2)]) (fun others32 (gg:Option Nat × Nat)=>[Q64 gg.1 gg.2 others32,X239 b3 (⟨(0 : Int),(0 : Int)⟩ : T_sched_score),X29 b2 p,X68 b m]) (fun o hm=>?_) fun others32=>Pq fun ob3 cap3 hm=> ?_
 ·refine Cf (bs) (fun zl zk (zs:List T_api_Bound)=>sched_of.l1 p zl zk zs) (fun k zs (zg:Option Nat × Nat)=>[(3,.ptr b 0),(5,.ptr b2 0),(6,.ptr b3 0),(7,Z64 zg.1 zs zg.2),(12,L64 bs),(13,Iw (bs.length : Int)),(14,Iw (k : Int))]) (fun _ zs (zg:Option Nat × Nat)=>[Q64 zg.1 zg.2 zs,X239 b3 (⟨(0 : Int),(0 : Int)⟩ : T_sched_score),X29 b2 p,X68 b m]) _ (none,0) hm (B1 (Bf 64) (Ah [0,1,2,3] R R)) (fun k others2=>Pq fun ob2 cap2 hk hm=>?_) fun k x l others2=>Pq fun ob2 cap2 h9 hm=> ?_
  ·rw [sched_of.l1] at hm
   exact Ag tbk [] R R<|Af<|Bm R (k_end hk)<|A6<|As (ob2,cap2) hm (Ah [0,1,2,3] R R)
  rw [sched_of.l1] at hm
  exact Ag tbk [] R R<|Af<|Bl R (k_lt h9)<|Al<|Af<|Aw<|Ae<|Aa R R (B8 T_api_Bound.vv R R el40 h9)<|Aa R R (Bt R ld64 R)<|Ab R R<|Au z64 fun b4=>Ab R R<|Ak (i:=0) R R R ld64 R R R<|Ac<|Ag tbk [0,3] R R<|Ao hm R (fun h11 hm=>Bv<|Ad tbk [0] 2 R R<|Ab R R<|A4 ap40 R R R R R fun b5=>Bd hm fun others4 h13 hm=>Ab R R<|Bo 2 T_api_Bound.vv (l:=others2) (l2:=[x]) ap40 R R (sT_row 0 T_api_Bound.vv el40 R R) h13 fun ob4 cap4=>Aa R R (Aj R)<|Ac<|Ba tbk [] R R<|Ap _ (ob4,cap4) hm (Be [2,3,4,5] R ⟨R,R,R,R,R,R,congrArg some (k_next h9 h8),trivial⟩)) fun h11 hm=>Al<|Ba tbk [] R R<|Ap _ (ob2,cap2) hm (Be [1,2,3,4] R ⟨R,R,R,R,R,R,congrArg some (k_next h9 h8),trivial⟩)
 refine Ae<|Ad tbk [3] 3 R R<|Ab R R<|Dn hm (Az 0 [(7,L64 others32),(30,L64 others32)] R ⟨⟨_,R,.here _ R⟩,⟨_,R,.here _ R⟩,trivial⟩ (FzH.refl _)) [.same,.same] R fn219 R (K102 _ _) (fun _=>R) (fun _=>R) fun r hm=>Ad tbk [] 3 R R<|Ab R R<|Au z23 fun b6=>Ab R R<|Ak (i:=0) R R R ld23 R R R<|Aa R R (Aj R)<|Ac<|Af<|Bu (Ax [2,0,1,3,4] R)<|Bi 1 mixed<|A9 tbk [0,1,3,4,5] [3,2,0,3] (by kernel_rfl) R R R<|Am 2 (by kernel_rfl)<|Bd hm fun r2 h17 hm=>An R R R<|Aq 0 R fn220 R (K128 m p r2 h17) fun _ _ h20=> ?_
 obtain ⟨rfl,rfl⟩:=h20
 refine Am 6 (by kernel_rfl)<|Bd hm fun r3 h18 hm=>An R R R<|Aq 0 R fn221 R (K130 r.1 m.Has r3 h18) fun _ _ h19=> ?_
 obtain ⟨rfl,rfl⟩:=h19
 exact Bb 7 R R R (by kernel_rfl) (Bn pl239 R R)<|Am 8 (by kernel_rfl)<|An R R R<|Ak (i:=0) R R R ld239 R R R<|A5 (by kernel_rfl)<|Rt0 hm R [] (.cons (.cell _ _ _ _ 0 _ _ _ _ R R ld239 R) .nil) R R

/-! (trireme/sched.score).less -/
def sched_score_less (a : T_sched_score) (b : T_sched_score) : Option Bool :=
 if (a.prefers != b.prefers) = true then
  some (decide (a.prefers < b.prefers))
 else
  some (decide (a.share < b.share))
theorem K132 (a : T_sched_score) (b : T_sched_score) : VS Tryz.prog 184 (sched_score_less a b) [T_sched_score.vv a, T_sched_score.vv b] [] .bool N0 := by
 refine A8 [.tmp 4] Tryz.func184 R R R fun r hm=>?_
 unfold sched_score_less at hm
 exact Ae<|Ab R R<|Bg R R fun b2=>Ab R R<|Bg R R fun b3=>Aa R R (Aj R)<|Ac<|Af<|Ag tbk [1,0] R R<|Ao hm R (fun h3 hm=>Ag tbk [1,0] R R<|Rt1 hm R [] R R R) fun h3 hm=>Al<|Ag tbk [1,0] R R<|Rt1 hm R [] R R R

/-! trireme/sched.Best -/
def sched_Best.l1 (ms : List T_api_Machine) (bs : List T_api_Bound) (p : T_api_Pod) : List ByteArray → Nat → ByteArray → T_sched_score → Option ByteArray
 | [], k, best2, least2 => some best2
 | x :: l, k, best2, least2 =>
  ((yard_Find ms x).bind fun r2 =>
  (V.gl ms r2).bind fun x3 =>
  (sched_of x3 bs p).bind fun r3 =>
  some r3).bind fun x22 =>
  (if (V.seq best2 (⟨#[]⟩ : ByteArray)) = true then some true else (sched_score_less x22 least2).bind fun r7 =>
  some r7).bind fun c =>
  if c = true then
   sched_Best.l1 ms bs p l (k + 1) x x22
  else
   sched_Best.l1 ms bs p l (k + 1) best2 least2
def sched_Best (ms : List T_api_Machine) (bs : List T_api_Bound) (p : T_api_Pod) : Option ByteArray :=
 (fit_Where ms bs p).bind fun r =>
 (sched_Best.l1 ms bs p r 0 (⟨#[]⟩ : ByteArray) (⟨0, 0⟩ : T_sched_score)).bind fun best32 =>
 some best32
theorem K133 (ms : List T_api_Machine) (bs : List T_api_Bound) (p : T_api_Pod) : VS Tryz.prog 128 (sched_Best ms bs p) [L68 ms, L64 bs, T_api_Pod.vv p] [] .str N0 := by
 refine A8 [.tmp 6] Tryz.func128 R R R fun r hm=>?_
 unfold sched_Best at hm
 refine Ae<|Ab R R<|Bg R R fun b=>Aa R R (Aj R)<|Ac<|Ag tbk [] R R<|Ae<|Ab R R<|Au z239 fun b2=>Ac<|Af<|Ae<|Ad tbk [1] 3 R R<|Ab R R<|Cj hm 0 R fn182 R (K126 _ _ _) fun r ob cap hm=>Av (Az 0 [(15,L9 r)] R ⟨⟨_,R,.here _ R⟩,trivial⟩ (FzH.refl _))<|Aa R R (A7 VV.str R Bz)<|Aa R R (Ai R)<|Ac<|B4 15 R fun h7=>Cc hm (fun best32 (_:Unit)=>[(7,.str best32)]) (fun _ (_:Unit)=>[]) (fun o hm=>?_) fun best32 _ hm=> ?_
 ·refine Cf (r) (fun zl zk (zs:ByteArray × T_sched_score)=>sched_Best.l1 ms bs p zl zk zs.1 zs.2) (fun k zs (_:Unit)=>[(0,L68 ms),(1,L64 bs),(5,.ptr b 0),(7,.str zs.1),(8,.ptr b2 0),(15,L9 r),(16,Iw (r.length : Int)),(17,Iw (k : Int))]) (fun _ zs (_:Unit)=>[X239 b2 zs.2,X29 b p]) ((⟨#[]⟩ : ByteArray),(⟨(0 : Int),(0 : Int)⟩ : T_sched_score)) () hm (Ah [0,1] R R) (fun k=>Pq fun best2 least2 _ hk hm=>?_) fun k x l=>Pq fun best2 least2 _ h8 hm=> ?_
  ·rw [sched_Best.l1] at hm
   exact Ag tbk [] R R<|Af<|Bm R (k_end hk)<|A6<|As () hm (Ah [] R R)
  rw [sched_Best.l1] at hm
  refine Ag tbk [] R R<|Af<|Bl R (k_lt h8)<|Al<|Af<|Aw<|Ae<|Aa R R (B8 VV.str R R el61 h8)<|Ad tbk [] 2 R R<|Ac<|Dq hm (fun _ (gg:Nat)=>[(0,L68 ms),(1,L64 bs),(5,.ptr b 0),(7,.str best2),(8,.ptr b2 0),(10,.str x),(11,.ptr gg 0),(15,L9 r),(16,Iw (r.length : Int)),(17,Iw (k : Int))]) (fun x22 (gg:Nat)=>[X239 gg x22,X239 b2 least2,X29 b p]) (fun o2 hm=>?_) fun x22 b3 hm=> ?_
  ·refine Bi 0 mixed<|A9 tbk [0,1,2,6,7] [1] (by kernel_rfl) R R R<|?_
   refine B3 [3,9] (by kernel_rfl) ⟨?_,?_,trivial⟩
   ·refine Bd hm fun r2 h12 hm=>An R R R<|Aq 0 R fn72 R (K49 ms x r2 h12) fun _ _ h20=> ?_
    obtain ⟨rfl,rfl⟩:=h20
    refine Bd hm fun x3 h13 hm=>Bb 4 R R R (by kernel_rfl) (Bw T_api_Machine.vv R R el39 h13)<|Bb 5 R R R (by kernel_rfl) (Bt R ld68 R)<|?_
    refine B3 [8,9] (by kernel_rfl) ⟨?_,?_,trivial⟩
    ·refine Bd hm fun r3 h14 hm=>An R R R<|Aq 0 R fn183 R (K131 x3 bs p r3 h14) fun _ _ h16=> ?_
     obtain ⟨rfl,rfl⟩:=h16
     exact Am 9 (by kernel_rfl)<|An R R R<|Au z239 fun b4=>Am 10 (by kernel_rfl)<|An R R R<|Ak (i:=0) R R R ld239 R R R<|A5 (by kernel_rfl)<|As _ hm (Ah [0,1,2] R R)
    ·refine An R R R<|Au z239 fun b5=>Am 8 (by kernel_rfl)<|Bd hm fun r4 h18 hm=>An R R R<|Aq 0 R fn183 R (K131 x3 bs p r4 h18) fun _ _ h19=> ?_
     obtain ⟨rfl,rfl⟩:=h19
     exact Am 10 (by kernel_rfl)<|An R R R<|Ak (i:=0) R R R ld239 R R R<|A5 (by kernel_rfl)<|As _ hm (Ah [0,1,2] R R)
   ·refine An R R R<|Au z239 fun b6=>Am 3 (by kernel_rfl)<|Bd hm fun r5 h22 hm=>An R R R<|Aq 0 R fn72 R (K49 ms x r5 h22) fun _ _ h26=> ?_
    obtain ⟨rfl,rfl⟩:=h26
    refine Bd hm fun x4 h23 hm=>Bb 4 R R R (by kernel_rfl) (Bw T_api_Machine.vv R R el39 h23)<|Bb 5 R R R (by kernel_rfl) (Bt R ld68 R)<|Am 8 (by kernel_rfl)<|Bd hm fun r6 h24 hm=>An R R R<|Aq 0 R fn183 R (K131 x4 bs p r6 h24) fun _ _ h25=> ?_
    obtain ⟨rfl,rfl⟩:=h25
    exact Am 10 (by kernel_rfl)<|An R R R<|Ak (i:=0) R R R ld239 R R R<|A5 (by kernel_rfl)<|As _ hm (Ah [0,1,2] R R)
  exact Ae<|Ad tbk [] 3 R R<|Bx hm 4 36 32 R (fun _ K' h27 J hm=>Ad tbk [] 4 R R<|J 3 R R (Bj hm)) (fun _ K' h27 J hm=>Ad tbk [0,1] 2 R R<|Bh R R R R R<|Ay hm 0 R fn184 R (K132 _ _) fun r7 hm=>Aa R R (Bs false R R R)<|J 3 R R (Bj hm)) fun c hm=>Ac<|Ao hm R (fun h30 hm=>Bu (Ax [1,0,2] R)<|Bi 1 mixed<|A9 tbk [0,1,2] [0] (by kernel_rfl) R R R<|Am 3 (by kernel_rfl)<|An R R R<|Ak (i:=0) R R R ld239 R R R<|A5 (by kernel_rfl)<|Ba tbk [] R R<|Ap (x,x22) () hm (Be [0,2] R ⟨R,R,R,R,R,R,R,congrArg some (k_next h8 h7),trivial⟩)) fun h30 hm=>Al<|Ba tbk [] R R<|Ap (best2,least2) () hm (Be [1,2] R ⟨R,R,R,R,R,R,R,congrArg some (k_next h8 h7),trivial⟩)
 exact Ag tbk [] R R<|Rt1 hm R [] R R R

end Go.Proofs.YtbgfffdnaijmhaaGreat.M

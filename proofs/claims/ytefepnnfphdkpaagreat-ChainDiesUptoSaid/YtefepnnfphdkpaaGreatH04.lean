/- ChainDies: a part of its proof; conditions: its statement's. -/
import Derived.Test.YtefepnnfphdkpaaGreatH02
import Derived.Test.YtefepnnfphdkpaaGreatH03
set_option linter.defProp false
namespace Go.Proofs.YtefepnnfphdkpaaGreat.Am
open Go Go.Maps Go.Sort Go.Shelf Go.RowKit
def gR:=@Tryz.underlying145
def ji:=@Tryz.underlying46
def Au:=@Tryz.underlying146
def Av:=@Tryz.underlying185
def Aw:=@Tryz.func139
def IT:=@Tryz.underlying239
def IU:=@Tryz.underlying244
abbrev ah {α:Type}:Option α:=none
variable {X:aL} {C:fc} {es:cn} {Q:Ex→List (Nat×V)→H→Prop} {h h₁ h':H} {E:List (Nat×V)} {L:List (V×H)} {S:List aL} {l b data seen:List Nat} {cs post args:List V} {g n k s i aO d z p6 r id off q j tx pv nx j1 j2 p1 dg c mid clock im N:Nat} {o:Oper} {y:Operand} {a:PM} {P:Program} {α:Type} {t e:TypeId} {x bv dt v' wh di:V}
theorem abo (m:Nat): AnyZI.SortsIn Tryz.prog Tryz.sorted61_ren Fence.wide m :=
 ⟨fun lP off cap ss W hH I J=>callsIn_wide.2 (AnyM.slices_Sort_int Tryz.sort119 lP off cap ss W hH I J),
  fun p cap W=>callsIn_wide.2 (AnyM.slices_Sort_int_none Tryz.sort119 p cap W)⟩
theorem Fx (eg:∀args w,(callFunc g args).run Tryz.prog w=.ok (.enter g args) w){Bm:Nat}{D0:DataW Unit}{w:World}(kI:Maps.size D0≤maxLen)(I:Maps.size D0*8≤140737488355328)
 (acz:SeqGives Fence.wide 2 Tryz.prog g #[.pointer (some ⟨Bm,0,none⟩)] encZ (fun J=>J.Perm (intKeys D0)) (Maps.size D0) w):
  Calls Tryz.prog 61 #[.func (.func g) #[] #[.pointer (some ⟨Bm,0,none⟩)]] w fun e w'=>∃(v:Value) (J:List Int),e=.returned v∧J.Perm (intKeys D0) ∧
   w'.ownsRow w.heap.size 3 1 v J.length ((J.mergeSort (fun x y=>decide (x≤y))).map encZ)∧(v=.slice none 0 0↔J=[])∧Below w.heap.size w w' :=
 (callsIn_wide (n:=5)).1 (AnyZI.sorted_in Tryz.sorted61 Fence.wide 5 aa aa aa aa rfl (by omega) (abo _) (enters_of Tryz.func119 (by rfl) rfl) g _ aa eg _ _ kI I _ acz)
def BB : List Nat:=[120,174,175]
theorem Qk : Gj Tryz.prog 61 3 BB:=by
 intro g hg Bm b nn D0 w hB hm J kI I
 simp only[BB,kP,ow,ug] at hg
 rcases hg with rfl|rfl|rfl
 ·exact Fx (enters_of Tryz.func120 (by rfl) rfl) kI I (AnyZI.keys_gives (ρ:=Tryz.keys62_ren) { Tryz.keys62 with } Fence.wide _ aa rfl (by omega) Bm b nn D0 w hB hm J)
 ·exact Fx (enters_of Tryz.func174 (by rfl) rfl) kI I (AnyZI.keys_gives (ρ:=Tryz.keys143_ren) { Tryz.keys143 with } Fence.wide _ aa rfl (by omega) Bm b nn D0 w hB hm J)
 ·exact Fx (enters_of Tryz.func175 (by rfl) rfl) kI I (AnyZI.keys_gives (ρ:=Tryz.keys147_ren) { Tryz.keys147 with } Fence.wide _ aa rfl (by omega) Bm b nn D0 w hB hm J)
end Go.Proofs.YtefepnnfphdkpaaGreat.Am
namespace Go.Proofs.YtefepnnfphdkpaaGreat.Am
open Go
variable {X:aL} {C:fc} {es:cn} {Q:Ex→List (Nat×V)→H→Prop} {h h₁ h':H} {E:List (Nat×V)} {L:List (V×H)} {S:List aL} {l b data seen:List Nat} {cs post args:List V} {g n k s i aO d z p6 r id off q j tx pv nx j1 j2 p1 dg c mid clock im N:Nat} {o:Oper} {y:Operand} {a:PM} {P:Program} {α:Type} {t e:TypeId} {x bv dt v' wh di:V}
def IV : List Nat:=[95,176,177,162,161,171,163,116]
structure Std (told:cR): Prop where
 free:∀f,inL IV f=true→told f=none
 more:told 178=some toldMore
theorem wrap_u64 (h:n<18446744073709551616): IntKind.wrap .u64 (n:Int)=(n:Int):=by
 grind[IntKind.wrap,IntKind.bits,IntKind.signed]
theorem wrap_u8 (n:Nat): IntKind.wrap .u8 (n:Int)=((n%256:Nat):Int):=by
 rfl
def digits : Nat→Nat→List Nat
 |0,n=>[n%128]
 |k+1,n=>if n<128 then[n] else(n%128+128)::digits k (n/128)
set_option maxRecDepth 10000 in
theorem abp (h:n<256): Nat.lor n 128=n%128+128:=by
 have:∀m:Fin 256,Nat.lor m.1 128=m.1%128+128:=by decide
 exact this ⟨n,h⟩
theorem NT (h:n<256): intV .or .u8 (n:Int) 128=some (.int .u8 ((n%128+128:Nat):Int)):=by
 have I:((n:Int)%(2^(IntKind.u8).bits:Int)).toNat=n:=by grind[IntKind.bits]
 have J:((128:Int)%(2^(IntKind.u8).bits:Int)).toNat=128:=by rfl
 grind[intV,bitsV,abp,wrap_u8]
theorem acA : shiftV .shr .u64 (n:Int) 7=some (.int .u64 ((n/128:Nat):Int)):=by
 grind[shiftV,IntKind.bits]
section
variable {told:cR}
noncomputable def vtX : Code:=unloop (unblk (leftC (cX ((Tryz.f176.body).getD .skip))))
theorem vT : convV Tryz.prog h 43 5 (.int .u64 (n:Int))=some (.int .u8 ((n%256:Nat):Int),h):=by
 simp[convV,wrap_u8]
theorem jO (h:n<128): digits k n=[n]:=by
 cases k<;>grind[digits]
theorem DU (hn:n<128)(I:look E 1=some (.int .u64 (n:Int)))
 (J:Q (.exit 0) ((6,.bool false)::(5,.int .u64 (n:Int))::E) h): WP ⟨Tryz.prog,told⟩ 20 (.loop vtX) E h Q:=by
 refine WP.loop (WP.seq (WP.seq (WP.region rfl ?_)))
 refine zo rfl (bK I) (zo rfl (aA (v:=.int .u64 (n:Int)) (u:=.int .u64 128) (r:=.bool false) rfl rfl (by simp only[binV,ikBeq,aj,intV];congr 2;simp;omega)) ?_)
 exact ax.nil (WP.cond (t:=false) rfl (WP.exit J))
theorem KT : ∀(k n:Nat) (l:List Nat) (s:V) (h:H) (E:List (Nat×V)) (Q:Ex→List (Nat×V)→H→Prop),lQ h→jS h s l→n<128^(k+1)→k≤9→l.length+k+1≤140737488355328 →
  look E 0=some s→look E 1=some (.int .u64 (n:Int)) →
  (∀E' h' s' l' (m:Nat),look E' 0=some s'→look E' 1=some (.int .u64 (m:Int))→m<128→l'++[m]=l++digits k n→jS h' s' l'→eD (2*k) (rowIds s) h h'→(∀i∈rowIds s',i∈rowIds s∨h.next≤i)→Q (.exit 0) E' h') →
  WP ⟨Tryz.prog,told⟩ 20 (.loop vtX) E h Q:=by
 intro k
 induction k with
 |zero =>
  intro n l s h E Q hw hs hn _ _ h0 J hq
  have I:n<128:=by omega
  exact DU I J (hq _ h s l n h0 J I (by rw[jO I]) hs (eD.refl hw _) (fun i hi=>.inl hi))
 |succ k ih =>
  intro n l s h E Q hw hs hn hk hl h0 J hq
  by_cases I:n<128
  ·exact DU I J (hq _ h s l n h0 J I (by rw[jO I]) hs ((eD.refl hw _).mono (fe _) (fun _ h=>h)) (fun i hi=>.inl hi))
  ·have hd:n/128<128^(k+1):=by
    omega
   refine WP.loop (WP.seq (WP.seq (WP.region rfl ?_)))
   refine zo rfl (bK J) (zo rfl (aA (v:=.int .u64 (n:Int)) (u:=.int .u64 128) (r:=.bool true) rfl rfl (by simp only[binV,ikBeq,aj,intV];congr 2;simp;omega)) ?_)
   refine ax.nil (WP.cond (t:=true) rfl (WP.skip ?_))
   refine WP.block (WP.seq (WP.region rfl ?_))
   refine zo rfl (bK h0) (zo rfl (bK J) (zo rfl (cJ (v:=.int .u64 (n:Int)) rfl vT) (zo rfl (aA (v:=.int .u8 ((n%256:Nat):Int)) (u:=.int .u8 128) (r:=.int .u8 ((n%256%128+128:Nat):Int)) rfl rfl (by exact NT (by omega))) ?_)))
   refine ax.NG (b:=n%256%128+128) rfl hw rfl rfl rfl rfl rfl rfl (by omega) (fun v h₁ b1 k1 f1 => ?_)
   have jD:jS h₁ s l:=hs.kH hw k1 (fun i _=>ow)
   refine ax.app (s:=s) (x:=v) rfl k1.wf rfl rfl rfl rfl rfl rfl rfl jD b1.view (by grind) (fun v2 Ql b2 k2 f2 => ?_)
   have Qm:eD 2 (rowIds s) h Ql:=(k1.mono (aU _) (fun i hi=>by grind)).trans k2 (fun i hi=>.inl hi)
   refine za rfl ?_
   refine ax.nil (WP.region rfl ?_)
   refine zo rfl (bK J) (zo rfl (aA (v:=.int .u64 (n:Int)) (u:=.int .u64 7) (r:=.int .u64 ((n/128:Nat):Int)) rfl rfl acA) (zk 2 rfl ?_))
   refine ih (n/128) (l++[n%256%128+128]) v2 Ql _ Q Qm.wf b2 hd (by omega) (by grind) rfl rfl (fun E' h' s' l' m q1 q2 q3 q4 q5 q6 q7 => ?_)
   refine hq E' h' s' l' m q1 q2 q3 ?_ q5 ?_ (fun i hi => ?_)
   ·grind[digits]
   ·exact(Qm.trans q6 (fun i hi=>(f2 i hi).imp_right (fun h=>bX k1.le h))).mono (by omega) (fun i hi=>hi)
   ·rcases q7 i hi with h3|h3
    ·exact(f2 i h3).imp_right (fun h=>bX k1.le h)
    ·exact .inr (bX Qm.le h3)
theorem Gw (hT:Std told){s:V}(hw:lQ h)(hs:jS h s l)(hn:n<128^(k+1))(hk:k≤9)(hl:l.length+k+1≤140737488355328):
  Call ⟨Tryz.prog,told⟩ 176 [s,.int .u64 (n:Int)] h fun v h'=>jS h' v (l++digits k n)∧eD (2*k+2) (rowIds s) h h'∧∀i∈rowIds v,i∈rowIds s∨h.next≤i:=by
 refine Call.of_wp (hT.free _ rfl) Tryz.func176 rfl rfl ?_
 refine WP.seq (WP.region rfl (ax.op rfl rfl rfl (fD rfl) (ax.nil ?_)))
 refine WP.seq (WP.block ?_)
 refine KT k n l s h _ _ hw hs hn hk hl rfl rfl (fun E' h' s' l' m q1 q2 q3 q4 q5 I q7 => ?_)
 have yS:l'.length=l.length+(digits k n).length-1:=by
  have:=jm List.length q4
  simp at this
  omega
 have J:∀(k n:Nat),(digits k n).length≤k+1:=by
  intro k
  induction k<;>grind[digits]
 have aeg:=J k n
 refine WP.seq (WP.region rfl ?_)
 refine zo rfl (bK q1) (zo rfl (bK q2) (zo rfl (cJ (v:=.int .u64 (m:Int)) rfl vT) ?_))
 refine ax.NG (b:=m%256) rfl I.wf rfl rfl rfl rfl rfl rfl (by omega) (fun v h₁ b1 k1 f1 => ?_)
 have jD:jS h₁ s' l':=q5.kH I.wf k1 (fun i _=>ow)
 refine ax.app (s:=s') (x:=v) rfl k1.wf rfl rfl rfl rfl rfl rfl rfl jD b1.view (by grind) (fun v2 Ql b2 k2 f2 => ?_)
 refine za rfl ?_
 refine ax.nil (WP.ret ?_)
 refine⟨aa,v2,rfl,?_,?_,fun i hi => ?_⟩
 ·grind
 ·refine((I.trans k1 (fun i hi=>by grind)).trans k2 (fun i hi => ?_)).mono (by omega) (fun i hi=>hi)<;>grind
 ·rcases f2 i hi with h3|h3
  ·grind
  ·exact .inr (by have:=I.le;have:=k1.le;omega)
theorem IW (I:n<18446744073709551616): convV Tryz.prog h 3 43 (.int .i64 (n:Int))=some (.int .u64 (n:Int),h):=by
 simp_all[convV,wrap_u64]
theorem iq : ∀(k n:Nat),(digits k n).length≤k+1:=by
 intro k
 induction k<;>grind[digits]
theorem Xe (I:Std told){s:V}{m:List Nat}(hw:lQ h)(hs:jS h s l)(J:View h x m)(hd:∀i∈rowIds x,i∉rowIds s)(hn:m.length<128^(k+1))(hk:k≤9)(hl:l.length+k+1+m.length≤140737488355328):
  Call ⟨Tryz.prog,told⟩ 177 [s,x] h fun v h'=>jS h' v (l++digits k m.length++m)∧eD (2*k+3) (rowIds s) h h'∧∀i∈rowIds v,i∈rowIds s∨h.next≤i:=by
 refine Call.of_wp (I.free _ rfl) Tryz.func177 rfl rfl ?_
 refine WP.seq (WP.region rfl (ax.op rfl rfl rfl (fD rfl) (ax.nil ?_)))
 refine WP.seq (WP.region rfl ?_)
 refine zk 2 rfl (zo rfl (aN (v:=x) rfl rfl rfl J.len) (zo rfl (cJ (v:=.int .i64 (m.length:Int)) rfl (IW (by omega))) ?_))
 refine ax.call rfl rfl rfl rfl rfl rfl rfl (Gw I (k:=k) hw hs hn hk (by omega)) (fun v h₁ ⟨b1,k1,f1⟩ => ?_)
 refine zm rfl ?_
 have VL:=iq k m.length
 refine ax.app (s:=v) (x:=x) rfl k1.wf rfl rfl rfl rfl rfl rfl rfl b1 (J.kH hw k1 hd) (by grind) (fun v2 Ql b2 k2 f2 => ?_)
 refine ax.op rfl rfl rfl (fD rfl) (ax.nil (WP.ret ?_))
 refine⟨aa,v2,rfl,b2,(k1.trans k2 f1).mono (by omega) (fun i hi=>hi),fun i hi => ?_⟩
 rcases f2 i hi with h3|h3
 ·grind
 ·exact .inr (bX k1.le h3)
def le : Nat→Nat→List Nat
 |0,_=>[]
 |k+1,n=>(n%256)::le k (n/256)
theorem dL : ∀(k n:Nat),(le k n).length=k:=by
 intro k
 induction k<;>grind[le]
theorem NU : ∀(k n:Nat),∀b∈le k n,b<256:=by
 intro k
 induction k with
 |zero=>intro n b I;cases I
 |succ k J =>
  intro n b I
  rcases List.mem_cons.1 I with rfl|I<;>grind
noncomputable def lyX : Code:=unloop (unblk (cX (leftC (cX ((Tryz.f95.body).getD .skip)))))
theorem acB (hi:i≤8): shiftV .shr .u64 (n:Int) ((8*i:Nat):Int)=some (.int .u64 ((n/256^i:Nat):Int)):=by
 simp only[shiftV,IntKind.bits,dY]
 rw[show min (8*i) 64=8*i by omega,show decide (((8*i:Nat):Int)<0)=false by rfl,aY]
 rw[Int.fdiv_eq_ediv_of_nonneg _ (Int.pow_nonneg (by omega))]
 rw[show(256:Nat)^i=2^(8*i) by rw[Nat.pow_mul]]
 push_cast
 rfl
theorem Tn {size:Nat}(fC:size≤8): ∀(j i:Nat) (l:List Nat) (s:V) (h:H) (E:List (Nat×V)) (Q:Ex→List (Nat×V)→H→Prop),lQ h→jS h s l→i+j=size→l.length+j≤140737488355328 →
  look E 0=some s→look E 2=some (.int .u64 (n:Int))→look E 8=some (.int .i64 (size:Int))→look E 9=some (.int .i64 (i:Int)) →
  (∀E' h' s',look E' 0=some s'→jS h' s' (l++le j (n/256^i))→eD (2*j) (rowIds s) h h'→(∀i∈rowIds s',i∈rowIds s∨h.next≤i)→Q (.exit 0) E' h') →
  WP ⟨Tryz.prog,told⟩ 22 (.loop lyX) E h Q:=by
 intro j
 induction j with
 |zero =>
  intro i l s h E Q hw hs hi _ h0 h2 h8 h9 hq
  refine WP.loop (WP.seq (WP.region rfl ?_))
  refine zo rfl (aA (v:=.int .i64 (i:Int)) (u:=.int .i64 (size:Int)) (r:=.bool false) h9 h8 (by simp_all[binV,ikBeq,intV])) ?_
  refine ax.nil (WP.seq (WP.cond (t:=false) rfl (WP.exit ?_)))
  exact hq _ h s h0 (by simpa[le] using hs) (eD.refl hw _) (fun i hi=>.inl hi)
 |succ j ih =>
  intro i l s h E Q hw hs hi hl h0 h2 h8 h9 hq
  refine WP.loop (WP.seq (WP.region rfl ?_))
  refine zo rfl (aA (v:=.int .i64 (i:Int)) (u:=.int .i64 (size:Int)) (r:=.bool true) h9 h8 (by simp only[binV,ikBeq,aj,intV];congr 2;simp;omega)) ?_
  refine ax.nil (WP.seq (WP.cond (t:=true) rfl (WP.skip ?_)))
  refine WP.seq (WP.block (WP.seq (WP.region rfl ?_)))
  refine zo rfl (bK h9) ?_
  refine ax.op rfl rfl rfl (fD rfl) (ax.nil (WP.region rfl ?_))
  refine zo rfl (bK h0) (zo rfl (bK h2) (zm rfl ?_))
  refine ax.op rfl rfl rfl (aA (v:=.int .i64 8) (u:=.int .i64 (i:Int)) (r:=.int .i64 ((8*i:Nat):Int)) rfl rfl (by
   simp only[binV,ikBeq,aj,intV]
   rw[show(8:Int)*(i:Int)=((8*i:Nat):Int) by rfl,wrap_i64 (by omega)])) ?_
  refine zo rfl (aA (v:=.int .u64 (n:Int)) (u:=.int .i64 ((8*i:Nat):Int)) (r:=.int .u64 ((n/256^i:Nat):Int)) rfl rfl (by exact acB (by omega))) ?_
  refine zo rfl (cJ (v:=.int .u64 ((n/256^i:Nat):Int)) rfl vT) ?_
  refine ax.NG (b:=n/256^i%256) rfl hw rfl rfl rfl rfl rfl rfl (by omega) (fun v h₁ b1 k1 f1 => ?_)
  have jD:jS h₁ s l:=hs.kH hw k1 (fun i _=>ow)
  refine ax.app (s:=s) (x:=v) rfl k1.wf rfl rfl rfl rfl rfl rfl rfl jD b1.view (by grind) (fun v2 I b2 k2 f2 => ?_)
  have J:eD 2 (rowIds s) h I:=(k1.mono (aU _) (fun i hi=>by grind)).trans k2 (fun i hi=>.inl hi)
  refine ax.op rfl rfl rfl (fD rfl) (ax.nil (WP.region rfl ?_))
  refine zo rfl (aA (v:=.int .i64 (i:Int)) (u:=.int .i64 1) h9 rfl (by simp only[binV,ikBeq,aj];exact Ab (by omega))) ?_
  refine ax.op rfl rfl rfl (bK rfl) (ax.nil ?_)
  refine ih (i+1) (l++[n/256^i%256]) v2 I _ Q J.wf b2 (by omega) (by grind) rfl h2 h8 rfl (fun E' h' s' q1 q2 q3 q4 => ?_)
  refine hq E' h' s' q1 ?_ ?_ (fun i hi => ?_)
  ·grind[Nat.div_div_eq_div_mul,le]
  ·exact(J.trans q3 (fun i hi=>(f2 i hi).imp_right (fun h=>bX k1.le h))).mono (by omega) (fun i hi=>hi)
  ·rcases q4 i hi with h3|h3
   ·exact(f2 i h3).imp_right (fun h=>bX k1.le h)
   ·exact .inr (bX J.le h3)
theorem Qn (J:Std told){s:V}{size:Nat}(hw:lQ h)(hs:jS h s l)(I:size≤8)(hl:l.length+size≤140737488355328):
  Call ⟨Tryz.prog,told⟩ 95 [s,.int .i64 (size:Int),.int .u64 (n:Int)] h fun v h'=>jS h' v (l++le size n)∧eD (2*size) (rowIds s) h h'∧∀i∈rowIds v,i∈rowIds s∨h.next≤i:=by
 refine Call.of_wp (J.free _ rfl) Tryz.func95 rfl rfl ?_
 refine WP.seq (WP.region rfl (ax.op rfl rfl rfl (fD rfl) (ax.nil ?_)))
 refine WP.seq (WP.seq (WP.region rfl ?_))
 refine zm rfl ?_
 refine ax.op rfl rfl rfl (bK rfl) (ax.nil (WP.block ?_))
 refine Tn I size 0 l s h _ _ hw hs (by omega) hl rfl rfl rfl rfl (fun E' h' s' q1 q2 q3 q4 => ?_)
 refine WP.seq (WP.region rfl ?_)
 refine zo rfl (bK q1) ?_
 refine ax.op rfl rfl rfl (fD rfl) (ax.nil (WP.ret ?_))
 exact⟨aa,s',rfl,by grind,q3,q4⟩
theorem NV : ∀(l:List Nat),(∀b∈l,b<256)→bytesIn (ofBytes l)=some l:=by
 intro l
 induction l<;>grind[List.mem_cons_self,bytesIn,ofBytes]
def CD (s:Nat)(l:List Nat): Nat:=Nat.xor (crcL (Nat.xor s 4294967295) l) 4294967295
theorem Fy (hs:s<4294967296)(I:∀b∈l,b<256): CD s l<4294967296:=o8 (Fi l _ (o8 hs (by omega)) I) (by omega)
theorem Mb (hT:Std told)(J:View h x l)(hl:l.length≤4611686018427387904)(hs:s<4294967296):
  gO ⟨Tryz.prog,told⟩ 178 [.int .u32 (s:Int),x] h (.int .u32 (CD s l:Nat)) h:=by
 refine gO.told hT.more Dm rfl ?_
 have I:=J
 obtain⟨hb,I⟩:=I
 rcases I with⟨rfl|⟨ea,rfl⟩,rfl⟩|⟨id,off,cap,n,cs,st,rfl,hg,h1,h2,h3,h4⟩
 ·simp only[toldMore]
  rw[show(decide ((0:Int)≤(s:Int))&&decide ((s:Int)<4294967296))=true by grind]
  rfl
 ·simp only[toldMore]
  rw[show(decide ((0:Int)≤(s:Int))&&decide ((s:Int)<4294967296))=true by grind]
  rfl
 ·simp only[toldMore]
  rw[show(decide ((0:Int)≤(s:Int))&&decide ((s:Int)<4294967296)&&Nat.ble l.length 4611686018427387904)=true by simp[bg];omega,aj,(View.rdN J).2]
  simp only[NV l hb]
  rfl
theorem abq (I:Std told)(J:View h x l)(hl:l.length≤4611686018427387904):
  Call ⟨Tryz.prog,told⟩ 171 [x] h fun v h'=>v=.int .u32 (CD 0 l:Nat)∧h'=h:=by
 refine Call.of_wp (I.free _ rfl) Tryz.func171 rfl rfl ?_
 refine WP.seq (WP.region rfl (ax.op rfl rfl rfl (fD rfl) (ax.nil ?_)))
 refine WP.seq (WP.region rfl ?_)
 refine zm rfl ?_
 refine ax.call (z7:=fun v h'=>v=.int .u32 (CD 0 l:Nat)∧h'=h) rfl rfl rfl rfl rfl rfl rfl ⟨_,_,Mb (s:=0) I J hl (by omega),rfl,rfl⟩ (fun v h₁ ⟨e1,e2⟩ => ?_)
 subst e1;subst e2
 exact ax.op rfl rfl rfl (fD rfl) (ax.nil (WP.ret ⟨aa,_,rfl,rfl,rfl⟩))
def tT (aO:Nat)(l:List Nat): Nat:=CD (CD 0 (le 8 aO)) l
theorem IX (I:∀b∈l,b<256): tT aO l<4294967296:=Fy (Fy (by omega) (NU 8 aO)) I
theorem Qo (J:Std told)(hw:lQ h)(hx:View h x l)(hl:l.length≤4611686018427387904):
  Call ⟨Tryz.prog,told⟩ 163 [.int .u64 (aO:Int),x] h fun v h'=>v=.int .u32 (tT aO l:Nat)∧eD 16 [] h h':=by
 refine Call.of_wp (J.free _ rfl) Tryz.func163 rfl rfl ?_
 refine WP.seq (WP.region rfl (ax.op rfl rfl rfl (fD rfl) (ax.nil ?_)))
 refine WP.seq (WP.region rfl ?_)
 refine zm rfl ?_
 refine ax.call rfl rfl rfl rfl rfl rfl rfl (Qn (size:=8) (s:=.a_) (l:=[]) (n:=aO) J hw ⟨by simp,.inl ⟨rfl,rfl⟩⟩ (by omega) (by simp)) (fun v h₁ ⟨b1,k1,f1⟩ => ?_)
 rw[ey] at b1
 refine ax.call rfl rfl rfl rfl rfl rfl rfl (abq J b1.view (by rw[dL];omega)) (fun v2 I ⟨e1,e2⟩ => ?_)
 subst e1;subst e2
 refine zm rfl ?_
 refine ax.call (z7:=fun v h'=>v=.int .u32 (tT aO l:Nat)∧h'=I) rfl rfl rfl rfl rfl rfl rfl
  ⟨_,_,Mb (s:=CD 0 (le 8 aO)) J (hx.kH hw k1 (fun i _ hi=>by simp[rowIds] at hi)) hl (Fy (by omega) (NU 8 aO)),rfl,rfl⟩ (fun v3 Du ⟨e3,e4⟩ => ?_)
 subst e3;subst e4
 exact ax.op rfl rfl rfl (fD rfl) (ax.nil (WP.ret ⟨aa,_,rfl,rfl,k1.mono (aU _) (fun i hi=>by simp[rowIds] at hi)⟩))
end
def Qp : List Nat:=[31,50,178,61,173,139,145]
structure W (told:cR): Prop where
 free:∀f,inL Qp f=false→told f=none
 more:told 178=some toldMore
 sorted:told 61=some (toldSorted BB)
theorem W.VM {told:cR}(I:W told): Std told:=by
 refine⟨fun f J=>I.free f ?_,I.more⟩
 have:∀f∈IV,inL Qp f=false:=by decide
 grind[Ps]
def lp (v:V): Option (List Nat)→aL
 |none=>.pu (v=.a_)
 |some b=>.an (.pu (v≠.a_)) (.bY v b)
theorem aV.lp (v:V)(o:Option (List Nat)): aV (Am.lp v o):=by
 cases o with
 |none=>exact aV.pu _
 |some b=>exact aV.an (aV.pu _) (aV.bY _ _)
def each {α:Type}(f:V→α→aL): List V→List α→aL
 |[],[]=>.pu True
 |v::l,x::m=>.an (f v x) (each f l m)
 |_,_=>.pu False
theorem aV.each {f:V→α→aL}(I:∀v x,aV (f v x)): ∀(l:List V) (m:List α),aV (Am.each f l m):=by
 intro l
 induction l with
 |nil=>intro m;cases m<;>exact aV.pu _
 |cons v l J=>intro m;cases m with
  |nil=>exact aV.pu _
  |cons x m=>exact aV.an (I _ _) (J m)
section
variable {f:V→α→aL} {b:PM}
theorem pT : ∀ {l:List V} {m:List α},(each f l m).p a b→l.length=m.length:=by
 intro l
 induction l with
 |nil=>intro m h;cases m with
  |nil=>rfl
  |cons x m=>exact h.elim
 |cons v l I=>intro m h;cases m with
  |nil=>exact h.elim
  |cons x m=>simp only[bF,I h.2]
theorem CE : ∀ {l:List V} {m:List α} {i:Nat} {v:V} {x:α},(each f l m).p a b→l[i]?=some v→m[i]?=some x→(f v x).p a b:=by
 intro l
 induction l with
 |nil=>simp
 |cons u l J=>intro m i v x h hv I;cases m with
  |nil=>grind
  |cons y m =>
   cases i with
   |zero=>simp at hv I;subst hv;subst I;exact h.1
   |succ i=>exact J h.2 hv I
theorem CF : ∀ {l:List V} {m:List α} {i:Nat} {v:V} {x:α},(each f l m).p a b→(f v x).p a b→(each f (l.set i v) (m.set i x)).p a b:=by
 intro l
 induction l with
 |nil=>intro m i v x h hv;cases m with
  |nil=>exact h
  |cons x m=>exact h.elim
 |cons u l I=>intro m i v x h hv;cases m with
  |nil=>exact h.elim
  |cons y m =>
   cases i with
   |zero=>exact⟨hv,h.2⟩
   |succ i=>exact⟨h.1,I h.2 hv⟩
theorem To : ∀ {l:List V} {m:List α} {I:List V} {m':List α},(each f l m).p a b→(each f I m').p a b→(each f (l++I) (m++m')).p a b:=by
 intro l
 induction l with
 |nil=>intro m I m' h hv;cases m with
  |nil=>exact hv
  |cons x m=>exact h.elim
 |cons u l J=>intro m I m' h hv;cases m with
  |nil=>exact h.elim
  |cons y m=>exact⟨h.1,J h.2 hv⟩
end
abbrev Wr := Nat×List Nat
structure Dk where
 room:Nat
 aq:List (Option (List Nat))
 waiting:List Wr
 now:List (Int×List Nat)
 log:List Nat
 bj:Nat
 mark:List Nat
 aT:Int
 dead:Bool
 dG:Option Wr
 tail:List Nat
variable {δ:Dk}
def xb (room:Nat)(pg wt nw lg:V)(I:Nat)(mk:V)(J ops:Int)(dead:Bool)(tn tl:V): List V :=
 [.int .i64 (room:Int),pg,wt,nw,lg,.int .i64 (I:Int),mk,.int .i64 J,.int .i64 ops,.bool dead,tn,tl]
def uV : List V→List Wr→aL
 |[],[]=>.pu True
 |p::v::l,x::m=>.an (.an (.pu (p=.int .i64 (x.1:Int)∧v≠.a_)) (.bY v x.2)) (uV l m)
 |_,_=>.pu False
theorem aV.wr : ∀(m:List Wr) (l:List V),aV (uV l m):=by
 intro m
 induction m with
 |nil=>intro l;cases l with
  |nil=>exact aV.pu _
  |cons v l=>cases l<;>exact aV.pu _
 |cons x m I=>intro l;cases l with
  |nil=>exact aV.pu _
  |cons v l=>cases l with
   |nil=>exact aV.pu _
   |cons u l=>exact aV.an (aV.an (aV.pu _) (aV.bY _ _)) (I l)
theorem Xf {b:PM}: ∀ {m:List Wr} {l:List V} {x:Wr} {v:V},(uV l m).p a b→v≠.a_→(aL.bY v x.2).p a b→(uV (l++[.int .i64 (x.1:Int),v]) (m++[x])).p a b:=by
 intro m
 induction m with
 |nil=>intro l x v h I hv;cases l with
  |nil=>exact⟨⟨⟨rfl,I⟩,hv⟩,aa⟩
  |cons u l=>cases l<;>exact h.elim
 |cons y m J=>intro l x v h I hv;cases l with
  |nil=>exact h.elim
  |cons u l=>cases l with
   |nil=>exact h.elim
   |cons w l=>exact⟨h.1,J h.2 I hv⟩
theorem BC {b:PM}: ∀ {m:List Wr} {l:List V},(uV l m).p a b→l.length=m.length*2:=by
 intro m
 induction m with
 |nil=>intro l h;cases l with
  |nil=>rfl
  |cons u l=>cases l<;>exact h.elim
 |cons y m I=>intro l h;cases l with
  |nil=>exact h.elim
  |cons u l=>cases l with
   |nil=>exact h.elim
   |cons w l=>have:=I h.2;simp only[bF];omega
def pq (v:V)(m:List (Option (List Nat))): aL:=xs fun id:Nat=>xs fun cs:List V=>star [.pu (v=.sl id 0 m.length (.exact m.length)),pt id (.cells m.length cs false),each lp cs m]
def BD (v:V)(m:List Wr): aL:=xs fun cs:List V=>star [.arr 2 v cs,uV cs m]
def BE (v:V): Option Wr→aL
 |none=>.pu (v=.b_)
 |some x=>xs fun id:Nat=>xs fun u:V=>star [.pu (v=.ptr id 0),pt id (.cells 2 [.int .i64 (x.1:Int),u] false),.bY u x.2]
def aS (p:Nat)(δ:Dk): aL:=xs fun pg:V=>xs fun wt:V=>xs fun nw:V=>xs fun lg:V=>xs fun mk:V=>xs fun I:V=>xs fun J:V=>xs fun ops:Int =>
 star [pt p (.cells 12 (xb δ.room pg wt nw lg δ.bj mk δ.aT ops δ.dead I J) false),pq pg δ.aq,BD wt δ.waiting,jv (fun v b=>.bY v b) nw δ.now,aQ lg δ.log,B4 mk δ.mark,BE I δ.dG,B4 J δ.tail]
section
variable {p:Nat}
theorem bI : Sat h (aS p δ::S)↔∃pg wt nw lg mk I J ops,Sat h (pt p (.cells 12 (xb δ.room pg wt nw lg δ.bj mk δ.aT ops δ.dead I J) false)::pq pg δ.aq::BD wt δ.waiting::jv (fun v b=>.bY v b) nw δ.now::aQ lg δ.log::B4 mk δ.mark::BE I δ.dG::B4 J δ.tail::S):=by
 simp[aS,g_,bn]
theorem gS {v:V}{m:List (Option (List Nat))}: Sat h (pq v m::S)↔∃id cs,v=.sl id 0 m.length (.exact m.length)∧Sat h (pt id (.cells m.length cs false)::each lp cs m::S):=by
 simp[pq,g_,bn,eS]
theorem mL {v:V}{m:List Wr}: Sat h (BD v m::S)↔∃cs,Sat h (.arr 2 v cs::uV cs m::S):=by
 grind[BD,g_,bn]
end
section
variable {told:cR} {v:V}
def DV (s:Nat)(l:List Nat): Nat:=Nat.xor (crcL (Nat.xor s 4294967295) l) 4294967295
theorem CG (hs:s<4294967296)(I:∀b∈l,b<256): DV s l<4294967296:=o8 (Fi _ _ (o8 hs (by omega)) I) (by omega)
theorem Xg (hT:W told)(sa:Sat h S)(hk:getA S k=some X)(hX:cL X (cQ v l))(hs:s<4294967296)(hl:l.length≤4611686018427387904):
  Call ⟨Tryz.prog,told⟩ 178 [.int .u32 (s:Int),v] h fun r h'=>r=.int .u32 (DV s l:Nat)∧h'=h:=by
 have hv:=sa.aD hk hX
 refine⟨_,_,gO.told hT.more Dm rfl ?_,rfl,rfl⟩
 have I:wU (s:Int) l=.int .u32 (DV s l:Nat):=by rfl
 have J:=hv
 rcases J.2 with⟨rfl|⟨ea,rfl⟩,rfl⟩|⟨id,off,cap,n,cs,st,rfl,_⟩
 ·grind[toldMore]
 ·grind[toldMore]
 ·simp only[toldMore]
  rw[show(decide ((0:Int)≤(s:Int))&&decide ((s:Int)<4294967296)&&Nat.ble l.length 4611686018427387904)=true by simp;omega,aj,hv.rdN.2]
  simp only
  have:∀l:List Nat,(∀b∈l,b<256)→bytesIn (ofBytes l)=some l:=by
   intro l
   induction l with
   |nil=>intro _;rfl
   |cons b l ih =>
    intro hb
    grind[ofBytes,bytesIn,List.mem_cons_self]
  rw[this l hv.1]
  simp only[I]
end
section
variable {told:cR} {p:Nat}
theorem jJ (J:W told)(s:Sat h (X::S))(I:cL X (cQ x l))(hl:l.length<1073741824):
  Call ⟨Tryz.prog,told⟩ 90 [x] h fun v h'=>Sat h' (aQ v l::X::S):=by
 refine Call.of_wp (J.free _ rfl) Tryz.func90 rfl rfl (zK 7 rfl (zo rfl (aN rfl rfl rfl (aW aK (s.aD (k:=0) rfl I))) (ax.any rfl rfl rfl (OpR.sJ rfl s rfl rfl rfl rfl hl) ?_)))
 intro v h s
 refine zm rfl (ax.any rfl rfl rfl (OpR.pQ rfl s I rfl rfl rfl rfl (by simp;omega)) ?_)
 intro v h s
 exact zk 2 rfl (WP.ret ⟨aa,_,rfl,s⟩)
theorem yf (J:W told)(s:Sat h (X::S))(I:cL X (cQ x l))(hl:l.length<1073741824):
  Call ⟨Tryz.prog,told⟩ 121 [x] h fun v h'=>Sat h' (aQ v l::X::S):=by
 refine Call.of_wp (J.free _ rfl) Tryz.func121 rfl rfl (zK 7 rfl (zo rfl (aN rfl rfl rfl (aW aK (s.aD (k:=0) rfl I))) (ax.any rfl rfl rfl (OpR.sJ rfl s rfl rfl rfl rfl hl) ?_)))
 intro v h s
 refine zm rfl (ax.any rfl rfl rfl (OpR.pQ rfl s I rfl rfl rfl rfl (by simp;omega)) ?_)
 intro v h s
 exact zk 2 rfl (WP.ret ⟨aa,_,rfl,s⟩)
theorem mT (J:W told)(s:Sat h (X::S))(I:cL X (cQ x l))(hl:l.length<1073741824):
  Call ⟨Tryz.prog,told⟩ 85 [x] h fun v h'=>Sat h' (aQ v l::X::S):=by
 refine Call.of_wp (J.free _ rfl) Tryz.func85 rfl rfl (zK 7 rfl (zo rfl (aN rfl rfl rfl (aW aK (s.aD (k:=0) rfl I))) (ax.any rfl rfl rfl (OpR.sJ rfl s rfl rfl rfl rfl hl) ?_)))
 intro v h s
 refine zm rfl (ax.any rfl rfl rfl (OpR.pQ rfl s I rfl rfl rfl rfl (by simp;omega)) ?_)
 intro v h s
 exact zk 2 rfl (WP.ret ⟨aa,_,rfl,s⟩)
theorem yg (I:W told)(s:Sat h (aS p δ::S)): Call ⟨Tryz.prog,told⟩ 72 [.ptr p 0] h fun v h'=>v=.int .i64 (δ.aq.length:Int)∧h'=h:=by
 obtain⟨pg,wt,nw,lg,mk,J,tl,ops,s⟩:=bI.1 s
 obtain⟨id,cs,rfl,s'⟩:=gS.1 (s.ae [1])
 exact Call.of_wp (I.free _ rfl) Tryz.func72 rfl rfl (zK 8 rfl (zY s 0 nC sx rfl (zo rfl (aN rfl rfl rfl (qx rfl gR)) (zk 2 rfl (WP.ret ⟨aa,_,rfl,rfl,rfl⟩)))))
theorem Qq (hT:W told){n:Int}(s:Sat h (aS p δ::S)): Call ⟨Tryz.prog,told⟩ 170 [.ptr p 0,.int .i64 n] h fun v h'=>h'=h∧((0≤n∧n<δ.aq.length∧v=.bool true)∨(¬(0≤n∧n<δ.aq.length)∧v=.bool false)):=by
 obtain⟨pg,wt,nw,lg,mk,tn,tl,ops,s⟩:=bI.1 s
 obtain⟨id,cs,rfl,s'⟩:=gS.1 (s.ae [1])
 refine Call.of_wp (hT.free _ rfl) Tryz.func170 rfl rfl (zK 7 rfl ?_)
 refine zd rfl (aA rfl rfl oa) ?_ ?_
 ·intro J
  have J:0≤n:=by simpa using J
  refine zk 4 rfl (zY s 0 nC sx rfl (zo rfl (aN rfl rfl rfl (qx rfl gR)) ?_))
  refine zd rfl (aA rfl rfl bh) ?_ ?_
  ·intro I
   have I:n<δ.aq.length:=by simpa using I
   exact zk 3 rfl (WP.ret ⟨aa,_,rfl,rfl,.inl ⟨J,I,rfl⟩⟩)
  ·intro I
   have I:¬ n<δ.aq.length:=by simpa using I
   exact zk 3 rfl (WP.ret ⟨aa,_,rfl,rfl,.inr ⟨fun h=>I h.2,rfl⟩⟩)
 ·intro J
  have J:¬ 0≤n:=by simpa using J
  exact zk 11 rfl (WP.ret ⟨aa,_,rfl,rfl,.inr ⟨fun h=>J h.1,rfl⟩⟩)
def Dk.yh (δ:Dk): Nat:=δ.bj
def Dk.cV (δ:Dk): Dk:={ δ with aT:=if 0<δ.aT then δ.aT-1 else δ.aT }
def Dk.die (δ:Dk): Dk:={ δ with dead:=true }
theorem qz (hT:W told)(s:Sat h (aS p δ::S))(hf:δ.aT<4294967296):
  Call ⟨Tryz.prog,told⟩ 164 [.ptr p 0] h fun v h'=>(δ.aT=0∧v=.bool false∧Sat h' (aS p δ.die::S))∨(δ.aT≠0∧v=.bool true∧Sat h' (aS p δ.cV::S)):=by
 obtain⟨pg,wt,nw,lg,mk,tn,tl,ops,s⟩:=bI.1 s
 refine Call.of_wp (hT.free _ rfl) Tryz.func164 rfl rfl (zK 9 rfl (zY s 0 wZ dN rfl ?_))
 refine zd rfl (aA rfl rfl eu) ?_ ?_
 ·intro J
  refine zk 6 rfl (zf rfl (kx _ _) ?_)
  refine zS rfl (by exact s.eH (k:=0) rfl yX rfl (by decide) rfl rfl) (fun h s => ?_)
  refine zk 5 rfl (WP.ret ⟨aa,_,rfl,?_⟩)
  have J:δ.aT=0:=by simpa using J
  exact .inl ⟨J,rfl,bI.2 ⟨pg,wt,nw,lg,mk,tn,tl,ops,s⟩⟩
 ·intro J
  have J:δ.aT≠0:=by simpa using J
  refine zk 8 rfl (zY s 0 wZ dN rfl ?_)
  refine zd rfl (aA rfl rfl gA) ?_ ?_
  ·intro I
   have I:0<δ.aT:=by simpa using I
   refine zk 5 rfl (zY s 0 wZ dN rfl (zb rfl (by exact iM (aB (by omega) (by omega))) ?_))
   refine zn rfl (zf rfl (wZ _ _) ?_)
   refine zS rfl (by exact s.eH (k:=0) rfl jF rfl (by decide) rfl rfl) (fun h s => ?_)
   refine zk 5 rfl (zY s 0 By dN rfl (zb rfl (by rfl) ?_))
   refine zn rfl (zf rfl (By _ _) ?_)
   refine zS rfl (by exact s.eH (k:=0) rfl jF rfl (by decide) rfl rfl) (fun h s => ?_)
   exact zk 5 rfl (WP.ret ⟨aa,_,rfl,.inr ⟨J,rfl,bI.2 ⟨pg,wt,nw,lg,mk,tn,tl,_,by simp only[Dk.cV,aP I];exact s⟩⟩⟩)
  ·intro I
   have I:¬ 0<δ.aT:=by simpa using I
   refine zk 7 rfl (zY s 0 By dN rfl (zb rfl (by rfl) ?_))
   refine zn rfl (zf rfl (By _ _) ?_)
   refine zS rfl (by exact s.eH (k:=0) rfl jF rfl (by decide) rfl rfl) (fun h s => ?_)
   exact zk 5 rfl (WP.ret ⟨aa,_,rfl,.inr ⟨J,rfl,bI.2 ⟨pg,wt,nw,lg,mk,tn,tl,_,by simp only[Dk.cV,ak I];exact s⟩⟩⟩)
def Dk.at (δ:Dk)(n:Int): List Nat:=match lookL n δ.now with
 |some b=>b
 |none=>match δ.aq[n.toNat]? with
  |some (some b)=>b
  |_=>List.replicate 512 0
theorem NX {v:V}{m:List (Option (List Nat))}(s:Sat h (pq v m::S))(hi:i<m.length):
  ∃id u,v=.sl id 0 m.length (.exact m.length)∧(∀(P:Program) (t:TypeId),isAggT P t=some false→loadV P h t (.ptr id i)=some u)∧Sat h (lp u m[i]::pq v m::S):=by
 obtain⟨id,cs,rfl,s1⟩:=gS.1 s
 obtain⟨a,b,q1,q2,I⟩:=s1.at (k:=1) rfl
 have hl:=pT I
 have hu:cs[i]?=some (cs[i]'(by omega)):=bx _
 have s2:Sat h (each lp cs m::pt id (.cells m.length cs false)::S):=s1.ae [1]
 have J:=s2.dup (aV.each aV.lp cs m)
 have s4:Sat h (lp (cs[i]'(by omega)) m[i]::each lp cs m::pt id (.cells m.length cs false)::S):=J.gK fun a b h=>CE h hu (bx hi)
 refine⟨id,cs[i]'(by omega),rfl,fun P t ht=>PY ht (s1.row (k:=0) rfl) (by rw[ir,hu]),?_⟩
 have s5:Sat h (pt id (.cells m.length cs false)::each lp cs m::lp (cs[i]'(by omega)) m[i]::S):=s4.ae [2,1]
 exact(gS.2 ⟨id,cs,rfl,s5⟩:Sat h (pq _ m::lp (cs[i]'(by omega)) m[i]::S)).ae [1]
theorem Tp (hT:W told){n:Int}(s:Sat h (aS p δ::S))(hl:(δ.at n).length=512): Call ⟨Tryz.prog,told⟩ 124 [.ptr p 0,.int .i64 n] h fun v h' =>
  (δ.dead=true∧v=.bf [.a_,.int .i64 9]∧Sat h' (aS p δ::S)) ∨
  (δ.dead=false∧¬(0≤n∧n<δ.aq.length)∧v=.bf [.a_,.int .i64 1]∧Sat h' (aS p δ::S)) ∨
  (δ.dead=false∧0≤n∧n<δ.aq.length∧∃b,v=.bf [b,.int .i64 0]∧Sat h' (aQ b (δ.at n)::aS p δ::S)):=by
 have s0:=s
 obtain⟨pg,wt,nw,lg,mk,tn,tl,ops,s⟩:=bI.1 s
 refine Call.of_wp (hT.free _ rfl) Tryz.func124 rfl rfl (zK 6 rfl (WP.block (zK 4 rfl (zY s 0 kx kZ rfl (zk 2 rfl ?_)))))
 refine WP.split rfl ?_ ?_
 ·intro hd
  exact zK 5 rfl (WP.ret ⟨aa,_,rfl,.inl ⟨hd,rfl,s0⟩⟩)
 ·intro hd
  refine zK 4 rfl (zc rfl (Qq hT s0) ?_)
  rintro v h' ⟨rfl,(⟨J,qA,rfl⟩|⟨hn,rfl⟩)⟩
  ·skip
   refine zo rfl (er rfl rfl) (za rfl (zv (zj rfl (WP.skip (zg rfl (zk 2 rfl (zf rfl (Bx _ _) (zl rfl (by exact s.ld (k:=0) rfl jT rfl) ?_))))))))
   refine zm rfl ?_
   have s1:Sat h' (jv (fun v b=>.bY v b) nw δ.now::pt p (.cells 12 (xb δ.room pg wt nw lg δ.bj mk δ.aT ops δ.dead tn tl) false)::pq pg δ.aq::BD wt δ.waiting::aQ lg δ.log::B4 mk δ.mark::BE tn δ.dG::B4 tl δ.tail::S):=s.ae [3]
   rcases mK (n:=n) (fun _ _=>aV.bY _ _) s1 k_ bT oT with⟨g1,g2,_⟩|⟨u,b,g1,g2,_,s2⟩
   ·refine ax.op rfl rfl rfl (iL rfl rfl g2) ?_
    refine zk 10 rfl (zo rfl (er rfl rfl) (zk 5 rfl (zY s 0 nC sx rfl (zm rfl ?_))))
    have hi:n.toNat<δ.aq.length:=by omega
    obtain⟨id,u,rfl,g3,s3⟩:=NX (s.ae [1]) hi
    refine zo rfl (cK (r:=.ptr id n.toNat) rfl rfl (by rw[Vy,show(decide (0≤n)&&decide (n<((δ.aq.length:Nat):Int)))=true by simp;omega,aj];simp)) ?_
    refine zl rfl (g3 _ _ bE) (zk 6 rfl ?_)
    have I:δ.at n=match δ.aq[n.toNat] with|some b=>b|none=>List.replicate 512 0:=by
     simp only[Dk.at,g1,bx hi]
     cases δ.aq[n.toNat]<;>rfl
    cases hp:δ.aq[n.toNat] with
    |none =>
     rw[hp] at s3 I
     have I:δ.at n=List.replicate 512 0:=I
     obtain⟨rfl,_⟩:=eS.1 s3
     refine zt rfl ((by exact aA rfl rfl (by simp only[binV,eqV,aK];rfl))) (rfl) ?_
     refine zk 4 rfl (ax.any rfl rfl rfl (OpR.gQ rfl s0 rfl rfl rfl rfl (by decide)) ?_)
     intro v h s
     exact zk 3 rfl (WP.ret ⟨aa,_,rfl,.inr (.inr ⟨hd,J,qA,v,rfl,by rw[I];exact s⟩)⟩)
    |some b =>
     rw[hp] at s3 I
     have I:δ.at n=b:=I
     have s4:Sat h' (aL.an (.pu (u≠.a_)) (.bY u b)::pq _ δ.aq::_):=s3
     have hu:u≠.a_:=by
      obtain⟨a,b,q1,q2,q3⟩:=s4.at (k:=0) rfl
      exact q3.1
     have s5:Sat h' (.bY u b::aS p δ::S):=by
      have s6:=s4.gK (B:=.bY u b) fun a b h=>h.2
      exact(bI.2 ⟨_,wt,nw,lg,mk,tn,tl,ops,s6.ae [2,1,1,1,1,1,1,1]⟩:Sat h' (aS p δ::.bY u b::S)).ae [1]
     have B7:∃a b c d,u=.sl a b c d:=by
      rcases (s5.aD (k:=0) rfl (c8 _ _)).2 with⟨_,e⟩|⟨a,b,c,_,_,_,e,_⟩
      ·rw[I,e] at hl;simp at hl
      ·exact⟨_,_,_,_,e⟩
     obtain⟨a,b',c,d,rfl⟩:=B7
     refine zh rfl ((by exact aA rfl rfl (by simp only[binV,eqV,aK];rfl))) (rfl) ?_
     refine zk 6 rfl (zc rfl (jJ hT s5 (c8 _ _) (by rw[←I,hl];decide)) ?_)
     intro v h s
     exact zk 3 rfl (WP.ret ⟨aa,_,rfl,.inr (.inr ⟨hd,J,qA,v,rfl,by rw[I];exact s.del 1⟩)⟩)
   ·skip
    refine zo rfl (iL rfl rfl g2) (zk 10 rfl (zo rfl (er rfl rfl) (zk 7 rfl ?_)))
    have I:δ.at n=b:=by simp only[Dk.at,g1]
    have B7:∃a b c d,u=.sl a b c d:=by
     rcases (s2.aD (k:=0) rfl (c8 _ _)).2 with⟨_,e⟩|⟨a,b,c,_,_,_,e,_⟩
     ·rw[I,e] at hl;simp at hl
     ·exact⟨_,_,_,_,e⟩
    obtain⟨a,b',c,d,rfl⟩:=B7
    refine zh rfl ((by exact aA rfl rfl (by simp only[binV,eqV,aK];rfl))) (rfl) ?_
    refine zk 6 rfl (zc rfl (jJ hT s2 (c8 _ _) (by rw[←I,hl];decide)) ?_)
    intro v h s
    refine zk 3 rfl (WP.ret ⟨aa,_,rfl,?_⟩)
    have s:=bI.2 ⟨pg,wt,nw,lg,mk,tn,tl,ops,s.ae [3,3,3,2,2,2,2,2]⟩
    exact .inr (.inr ⟨hd,J,qA,v,rfl,by rw[I];exact(s.del 2).ae [1,0]⟩)
  ·skip
   exact zo rfl (er rfl rfl) (zk 8 rfl (WP.ret ⟨aa,_,rfl,.inr (.inl ⟨hd,hn,rfl,s0⟩)⟩))
theorem B8 (I:W told)(s:Sat h (aS p δ::S)): Call ⟨Tryz.prog,told⟩ 135 [.ptr p 0] h fun v h'=>v=.int .i64 (δ.yh:Int)∧h'=h:=by
 obtain⟨pg,wt,nw,lg,mk,J,tl,ops,s⟩:=bI.1 s
 exact Call.of_wp (I.free _ rfl) Tryz.func135 rfl rfl (zK 8 rfl (zY s 0 ux dN rfl (zk 2 rfl (WP.ret ⟨aa,_,rfl,rfl,rfl⟩))))
theorem lH (I:W told)(s:Sat h (aS p δ::S)): Call ⟨Tryz.prog,told⟩ 41 [.ptr p 0] h fun v h'=>v=.bool δ.dead∧h'=h:=by
 obtain⟨pg,wt,nw,lg,mk,J,tl,ops,s⟩:=bI.1 s
 exact Call.of_wp (I.free _ rfl) Tryz.func41 rfl rfl (zK 8 rfl (zY s 0 kx kZ rfl (zk 2 rfl (WP.ret ⟨aa,_,rfl,rfl,rfl⟩))))
def Dk.Ax (δ:Dk)(n:Int): Dk:={ δ with aT:=max (-1) n }
theorem Tq (I:W told){n:Int}(s:Sat h (aS p δ::S)): Call ⟨Tryz.prog,told⟩ 40 [.ptr p 0,.int .i64 n] h fun v h'=>v=.bf []∧Sat h' (aS p (δ.Ax n)::S):=by
 obtain⟨pg,wt,nw,lg,mk,J,tl,ops,s⟩:=bI.1 s
 refine Call.of_wp (I.free _ rfl) Tryz.func40 rfl rfl (zK 3 rfl (zo rfl (CC rfl rfl acw) (zn rfl (zf rfl (wZ _ _) ?_))))
 refine zS rfl (by exact s.eH (k:=0) rfl jF rfl (by decide) rfl rfl) (fun h s => ?_)
 exact zv (⟨aa,_,rfl,rfl,bI.2 ⟨pg,wt,nw,lg,mk,J,tl,ops,s⟩⟩)
theorem Gx (J:W told)(s:Sat h (aS p δ::S))(hf:δ.aT<4294967296): Call ⟨Tryz.prog,told⟩ 130 [.ptr p 0] h fun v h' =>
  (δ.dead=true∧v=.int .i64 9∧Sat h' (aS p δ::S))∨(δ.dead=false∧δ.aT=0∧v=.int .i64 9∧Sat h' (aS p δ.die::S)) ∨
  (δ.dead=false∧δ.aT≠0∧v=.int .i64 0∧Sat h' (aS p { δ.cV with bj:=δ.log.length }::S)):=by
 have s0:=s
 obtain⟨pg,wt,nw,lg,mk,tn,tl,ops,s⟩:=bI.1 s
 refine Call.of_wp (J.free _ rfl) Tryz.func130 rfl rfl (zK 9 rfl (zf rfl (kx _ _) ?_))
 refine zd rfl (aZ rfl (s.ld (k:=0) rfl kZ rfl)) ?_ ?_
 ·intro hd
  exact zk 11 rfl (WP.ret ⟨aa,_,rfl,.inl ⟨hd,rfl,s0⟩⟩)
 ·intro hd
  refine zk 2 rfl (zc rfl (qz J s0 hf) ?_)
  rintro v h (⟨I,rfl,s⟩|⟨I,rfl,s⟩)
  ·skip
   exact zo rfl (er rfl rfl) (zk 7 rfl (WP.ret ⟨aa,_,rfl,.inr (.inl ⟨hd,I,rfl,s⟩)⟩))
  ·skip
   obtain⟨pg,wt,nw,lg,mk,tn,tl,ops,s⟩:=bI.1 s
   dsimp only[Dk.cV] at s
   refine zo rfl (er rfl rfl) (zk 9 rfl (zY s 0 ku bE rfl (zo rfl (aN rfl rfl rfl (aW aK (s.aD (k:=4) rfl (bk _ _)))) (zn rfl (zf rfl (ux _ _) ?_)))))
   refine zS rfl (by exact s.eH (k:=0) rfl jF rfl (by decide) rfl rfl) (fun h s => ?_)
   exact zk 5 rfl (WP.ret ⟨aa,_,rfl,.inr (.inr ⟨hd,I,rfl,bI.2 ⟨pg,wt,nw,lg,mk,tn,tl,ops,s⟩⟩)⟩)
theorem NY (hT:W told)(s:Sat h (aS p δ::X::S))(hX:cL X (cQ x b))(hb:b.length<1073741824)(hf:δ.aT<4294967296)(hl:δ.log.length≤4294967296)(hr:δ.room≤4294967296):
  Call ⟨Tryz.prog,told⟩ 117 [.ptr p 0,x] h fun v h' =>
  (δ.dead=true∧v=.int .i64 9∧Sat h' (aS p δ::X::S))∨(δ.dead=false∧δ.room<δ.log.length+b.length∧v=.int .i64 7∧Sat h' (aS p δ::X::S)) ∨
  (δ.dead=false∧δ.log.length+b.length≤δ.room∧δ.aT=0∧v=.int .i64 9∧Sat h' (aS p { δ.die with tail:=b }::X::S)) ∨
  (δ.dead=false∧δ.log.length+b.length≤δ.room∧δ.aT≠0∧v=.int .i64 0∧Sat h' (aS p { δ.cV with log:=δ.log++b }::X::S)):=by
 have s0:=s
 obtain⟨pg,wt,nw,lg,mk,J,tl,ops,s⟩:=bI.1 s
 refine Call.of_wp (hT.free _ rfl) Tryz.func117 rfl rfl (zK 5 rfl (WP.block (zK 4 rfl (zf rfl (kx _ _) ?_))))
 refine zd rfl (aZ rfl (s.ld (k:=0) rfl kZ rfl)) ?_ ?_
 ·intro hd
  exact zk 7 rfl (WP.ret ⟨aa,_,rfl,.inl ⟨hd,rfl,s0⟩⟩)
 ·intro hd
  refine zk 4 rfl (WP.drawn [ah,ah,ah,ah,ah,ah,ah,ah,ah,ah,ah,ah,ah,ah] rfl (by kernel_rfl) (by kernel_rfl) ?_)
  refine zM rfl (zO rfl (aN rfl rfl rfl (aW aK (s.aD (k:=8) rfl hX))) (zM rfl (zN rfl (zF rfl (L6 _ _) (zL rfl (s.ld (k:=0) rfl dN rfl) (zM rfl (zN rfl (zF rfl (ku _ _) (zL rfl (s.ld (k:=0) rfl bE rfl) (zO rfl (aN rfl rfl rfl (aW aK (s.aD (k:=4) rfl (bk _ _)))) (zO rfl (aA rfl rfl (by exact iM (aB (by omega) (by omega)))) ?_)))))))))))
  refine ay.Zw rfl rfl rfl rfl (aA rfl rfl gA) ?_ ?_
  ·intro I
   have I:δ.room<δ.log.length+b.length:=by simp at I;omega
   refine zA rfl ?_
   refine ay.nil ⟨⟨aa,aa,aa,aa,aa,aa,aa,aa,aa,aa,aa,aa,aa,aa,aa⟩,?_⟩
   exact zK 5 rfl (WP.ret ⟨aa,_,rfl,.inr (.inl ⟨hd,I,rfl,s0⟩)⟩)
  ·intro I
   have I:δ.log.length+b.length≤δ.room:=by simp at I;omega
   refine zA rfl ?_
   refine ay.nil ⟨⟨aa,aa,aa,aa,aa,aa,aa,aa,aa,aa,aa,aa,aa,aa,aa⟩,?_⟩
   refine zK 4 rfl (zc rfl (qz hT s0 hf) ?_)
   rintro v h (⟨h0,rfl,s⟩|⟨h0,rfl,s⟩)
   ·skip
    refine zo rfl (er rfl rfl) (zk 7 rfl (zc rfl (jJ hT (s.ae [1]) hX hb) ?_))
    intro v h s
    have s:=(s.ga).ae [2,0,0]
    obtain⟨pg,wt,nw,lg,mk,J,tl,ops,s⟩:=bI.1 s
    have hv:=(s.aD (k:=8) rfl (c8 _ _)).cells
    refine zn rfl (zf rfl (Cz _ _) (zS rfl (s.eH (k:=0) rfl gU rfl (by decide) hv.1 hv.2) ?_))
    intro h s
    exact zk 5 rfl (WP.ret ⟨aa,_,rfl,.inr (.inr (.inl ⟨hd,I,h0,rfl,bI.2 ⟨pg,wt,nw,lg,mk,J,v,ops,s.del 7⟩⟩))⟩)
   ·skip
    obtain⟨pg,wt,nw,lg,mk,J,tl,ops,s⟩:=bI.1 s
    dsimp only[Dk.cV] at s
    refine zo rfl (er rfl rfl) (za rfl (zv (zj rfl (WP.skip (zg rfl (zk 3 rfl (zf rfl (ku _ _) (zl rfl (by exact s.ld (k:=0) rfl bE rfl) ?_))))))))
    refine zm rfl (ax.any rfl rfl rfl (OpR.pQ rfl (s.ae [4,7]) hX rfl rfl rfl rfl (by show δ.log.length+_≤_;omega)) ?_)
    intro v h s
    have hv:=(s.buf (k:=0) rfl).view.cells
    refine zn rfl (zf rfl (ku _ _) (zS rfl (s.eH (k:=2) rfl gU rfl (by decide) hv.1 hv.2) ?_))
    intro h s
    exact zk 5 rfl (WP.ret ⟨aa,_,rfl,.inr (.inr (.inr ⟨hd,I,h0,rfl,bI.2 ⟨pg,wt,nw,v,mk,J,tl,ops,s.ae [2,2,2,2,0,1,1,1]⟩⟩))⟩)
end
section
variable {told:cR} {p:Nat}
def Dk.wr (δ:Dk)(n:Int)(b:List Nat): Dk:={ δ.cV with waiting:=δ.waiting++[(n.toNat,b)],now:=cD n b δ.now }
theorem Xh : ∃i,Tryz.prog.info? 151=some i∧i.size=2∧i.bytes=32 :=
 ⟨_,(show Tryz.prog.info? 151=some ((Tryz.prog.info? 151).getD default) by kernel_rfl),by kernel_rfl,by kernel_rfl⟩
theorem Sat.ZN {m:List Wr}{u:V}{x:Wr}(s:Sat h (.bY u x.2::uV cs m::S))(hu:u≠.a_): Sat h (uV (cs++[.int .i64 (x.1:Int),u]) (m++[x])::S) :=
 s.two (aV.bY _ _) (aV.wr _ _) fun _ _ I J=>Xf J hu I
theorem Qr (hT:W told){n:Int}(s:Sat h (aS p δ::X::S))(hX:cL X (cQ x b))(hb:b.length<1073741824)(hf:δ.aT<4294967296)(hw:δ.waiting.length≤268435456):
  Call ⟨Tryz.prog,told⟩ 138 [.ptr p 0,.int .i64 n,x] h fun v h' =>
  (δ.dead=true∧v=.int .i64 9∧Sat h' (aS p δ::X::S)) ∨
  (δ.dead=false∧¬(0≤n∧n<δ.aq.length∧b.length=512)∧v=.int .i64 1∧Sat h' (aS p δ::X::S)) ∨
  (δ.dead=false∧0≤n∧n<δ.aq.length∧b.length=512∧δ.aT=0∧v=.int .i64 9∧Sat h' (aS p { δ.die with dG:=some (n.toNat,b) }::X::S)) ∨
  (δ.dead=false∧0≤n∧n<δ.aq.length∧b.length=512∧δ.aT≠0∧v=.int .i64 0∧Sat h' (aS p (δ.wr n b)::X::S)):=by
 have J:=s
 obtain⟨pg,wt,nw,lg,mk,tn,tl,ops,s⟩:=bI.1 s
 refine Call.of_wp (hT.free _ rfl) Tryz.func138 rfl rfl (zK 5 rfl (WP.block (zK 4 rfl (zf rfl (kx _ _) ?_))))
 refine zd rfl (aZ rfl (s.ld (k:=0) rfl kZ rfl)) ?_ ?_
 ·intro hd
  exact zk 7 rfl (WP.ret ⟨aa,_,rfl,.inl ⟨hd,rfl,J⟩⟩)
 ·intro hd
  refine zk 7 rfl (zc rfl (Qq hT J) ?_)
  rintro v h' ⟨rfl,(⟨qX,qA,rfl⟩|⟨hn,rfl⟩)⟩
  ·skip
   refine zo rfl (er rfl rfl) (zk 2 rfl (zo rfl (aN rfl rfl rfl (aW aK (s.aD (k:=8) rfl hX))) ?_))
   refine zd rfl (aA rfl rfl aE) ?_ ?_
   ·intro I
    have I:b.length≠512:=by simp at I;omega
    exact zk 8 rfl (WP.ret ⟨aa,_,rfl,.inr (.inl ⟨hd,fun q=>I q.2.2,rfl,J⟩)⟩)
   ·intro I
    have I:b.length=512:=by simp at I;omega
    refine zk 2 rfl (zv (zj rfl (WP.skip (zg rfl (zk 2 rfl (zc rfl (jJ hT (J.ae [1]) hX hb) ?_))))))
    intro u h s
    obtain⟨lq,_,cap,_,rfl,_⟩:=s.gq (by omega)
    have s:=s.ga
    have hnc:((n.toNat:Nat):Int)=n:=by omega
    refine zo rfl (cT rfl (by rw[aba];rfl)) ?_
    refine ax.cm s rfl rfl rfl (b6 HN) (fun p7 h s => ?_)
    refine zS rfl (s.fS (j:=0) rfl DI rfl rfl) (fun h s => ?_)
    refine zk 5 rfl (zc rfl (qz hT (s.ae [3]) hf) ?_)
    rintro v h (⟨h0,rfl,s⟩|⟨h0,rfl,s⟩)
    ·skip
     obtain⟨pg,wt,nw,lg,mk,tn,tl,ops,s⟩:=bI.1 s
     refine zo rfl (er rfl rfl) (zk 6 rfl (zf rfl (uR _ _) ?_))
     refine zS rfl (by exact s.eH (k:=0) rfl aa9 rfl (by decide) rfl rfl) (fun h s => ?_)
     dsimp only[xb,V.cells,List.length_cons,List.length_nil,Nat.reduceAdd,aI,bringA,List.take,List.drop,List.cons_append,List.nil_append,setA,List.set] at s
     refine zk 5 rfl (WP.ret ⟨aa,_,rfl,?_⟩)
     have s1:=s.ae [8,8,8]
     have s2:Sat h (BE _ (some (n.toNat,b))::_):=g_.2 ⟨_,g_.2 ⟨_,bn.2 (eS.2 ⟨rfl,by rw[hnc];exact s1⟩)⟩⟩
     have s3:=(s2.del 8).ae [2,2,2,2,2,2,0,1,0]
     exact .inr (.inr (.inl ⟨hd,qX,qA,I,h0,rfl,bI.2 ⟨_,_,_,_,_,_,_,_,s3⟩⟩))
    ·skip
     obtain⟨pg,wt,nw,lg,mk,tn,tl,ops,s⟩:=bI.1 s
     dsimp only[Dk.cV] at s
     obtain⟨cs,sw⟩:=mL.1 (s.ae [2])
     have s:=sw.ae [2,8,0,0]
     dsimp only[xb,V.cells,List.length_cons,List.length_nil,Nat.reduceAdd,aI,bringA,List.take,List.drop,List.cons_append,List.nil_append,setA,getA] at s
     have J:=s
     have Gy:=(s.ju (j:=2) rfl).2.2
     refine zo rfl (er rfl rfl) (zk 4 rfl (WP.drawn [some (0,3),some (0,2),some (0,2),some (0,2),some (0,2),ah,ah,ah,ah,ah,ah] rfl (by kernel_rfl) (by kernel_rfl) ?_))
     refine zM rfl (zM rfl (zN rfl (zF rfl (uw _ _) (zL rfl (s.ld (k:=0) rfl DH rfl) (zL rfl (s.dn (k:=1) rfl VA DI) ?_)))))
     obtain⟨i1,iu,gW,pz⟩:=Xh
     obtain⟨sv,h1,e1,s1⟩:=jB (P:=Tryz.prog) (x:=.agg [.int .i64 n,.sl lq 0 b.length cap]) s Au HN DI rfl (by decide) (by decide) rfl rfl
     dsimp only[V.cells] at s1
     refine ay.any rfl rfl rfl rfl (OpR.of (R:=fun v h'=>v=sv∧h'=h1) (ke rfl e1) ⟨rfl,rfl⟩) ?_
     rintro v h' ⟨rfl,rfl⟩
     have je:cs.length=δ.waiting.length*2:=by
      obtain⟨a,b,q1,q2,q3⟩:=s.at (k:=3) rfl
      exact BC q3
     obtain⟨wt',h2,e2,s2⟩:=gv (s1.ae [3,0]) Au iu HN gW (by omega) rfl (by decide) (by simp only[V.cells,bF,cG];omega)
     dsimp only[aI,bringA] at s2
     refine ay.any rfl rfl rfl rfl (OpR.of (R:=fun v h'=>v=wt'∧h'=h2) (jI rfl rfl e2) ⟨rfl,rfl⟩) ?_
     rintro v h' ⟨rfl,rfl⟩
     have hv:=s2.ju (j:=0) rfl
     refine zN rfl (zF rfl (uw _ _) (ay.ij rfl rfl rfl (OpR.eA rfl rfl rfl (s2.eH (k:=2) rfl Vz rfl (by decide) hv.1 hv.2.1)) ?_))
     rintro v h ⟨rfl,s⟩
     dsimp only[Nat.reduceAdd,List.set,setA] at s
     refine ay.nil ⟨⟨fun _ _=>.inr ⟨rfl,⟨_,bK rfl⟩,bH _ rfl⟩,fun _ _=>.inr ⟨rfl,⟨_,bK rfl⟩,bH _ rfl⟩,fun _ _=>.inr ⟨rfl,⟨_,pJ rfl⟩,bH _ rfl⟩,fun _ _=>.inr ⟨rfl,⟨_,lE rfl (uw _ _)⟩,bH _ rfl⟩,eE (.inr ⟨rfl,⟨_,aZ rfl (J.ld (k:=0) rfl DH rfl)⟩,Gy⟩) (.inr ⟨rfl,⟨_,aZ rfl (s1.ld (k:=1) rfl DH rfl)⟩,Gy⟩),aa,aa,aa,aa,aa,aa,aa⟩,?_⟩
     refine zw (WP.drawn [ah,ah,ah,ah,ah,ah,ah,ah] rfl (by kernel_rfl) (by kernel_rfl) ?_)
     refine zM rfl (zN rfl (zF rfl (Bx _ _) (zL rfl (s.ld (k:=2) rfl jT rfl) (zM rfl (zF rfl (Fq _ _) (zL rfl (s.ld (k:=3) rfl bE rfl) (ay.ij rfl rfl rfl (OpR.mapUpdate rfl rfl rfl rfl (pS (f:=fun v b=>aL.bY v b) (x:=b) (fun _ _=>aV.bY _ _) (((s.ae [11]).dup (aV.bY _ _)).ae [0,7]) k_ bT)) ?_)))))))
     intro v h s
     dsimp only[aI,bringA] at s
     refine ay.nil ⟨⟨aa,aa,aa,aa,aa,aa,aa,aa,aa⟩,?_⟩
     refine zK 4 rfl (WP.ret ⟨aa,_,rfl,?_⟩)
     have s1:=(s.ae [1,5]).ZN (x:=(n.toNat,b)) (by simp)
     rw[hnc] at s1
     have s2:=((mL.2 ⟨_,s1.ae [2,0]⟩).del 4).del 2
     exact .inr (.inr (.inr ⟨hd,qX,qA,I,h0,rfl,bI.2 ⟨_,_,_,_,_,_,_,_,s2.ae [2,2,0,0,0,0,0,0,0]⟩⟩))
  ·skip
   exact zo rfl (er rfl rfl) (zk 12 rfl (WP.ret ⟨aa,_,rfl,.inr (.inl ⟨hd,fun q=>hn ⟨q.1,q.2.1⟩,rfl,J⟩)⟩))
theorem Xi (I:W told)(s:Sat h (aS p δ::S))(J:δ.log.length<1073741824): Call ⟨Tryz.prog,told⟩ 132 [.ptr p 0] h fun v h' =>
  (δ.dead=true∧v=.bf [.a_,.int .i64 9]∧Sat h' (aS p δ::S))∨(δ.dead=false∧∃b,v=.bf [b,.int .i64 0]∧Sat h' (aQ b δ.log::aS p δ::S)):=by
 have s0:=s
 obtain⟨pg,wt,nw,lg,mk,tn,tl,ops,s⟩:=bI.1 s
 refine Call.of_wp (I.free _ rfl) Tryz.func132 rfl rfl (zK 10 rfl (zf rfl (kx _ _) ?_))
 refine zd rfl (aZ rfl (s.ld (k:=0) rfl kZ rfl)) ?_ ?_
 ·intro hd
  exact zk 7 rfl (WP.ret ⟨aa,_,rfl,.inl ⟨hd,rfl,s0⟩⟩)
 ·intro hd
  refine zk 7 rfl (zY s 0 ku bE rfl (zc rfl (jJ I (s.ae [4]) (bk _ _) J) ?_))
  intro v h s
  exact zk 3 rfl (WP.ret ⟨aa,_,rfl,.inr ⟨hd,v,rfl,(bI.2 ⟨pg,wt,nw,lg,mk,tn,tl,ops,s.ae [2,2,2,2,1,1,1,1,0]⟩).ae [1]⟩⟩)
theorem DW (I:W told)(s:Sat h (aS p δ::S))(hl:δ.mark.length≤64): Call ⟨Tryz.prog,told⟩ 131 [.ptr p 0] h fun v h' =>
  (δ.dead=true∧v=.bf [.a_,.int .i64 9]∧Sat h' (aS p δ::S))∨(δ.dead=false∧∃b,v=.bf [b,.int .i64 0]∧Sat h' (aQ b δ.mark::aS p δ::S)):=by
 have J:=s
 obtain⟨pg,wt,nw,lg,mk,tn,tl,ops,s⟩:=bI.1 s
 refine Call.of_wp (I.free _ rfl) Tryz.func131 rfl rfl (zK 10 rfl (zf rfl (kx _ _) ?_))
 refine zd rfl (aZ rfl (s.ld (k:=0) rfl kZ rfl)) ?_ ?_
 ·intro hd
  exact zk 7 rfl (WP.ret ⟨aa,_,rfl,.inl ⟨hd,rfl,J⟩⟩)
 ·intro hd
  refine zk 7 rfl (zY s 0 Fo bE rfl (zc rfl (jJ I (s.ae [5]) (c8 _ _) (by omega)) ?_))
  intro v h s
  exact zk 3 rfl (WP.ret ⟨aa,_,rfl,.inr ⟨hd,v,rfl,(bI.2 ⟨pg,wt,nw,lg,mk,tn,tl,ops,s.ae [2,2,2,2,2,1,1,1,0]⟩).ae [1]⟩⟩)
theorem Tr (hT:W told){n:Int}(s:Sat h (aS p δ::S))(hf:δ.aT<4294967296)(hl:δ.log.length<1073741824):
  Call ⟨Tryz.prog,told⟩ 134 [.ptr p 0,.int .i64 n] h fun v h' =>
  (δ.dead=true∧v=.int .i64 9∧Sat h' (aS p δ::S))∨(δ.dead=false∧¬(0≤n∧n≤δ.log.length)∧v=.int .i64 1∧Sat h' (aS p δ::S)) ∨
  (δ.dead=false∧0≤n∧n≤δ.log.length∧δ.aT=0∧v=.int .i64 9∧Sat h' (aS p δ.die::S)) ∨
  (δ.dead=false∧0≤n∧n≤δ.log.length∧δ.aT≠0∧v=.int .i64 0∧Sat h' (aS p { δ.cV with log:=δ.log.take n.toNat,bj:=n.toNat }::S)):=by
 have s0:=s
 obtain⟨pg,wt,nw,lg,mk,tn,tl,ops,s⟩:=bI.1 s
 refine Call.of_wp (hT.free _ rfl) Tryz.func134 rfl rfl (zK 5 rfl (WP.block (zK 4 rfl (zf rfl (kx _ _) ?_))))
 refine zd rfl (aZ rfl (s.ld (k:=0) rfl kZ rfl)) ?_ ?_
 ·intro hd
  exact zk 7 rfl (WP.ret ⟨aa,_,rfl,.inl ⟨hd,rfl,s0⟩⟩)
 ·intro hd
  refine zk 6 rfl ?_
  refine zd rfl (aA rfl rfl bh) ?_ ?_
  ·intro J
   have J:n<0:=by simpa using J
   exact zk 16 rfl (WP.ret ⟨aa,_,rfl,.inr (.inl ⟨hd,fun q=>by omega,rfl,s0⟩)⟩)
  ·intro J
   have J:0≤n:=by simpa using J
   refine zk 4 rfl (zY s 0 ku bE rfl (zo rfl (aN rfl rfl rfl (aW aK (s.aD (k:=4) rfl (bk _ _)))) ?_))
   refine zd rfl (aA rfl rfl gA) ?_ ?_
   ·intro I
    have I:(δ.log.length:Int)<n:=by simpa using I
    exact zk 8 rfl (WP.ret ⟨aa,_,rfl,.inr (.inl ⟨hd,fun q=>by omega,rfl,s0⟩)⟩)
   ·intro I
    have I:n≤δ.log.length:=by simpa using I
    refine zk 7 rfl (zc rfl (qz hT s0 hf) ?_)
    rintro v h (⟨h0,rfl,s⟩|⟨h0,rfl,s⟩)
    ·skip
     exact zo rfl (er rfl rfl) (zk 7 rfl (WP.ret ⟨aa,_,rfl,.inr (.inr (.inl ⟨hd,J,I,h0,rfl,s⟩))⟩))
    ·skip
     obtain⟨pg,wt,nw,lg,mk,tn,tl,ops,s⟩:=bI.1 s
     dsimp only[Dk.cV] at s
     obtain⟨k,rfl⟩:∃k:Nat,n=k:=⟨n.toNat,by omega⟩
     refine zo rfl (er rfl rfl) (za rfl (zv (zj rfl (WP.skip (zg rfl (zk 3 rfl (zf rfl (ku _ _) (zl rfl (by exact s.ld (k:=0) rfl bE rfl) ?_))))))))
     refine zm rfl (zo rfl (cH (p:=none) (q:=some (.int .i64 (k:Int))) (m:=none) (p':=none) (q':=some k) (m':=none) rfl rfl rfl rfl rfl (by simp[jb,bndV]) rfl (iQ (s.buf (k:=4) rfl).view (b:=k) (by omega)).1) ?_)
     refine zc rfl (jJ hT (s.ae [4]) (yb (bk _ _) (b:=k) (by omega)) (by simp;omega)) ?_
     intro v h s
     have hv:=(s.buf (k:=0) rfl).view.cells
     refine zn rfl (zf rfl (ku _ _) (zS rfl (s.eH (k:=2) rfl gU rfl (by decide) hv.1 hv.2) ?_))
     intro h s
     refine zk 6 rfl (zf rfl (ux _ _) ?_)
     refine zS rfl (by exact s.eH (k:=2) rfl jF rfl (by decide) rfl rfl) (fun h s => ?_)
     refine zk 5 rfl (WP.ret ⟨aa,_,rfl,?_⟩)
     have s:=(s.del 1).ae [1,1,1,1,0,0,0,0]
     exact .inr (.inr (.inr ⟨hd,J,I,h0,rfl,bI.2 ⟨pg,wt,nw,v,mk,tn,tl,ops,s⟩⟩))
def Dk.fresh (aq room:Nat): Dk:={ room:=room,aq:=List.replicate aq none,waiting:=[],now:=[],log:=[],bj:=0,mark:=[],aT := -1,dead:=false,dG:=none,tail:=[] }
theorem Xj : ∃i,Tryz.prog.info? 28=some i∧i.size=1∧i.bytes=24 :=
 ⟨_,(show Tryz.prog.info? 28=some ((Tryz.prog.info? 28).getD default) by kernel_rfl),by kernel_rfl,by kernel_rfl⟩
theorem KU (v:V): ∀n:Nat,repeatL [v] n=List.replicate n v:=by
 intro n
 induction n with
 |zero=>rfl
 |succ n I=>simp only[repeatL,I,EK,jy,ey]
theorem Qs {b:PM}: ∀n:Nat,(each lp (List.replicate n .a_) (List.replicate n none)).p a b:=by
 intro n
 induction n with
 |zero=>trivial
 |succ n I=>exact⟨rfl,I⟩
theorem IY (hT:W told){m:Nat}(s:Sat h S)(hn:n<1073741824): Call ⟨Tryz.prog,told⟩ 88 [.int .i64 (n:Int),.int .i64 (m:Int)] h fun v h'=>∃p,v=.ptr p 0∧Sat h' (aS p (Dk.fresh n m)::S):=by
 refine Call.of_wp (hT.free _ rfl) Tryz.func88 rfl rfl (zK 8 rfl ?_)
 obtain⟨i1,I,J,pz⟩:=Xj
 obtain⟨id,h1,e1,s1⟩:=Gs (P:=Tryz.prog) s gR I oT J (by omega) rfl (by decide) hn
 refine ax.any rfl rfl rfl (OpR.of (R:=fun v h'=>v=.sl id 0 n (.exact n)∧h'=h1) (qT rfl rfl e1) ⟨rfl,rfl⟩) ?_
 rintro v h ⟨rfl,rfl⟩
 have s:=s1
 dsimp only[V.cells] at s
 rw[eF,KU] at s
 refine ax.Ai s rfl rfl rfl rfl (fun p8 h s => ?_)
 refine zo rfl (cT rfl (by rw[aa_];rfl)) ?_
 refine ax.cm s rfl rfl rfl (fY rfl rfl) (fun p10 h s => ?_)
 refine zk 2 rfl (WP.ret ⟨aa,_,rfl,?_⟩)
 have s:=(uT (f:=fun v b=>aL.bY v b) (s.ae [1]))
 have s:=s.sy.sy.DO
 have s:Sat _ (BD .a_ []::_):=mL.2 ⟨[],(s.gD (φ:=True) aa).m6⟩
 have s:Sat _ (BE .b_ none::_):=s.gD rfl
 have s:=s.ae [6,6]
 have hp:Sat _ (pq (.sl id 0 n (.exact n)) (List.replicate n none)::_):=gS.2 ⟨id,List.replicate n .a_,by rw[fN],by
  rw[fN]
  exact(((s.ae [1]).gD (φ:=True) aa).gK fun a b _=>Qs n).ae [1]⟩
 dsimp only[V.cells,List.take,List.length_cons,List.length_nil,Nat.reduceAdd,List.drop,List.cons_append,List.nil_append,aI,bringA,getA] at hp
 exact⟨_,rfl,bI.2 ⟨_,_,_,_,_,_,_,_,hp.ae [1,0,1,4,1,1,0,0]⟩⟩
theorem Xk (hT:W told){n m:Int}(s:Sat h S): Call ⟨Tryz.prog,told⟩ 70 [.int .i64 n,.int .i64 m] h fun v h' =>
  (¬(1≤n∧n≤65536∧0≤m∧m≤16777216)∧v=.bf [.b_,.int .i64 1]∧Sat h' S) ∨
  (1≤n∧n≤65536∧0≤m∧m≤16777216∧∃p,v=.bf [.ptr p 0,.int .i64 0]∧Sat h' (aS p (Dk.fresh n.toNat m.toNat)::S)):=by
 refine Call.of_wp (hT.free _ rfl) Tryz.func70 rfl rfl (zK 9 rfl ?_)
 refine zd rfl (aA rfl rfl bh) ?_ ?_
 ·intro hq
  have hq:n<1:=by simpa using hq
  exact zk 19 rfl (WP.ret ⟨aa,_,rfl,.inl ⟨fun q=>by omega,rfl,s⟩⟩)
 ·intro hq
  have hq:1≤n:=by simpa using hq
  refine zk 2 rfl ?_
  refine zd rfl (aA rfl rfl gA) ?_ ?_
  ·intro I
   have I:65536<n:=by simpa using I
   exact zk 16 rfl (WP.ret ⟨aa,_,rfl,.inl ⟨fun q=>by omega,rfl,s⟩⟩)
  ·intro I
   have I:n≤65536:=by simpa using I
   refine zk 3 rfl ?_
   refine zd rfl (aA rfl rfl bh) ?_ ?_
   ·intro J
    have J:m<0:=by simpa using J
    exact zk 12 rfl (WP.ret ⟨aa,_,rfl,.inl ⟨fun q=>by omega,rfl,s⟩⟩)
   ·intro J
    have J:0≤m:=by simpa using J
    refine zk 3 rfl ?_
    refine zd rfl (aA rfl rfl gA) ?_ ?_
    ·intro qB
     have qB:16777216<m:=by simpa using qB
     exact zk 8 rfl (WP.ret ⟨aa,_,rfl,.inl ⟨fun q=>by omega,rfl,s⟩⟩)
    ·intro qB
     have qB:m≤16777216:=by simpa using qB
     refine zk 8 rfl ?_
     obtain⟨n,rfl⟩:∃k:Nat,n=k:=⟨n.toNat,by omega⟩
     obtain⟨m,rfl⟩:∃k:Nat,m=k:=⟨m.toNat,by omega⟩
     refine zc rfl (IY hT s (by omega)) ?_
     rintro v h ⟨p,rfl,s⟩
     exact zk 3 rfl (WP.ret ⟨aa,_,rfl,.inr ⟨hq,I,J,qB,p,rfl,s⟩⟩)
end
def leN : List Nat→Nat
 |[]=>0
 |b::l=>b+256*leN l
theorem Ts : ∀(l:List Nat) (b:Nat),leN (l++[b])=leN l+b*256^l.length:=by
 intro l
 induction l with
 |nil=>intro b;simp[leN]
 |cons x l I=>intro b;simp only[jy,leN,I,bF,wF,Nat.mul_add];rw[←ox,wG (256^l.length) 256,←Nat.mul_assoc b,wG b 256,Nat.mul_assoc 256 b]
theorem DX : ∀(l:List Nat),(∀b∈l,b<256)→leN l<256^l.length:=by
 intro l
 induction l with
 |nil=>intro _;simp[leN]
 |cons x l I =>
  intro h
  have h1:=I (fun b J=>h b (b8 _ J))
  have h2:=h x bZ
  simp only[leN,bF,wF]
  omega
theorem IZ (i:Nat): (256:Nat)^i=2^(8*i):=by rw[Nat.pow_mul]
theorem acC {x:Operand}(hd:d<256)(hi:i≤7): binV P h .shl t x y (.int .u64 (d:Int)) (.int .i64 (8*(i:Int)))=some (.int .u64 ((d*256^i:Nat):Int)):=by
 have J:(256:Nat)^i≤256^7:=t_ (by omega) hi
 have I:d*256^i<18446744073709551616:=by
  have:d*256^i≤255*256^7:=rK (by omega) J
  omega
 simp only[binV,shiftV,IntKind.bits]
 have e:(8*(i:Int)).toNat=8*i:=by omega
 rw[e,show min (8*i) 64=8*i by omega,show decide (8*(i:Int)<0)=false by simp;omega,aY]
 have:(d:Int)*2^(8*i)=((d*256^i:Nat):Int):=by rw[IZ];push_cast;rfl
 simp only[this,wrap_u64 I]
theorem or8 {x:Operand}{a:Nat}(I:a<256^i)(hd:d<256)(hi:i≤7): binV P h .or t x y (.int .u64 (a:Int)) (.int .u64 ((d*256^i:Nat):Int))=some (.int .u64 ((a+d*256^i:Nat):Int)):=by
 have J:(256:Nat)^i≤256^7:=t_ (by omega) hi
 have hm:d*256^i≤255*256^7:=rK (by omega) J
 have h1:((a:Int)%(2^(IntKind.u64).bits:Int)).toNat=a:=by simp only[IntKind.bits];omega
 have h2:(((d*256^i:Nat):Int)%(2^(IntKind.u64).bits:Int)).toNat=d*256^i:=by simp only[IntKind.bits];omega
 have h3:Nat.lor a (d*256^i)=a+d*256^i:=by
  have e:d*256^i=2^(8*i)*d:=by rw[←IZ,wG]
  have:=LH (i:=8*i) (b:=a) (by rw[←IZ];exact I) d
  rw[←e] at this
  rw[Nat.add_comm a,this]
  exact Nat.or_comm _ _
 simp only[binV,ikBeq,aj,intV,bitsV,h1,h2,h3]
 rw[wrap_u64 (by omega)]
section
variable {told:cR} {v:V}
noncomputable def wdL : Code:=cN [1,1,0,1,0,0] ((Tryz.f86.body).getD .skip)
theorem Qt (hv:View h v l)(hl:l.length≤8): ∀(j i:Nat) (E:List (Nat×V)) (Q:Ex→List (Nat×V)→H→Prop),i+j=l.length →
  Has E [(3,.int .u64 (leN (l.take i))),(6,v),(7,.int .i64 l.length),(8,.int .i64 i)]→(∀E',look E' 3=some (.int .u64 (leN l))→Q (.exit 0) E' h)→WP ⟨Tryz.prog,told⟩ 22 (.loop wdL) E h Q:=by
 intro j
 induction j with
 |zero =>
  intro i E Q hi hE hq
  refine WP.loop (WP.has hE (zg rfl (zC rfl bh (by simp;omega) ?_)))
  refine zk 3 rfl (WP.exit (hq _ ?_))
  rw[gj (by omega)]
  rfl
 |succ j ih =>
  intro i E Q hi hE hq
  have J:l[i]?=some (l[i]'(by omega)):=bx _
  generalize Vm:(l[i]'(by omega))=b at J
  have I:b<256:=hv.1 b (bD J)
  obtain⟨id,off,e1,e2⟩:=eU hv J
  have ht:l.take (i+1)=l.take i++[b]:=by rw[wq,J];rfl
  have cI:leN (l.take i)<256^i:=by
   have:=DX (l.take i) (fun x hx=>hv.1 x (ko hx))
   rwa [fO,Bd (by omega)] at this
  refine WP.loop (WP.has hE (zg rfl (zB rfl bh (by simp;omega) ?_)))
  refine zk 5 rfl (WP.block (zK 3 rfl (zo rfl (cK (r:=.ptr id off) rfl rfl e1) (zl rfl e2 (zk 6 rfl (zo rfl (cJ rfl (by exact jE Tryz.underlying5 c_ (fZ (by omega) (by omega)))) ?_))))))
  refine zm rfl (zb rfl (by exact kJ (aB (by omega) (by omega))) ?_)
  refine zb rfl (acC I (by omega)) ?_
  refine zb rfl (or8 cI I (by omega)) ?_
  refine za rfl (zv (zr rfl (zb rfl (by exact bC (aB (by omega) (by omega))) ?_)))
  refine zm rfl (zv ?_)
  refine ih (i+1) _ _ (by omega) ?_ hq
  rw[ht,Ts,fO,Bd (by omega)]
  exact⟨rfl,rfl,rfl,rfl,aa⟩
theorem qC (J:W told)(s:Sat h S)(hk:getA S k=some X)(hX:cL X (cQ v l))(hl:l.length≤8): Call ⟨Tryz.prog,told⟩ 86 [v] h fun r h'=>r=.int .u64 (leN l)∧h'=h:=by
 have hv:=s.aD hk hX
 refine Call.of_wp (J.free _ rfl) Tryz.func86 rfl rfl (zK 12 rfl (zo rfl (aN rfl rfl rfl (aW aK hv)) (zk 2 rfl (WP.block ?_))))
 refine Qt hv hl l.length 0 _ _ (by omega) ⟨rfl,rfl,rfl,rfl,aa⟩ (fun E' I => ?_)
 exact WP.has (F:=[(3,.int .u64 (leN l))]) ⟨I,aa⟩ (zK 5 rfl (WP.ret ⟨aa,_,rfl,rfl,rfl⟩))
theorem VN (I:W told)(s:Sat h S)(J:getA S k=some X)(hX:cL X (cQ v l))(hl:l.length≤4611686018427387904): Call ⟨Tryz.prog,told⟩ 171 [v] h fun r h'=>r=.int .u32 (DV 0 l:Nat)∧h'=h:=by
 refine Call.of_wp (I.free _ rfl) Tryz.func171 rfl rfl (zK 7 rfl (zc rfl (Xg (s:=0) I s J hX (by decide) hl) ?_))
 rintro v h' ⟨rfl,rfl⟩
 exact zk 2 rfl (WP.ret ⟨aa,_,rfl,rfl,rfl⟩)
def dh (l:List Nat)(a z:Nat): Nat:=leN ((l.take (a+z)).drop a)
theorem uW (hT:W told){a z:Int}(s:Sat h S)(J:getA S k=some X)(hX:cL X (cQ v l))(ha:0≤a)(hz:1≤z)(Mc:z≤7)(hl:a+z≤l.length)(iW:l.length≤65536):
  Call ⟨Tryz.prog,told⟩ 154 [.agg [v],.int .i64 a,.int .i64 z] h fun r h'=>r=.int .i64 (dh l a.toNat z.toNat)∧Sat h' S:=by
 have hv:=s.aD J hX
 obtain⟨pi,po,pc,rfl⟩:=iY hv (by omega)
 refine Call.of_wp (hT.free _ rfl) Tryz.func154 rfl rfl (zg rfl ?_)
 refine ax.cm s rfl rfl rfl (fY rfl rfl) (fun p3 h s => ?_)
 refine zk 4 rfl (zY s 0 iI bE rfl (zk 3 rfl (zb rfl (by exact bC (aB (by omega) (by omega))) ?_)))
 refine zk 2 rfl (zb rfl (by exact bC (aB (by omega) (by omega))) ?_)
 have kz:=B6 (s.aD (nA J) hX) (a:=a.toNat) (b:=(a+z).toNat) (c:=(a+z).toNat) (by omega) (by omega) (by omega) (by omega)
 refine zo rfl (cH (p:=some (.int .i64 a)) (q:=some (.int .i64 (a+z))) (m:=some (.int .i64 (a+z))) rfl rfl rfl rfl (fT ha) (fT (by omega)) (fT (by omega)) kz) ?_
 have hlen:((l.take (a+z).toNat).drop a.toNat).length=z.toNat:=by simp;omega
 refine zc rfl (qC hT s (nA J) (Gt hX (a:=a.toNat) (b:=(a+z).toNat) (c:=(a+z).toNat) (by omega) (by omega) (by omega) (by omega)) (by omega)) ?_
 rintro r h' ⟨rfl,rfl⟩
 have I:=DX ((l.take (a+z).toNat).drop a.toNat) (fun x hx=>hv.1 x (ko (qd hx)))
 have hp:256^z.toNat≤256^7:=t_ (by omega) (by omega)
 rw[hlen] at I
 have e:(a+z).toNat=a.toNat+z.toNat:=by omega
 rw[e] at I ⊢
 refine zo rfl (cJ rfl (by exact jE c_ bT (aB (by omega) (by omega)))) ?_
 exact zk 2 rfl (WP.ret ⟨aa,_,rfl,rfl,s.drop⟩)
theorem DY {a:Nat}(I:∀b∈l,b<256): dh l a z<256^z:=by
 have:=DX ((l.take (a+z)).drop a) (fun x J=>I x (ko (qd J)))
 have h2:((l.take (a+z)).drop a).length≤z:=by simp;omega
 exact iS this (t_ (by omega) h2)
def lI (l:List Nat): Nat:=dh l 14 2
def jC (l:List Nat): Nat:=dh l 16 2
def dW (l:List Nat)(i:Nat): Nat:=dh l (26+4*i) 2
def jK (l:List Nat)(i:Nat): Nat:=dh l (26+4*i+2) 2
theorem lJ (I:W told)(s:Sat h S)(J:getA S k=some X)(hX:cL X (cQ v l))(hl:l.length=512):
  Call ⟨Tryz.prog,told⟩ 101 [.agg [v]] h fun r h'=>r=.int .i64 (lI l)∧Sat h' S:=by
 have hv:=s.aD J hX
 obtain⟨pi,po,pc,rfl⟩:=iY hv (by omega)
 refine Call.of_wp (I.free _ rfl) Tryz.func101 rfl rfl (zg rfl ?_)
 refine ax.cm s rfl rfl rfl (fY rfl rfl) (fun p1 h s => ?_)
 refine zk 4 rfl (zl rfl (s.dn (k:=0) rfl cO bS) (zc rfl (uW I s (nA J) hX (by decide) (by decide) (by decide) (by omega) (by omega)) ?_))
 rintro r h' ⟨rfl,s⟩
 exact zk 2 rfl (WP.ret ⟨aa,_,rfl,rfl,s.drop⟩)
theorem I0 (I:W told)(s:Sat h S)(J:getA S k=some X)(hX:cL X (cQ v l))(hl:l.length=512):
  Call ⟨Tryz.prog,told⟩ 156 [.agg [v]] h fun r h'=>r=.int .i64 (jC l)∧Sat h' S:=by
 have hv:=s.aD J hX
 obtain⟨pi,po,pc,rfl⟩:=iY hv (by omega)
 refine Call.of_wp (I.free _ rfl) Tryz.func156 rfl rfl (zg rfl ?_)
 refine ax.cm s rfl rfl rfl (fY rfl rfl) (fun p1 h s => ?_)
 refine zk 4 rfl (zl rfl (s.dn (k:=0) rfl cO bS) (zc rfl (uW I s (nA J) hX (by decide) (by decide) (by decide) (by omega) (by omega)) ?_))
 rintro r h' ⟨rfl,s⟩
 exact zk 2 rfl (WP.ret ⟨aa,_,rfl,rfl,s.drop⟩)
end
def yY (t:List Bool): List V:=t.map V.bool
theorem Xl (t:List Bool)(k:Nat)(b:Bool): (yY t).set k (.bool b)=yY (t.set k b):=by simp[yY,List.map_set]
theorem Me {t:List Bool}(I:k<t.length): nth (yY t) k=some (.bool (t.getD k false)):=by
 rw[ir];simp[yY,bx I]
theorem Tt : zeroT Tryz.prog 227=some (.agg (yY (List.replicate 512 false))):=by kernel_rfl
def markL : Nat→Nat→List Bool→Option (List Bool)
 |0,_,t=>some t
 |n+1,k,t=>if t.getD k false then none else markL n (k+1) (t.set k true)
def cellsL (l:List Nat)(low:Nat): Nat→Nat→List Bool→Bool
 |0,_,_=>true
 |n+1,i,t=>if dW l i<low∨512<dW l i+jK l i then false else match markL (jK l i) (dW l i) t with
  |none=>false
  |some t'=>cellsL l low n (i+1) t'
def bW (l:List Nat): Bool:=decide (l.length=512)&&(decide (l.getD 13 0=0)&&(decide (26+4*lI l≤jC l∧jC l≤512)&&cellsL l (jC l) (lI l) 0 (List.replicate 512 false)))
theorem Qu : ∀(n k:Nat) (t t':List Bool),markL n k t=some t'→t'.length=t.length:=by
 intro n
 induction n with
 |zero=>intro k t t' h;simp only[markL] at h;injection h with h;subst h;rfl
 |succ n I =>
  intro k t t' h
  simp only[markL] at h
  split at h
  ·cases h
  ·have:=I _ _ _ h;simpa using this
section
variable {told:cR} {v:V}
theorem BF (I:W told)(s:Sat h S)(J:getA S k=some X)(hX:cL X (cQ v l))(hl:l.length=512)(hi:30+4*i≤512):
  Call ⟨Tryz.prog,told⟩ 155 [.agg [v],.int .i64 (i:Int)] h fun r h'=>r=.bf [.int .i64 (dW l i),.int .i64 (jK l i)]∧Sat h' S:=by
 have hv:=s.aD J hX
 obtain⟨pi,po,pc,rfl⟩:=iY hv (by omega)
 have e1:(26+4*(i:Int)).toNat=26+4*i:=by omega
 have e2:(26+4*(i:Int)+2).toNat=26+4*i+2:=by omega
 refine Call.of_wp (I.free _ rfl) Tryz.func155 rfl rfl (zg rfl ?_)
 refine ax.cm s rfl rfl rfl (fY rfl rfl) (fun p2 h s => ?_)
 refine zk 6 rfl (zb rfl (by exact kJ (aB (by omega) (by omega))) ?_)
 refine zb rfl (by exact bC (aB (by omega) (by omega))) ?_
 refine zk 3 rfl ?_
 have s0:=s
 refine WP.drawn [ah,ah,ah,some (0,2),some (0,2),some (0,2),ah,ah,ah] rfl (by kernel_rfl) (by kernel_rfl) ?_
 refine zL rfl (s.dn (k:=0) rfl cO bS) (zM rfl (ay.any rfl rfl rfl rfl (OpR.call rfl rfl rfl rfl (uW I s (nA J) hX (by omega) (by decide) (by decide) (by omega) (by omega))) ?_))
 rintro r h' ⟨rfl,s⟩
 rw[e1]
 have s1:=s
 refine zL rfl (s.dn (k:=0) rfl cO bS) (zM rfl (zO rfl (aA rfl rfl (by exact bC (aB (by omega) (by omega)))) ?_))
 refine ay.any rfl rfl rfl rfl (OpR.call rfl rfl rfl rfl (uW I s (nA J) hX (by omega) (by decide) (by decide) (by omega) (by omega))) ?_
 rintro r h' ⟨rfl,s⟩
 rw[e2]
 refine zA rfl (zA rfl ?_)
 refine ay.nil ⟨⟨aa,aa,aa,eE (.inr ⟨rfl,⟨_,aZ rfl (s0.dn (k:=0) rfl cO bS)⟩,bH _ rfl⟩) (.inr ⟨rfl,⟨_,aZ rfl (s1.dn (k:=0) rfl cO bS)⟩,bH _ rfl⟩),fun _ _=>.inr ⟨rfl,⟨_,bK rfl⟩,bH _ rfl⟩,fun _ _=>.inr ⟨rfl,⟨_,aA rfl rfl (by exact bC (aB (by omega) (by omega)))⟩,bH _ rfl⟩,aa,aa,aa,aa⟩,?_⟩
 refine WP.ret ⟨aa,_,rfl,?_⟩
 exact⟨rfl,s.drop⟩
noncomputable def gdO : Code:=cN [1,1,1,1,1,1,0,1,0,0] ((Tryz.f107.body).getD .skip)
noncomputable def gdI : Code:=cN [1,1,1,1,1,1,0,1,0,0,1,1,0,0,1,1,1,1,0,0] ((Tryz.f107.body).getD .skip)
theorem NZ {a:Nat}{v3 v4 v5 v35 v36:V}(haz:a+z≤512): ∀(m q:Nat) (t:List Bool) (h:H) (E:List (Nat×V)) (Q:Ex→List (Nat×V)→H→Prop),q+m=a+z→t.length=512 →
  Sat h (pt p6 (.cells 512 (yY t) false)::S)→Has E [(3,v3),(4,v4),(5,v5),(6,.ptr p6 0),(8,.int .i64 (a:Int)),(9,.int .i64 (z:Int)),(10,.int .i64 (q:Int)),(35,v35),(36,v36)] →
  (markL m q t=none→∀E' h',look E' 2=some (.bool false)→Sat h' S→Q .ret E' h') →
  (∀t' E' h',markL m q t=some t'→Has E' [(3,v3),(4,v4),(5,v5),(6,.ptr p6 0),(35,v35),(36,v36)]→Sat h' (pt p6 (.cells 512 (yY t') false)::S)→Q (.exit 2) E' h') →
  WP ⟨Tryz.prog,told⟩ 68 (.loop gdI) E h Q:=by
 intro m
 induction m with
 |zero =>
  intro q t h E Q hq ht s hE J hx
  refine WP.loop (WP.has hE (zK 6 rfl (zb rfl (by exact bC (aB (by omega) (by omega))) ?_)))
  refine zC rfl bh (by simp;omega) ?_
  exact zk 2 rfl (WP.exit (hx t _ _ rfl ⟨rfl,rfl,rfl,rfl,rfl,rfl,aa⟩ s))
 |succ m ih =>
  intro q t h E Q hq ht s hE J hx
  have I:q<t.length:=by omega
  refine WP.loop (WP.has hE (zK 6 rfl (zb rfl (by exact bC (aB (by omega) (by omega))) ?_)))
  refine zB rfl bh (by simp;omega) ?_
  refine zk 4 rfl (WP.block (zK 4 rfl (zo rfl (cK (r:=.ptr p6 q) rfl rfl (by rw[VG,show(decide ((0:Int)≤(q:Int))&&decide ((q:Int)<((512:Nat):Int)))=true by simp;omega,aj];simp)) ?_)))
  cases hm:t.getD q false with
  |true =>
   refine zt rfl (aZ rfl (s.ld (k:=0) rfl kZ (Me I))) (hm) (zk 6 rfl (WP.ret ?_))
   refine J ?_ _ _ rfl s.drop
   rw[markL,aP hm]
  |false =>
   refine zh rfl (aZ rfl (s.ld (k:=0) rfl kZ (Me I))) (hm) (zk 5 rfl (zo rfl (cK (r:=.ptr p6 q) rfl rfl (by rw[VG,show(decide ((0:Int)≤(q:Int))&&decide ((q:Int)<((512:Nat):Int)))=true by simp;omega,aj];simp)) ?_))
   refine zS rfl (s.eH (k:=0) rfl yX (by simp[yY,ht]) (by omega) rfl rfl) ?_
   intro h s
   dsimp only[setA] at s
   rw[Xl] at s
   refine zv (zr rfl (zm rfl (zb rfl (by exact bC (aB (by omega) (by omega))) ?_)))
   refine za rfl (zv ?_)
   have e:markL (m+1) q t=markL m (q+1) (t.set q true):=by rw[markL,ak (by rw[hm];decide)]
   rw[e] at J hx
   exact ih (q+1) (t.set q true) h _ Q (by omega) (by simp[ht]) s ⟨rfl,rfl,rfl,rfl,rfl,rfl,rfl,rfl,rfl,aa⟩ J hx
theorem N5 (hT:W told){p3:Nat}{low:Nat}(hX:cL X (cQ x l))(hl:l.length=512)(cI:∀b∈l,b<256)(yW:x.cells=[x])(hx2:storable x=true)(hn:n=lI l)(Ay:26+4*n≤low)(ad0:low≤512): ∀(m i:Nat) (t:List Bool) (h:H) (E:List (Nat×V)) (Q:Ex→List (Nat×V)→H→Prop),i+m=n→t.length=512 →
  Sat h (pt p6 (.cells 512 (yY t) false)::pt p3 (.cells 1 [x] false)::X::S)→Has E [(3,.ptr p3 0),(4,.int .i64 (n:Int)),(5,.int .i64 (low:Int)),(6,.ptr p6 0),(35,.int .i64 (n:Int)),(36,.int .i64 (i:Int))] →
  (cellsL l low m i t=false→∀E' h',look E' 2=some (.bool false)→Sat h' (X::S)→Q .ret E' h') →
  (cellsL l low m i t=true→∀E' h',Sat h' (X::S)→Q (.exit 0) E' h') →
  WP ⟨Tryz.prog,told⟩ 68 (.loop gdO) E h Q:=by
 intro m
 induction m with
 |zero =>
  intro i t h E Q hi ht s hE J hx
  refine WP.loop (WP.has hE (zg rfl (zC rfl bh (by simp;omega) ?_)))
  exact zk 3 rfl (WP.exit (hx rfl _ _ s.drop.drop))
 |succ m ih =>
  intro i t h E Q hi ht s hE J hx
  have hf:=DY (l:=l) (a:=26+4*i) (z:=2) cI
  have hz:=DY (l:=l) (a:=26+4*i+2) (z:=2) cI
  have ef:dW l i=dh l (26+4*i) 2:=rfl
  have ez:jK l i=dh l (26+4*i+2) 2:=rfl
  refine WP.loop (WP.has hE (zg rfl (zB rfl bh (by simp;omega) ?_)))
  refine zk 5 rfl (WP.block (zK 7 rfl (zl rfl (s.dn (k:=1) rfl cO bS) (zm rfl (zc rfl (BF (i:=i) hT s (k:=2) rfl hX hl (by omega)) ?_)))))
  rintro r h' ⟨rfl,s⟩
  refine zk 11 rfl ?_
  refine zd rfl (aA rfl rfl bh) ?_ ?_
  ·intro hq
   have hq:dW l i<low:=by simp at hq;omega
   refine zk 12 rfl (WP.ret ?_)
   refine J ?_ _ _ rfl s.drop.drop
   rw[cellsL,aP (.inl hq)]
  ·intro hq
   have hq:low≤dW l i:=by simp at hq;omega
   refine zk 3 rfl (zb rfl (by exact bC (aB (by omega) (by omega))) ?_)
   refine zd rfl (aA rfl rfl gA) ?_ ?_
   ·intro I
    have I:512<dW l i+jK l i:=by simp at I;omega
    refine zk 7 rfl (WP.ret ?_)
    refine J ?_ _ _ rfl s.drop.drop
    rw[cellsL,aP (.inr I)]
   ·intro I
    have I:dW l i+jK l i≤512:=by simp at I;omega
    refine zk 9 rfl (WP.block ?_)
    have e:cellsL l low (m+1) i t=(match markL (jK l i) (dW l i) t with|none=>false|some t'=>cellsL l low m (i+1) t'):=by rw[cellsL,ak (by omega)]
    rw[e] at J hx
    refine NZ I (jK l i) (dW l i) t _ _ _ rfl ht s ⟨rfl,rfl,rfl,rfl,rfl,rfl,rfl,rfl,rfl,aa⟩ (fun hm E' h' h2 s' => ?_) (fun t' E' h' hm jx s' => ?_)
    ·rw[hm] at J
     exact J rfl _ _ h2 s'.drop
    ·rw[hm] at J hx
     refine WP.has jx (zr rfl (zb rfl (by exact bC (aB (by omega) (by omega))) ?_))
     refine zm rfl (zv ?_)
     exact ih (i+1) t' h' _ Q (by omega) (by rw[Qu _ _ _ _ hm,ht]) s' ⟨rfl,rfl,rfl,rfl,rfl,rfl,aa⟩ J hx
theorem Mf (hT:W told)(s:Sat h (X::S))(hX:cL X (cQ v l))(iW:l.length<9223372036854775808):
  Call ⟨Tryz.prog,told⟩ 107 [v] h fun r h'=>r=.bool (bW l)∧Sat h' (X::S):=by
 have hv:=s.aD (k:=0) rfl hX
 refine Call.of_wp (hT.free _ rfl) Tryz.func107 rfl rfl (zK 8 rfl (zo rfl (aN rfl rfl rfl (aW aK (s.aD (k:=0) rfl hX))) ?_))
 refine zd rfl (aA rfl rfl aE) ?_ ?_
 ·intro hq
  have hq:l.length≠512:=by simp at hq;omega
  exact zk 12 rfl (WP.ret ⟨aa,_,rfl,by rw[bW,gF hq,kO],s⟩)
 ·intro hq
  have hq:l.length=512:=by simp at hq;omega
  have hb:l[13]?=some (l[13]'(by omega)):=bx _
  generalize Vm:(l[13]'(by omega))=b at hb
  have lR:l.getD 13 0=b:=by rw[lW,hb];rfl
  obtain⟨id,off,e1,e2⟩:=eU hv hb
  refine zk 2 rfl (zo rfl (cK (r:=.ptr id off) rfl rfl e1) (zl rfl e2 ?_))
  refine zd rfl (aA rfl rfl aE) ?_ ?_
  ·intro I
   have I:b≠0:=by simp at I;omega
   exact zk 7 rfl (WP.ret ⟨aa,_,rfl,by rw[bW,gn hq,lR,gF I,kO,Bool.and_false],s⟩)
  ·intro I
   have I:b=0:=by simp at I;omega
   obtain⟨pi,po,pc,rfl⟩:=iY hv (by omega)
   refine zk 7 rfl (zo rfl (cT rfl (by rw[Bz];rfl)) ?_)
   refine ax.cm s rfl rfl rfl (b6 jU) (fun p3 h s => ?_)
   refine zS rfl (s.fS (j:=0) rfl bS rfl rfl) (fun h s => ?_)
   refine zk 2 rfl ?_
   have s0:=s
   refine WP.drawn [none,none,some (0,2),ah,ah,ah] rfl (by kernel_rfl) (by kernel_rfl) ?_
   refine zL rfl (s.dn (k:=0) rfl cO bS) (ay.any rfl rfl rfl rfl (OpR.call rfl rfl rfl rfl (lJ hT s (k:=1) rfl hX hq)) ?_)
   rintro r h' ⟨rfl,s⟩
   have s1:=s
   refine zL rfl (s.dn (k:=0) rfl cO bS) (ay.any rfl rfl rfl rfl (OpR.call rfl rfl rfl rfl (I0 hT s (k:=1) rfl hX hq)) ?_)
   rintro r h' ⟨rfl,s⟩
   refine zA rfl (zA rfl ?_)
   refine ay.nil ⟨⟨aa,aa,eE (.inr ⟨rfl,⟨_,aZ rfl (s0.dn (k:=0) rfl cO bS)⟩,bH _ rfl⟩) (.inr ⟨rfl,⟨_,aZ rfl (s1.dn (k:=0) rfl cO bS)⟩,bH _ rfl⟩),aa,aa,aa,aa⟩,?_⟩
   have vm:=DY (l:=l) (a:=14) (z:=2) hv.1
   have uG:=DY (l:=l) (a:=16) (z:=2) hv.1
   have ec:lI l=dh l 14 2:=rfl
   have el:jC l=dh l 16 2:=rfl
   refine zK 4 rfl (zb rfl (by exact kJ (aB (by omega) (by omega))) ?_)
   refine zb rfl (by exact bC (aB (by omega) (by omega))) ?_
   refine zm rfl ?_
   refine zd rfl (aA rfl rfl gA) ?_ ?_
   ·intro J
    have J:jC l<26+4*lI l:=by simp at J;omega
    exact zk 10 rfl (WP.ret ⟨aa,_,rfl,by rw[bW,gn hq,lR,gn I,gF (by omega:¬(26+4*lI l≤jC l∧jC l≤512))];rfl,s.drop⟩)
   ·intro J
    have J:26+4*lI l≤jC l:=by simp at J;omega
    refine zk 2 rfl ?_
    refine zd rfl (aA rfl rfl gA) ?_ ?_
    ·intro qB
     have qB:512<jC l:=by simp at qB;omega
     exact zk 7 rfl (WP.ret ⟨aa,_,rfl,by rw[bW,gn hq,lR,gn I,gF (by omega:¬(26+4*lI l≤jC l∧jC l≤512))];rfl,s.drop⟩)
    ·intro qB
     have qB:jC l≤512:=by simp at qB;omega
     refine zk 6 rfl (ax.cm s rfl rfl rfl (b6 Tt) ?_)
     intro p6 h s
     have m7:(yY (List.replicate 512 false)).length=512:=by rw[yY,jl,fN]
     dsimp only[V.cells] at s
     rw[m7] at s
     refine zk 7 rfl (WP.block ?_)
     have hg:bW l=cellsL l (jC l) (lI l) 0 (List.replicate 512 false):=by
      rw[bW,gn hq,lR,gn I,gn (⟨J,qB⟩:26+4*lI l≤jC l∧jC l≤512)];rfl
     refine N5 hT hX hq hv.1 rfl rfl rfl J qB (lI l) 0 (List.replicate 512 false) _ _ _ (by omega) fN s ⟨rfl,rfl,rfl,rfl,rfl,rfl,aa⟩ (fun hc E' h' h2 s' => ?_) (fun hc E' h' s' => ?_)
     ·rw[hg,hc]
      exact⟨aa,_,pO h2,rfl,s'⟩
     ·rw[hg,hc]
      exact WP.has (F:=[]) aa (zK 4 rfl (WP.ret ⟨aa,_,rfl,rfl,s'⟩))
end
section
variable {told:cR} {v:V}
theorem I1 (I:W told)(s:Sat h (aQ v l::S))(J:z≤8)(hl:l.length+z≤140737488355328):
  Call ⟨Tryz.prog,told⟩ 95 [v,.int .i64 (z:Int),.int .u64 (n:Int)] h fun r h'=>Sat h' (aQ r (l++le z n)::S) :=
 (Qn I.VM s.wf (s.buf (k:=0) rfl) J hl).mono fun _ _ ⟨h1,h2,h3⟩=>s.Bv h2 h1 h3
theorem qY (hT:W told){a:Nat}(s:Sat h (aQ v l::S))(hz:1≤z)(Mc:z≤8)(J:a+z≤l.length)(iW:l.length≤65536):
  Call ⟨Tryz.prog,told⟩ 99 [.agg [v],.int .i64 (a:Int),.int .i64 (z:Int),.int .u64 (n:Int)] h fun r h'=>r=.bf []∧Sat h' (aQ v (bu l a (le z n))::S):=by
 obtain⟨lq,_,cap,_,rfl,_⟩:=s.gq (by omega)
 refine Call.of_wp (hT.free _ rfl) Tryz.func99 rfl rfl (zg rfl ?_)
 refine ax.cm s rfl rfl rfl (fY rfl rfl) (fun p4 h s => ?_)
 refine zv ?_
 have s0:=s
 refine WP.drawn [some (0,2),some (0,2),some (0,2),some (0,2),some (0,2),some (0,2),some (0,2),ah,ah,ah,ah] rfl (by kernel_rfl) (by kernel_rfl) ?_
 refine zF rfl (iI _ _) (zL rfl (s.ld (k:=0) rfl bE rfl) (zM rfl (zM rfl (zM rfl (zO rfl (aA rfl rfl (by exact bC (aB (by omega) (by omega)))) ?_)))))
 have ez:((a:Int)+(z:Int)).toNat=a+z:=by omega
 have ea:((a:Int)).toNat=a:=by omega
 refine zO rfl (cH (p:=some (.int .i64 (a:Int))) (q:=some (.int .i64 ((a:Int)+(z:Int)))) (m:=none) (p':=some a) (q':=some (a+z)) (m':=none) rfl rfl rfl rfl (by rw[fT (by omega),ea]) (by rw[fT (by omega),ez]) rfl (gP (s.buf (k:=1) rfl).view (by omega) J).1) ?_
 refine zM rfl (zM rfl (ay.any rfl rfl rfl rfl (OpR.call rfl rfl rfl rfl (I1 hT s.DO Mc (by simp;omega))) ?_))
 intro u h s
 have s:=s.ae [1,1,0]
 dsimp only[List.nil_append,V.cells,List.length_cons,List.length_nil,Nat.reduceAdd,bringA,getA,aI] at s
 have s1:=s
 refine ay.any rfl rfl rfl rfl (OpR.abn rfl (s.ae [1,1]) (bk _ _) rfl rfl rfl rfl (by omega) J (by simp[dL];omega)) ?_
 intro r h s
 have hs:∃q c,slR (V.sl lq 0 l.length cap) a (a+z)=.sl lq q (a+z-a) c:=by
  cases cap with
  |exact c=>exact⟨_,_,rfl⟩
  |rest e alt=>exact⟨_,_,rfl⟩
 obtain⟨q,c,hs⟩:=hs
 have I:(slR (V.sl lq 0 l.length cap) a (a+z)).beq (slR (V.sl lq 0 l.length cap) a (a+z))=true:=by rw[hs];exact HK _ _ _ _
 refine ay.nil ⟨⟨fun _ _=>.inr ⟨rfl,⟨_,lE rfl (iI _ _)⟩,bH _ rfl⟩,eE (.inr ⟨rfl,⟨_,aZ rfl (s0.ld (k:=0) rfl bE rfl)⟩,bH _ rfl⟩) (.inr ⟨rfl,⟨_,aZ rfl (s1.ld (k:=0) rfl bE rfl)⟩,bH _ rfl⟩),fun _ _=>.inr ⟨rfl,⟨_,bK rfl⟩,bH _ rfl⟩,fun _ _=>.inr ⟨rfl,⟨_,bK rfl⟩,bH _ rfl⟩,fun _ _=>.inr ⟨rfl,⟨_,bK rfl⟩,bH _ rfl⟩,fun _ _=>.inr ⟨rfl,⟨_,aA rfl rfl (by exact bC (aB (by omega) (by omega)))⟩,bH _ rfl⟩,eE (.inr ⟨rfl,⟨_,cH (p:=some (.int .i64 (a:Int))) (q:=some (.int .i64 ((a:Int)+(z:Int)))) (m:=none) (p':=some a) (q':=some (a+z)) (m':=none) rfl rfl rfl rfl (by rw[fT (by omega),ea]) (by rw[fT (by omega),ez]) rfl (gP (s0.buf (k:=1) rfl).view (by omega) J).1⟩,I⟩) (.inr ⟨rfl,⟨_,cH (p:=some (.int .i64 (a:Int))) (q:=some (.int .i64 ((a:Int)+(z:Int)))) (m:=none) (p':=some a) (q':=some (a+z)) (m':=none) rfl rfl rfl rfl (by rw[fT (by omega),ea]) (by rw[fT (by omega),ez]) rfl (gP (s1.buf (k:=1) rfl).view (by omega) J).1⟩,I⟩),aa,aa,aa,aa,aa⟩,?_⟩
 refine⟨aa,_,rfl,rfl,?_⟩
 rw[show a+z-a=z by omega,gj (by rw[dL];omega)] at s
 exact(s.del 1).del 1
theorem sK (hT:W told)(s:Sat h (X::S))(hX:cL X (cQ v l))(J:l.length<9223372036854775808):
  Call ⟨Tryz.prog,told⟩ 153 [v] h fun r h'=>Sat h' (X::S)∧((bW l=true∧r=.bf [.agg [v],.int .i64 0])∨(bW l=false∧r=.bf [.agg [.a_],.int .i64 4])):=by
 have hv:=s.aD (k:=0) rfl hX
 refine Call.of_wp (hT.free _ rfl) Tryz.func153 rfl rfl (zg rfl ?_)
 refine ax.cm s rfl rfl rfl (b6 jU) (fun p2 h s => ?_)
 refine zk 6 rfl (zc rfl (Mf hT (s.ae [1]) hX J) ?_)
 rintro r h' ⟨rfl,s⟩
 cases hg:bW l with
 |true =>
  have I:1≤l.length:=by
   have:l.length=512:=by simp only[bW,bQ,gE] at hg;exact hg.1
   omega
  obtain⟨pi,po,pc,rfl⟩:=iY hv I
  refine zo rfl (er rfl rfl) (zk 6 rfl (zo rfl (cT rfl (by rw[Bz];rfl)) ?_))
  refine zS rfl (s.fS (j:=1) rfl bS rfl rfl) (fun h s => ?_)
  refine zk 2 rfl ?_
  refine WP.ret ⟨aa,_,HL rfl (s.dn (k:=1) rfl cO bS) rfl,?_⟩
  exact⟨s.del 1,.inl ⟨rfl,rfl⟩⟩
 |false =>
  refine zo rfl (er rfl rfl) (zk 4 rfl (zo rfl (cT rfl (by rw[Bz];rfl)) ?_))
  refine zS rfl (s.fS (j:=1) rfl bS rfl rfl) (fun h s => ?_)
  refine zk 2 rfl ?_
  refine WP.ret ⟨aa,_,HL rfl (s.dn (k:=1) rfl cO bS) rfl,?_⟩
  exact⟨s.del 1,.inr ⟨rfl,rfl⟩⟩
theorem eB (I:bW l=true): l.length=512:=by simp only[bW,bQ,gE] at I;exact I.1
theorem vy (hT:W told)(s:Sat h (X::S))(J:cL X (cQ v l))(iW:l.length<9223372036854775808):
  Call ⟨Tryz.prog,told⟩ 100 [v] h fun r h'=>(bW l=true∧∃u,r=.bf [.agg [u],.int .i64 0]∧Sat h' (aQ u l::X::S))∨(bW l=false∧r=.bf [.agg [.a_],.int .i64 4]∧Sat h' (X::S)):=by
 have hv:=s.aD (k:=0) rfl J
 refine Call.of_wp (hT.free _ rfl) Tryz.func100 rfl rfl (zg rfl ?_)
 refine ax.cm s rfl rfl rfl (b6 jU) (fun p2 h s => ?_)
 refine zk 5 rfl (zc rfl (sK hT (s.ae [1]) J iW) ?_)
 rintro r h' ⟨s,(⟨I,rfl⟩|⟨I,rfl⟩)⟩
 ·have N6:=eB I
  obtain⟨pi,po,pc,rfl⟩:=iY hv (by omega)
  refine zk 3 rfl ?_
  refine ax.cm s rfl rfl rfl (b6 jU) (fun p4 h s => ?_)
  refine zS rfl (s.fS (j:=0) rfl bS rfl rfl) (fun h s => ?_)
  refine zk 6 rfl (zC rfl aE (rfl) (zk 4 rfl ?_))
  have s0:=s
  refine WP.drawn [ah,ah,ah,ah,some (0,2),some (0,2),ah,ah,ah,ah] rfl (by kernel_rfl) (by kernel_rfl) ?_
  refine zF rfl (iI _ _) (zL rfl (s.ld (k:=0) rfl bE rfl) (zO rfl (aN rfl rfl rfl (qx rfl aK)) (ay.any rfl rfl rfl rfl (OpR.sJ rfl s rfl rfl rfl rfl (by omega)) ?_)))
  intro u h s
  have s:=s.ae [1,1,1,0]
  have s1:=s
  refine zF rfl (iI _ _) (zL rfl (s.ld (k:=0) rfl bE rfl) (ay.any rfl rfl rfl rfl (OpR.pQ rfl (s.ae [3,1]) J rfl rfl rfl rfl (by simp;omega)) ?_))
  intro u2 h s
  rw[ey] at s
  obtain⟨lq,_,cap,_,rfl,_⟩:=s.gq (by omega)
  have s2:=s
  refine zO rfl (cT rfl (by rw[Bz];rfl)) ?_
  refine ay.ij rfl rfl rfl (OpR.eA rfl rfl rfl (s.fS (j:=3) rfl bS rfl rfl)) ?_
  rintro w h ⟨rfl,s⟩
  have s3:=s
  refine zA rfl ?_
  refine ay.nil ⟨⟨aa,aa,aa,aa,fun _ _=>.inr ⟨rfl,⟨_,lE rfl (iI _ _)⟩,bH _ rfl⟩,eE (.inr ⟨rfl,⟨_,aZ rfl (s0.ld (k:=0) rfl bE rfl)⟩,bH _ rfl⟩) (.inr ⟨rfl,⟨_,aZ rfl (s1.ld (k:=0) rfl bE rfl)⟩,bH _ rfl⟩),aa,aa,aa,aa,aa⟩,?_⟩
  refine WP.ret ⟨aa,_,HL rfl (s.dn (k:=3) rfl cO bS) rfl,?_⟩
  exact .inl ⟨I,_,rfl,(s.del 2).del 2⟩
 ·skip
  refine zk 3 rfl ?_
  refine ax.cm s rfl rfl rfl (b6 jU) (fun p4 h s => ?_)
  refine zS rfl (s.fS (j:=0) rfl bS rfl rfl) (fun h s => ?_)
  refine zk 6 rfl (zB rfl aE (rfl) (zk 4 rfl (zo rfl (cT rfl (by rw[Bz];rfl)) ?_)))
  refine zm rfl ?_
  refine zS rfl (s.fS (j:=2) rfl bS rfl rfl) (fun h s => ?_)
  refine zk 2 rfl ?_
  refine WP.ret ⟨aa,_,HL rfl (s.dn (k:=2) rfl cO bS) rfl,?_⟩
  exact .inr ⟨I,rfl,(s.del 2).del 0⟩
def oV (l:List Nat)(n:Nat): List Nat:=bu l 4 (le 8 n)
def cW (l:List Nat)(n:Nat): List Nat:=bu (oV l n) 0 (le 4 (DV 0 ((oV l n).drop 4)))
theorem yj (I:l.length=512): (oV l n).length=512:=by rw[oV,c9 (by rw[dL];omega),I]
theorem Mg (I:W told)(s:Sat h (X::S))(hX:cL X (cQ v l))(iW:l.length<9223372036854775808):
  Call ⟨Tryz.prog,told⟩ 127 [v,.int .u64 (n:Int)] h fun r h'=>(bW l=true∧∃u,r=.bf [u,.int .i64 0]∧Sat h' (aQ u (cW l n)::X::S))∨(bW l=false∧r=.bf [.a_,.int .i64 4]∧Sat h' (X::S)):=by
 refine Call.of_wp (I.free _ rfl) Tryz.func127 rfl rfl (zK 8 rfl (zc rfl (vy I s hX iW) ?_))
 rintro r h' (⟨hg,u,rfl,s⟩|⟨hg,rfl,s⟩)
 ·have J:=eB hg
  have qD:(oV l n).length=512:=yj J
  obtain⟨lq,_,cap,_,rfl,_⟩:=s.gq (by omega)
  refine zk 3 rfl ?_
  refine ax.cm s rfl rfl rfl (b6 jU) (fun p6 h s => ?_)
  refine zS rfl (s.fS (j:=0) rfl bS rfl rfl) (fun h s => ?_)
  refine zk 6 rfl (zC rfl aE (rfl) (zk 5 rfl (zl rfl (s.dn (k:=0) rfl cO bS) (zm rfl (zc rfl (qY (a:=4) (z:=8) I (s.ae [1]) (by decide) (by decide) (by omega) (by omega)) ?_)))))
  rintro r h' ⟨rfl,s⟩
  have s:=s.ae [1,0]
  have s:Sat _ (_::aQ _ (oV l n)::_):=s
  refine zk 2 rfl ?_
  have s0:=s
  have oO:=(s.buf (k:=1) rfl).view.1
  have ec:(oV l n).length=l.length:=by omega
  rw[←ec] at *
  refine WP.drawn [some (0,2),ah,ah,ah,ah,ah,ah] rfl (by kernel_rfl) (by kernel_rfl) ?_
  refine zL rfl (s.dn (k:=0) rfl cO bS) (zF rfl (iI _ _) (zL rfl (s.ld (k:=0) rfl bE rfl) (zO rfl (cH (p:=some (.int .i64 4)) (q:=none) (m:=none) (p':=some 4) (q':=none) (m':=none) rfl rfl rfl rfl rfl rfl rfl (fu (s.buf (k:=1) rfl).view (a:=4) (by omega)).1) ?_)))
  refine ay.any rfl rfl rfl rfl (OpR.call rfl rfl rfl rfl (VN I s (k:=1) rfl (rU (bk _ _) (a:=4) (by omega)) (by simp;omega))) ?_
  rintro r h' ⟨rfl,rfl⟩
  have s1:=s
  have hc:=CG (s:=0) (l:=(oV l n).drop 4) (by decide) (fun x hx=>oO x (qd hx))
  refine ay.op rfl rfl rfl (by simp only[isEff,c_]) (cJ rfl (by exact jE Tryz.underlying231 c_ (fZ (by omega) (by omega)))) ?_
  refine ay.any rfl rfl rfl rfl (OpR.call rfl rfl rfl rfl (qY (a:=0) (z:=4) I (s.ae [1]) (by decide) (by decide) (by omega) (by omega))) ?_
  rintro r h ⟨rfl,s⟩
  have s:=s.ae [1,0]
  refine ay.nil ⟨⟨eE (.inr ⟨rfl,⟨_,aZ rfl (s0.dn (k:=0) rfl cO bS)⟩,bH _ rfl⟩) (.inr ⟨rfl,⟨_,aZ rfl (s1.dn (k:=0) rfl cO bS)⟩,bH _ rfl⟩),aa,aa,aa,aa,aa,aa,aa⟩,?_⟩
  exact zg rfl (zY s 0 iI bE rfl (zk 3 rfl (WP.ret ⟨aa,_,rfl,.inl ⟨hg,_,rfl,s.drop⟩⟩)))
 ·skip
  refine zk 3 rfl ?_
  refine ax.cm s rfl rfl rfl (b6 jU) (fun p6 h s => ?_)
  refine zS rfl (s.fS (j:=0) rfl bS rfl rfl) (fun h s => ?_)
  exact zk 6 rfl (zB rfl aE (rfl) (zk 8 rfl (WP.ret ⟨aa,_,rfl,.inr ⟨hg,rfl,s.drop⟩⟩)))
theorem acD {d:TypeId}{x:Operand}{r:V}(I:bA E x=some v)(J:arrPtrV P d v=some r): opE P E h (.sliceToArrayPointer d x)=some (r,h):=by simp only[opE,jR,I,J,bO]
theorem Xm {cap:Cap}(hv:View h (.sl id off n cap) l)(I:isAggT P t=some true)(hs:bN P t=some l.length): loadV P h t (.ptr id off)=some (.agg (ofBytes l)):=by
 have:=hv.rdN
 obtain⟨rfl,J⟩:=this
 simp only[loadV,I,hs,J,lZ]
theorem Hw : ∀(l m:List Nat),l.length=m.length→intsBeq .u8 (ofBytes l) (ofBytes m)=some (decide (l=m)):=by
 intro l
 induction l with
 |nil=>intro m hm;cases m with
  |nil=>rfl
  |cons x m=>simp at hm
 |cons x l J=>intro m hm;cases m with
  |nil=>simp at hm
  |cons y m =>
   have hi:=J m (by simpa using hm)
   simp only[ofBytes,iE] at hi ⊢
   simp only[intsBeq,ikBeq,jz,aj,hi,mS]
   by_cases I:x=y
   ·subst I;simp
   ·have:¬ ((x:Int)=(y:Int)):=by omega
    simp[this,I]
theorem Tu : buildV Tryz.prog 239 []=some (.agg (ofBytes (List.replicate 512 0))):=by kernel_rfl
theorem VO {x:Operand}{m:List Nat}(hu:P.underlying t=some (.array n e))(he:P.underlying e=some (.int .u8))(hs:bN P e=some 1)(I:l.length=n)(hm:m.length=n):
  binV P h .eql t x y (.agg (ofBytes l)) (.agg (ofBytes m))=some (.bool (decide (l=m))):=by
 simp only[binV,eqArr,hu,he,hs,dV,I,hm,fP,jz,aj]
 rw[Hw l m (by omega)]
 rfl
def h_ (l:List Nat): Int:=if l=List.replicate 512 0 then 0 else if bW l=false then 4 else if dh l 0 4≠DV 0 (l.drop 4) then 8 else 0
theorem I2 (hT:W told)(s:Sat h (X::S))(J:cL X (cQ v l))(iW:l.length<9223372036854775808):
  Call ⟨Tryz.prog,told⟩ 125 [v] h fun r h'=>r=.int .i64 (h_ l)∧Sat h' (X::S):=by
 have hv:=s.aD (k:=0) rfl J
 have hz:(List.replicate 512 0).length=512:=fN
 -- what follows when the page is no page of noughts
 refine Call.of_wp (hT.free _ rfl) Tryz.func125 rfl rfl (zK 8 rfl (zo rfl (aN rfl rfl rfl (aW aK (s.aD (k:=0) rfl J))) ?_))
 refine zd rfl (aA rfl rfl eu) ?_ ?_
 ·intro hq
  have hq:l.length=512:=by simp at hq;omega
  obtain⟨pi,po,pc,rfl⟩:=iY hv (by omega)
  refine zk 2 rfl (zo rfl (acD (r:=.ptr pi po) rfl (by simp only[arrPtrV,IT];rw[hq];rfl)) ?_)
  refine zl rfl (Xm hv abh (by rw[hq];exact abg)) ?_
  refine zo rfl (cT rfl Tu) ?_
  by_cases hn:l=List.replicate 512 0
  ·skip
   exact zB rfl (VO IT Tryz.underlying5 sz5 hq hz) (decide_eq_true hn) (zk 7 rfl (WP.ret ⟨aa,_,rfl,by rw[h_,aP hn],s⟩))
  ·skip
   refine zC rfl (VO IT Tryz.underlying5 sz5 hq hz) (decide_eq_false hn) (zk 7 rfl (zc rfl (sK hT s J iW) ?_))
   rintro r h' ⟨s,(⟨hg,rfl⟩|⟨hg,rfl⟩)⟩
   ·refine ax.op rfl rfl rfl (bK rfl) ?_
    refine zk 2 rfl ?_
    refine ax.cm s rfl rfl rfl (b6 jU) (fun p3 h s => ?_)
    dsimp only[V.cells,List.length_cons,List.length_nil,Nat.reduceAdd] at s
    refine zS rfl (s.fS (j:=0) rfl bS rfl rfl) (fun h s => ?_)
    dsimp only[setA] at s
    refine zk 3 rfl (WP.block (zK 3 rfl (zC rfl aE (rfl) (zk 4 rfl ?_))))
    have s0:=s
    refine WP.drawn [none,none,some (0,2),some (0,2),ah,ah,ah,ah] rfl (by kernel_rfl) (by kernel_rfl) ?_
    refine zL rfl (s.dn (k:=0) rfl cO bS) (ay.any rfl rfl rfl rfl (OpR.call rfl rfl rfl rfl (uW hT s (k:=1) rfl J (by decide) (by decide) (by decide) (by omega) (by omega))) ?_)
    rintro r h' ⟨rfl,s⟩
    have s1:=s
    refine zM rfl (zO rfl (cH (p:=some (.int .i64 4)) (q:=none) (m:=none) (p':=some 4) (q':=none) (m':=none) rfl rfl rfl rfl rfl rfl rfl (fu (s.aD (k:=1) rfl J) (a:=4) (by omega)).1) ?_)
    refine ay.any rfl rfl rfl rfl (OpR.call rfl rfl rfl rfl (VN hT s (k:=1) rfl (rU J (a:=4) (by omega)) (by simp;omega))) ?_
    rintro r h' ⟨rfl,rfl⟩
    have hc:=CG (s:=0) (l:=l.drop 4) (by decide) (fun x hx=>hv.1 x (qd hx))
    have hs:∃q c,slR (V.sl pi po l.length pc) 4 l.length=.sl pi q (l.length-4) c:=by
     cases pc with
     |exact c=>exact⟨_,_,rfl⟩
     |rest e alt=>exact⟨_,_,rfl⟩
    obtain⟨q,c,hs⟩:=hs
    have Gz:(slR (V.sl pi po l.length pc) 4 l.length).beq (slR (V.sl pi po l.length pc) 4 l.length)=true:=by rw[hs];exact HK _ _ _ _
    refine ay.op rfl rfl rfl (by simp only[isEff,bT]) (cJ rfl (by exact jE Tryz.underlying231 bT (aB (by omega) (by omega)))) ?_
    by_cases I:dh l 0 4=DV 0 (l.drop 4)
    ·skip
     refine ay.oN rfl rfl rfl rfl (aA rfl rfl aE) (by simp;exact_mod_cast I) ?_
     refine zA rfl ?_
     refine ay.nil ⟨⟨aa,aa,fun _ _=>.inr ⟨rfl,⟨_,bK rfl⟩,bH _ rfl⟩,eE (.inr ⟨rfl,⟨_,cH (p:=some (.int .i64 4)) (q:=none) (m:=none) (p':=some 4) (q':=none) (m':=none) rfl rfl rfl rfl rfl rfl rfl (fu (s0.aD (k:=1) rfl J) (a:=4) (by omega)).1⟩,Gz⟩) (.inr ⟨rfl,⟨_,cH (p:=some (.int .i64 4)) (q:=none) (m:=none) (p':=some 4) (q':=none) (m':=none) rfl rfl rfl rfl rfl rfl rfl (fu (s1.aD (k:=1) rfl J) (a:=4) (by omega)).1⟩,Gz⟩),aa,aa,aa,aa,aa⟩,?_⟩
     refine zj rfl (WP.skip (zg rfl (za rfl (zv ?_))))
     refine WP.ret ⟨aa,_,rfl,?_⟩
     exact⟨by rw[h_,ak hn,ak (by rw[hg];decide),ak (by simpa using I)],s.drop⟩
    ·skip
     refine ay.tE rfl rfl rfl rfl (aA rfl rfl aE) (by simp;exact_mod_cast I) ?_
     refine zA rfl ?_
     refine ay.nil ⟨⟨aa,aa,fun _ _=>.inr ⟨rfl,⟨_,bK rfl⟩,bH _ rfl⟩,eE (.inr ⟨rfl,⟨_,cH (p:=some (.int .i64 4)) (q:=none) (m:=none) (p':=some 4) (q':=none) (m':=none) rfl rfl rfl rfl rfl rfl rfl (fu (s0.aD (k:=1) rfl J) (a:=4) (by omega)).1⟩,Gz⟩) (.inr ⟨rfl,⟨_,cH (p:=some (.int .i64 4)) (q:=none) (m:=none) (p':=some 4) (q':=none) (m':=none) rfl rfl rfl rfl rfl rfl rfl (fu (s1.aD (k:=1) rfl J) (a:=4) (by omega)).1⟩,Gz⟩),aa,aa,aa,aa,aa⟩,?_⟩
     exact zK 5 rfl (WP.ret ⟨aa,_,rfl,by rw[h_,ak hn,ak (by rw[hg];decide),aP I],s.drop⟩)
   ·skip
    refine zk 3 rfl ?_
    refine ax.cm s rfl rfl rfl (b6 jU) (fun p3 h s => ?_)
    refine zS rfl (s.fS (j:=0) rfl bS rfl rfl) (fun h s => ?_)
    exact zk 3 rfl (WP.block (zK 3 rfl (zB rfl aE (rfl) (zk 8 rfl (WP.ret ⟨aa,_,rfl,by rw[h_,ak hn,aP hg],s.drop⟩)))))
 ·intro hq
  have hq:l.length≠512:=by simp at hq;omega
  have hn:l≠List.replicate 512 0:=fun e=>hq (by rw[e,hz])
  have hg:bW l=false:=by rw[bW,gF hq,kO]
  refine zk 13 rfl (zc rfl (sK hT s J iW) ?_)
  rintro r h' ⟨s,(⟨DM,rfl⟩|⟨_,rfl⟩)⟩
  ·rw[hg] at DM;cases DM
  ·refine ax.op rfl rfl rfl (bK rfl) ?_
   refine zk 2 rfl ?_
   refine ax.cm s rfl rfl rfl (b6 jU) (fun p3 h s => ?_)
   refine zS rfl (s.fS (j:=0) rfl bS rfl rfl) (fun h s => ?_)
   exact zk 3 rfl (WP.block (zK 3 rfl (zB rfl aE (rfl) (zk 8 rfl (WP.ret ⟨aa,_,rfl,by rw[h_,ak hn,aP hg],s.drop⟩)))))
theorem sL {b:Nat}(hv:View h v l)(hb:l[i]?=some b)(he:indexAddrV Tryz.prog 28 v (.int .i64 (i:Int))=some (.ptr id off)): loadV Tryz.prog h 5 (.ptr id off)=some (.int .u8 (b:Int)):=by
 obtain⟨I,off',J,e2⟩:=eU hv hb
 rw[he] at J
 have e3:V.ptr id off=V.ptr I off':=cA J
 rw[e3]
 exact e2
theorem Fz (hT:W told)(s:Sat h (X::S))(I:cL X (cQ v l))(iW:l.length<9223372036854775808):
  Call ⟨Tryz.prog,told⟩ 142 [v] h fun r h'=>Sat h' (X::S)∧((bW l=true∧r=.bf [.int .i64 (l.getD 12 0:Nat),.int .u64 (dh l 4 8),.int .i64 (dh l 18 4),.int .i64 (dh l 22 4),.int .i64 0]) ∨
   (bW l=false∧r=.bf [.int .i64 0,.int .u64 0,.int .i64 0,.int .i64 0,.int .i64 4])):=by
 have hv:=s.aD (k:=0) rfl I
 refine Call.of_wp (hT.free _ rfl) Tryz.func142 rfl rfl (zK 11 rfl (zc rfl (sK hT s I iW) ?_))
 rintro r h' ⟨s,(⟨hg,rfl⟩|⟨hg,rfl⟩)⟩
 ·have hq:=eB hg
  obtain⟨pi,po,pc,rfl⟩:=iY hv (by omega)
  have J:l[12]?=some (l[12]'(by omega)):=bx _
  generalize Vm:(l[12]'(by omega))=b at J
  have F8:b<256:=hv.1 b (bD J)
  have lR:l.getD 12 0=b:=by rw[lW,J];rfl
  rw[lR]
  refine zk 3 rfl ?_
  refine ax.cm s rfl rfl rfl (b6 jU) (fun p7 h s => ?_)
  refine zS rfl (s.fS (j:=0) rfl bS rfl rfl) (fun h s => ?_)
  refine zk 6 rfl (zC rfl aE (rfl) (zk 4 rfl ?_))
  have s0:=s
  obtain⟨id,off,e1,e2⟩:=eU (s.aD (k:=1) rfl I) J
  refine WP.drawn [some (0,4),some (0,4),some (0,4),some (0,4),ah,ah,ah,some (0,2),none,some (0,3),ah,ah,ah,ah,ah,ah] rfl (by kernel_rfl) (by kernel_rfl) ?_
  refine zM rfl (zO rfl (cK (r:=.ptr id off) rfl rfl e1) (zL rfl (sL (s.aD (k:=1) rfl I) J e1) (ay.op rfl rfl rfl (by simp only[isEff,bT]) (cJ rfl (by exact jE Tryz.underlying5 bT (aB (by omega) (by omega)))) ?_)))
  refine zM rfl (zO rfl (cH (p:=some (.int .i64 4)) (q:=some (.int .i64 12)) (m:=none) (p':=some 4) (q':=some 12) (m':=none) rfl rfl rfl rfl rfl rfl rfl (gP (s.aD (k:=1) rfl I) (a:=4) (b:=12) (by omega) (by omega)).1) ?_)
  refine ay.any rfl rfl rfl rfl (OpR.call rfl rfl rfl rfl (qC hT s (k:=1) rfl (lG I (a:=4) (b:=12) (by omega) (by omega)) (by simp;omega))) ?_
  rintro r h' ⟨rfl,rfl⟩
  have s1:=s
  refine zL rfl (s.dn (k:=0) rfl cO bS) (ay.any rfl rfl rfl rfl (OpR.call rfl rfl rfl rfl (uW hT s (k:=1) rfl I (by decide) (by decide) (by decide) (by omega) (by omega))) ?_)
  rintro r h' ⟨rfl,s⟩
  have s2:=s
  refine zL rfl (s.dn (k:=0) rfl cO bS) (ay.any rfl rfl rfl rfl (OpR.call rfl rfl rfl rfl (uW hT s (k:=1) rfl I (by decide) (by decide) (by decide) (by omega) (by omega))) ?_)
  rintro r h' ⟨rfl,s⟩
  refine zA rfl (zA rfl (zA rfl (zA rfl (zA rfl ?_))))
  refine ay.nil ⟨⟨fun _ _=>.inr ⟨rfl,⟨_,bK rfl⟩,bH _ rfl⟩,fun _ _=>.inr ⟨rfl,⟨_,cK (r:=.ptr id off) rfl rfl e1⟩,bH _ rfl⟩,P9 (.inr ⟨rfl,⟨_,aZ rfl (sL (s0.aD (k:=1) rfl I) J e1)⟩,bH _ rfl⟩) (.inr ⟨rfl,⟨_,aZ rfl (sL (s1.aD (k:=1) rfl I) J e1)⟩,bH _ rfl⟩) (.inr ⟨rfl,⟨_,aZ rfl (sL (s2.aD (k:=1) rfl I) J e1)⟩,bH _ rfl⟩) (.inr ⟨rfl,⟨_,aZ rfl (sL (s.aD (k:=1) rfl I) J e1)⟩,bH _ rfl⟩),fun _ _=>.inr ⟨rfl,⟨_,cJ rfl (by exact jE Tryz.underlying5 bT (aB (by omega) (by omega)))⟩,bH _ rfl⟩,aa,aa,aa,eE (.inr ⟨rfl,⟨_,aZ rfl (s0.dn (k:=0) rfl cO bS)⟩,bH _ rfl⟩) (.inr ⟨rfl,⟨_,aZ rfl (s1.dn (k:=0) rfl cO bS)⟩,bH _ rfl⟩),aa,qU (.inr ⟨rfl,⟨_,aZ rfl (s0.dn (k:=0) rfl cO bS)⟩,bH _ rfl⟩) (.inr ⟨rfl,⟨_,aZ rfl (s1.dn (k:=0) rfl cO bS)⟩,bH _ rfl⟩) (.inr ⟨rfl,⟨_,aZ rfl (s2.dn (k:=0) rfl cO bS)⟩,bH _ rfl⟩),aa,aa,aa,aa,aa,aa,aa⟩,?_⟩
  refine WP.ret ⟨aa,_,rfl,?_⟩
  exact⟨s.drop,.inl ⟨hg,rfl⟩⟩
 ·skip
  refine zk 3 rfl ?_
  refine ax.cm s rfl rfl rfl (b6 jU) (fun p7 h s => ?_)
  refine zS rfl (s.fS (j:=0) rfl bS rfl rfl) (fun h s => ?_)
  exact zk 6 rfl (zB rfl aE (rfl) (zk 11 rfl (WP.ret ⟨aa,_,rfl,s.drop,.inr ⟨hg,rfl⟩⟩)))
end
structure Lg where
 base:Nat
 b:List Nat
 cE:List Nat
 forced:Nat
 check:Nat
variable {μ:Lg}
def bG (l:List Nat): List V:=l.map fun(n:Nat)=>V.int .i64 (n:Int)
theorem gh (l:List Nat): (bG l).length=l.length:=by simp[bG]
def Az (p base:Nat)(bv sv:V)(forced check:Nat): List V:=[.ptr p 0,.int .u64 (base:Int),bv,sv,.int .i64 (forced:Int),.int .u64 (check:Int)]
def b7 (q p:Nat)(μ:Lg): aL:=xs fun bv:V=>xs fun sv:V=>star [pt q (.cells 6 (Az p μ.base bv sv μ.forced μ.check) false),aQ bv μ.b,.arr 1 sv (bG μ.cE)]
structure Lg.Ok (μ:Lg): Prop where
 size:μ.base+μ.b.length≤1099511627776
 many:μ.cE.length≤16777216
 low:∀s∈μ.cE,s<μ.b.length
 FA:μ.cE.Pairwise (· < ·)
 forced:μ.forced≤μ.b.length
 len:μ.b.length≤16777216
 check:μ.check≤1099511627776
theorem abr {x:Operand}{a b:Nat}(I:a+b<4611686018427387904): binV P h .quo t x y (.int .i64 ((a:Int)+(b:Int))) (.int .i64 2)=some (.int .i64 (((a+b)/2:Nat):Int)):=by
 simp only[binV,ikBeq,aj,intV]
 rw[show intBeq 2 0=false from rfl,aY,Int.tdiv_eq_ediv_of_nonneg (by omega),aB (by omega) (by omega)]
 congr 2
section
variable {told:cR} {p:Nat} {v:V}
theorem gy : Sat h (b7 q p μ::S)↔∃bv sv,Sat h (pt q (.cells 6 (Az p μ.base bv sv μ.forced μ.check) false)::aQ bv μ.b::.arr 1 sv (bG μ.cE)::S):=by
 simp only[b7,g_,bn,jy,ey]
theorem gJ {c:V}(s:Sat h S)(hk:getA S k=some (.arr 1 v cs))(hi:cs[i]?=some c)(hu:P.underlying t=some (.slice e))(I:bN P e=some 1):
  ∃id off,indexAddrV P t v (.int .i64 (i:Int))=some (.ptr id off)∧∀t',isAggT P t'=some false→loadV P h t' (.ptr id off)=some c:=by
 have J:i<cs.length:=(List.getElem?_eq_some_iff.1 hi).1
 obtain⟨m,r,h1,h2,h3⟩:=s.at hk
 rcases h3.2 with⟨_,rfl⟩|⟨id,n,cap,N,rest,rfl,hg,e1,e2,_⟩
 ·simp at hi
 ·refine⟨id,i,?_,fun t' ht=>PY ht (h1 _ _ hg) ?_⟩
  ·simp only[indexAddrV,hu,I,dY]
   rw[show(decide ((0:Int)≤(i:Int))&&decide ((i:Int)<(n:Int)))=true by simp;omega,aj]
   simp
  ·rw[ir,tY J,hi]
theorem GB (I:W told)(s:Sat h (b7 q p μ::S)): Call ⟨Tryz.prog,told⟩ 82 [.ptr q 0] h fun v h'=>v=.int .u64 (μ.base:Int)∧h'=h:=by
 obtain⟨bv,sv,s⟩:=gy.1 s
 exact Call.of_wp (I.free _ rfl) Tryz.func82 rfl rfl (zK 8 rfl (zY s 0 mj mh rfl (zk 2 rfl (WP.ret ⟨aa,_,rfl,rfl,rfl⟩))))
theorem B9 (I:W told)(s:Sat h (b7 q p μ::S)): Call ⟨Tryz.prog,told⟩ 83 [.ptr q 0] h fun v h'=>v=.int .u64 (μ.check:Int)∧h'=h:=by
 obtain⟨bv,sv,s⟩:=gy.1 s
 exact Call.of_wp (I.free _ rfl) Tryz.func83 rfl rfl (zK 8 rfl (zY s 0 L8 mh rfl (zk 2 rfl (WP.ret ⟨aa,_,rfl,rfl,rfl⟩))))
theorem xg (I:W told)(s:Sat h (b7 q p μ::S))(J:μ.base+μ.b.length≤1099511627776): Call ⟨Tryz.prog,told⟩ 43 [.ptr q 0] h fun v h'=>v=.int .u64 ((μ.base:Int)+(μ.b.length:Int))∧h'=h:=by
 obtain⟨bv,sv,s⟩:=gy.1 s
 refine Call.of_wp (I.free _ rfl) Tryz.func43 rfl rfl (zK 5 rfl (WP.drawn [ah,ah,ah,ah,ah,ah,ah,ah,ah,ah,ah,ah] rfl (by kernel_rfl) (by kernel_rfl) ?_))
 refine zM rfl (zN rfl (zF rfl (mj _ _) (zL rfl (s.ld (k:=0) rfl mh rfl) (zM rfl (zN rfl (zF rfl (ff _ _) (zL rfl (s.ld (k:=0) rfl bE rfl) (zO rfl (aN rfl rfl rfl (aW aK (s.aD (k:=1) rfl (bk _ _)))) (ay.op rfl rfl rfl (by simp only[isEff,c_]) (cJ rfl (by exact jE bT c_ (fZ (by omega) (by omega)))) ?_)))))))))
 refine zO rfl (aA rfl rfl (by exact bC (fZ (by omega) (by omega)))) ?_
 refine zA rfl ?_
 refine ay.nil ⟨⟨aa,aa,aa,aa,aa,aa,aa,aa,aa,aa,aa,aa,aa⟩,?_⟩
 refine WP.ret ⟨aa,_,rfl,?_⟩
 exact⟨rfl,rfl⟩
theorem N7 (I:W told)(s:Sat h (b7 q p μ::S))(J:μ.base+μ.b.length≤1099511627776)(hf:μ.forced≤μ.b.length): Call ⟨Tryz.prog,told⟩ 129 [.ptr q 0] h fun v h'=>v=.int .u64 ((μ.base:Int)+(μ.forced:Int))∧h'=h:=by
 obtain⟨bv,sv,s⟩:=gy.1 s
 refine Call.of_wp (I.free _ rfl) Tryz.func129 rfl rfl (zK 5 rfl (WP.drawn [ah,ah,ah,ah,ah,ah,ah,ah,ah,ah,ah] rfl (by kernel_rfl) (by kernel_rfl) ?_))
 refine zM rfl (zN rfl (zF rfl (mj _ _) (zL rfl (s.ld (k:=0) rfl mh rfl) (zM rfl (zN rfl (zF rfl (w8 _ _) (zL rfl (s.ld (k:=0) rfl dN rfl) (ay.op rfl rfl rfl (by simp only[isEff,c_]) (cJ rfl (by exact jE bT c_ (fZ (by omega) (by omega)))) ?_))))))))
 refine zO rfl (aA rfl rfl (by exact bC (fZ (by omega) (by omega)))) ?_
 refine zA rfl ?_
 refine ay.nil ⟨⟨aa,aa,aa,aa,aa,aa,aa,aa,aa,aa,aa,aa⟩,?_⟩
 refine WP.ret ⟨aa,_,rfl,?_⟩
 exact⟨rfl,rfl⟩
def Split (μ:Lg)(n i:Nat): Prop:=i≤μ.cE.length∧(∀(j s:Nat),j<i→μ.cE[j]?=some s→μ.base+s<n)∧(∀(j s:Nat),i≤j→μ.cE[j]?=some s→n≤μ.base+s)
theorem FB (J:l.Pairwise (· < ·)){a b:Nat}(I:i<j)(ha:l[i]?=some a)(hb:l[j]?=some b): a<b:=by
 obtain⟨h1,rfl⟩:=List.getElem?_eq_some_iff.1 ha
 obtain⟨h2,rfl⟩:=List.getElem?_eq_some_iff.1 hb
 exact List.pairwise_iff_getElem.1 J _ _ h1 h2 I
noncomputable def lfL : Code:=cN [1,1,0,0,0] ((Tryz.f150.body).getD .skip)
theorem Qv {sv:V}(hn:n<18446744073709551616)(I:μ.Ok)(s:Sat h (pt q (.cells 6 (Az p μ.base bv sv μ.forced μ.check) false)::aQ bv μ.b::.arr 1 sv (bG μ.cE)::S)): ∀(fuel lo hi:Nat) (E:List (Nat×V)) (Q:Ex→List (Nat×V)→H→Prop),hi-lo≤fuel→lo≤hi→hi≤μ.cE.length →
  (∀(j s:Nat),j<lo→μ.cE[j]?=some s→μ.base+s<n)→(∀(j s:Nat),hi≤j→μ.cE[j]?=some s→n≤μ.base+s) →
  Has E [(0,.ptr q 0),(1,.int .u64 (n:Int)),(5,.int .i64 (lo:Int)),(6,.int .i64 (hi:Int))]→(∀E' i,Split μ n i→look E' 5=some (.int .i64 (i:Int))→Q (.exit 0) E' h)→WP ⟨Tryz.prog,told⟩ 39 (.loop lfL) E h Q:=by
 have DZ:=I.many
 have N8:=I.size
 intro fuel
 induction fuel with
 |zero =>
  intro lo hi E Q hf h1 h2 h3 h4 hE hq
  refine WP.loop (WP.has hE (zK 5 rfl (zC rfl bh (by simp;omega) ?_)))
  refine zk 2 rfl (WP.exit ?_)
  have e:lo=hi:=by omega
  exact hq _ lo ⟨by omega,h3,by rw[e];exact h4⟩ rfl
 |succ fuel ih =>
  intro lo hi E Q hf h1 h2 h3 h4 hE hq
  by_cases cI:lo<hi
  ·skip
   refine WP.loop (WP.has hE (zK 5 rfl (zB rfl bh (by simp;omega) ?_)))
   refine zk 3 rfl (WP.block (zK 4 rfl (zb rfl (by exact bC (aB (by omega) (by omega))) ?_)))
   refine zb rfl (abr (by omega)) ?_
   refine zk 3 rfl ?_
   generalize hm:(lo+hi)/2=m
   have Aq:lo≤m:=by omega
   have BS:m<hi:=by omega
   obtain⟨st,J⟩:∃st,μ.cE[m]?=some st:=⟨_,bx (by omega)⟩
   have NR:=I.low st (bD J)
   have hlen:=I.len
   have hc:(bG μ.cE)[m]?=some (.int .i64 (st:Int)):=by simp[bG,J]
   obtain⟨id,off,e1,e2⟩:=gJ (P:=Tryz.prog) s (k:=2) rfl hc cf jF
   refine WP.drawn [ah,ah,ah,ah,ah,ah,ah,ah,ah,ah,ah,ah,ah,ah,ah] rfl (by kernel_rfl) (by kernel_rfl) ?_
   refine zM rfl (zN rfl (zF rfl (mj _ _) (zL rfl (s.ld (k:=0) rfl mh rfl) (zM rfl (zN rfl (zF rfl (oD _ _) (zL rfl (s.ld (k:=0) rfl ob rfl) (zM rfl (zO rfl (cK (r:=.ptr id off) rfl rfl e1) (zL rfl (e2 _ dN) (ay.op rfl rfl rfl (by simp only[isEff,c_]) (cJ rfl (by exact jE bT c_ (fZ (by omega) (by omega)))) ?_)))))))))))
   refine zO rfl (aA rfl rfl (by exact bC (fZ (by omega) (by omega)))) ?_
   refine zM rfl ?_
   by_cases uG:μ.base+st<n
   ·skip
    refine ay.tE rfl rfl rfl rfl (aA rfl rfl bh) (by simp;omega) ?_
    refine ay.nil ⟨⟨aa,aa,aa,aa,aa,aa,aa,aa,aa,aa,aa,aa,aa,aa,aa,aa⟩,?_⟩
    refine zK 3 rfl (zb rfl (by exact bC (aB (by omega) (by omega))) ?_)
    refine za rfl (zv ?_)
    refine ih (m+1) hi _ Q (by omega) (by omega) h2 (fun j s hj hs => ?_) h4 ⟨rfl,rfl,rfl,rfl,aa⟩ hq
    by_cases ZO:j=m
    ·subst ZO;rw[J] at hs;injection hs with hs;omega
    ·have:=FB I.FA (show j<m by omega) hs J;omega
   ·skip
    refine ay.oN rfl rfl rfl rfl (aA rfl rfl bh) (by simp;omega) ?_
    refine ay.nil ⟨⟨aa,aa,aa,aa,aa,aa,aa,aa,aa,aa,aa,aa,aa,aa,aa,aa⟩,?_⟩
    refine zj rfl (zr rfl (zk 2 rfl (zv ?_)))
    refine ih lo m _ Q (by omega) Aq (by omega) h3 (fun j s hj hs => ?_) ⟨rfl,rfl,rfl,rfl,aa⟩ hq
    by_cases ZO:j=m
    ·subst ZO;rw[J] at hs;injection hs with hs;omega
    ·have:=FB I.FA (show m<j by omega) J hs;omega
  ·skip
   refine WP.loop (WP.has hE (zK 5 rfl (zC rfl bh (by simp;omega) ?_)))
   refine zk 2 rfl (WP.exit ?_)
   have e:lo=hi:=by omega
   exact hq _ lo ⟨by omega,h3,by rw[e];exact h4⟩ rfl
theorem Xn (hT:W told)(s:Sat h (b7 q p μ::S))(I:μ.Ok)(hn:n<18446744073709551616): Call ⟨Tryz.prog,told⟩ 150 [.ptr q 0,.int .u64 (n:Int)] h fun v h'=>h'=h∧∃i,Split μ n i∧v=.int .i64 (i:Int):=by
 obtain⟨bv,sv,s⟩:=gy.1 s
 refine Call.of_wp (hT.free _ rfl) Tryz.func150 rfl rfl (zK 5 rfl (WP.drawn [ah,ah,ah,ah,ah,ah,ah] rfl (by kernel_rfl) (by kernel_rfl) ?_))
 refine zM rfl (zN rfl (zF rfl (oD _ _) (zL rfl (s.ld (k:=0) rfl ob rfl) (zO rfl (aN rfl rfl rfl (s.dZ (n:=μ.cE.length) (j:=2) rfl (by rw[gh,eF]) (by decide) cf)) ?_))))
 refine zA rfl (zA rfl ?_)
 refine ay.nil ⟨⟨aa,aa,aa,aa,aa,aa,aa,aa⟩,?_⟩
 refine zw (WP.block ?_)
 refine Qv hn I s μ.cE.length 0 μ.cE.length _ _ (by omega) (by omega) (by omega) (fun j s hj _=>by omega) (fun j s hj hs => ?_) ⟨rfl,rfl,rfl,rfl,aa⟩ (fun E' i hi J => ?_)
 ·rw[List.getElem?_eq_none (by omega)] at hs;cases hs
 ·skip
  exact WP.has (F:=[(5,.int .i64 (i:Int))]) ⟨J,aa⟩ (zK 5 rfl (WP.ret ⟨aa,_,rfl,rfl,i,hi,rfl⟩))
def Lg.hasB (μ:Lg)(n:Nat): Bool:=μ.cE.any fun s=>decide (μ.base+s=n)
theorem Split.has (hs:Split μ n i)(hr:μ.cE.Pairwise (· < ·)): μ.hasB n=true↔∃s,μ.cE[i]?=some s∧μ.base+s=n:=by
 rw[Lg.hasB,List.any_eq_true]
 constructor
 ·rintro⟨s,h1,I⟩
  have I:μ.base+s=n:=by simpa using I
  obtain⟨j,J⟩:=tZ h1
  have tB:i≤j:=by
   rcases qh j i with h|h
   ·have:=hs.2.1 j s h J;omega
   ·exact h
  by_cases he:i=j
  ·subst he;exact⟨s,J,I⟩
  ·have hjl:=(List.getElem?_eq_some_iff.1 J).1
   have hi:μ.cE[i]?=some (μ.cE[i]'(by omega)):=bx _
   have h3:=hs.2.2 i _ (aU _) hi
   have h4:=FB hr (show i<j by omega) hi J
   omega
 ·rintro⟨s,h1,I⟩
  exact⟨s,bD h1,by simpa using I⟩
theorem Qw {st:Nat}(I:μ.cE[i]?=some st): (bG μ.cE)[i]?=some (.int .i64 (st:Int)):=by simp[bG,I]
theorem Mh (hT:W told)(s:Sat h (b7 q p μ::S))(I:μ.Ok)(hn:n<18446744073709551616): Call ⟨Tryz.prog,told⟩ 136 [.ptr q 0,.int .u64 (n:Int)] h fun v h'=>h'=h∧v=.bool (μ.hasB n):=by
 have s0:=s
 obtain⟨bv,sv,s⟩:=gy.1 s
 have DZ:=I.many
 have N8:=I.size
 refine Call.of_wp (hT.free _ rfl) Tryz.func136 rfl rfl (zK 8 rfl (zc rfl (Xn hT s0 I hn) ?_))
 rintro v h' ⟨rfl,i,hi,rfl⟩
 have hh:=hi.has I.FA
 refine zk 3 rfl (WP.drawn [ah,ah,ah,ah,ah,ah,ah,ah,ah,ah,ah,ah,ah,ah,ah,ah,ah,ah,ah,ah,ah,ah,ah,ah,ah] rfl (by kernel_rfl) (by kernel_rfl) ?_)
 refine zM rfl (zM rfl (zN rfl (zF rfl (oD _ _) (zL rfl (s.ld (k:=0) rfl ob rfl) (zO rfl (aN rfl rfl rfl (s.dZ (n:=μ.cE.length) (j:=2) rfl (by rw[gh,eF]) (by decide) cf)) ?_)))))
 by_cases L0:i<μ.cE.length
 ·skip
  refine ay.tE rfl rfl rfl rfl (aA rfl rfl bh) (by simp;omega) ?_
  obtain⟨st,J⟩:∃st,μ.cE[i]?=some st:=⟨_,bx L0⟩
  have NR:=I.low st (bD J)
  obtain⟨id,off,e1,e2⟩:=gJ (P:=Tryz.prog) s (k:=2) rfl (Qw J) cf jF
  refine zM rfl (zM rfl (zN rfl (zF rfl (mj _ _) (zL rfl (s.ld (k:=0) rfl mh rfl) (zM rfl (zN rfl (zF rfl (oD _ _) (zL rfl (s.ld (k:=0) rfl ob rfl) (zM rfl (zO rfl (cK (r:=.ptr id off) rfl rfl e1) (zL rfl (e2 _ dN) (ay.op rfl rfl rfl (by simp only[isEff,c_]) (cJ rfl (by exact jE bT c_ (fZ (by omega) (by omega)))) ?_))))))))))))
  refine zO rfl (aA rfl rfl (by exact bC (fZ (by omega) (by omega)))) ?_
  refine zM rfl ?_
  by_cases he:μ.base+st=n
  ·skip
   refine ay.tE rfl rfl rfl rfl (aA rfl rfl eu) (by simp;omega) ?_
   refine zO rfl (iH rfl rfl) (zA rfl ?_)
   refine ay.nil ⟨⟨aa,aa,aa,aa,aa,aa,aa,aa,aa,aa,aa,aa,aa,aa,aa,aa,aa,aa,aa,aa,aa,aa,aa,aa,aa,aa⟩,?_⟩
   refine WP.ret ⟨aa,_,rfl,?_⟩
   exact⟨rfl,by rw[hh.2 ⟨st,J,he⟩]⟩
  ·skip
   refine ay.oN rfl rfl rfl rfl (aA rfl rfl eu) (by simp;omega) ?_
   refine zO rfl (iH rfl rfl) (zA rfl ?_)
   refine ay.nil ⟨⟨aa,aa,aa,aa,aa,aa,aa,aa,aa,aa,aa,aa,aa,aa,aa,aa,aa,aa,aa,aa,aa,aa,aa,aa,aa,aa⟩,?_⟩
   refine WP.ret ⟨aa,_,rfl,?_⟩
   refine⟨rfl,?_⟩
   cases hb:μ.hasB n with
   |false=>rfl
   |true =>
    obtain⟨s',h1,h2⟩:=hh.1 hb
    rw[J] at h1;have:=cA h1;omega
 ·skip
  refine ay.oN rfl rfl rfl rfl (aA rfl rfl bh) (by simp;omega) ?_
  refine zM rfl (ay.no (e:=false) rfl rfl rfl rfl (ay.no (e:=false) rfl rfl rfl rfl (ay.no (e:=false) rfl rfl rfl rfl (ay.no (e:=false) rfl rfl rfl rfl (ay.no (e:=false) rfl rfl rfl rfl (ay.no (e:=false) rfl rfl rfl rfl (ay.no (e:=false) rfl rfl rfl rfl (ay.no (e:=false) rfl rfl rfl rfl (ay.no (e:=false) rfl rfl rfl rfl (ay.no (e:=false) rfl rfl rfl rfl (ay.no (e:=false) rfl rfl rfl rfl (ay.no (e:=false) rfl rfl rfl (by simp only[isEff,c_]) ?_))))))))))))
  refine ay.no (e:=false) rfl rfl rfl rfl (ay.no (e:=false) rfl rfl rfl rfl (ay.no (e:=false) rfl rfl rfl rfl (zO rfl (kr rfl rfl) (zA rfl ?_))))
  refine ay.nil ⟨⟨aa,aa,aa,aa,aa,aa,aa,aa,aa,aa,aa,aa,aa,aa,aa,aa,aa,aa,aa,aa,aa,aa,aa,aa,aa,aa⟩,?_⟩
  refine WP.ret ⟨aa,_,rfl,?_⟩
  refine⟨rfl,?_⟩
  cases hb:μ.hasB n with
  |false=>rfl
  |true =>
   obtain⟨s',h1,h2⟩:=hh.1 hb
   have:=(List.getElem?_eq_some_iff.1 h1).1
   omega
theorem Qx (J:W told)(s:Sat h (b7 q p μ::aS p δ::S))(I:μ.Ok)(hf:δ.aT<4294967296): Call ⟨Tryz.prog,told⟩ 79 [.ptr q 0,.int .u64 (n:Int)] h fun v h' =>
  (n<μ.base+μ.forced∧v=.int .i64 0∧Sat h' (b7 q p μ::aS p δ::S)) ∨
  (μ.base+μ.forced≤n∧δ.dead=true∧v=.int .i64 9∧Sat h' (b7 q p μ::aS p δ::S)) ∨
  (μ.base+μ.forced≤n∧δ.dead=false∧δ.aT=0∧v=.int .i64 9∧Sat h' (b7 q p μ::aS p δ.die::S)) ∨
  (μ.base+μ.forced≤n∧δ.dead=false∧δ.aT≠0∧v=.int .i64 0∧Sat h' (b7 q p { μ with forced:=μ.b.length }::aS p { δ.cV with bj:=δ.log.length }::S)):=by
 have N8:=I.size
 have nM:=I.forced
 have s0:=s
 obtain⟨bv,sv,s⟩:=gy.1 s
 refine Call.of_wp (J.free _ rfl) Tryz.func79 rfl rfl (zK 9 rfl (zc rfl (N7 J s0 I.size I.forced) ?_))
 rintro v h' ⟨rfl,rfl⟩
 by_cases cI:n<μ.base+μ.forced
 ·skip
  refine zB rfl bh (by simp;omega) ?_
  exact zk 6 rfl (WP.ret ⟨aa,_,rfl,.inl ⟨cI,rfl,s0⟩⟩)
 ·have hle:μ.base+μ.forced≤n:=by omega
  refine zC rfl bh (by simp;omega) ?_
  refine zk 8 rfl (zY s 0 L7 pP rfl (zc rfl (Gx J (s0.ae [1]) hf) ?_))
  rintro v h (⟨hd,rfl,s⟩|⟨hd,h0,rfl,s⟩|⟨hd,h0,rfl,s⟩)
  ·refine ax.op rfl rfl rfl (fD rfl) ?_
   exact zk 4 rfl (zB rfl aE (rfl) (zk 7 rfl (WP.ret ⟨aa,_,rfl,.inr (.inl ⟨hle,hd,rfl,s.ae [1]⟩)⟩)))
  ·skip
   exact zk 5 rfl (zB rfl aE (rfl) (zk 7 rfl (WP.ret ⟨aa,_,rfl,.inr (.inr (.inl ⟨hle,hd,h0,rfl,s.ae [1]⟩))⟩)))
  ·skip
   obtain⟨bv,sv,s⟩:=gy.1 (s.ae [1])
   refine zk 5 rfl (zC rfl aE (rfl) (zk 8 rfl (zY s 0 ff bE rfl (zo rfl (aN rfl rfl rfl (aW aK (s.aD (k:=1) rfl (bk _ _)))) (zn rfl (zf rfl (w8 _ _) ?_))))))
   refine zS rfl (by exact s.eH (k:=0) rfl jF rfl (by decide) rfl rfl) (fun h s => ?_)
   exact zk 5 rfl (WP.ret ⟨aa,_,rfl,.inr (.inr (.inr ⟨hle,hd,h0,rfl,gy.2 ⟨bv,sv,s⟩⟩))⟩)
end
structure cq where
 aM:Int
 pos:Int
 whole:Bool
 b:List Nat
def cq.Ok (c:cq): Prop:=0≤c.aM∧c.aM<65536∧0≤c.pos∧c.pos≤512∧(c.b.length:Int)≤512-c.pos∧(c.whole=true→c.pos=0∧c.b.length=512)
instance (c:cq):Decidable c.Ok:=by unfold cq.Ok;infer_instance
def ej (kind:Int)(aR:List cq): Bool:=decide (1≤kind∧kind≤9)&&aR.all fun c=>decide c.Ok
def iw (kd:Int)(tx pv nx:Nat)(dt ch:V): List V:=[.int .i64 kd,.int .u64 (tx:Int),.int .u64 (pv:Int),.int .u64 (nx:Int),dt,ch]
theorem m8 {kd:Int}{ch:V}(hd:storable dt=true)(I:storable ch=true): (iw kd tx pv nx dt ch).all storable=true:=by
 simp only[iw,iT,iU,hd,I]
 rfl
def dm : List V→List cq→aL
 |[],[]=>.pu True
 |p::a::w::v::l,x::m=>.an (.an (.pu (p=.int .i64 x.aM∧a=.int .i64 x.pos∧w=.bool x.whole)) (.bY v x.b)) (dm l m)
 |_,_=>.pu False
theorem aV.kj : ∀(m:List cq) (l:List V),aV (dm l m):=by
 intro m
 induction m with
 |nil=>intro l;rcases l with _|⟨a,_|⟨b,_|⟨c,_|⟨d,l⟩⟩⟩⟩<;>exact aV.pu _
 |cons x m I=>intro l;rcases l with _|⟨a,_|⟨b,_|⟨c,_|⟨d,l⟩⟩⟩⟩<;>first|exact aV.pu _|exact aV.an (aV.an (aV.pu _) (aV.bY _ _)) (I l)
theorem pU {b:PM}: ∀ {m:List cq} {l:List V},(dm l m).p a b→l.length=m.length*4:=by
 intro m
 induction m with
 |nil=>intro l h;rcases l with _|⟨x,_|⟨y,_|⟨z,_|⟨d,l⟩⟩⟩⟩<;>first|rfl|exact h.elim
 |cons x m I =>
  intro l h
  rcases l with _|⟨x,_|⟨y,_|⟨z,_|⟨d,l⟩⟩⟩⟩<;>first|exact h.elim|skip
  have:=I h.2
  simp only[bF]
  omega
theorem yl {b:PM}: ∀ {m m':List cq} {l I:List V},(dm l m).p a b→(dm I m').p a b→(dm (l++I) (m++m')).p a b:=by
 intro m
 induction m with
 |nil=>intro m' l I h h';rcases l with _|⟨x,_|⟨y,_|⟨z,_|⟨d,l⟩⟩⟩⟩<;>first|exact h'|exact h.elim
 |cons x m J =>
  intro m' l I h h'
  rcases l with _|⟨x,_|⟨y,_|⟨z,_|⟨d,l⟩⟩⟩⟩<;>first|exact h.elim|exact⟨h.1,J h.2 h'⟩
theorem I3 {b:PM}: ∀ {m:List cq} {l:List V} {i:Nat} {c:cq},(dm l m).p a b→m[i]?=some c→∃u,(l.drop (i*4)).take 4=[.int .i64 c.aM,.int .i64 c.pos,.bool c.whole,u]∧(aL.bY u c.b).p a b:=by
 intro m
 induction m with
 |nil=>intro l i c h I;simp at I
 |cons x m J =>
  intro l i c h I
  rcases l with _|⟨p,_|⟨q,_|⟨w,_|⟨v,l⟩⟩⟩⟩<;>first|exact h.elim|skip
  obtain⟨⟨⟨h1,h2,h3⟩,h4⟩,h5⟩:=h
  cases i with
  |zero=>simp at I;subst I;exact⟨v,by rw[h1,h2,h3];rfl,h4⟩
  |succ i =>
   simp at I
   obtain⟨u,e1,e2⟩:=J h5 I
   refine⟨u,?_,e2⟩
   rw[←e1,show(i+1)*4=i*4+4 by omega]
   rfl
section
variable {told:cR} {p:Nat} {v:V}
theorem I4 {ch:V}{m:List cq}{c:cq}(s:Sat h (.arr 4 ch cs::dm cs m::S))(hc:m[i]?=some c):
  ∃id off u,indexAddrV Tryz.prog 46 ch (.int .i64 (i:Int))=some (.ptr id off)∧loadV Tryz.prog h 180 (.ptr id off)=some (.agg [.int .i64 c.aM,.int .i64 c.pos,.bool c.whole,u]) ∧
   u.cells=[u]∧storable u=true∧u.beq u=true∧Sat h (.bY u c.b::.arr 4 ch cs::dm cs m::S):=by
 obtain⟨a,b,q1,q2,q3⟩:=s.at (k:=1) rfl
 have L0:=(List.getElem?_eq_some_iff.1 hc).1
 have hl:=pU q3
 obtain⟨u,e1,e2⟩:=I3 q3 hc
 obtain⟨id,off,g1,J⟩:=Qh (P:=Tryz.prog) (i:=i) s (j:=0) rfl (by omega) (by decide) ji pK
 have J:=J HP
 rw[e1] at J
 have s2:Sat h (dm cs m::.arr 4 ch cs::S):=s.ae [1]
 have s3:=(s2.dup (aV.kj _ _)).gK (B:=.bY u c.b) fun a b h=>by
  obtain⟨u',I,sM⟩:=I3 h hc
  rw[e1] at I
  injection I with _ I
  injection I with _ I
  injection I with _ I
  injection I with I _
  subst I
  exact sM
 have hu:=(s3.aD (k:=0) rfl (c8 _ _))
 exact⟨id,off,u,g1,J,hu.cells.1,hu.cells.2,dB hu,s3.ae [0,1,0]⟩
theorem Mi {ch:V}{m:List cq}(s:Sat h S)(I:getA S j1=some (.arr 4 ch cs))(J:getA S j2=some (dm cs m))(hu:P.underlying t=some (.slice e)): lenV P h t ch=some (.int .i64 m.length):=by
 obtain⟨a,b,q1,q2,q3⟩:=s.at J
 exact s.dZ I (pU q3) (by decide) hu
theorem Sat.xh {ch:V}{m:List cq}(s:Sat h S)(I:getA S j1=some (.arr 4 ch cs))(J:getA S j2=some (dm cs m))(hu:P.underlying t=some (.slice e)): lenV P h t ch=some (.int .i64 m.length):=Mi s I J hu
noncomputable def gwL : Code:=cN [1,1,0,1,0,0] ((Tryz.f161.body).getD .skip)
theorem N9 {ch:V}{m:List cq}: ∀(j i:Nat) (h:H) (E:List (Nat×V)) (Q:Ex→List (Nat×V)→H→Prop),i+j=m.length→m.length<4294967296→(∀c∈m,c.b.length<9223372036854775808) →
  (∀c∈m, -4294967296≤c.pos∧c.pos≤4294967296)→Sat h (.arr 4 ch cs::dm cs m::S)→Has E [(1,.ptr p1 0),(14,ch),(15,.int .i64 m.length),(16,.int .i64 i)] →
  ((m.drop i).all (fun c=>decide c.Ok)=false→∀E' h',look E' 2=some (.bool false)→Sat h' (.arr 4 ch cs::dm cs m::S)→Q .ret E' h') →
  ((m.drop i).all (fun c=>decide c.Ok)=true→∀E' h',Sat h' (.arr 4 ch cs::dm cs m::S)→Q (.exit 0) E' h')→WP ⟨Tryz.prog,told⟩ 61 (.loop gwL) E h Q:=by
 intro j
 induction j with
 |zero =>
  intro i h E Q hi hm hb J s hE hr hx
  refine WP.loop (WP.has hE (zg rfl (zC rfl bh (by simp;omega) ?_)))
  exact zk 3 rfl (WP.exit (hx (by rw[lX (by omega)];rfl) _ _ s))
 |succ j ih =>
  intro i h E Q hi hm hb J s hE hr hx
  have hc:m[i]?=some (m[i]'(by omega)):=bx _
  generalize (m[i]'(by omega))=c at hc
  have GC:=bD hc
  have hcb:=hb c GC
  have hcp:=J c GC
  have oG:m.drop i=c::m.drop (i+1):=by
   have:=List.getElem?_eq_some_iff.1 hc
   obtain⟨h1,rfl⟩:=this
   exact qa h1
  rw[oG,iT] at hr hx
  obtain⟨id,off,u,e1,e2,u1,u2,u3,s⟩:=I4 s hc
  refine WP.loop (WP.has hE (zg rfl (zB rfl bh (by simp;omega) ?_)))
  refine zk 5 rfl (WP.block (zg rfl (zo rfl (cK (r:=.ptr id off) rfl rfl e1) (zl rfl e2 ?_))))
  refine ax.cm s rfl rfl rfl (b6 oE) (fun p4 h s => ?_)
  dsimp only[V.cells,List.length_cons,List.length_nil,Nat.reduceAdd] at s
  refine zS rfl (s.fS (j:=0) rfl pK rfl (by simp only[iT,iU,u2];rfl)) ?_
  intro h s
  dsimp only[setA] at s
  refine zk 4 rfl (zY s 0 oF dN rfl ?_)
  refine zd rfl (aA rfl rfl bh) ?_ ?_
  ·intro wN
   have wN:c.aM<0:=by simp at wN;omega
   exact zk 30 rfl (WP.ret (hr (by rw[gF (fun q:c.Ok=>by have:=q.1;omega),kO]) _ _ rfl s.drop.drop))
  ·intro wN
   have wN:¬ (c.aM<0):=by simp at wN;omega
   refine zm rfl (zY s 0 oF dN rfl ?_)
   refine zd rfl (aA rfl rfl oa) ?_ ?_
   ·intro AA
    have AA:65536≤c.aM:=by simp at AA;omega
    exact zk 26 rfl (WP.ret (hr (by rw[gF (fun q:c.Ok=>by have:=q.2.1;omega),kO]) _ _ rfl s.drop.drop))
   ·intro AA
    have AA:¬ (65536≤c.aM):=by simp at AA;omega
    refine zk 2 rfl (zY s 0 qt dN rfl ?_)
    refine zd rfl (aA rfl rfl bh) ?_ ?_
    ·intro jM
     have jM:c.pos<0:=by simp at jM;omega
     exact zk 21 rfl (WP.ret (hr (by rw[gF (fun q:c.Ok=>by have:=q.2.2.1;omega),kO]) _ _ rfl s.drop.drop))
    ·intro jM
     have jM:¬ (c.pos<0):=by simp at jM;omega
     refine zk 2 rfl (zY s 0 qt dN rfl ?_)
     refine zd rfl (aA rfl rfl gA) ?_ ?_
     ·intro Qy
      have Qy:512<c.pos:=by simp at Qy;omega
      exact zk 16 rfl (WP.ret (hr (by rw[gF (fun q:c.Ok=>by have:=q.2.2.2.1;omega),kO]) _ _ rfl s.drop.drop))
     ·intro Qy
      have Qy:¬ (512<c.pos):=by simp at Qy;omega
      refine zk 2 rfl (zY s 0 nD bE rfl (zo rfl (aN rfl rfl rfl (aW aK (s.aD (k:=1) rfl (c8 _ _)))) (zY s 0 qt dN rfl (zb rfl (by exact iM (aB (by omega) (by omega))) ?_))))
      refine zd rfl (aA rfl rfl gA) ?_ ?_
      ·intro qB
       have qB:512-c.pos<(c.b.length:Int):=by simp at qB;omega
       exact zk 7 rfl (WP.ret (hr (by rw[gF (fun q:c.Ok=>by have:=q.2.2.2.2.1;omega),kO]) _ _ rfl s.drop.drop))
      ·intro qB
       have qB:¬ (512-c.pos<(c.b.length:Int)):=by simp at qB;omega
       refine zk 6 rfl (zf rfl (w9 _ _) ?_)
       have tN:∀(h:H) (E:List (Nat×V)),c.Ok→Sat h (.arr 4 ch cs::dm cs m::S)→Has E [(1,.ptr p1 0),(14,ch),(15,.int .i64 m.length),(16,.int .i64 ((i:Int)+1))]→WP ⟨Tryz.prog,told⟩ 61 (.loop gwL) E h Q:=by
        intro h E gT s hE
        rw[gn gT,Bool.true_and] at hr hx
        exact ih (i+1) h E Q (by omega) hm hb J s hE hr hx
       have Pg:c.whole=false∨c.whole=true:=by cases c.whole<;>simp
       rcases Pg with hw|hw
       ·skip
        refine zh rfl (aZ rfl (by exact s.ld (k:=0) rfl kZ rfl)) (hw) ?_
        refine zk 11 rfl (zv (zj rfl (WP.skip (zr rfl (zb rfl (by exact bC (aB (by omega) (by omega))) ?_)))))
        refine zm rfl (zv ?_)
        refine tN _ _ ?_ ?_ ?_
        ·exact⟨by omega,by omega,by omega,by omega,by omega,fun e=>by rw[hw] at e;cases e⟩
        ·exact s.drop.drop
        ·exact⟨rfl,rfl,rfl,rfl,aa⟩
       ·skip
        refine zt rfl (aZ rfl (s.ld (k:=0) rfl kZ rfl)) (hw) (zm rfl (zY s 0 qt dN rfl ?_))
        refine zd rfl (aA rfl rfl aE) ?_ ?_
        ·intro hp
         have hp:c.pos≠0:=by simp at hp;omega
         exact zk 13 rfl (WP.ret (hr (by rw[gF (fun q:c.Ok=>hp (q.2.2.2.2.2 hw).1),kO]) _ _ rfl s.drop.drop))
        ·intro hp
         have hp:c.pos=0:=by simp at hp;omega
         refine zm rfl (zY s 0 nD bE rfl (zo rfl (aN rfl rfl rfl (aW aK (s.aD (k:=1) rfl (c8 _ _)))) ?_))
         refine zd rfl (aA rfl rfl aE) ?_ ?_
         ·intro I
          have I:c.b.length≠512:=by simp at I;omega
          exact zk 8 rfl (WP.ret (hr (by rw[gF (fun q:c.Ok=>I (q.2.2.2.2.2 hw).2),kO]) _ _ rfl s.drop.drop))
         ·intro I
          have I:c.b.length=512:=by simp at I;omega
          refine zk 2 rfl (zv (zj rfl (WP.skip (zr rfl (zb rfl (by exact bC (aB (by omega) (by omega))) ?_)))))
          refine zm rfl (zv ?_)
          refine tN _ _ ?_ ?_ ?_
          ·exact⟨by omega,by omega,by omega,by omega,by omega,fun _=>⟨hp,I⟩⟩
          ·exact s.drop.drop
          ·exact⟨rfl,rfl,rfl,rfl,aa⟩
def AB (m:List cq): Prop:=m.length<4294967296∧(∀c∈m,c.b.length<4294967296)∧(∀c∈m, -4294967296≤c.pos∧c.pos≤4294967296)
theorem I5 (hT:W told){kd:Int}{ch:V}{m:List cq}(s:Sat h (.arr 4 ch cs::dm cs m::S))(hd:storable dt=true)(hm:AB m):
  Call ⟨Tryz.prog,told⟩ 161 [.agg (iw kd tx pv nx dt ch)] h fun r h'=>r=.bool (ej kd m)∧Sat h' (.arr 4 ch cs::dm cs m::S):=by
 have jf:=s.ju (j:=0) rfl
 have fX:=m8 (kd:=kd) (tx:=tx) (pv:=pv) (nx:=nx) hd jf.2.1
 refine Call.of_wp (hT.free _ rfl) Tryz.func161 rfl rfl (zg rfl (ax.cm s rfl rfl rfl (fY rfl fX) ?_))
 intro p1 h s
 refine zk 5 rfl (zY s 0 uQ dN rfl ?_)
 refine zd rfl (aA rfl rfl bh) ?_ ?_
 ·intro J
  have J:kd<1:=by simpa using J
  exact zk 11 rfl (WP.ret ⟨aa,_,rfl,by rw[ej,gF (by omega),kO],s.drop⟩)
 ·intro J
  have J:1≤kd:=by simpa using J
  refine zm rfl (zY s 0 uQ dN rfl ?_)
  refine zd rfl (aA rfl rfl gA) ?_ ?_
  ·intro I
   have I:9<kd:=by simpa using I
   exact zk 7 rfl (WP.ret ⟨aa,_,rfl,by rw[ej,gF (by omega),kO],s.drop⟩)
  ·intro I
   have I:kd≤9:=by simpa using I
   refine zk 7 rfl (zY s 0 m5 uP rfl (zo rfl (aN rfl rfl rfl (Mi s (j1:=1) (j2:=2) rfl rfl ji)) (zk 2 rfl (WP.block ?_))))
   have hg:ej kd m=m.all (fun c=>decide c.Ok):=by rw[ej,gn ⟨J,I⟩,Bool.true_and]
   refine N9 m.length 0 _ _ _ (by omega) hm.1 (fun c hc=>by have:=hm.2.1 c hc;omega) hm.2.2 s.drop ⟨rfl,rfl,rfl,rfl,aa⟩ (fun hf E' h' h2 s' => ?_) (fun hf E' h' s' => ?_)
   ·rw[hg]
    rw[gV] at hf
    rw[hf]
    exact⟨aa,_,pO h2,rfl,s'⟩
   ·rw[hg]
    rw[gV] at hf
    rw[hf]
    exact WP.has (F:=[]) aa (zK 4 rfl (WP.ret ⟨aa,_,rfl,rfl,s'⟩))
end
def kC (c:cq): List Nat:=digits 9 c.aM.toNat++digits 9 c.pos.toNat++[if c.whole then 1 else 0]++(digits 9 c.b.length++c.b)
def dD (kd:Int)(tx pv nx:Nat)(data:List Nat)(aR:List cq): List Nat :=
 [kd.toNat]++digits 9 tx++digits 9 pv++digits 9 nx++(digits 9 data.length++data)++digits 9 aR.length++aR.flatMap kC
section
variable {told:cR} {p:Nat} {v w:V} {m:List Nat}
theorem qE (I:W told)(s:Sat h (aQ v l::S))(hn:n<18446744073709551616)(hl:l.length≤140737488355000):
  Call ⟨Tryz.prog,told⟩ 176 [v,.int .u64 (n:Int)] h fun r h'=>Sat h' (aQ r (l++digits 9 n)::S) :=
 (Gw I.VM (k:=9) s.wf (s.buf (k:=0) rfl) (by omega) (by omega) (by omega)).mono fun _ _ ⟨J,h2,h3⟩=>s.Bv h2 J h3
theorem FC (hT:W told)(s:Sat h (aQ v l::X::S))(I:cL X (cQ w m))(hl:l.length+m.length≤140737488355000):
  Call ⟨Tryz.prog,told⟩ 177 [v,w] h fun r h'=>Sat h' (aQ r (l++(digits 9 m.length++m))::X::S) :=
 (Xe hT.VM (k:=9) s.wf (s.buf (k:=0) rfl) (s.aD (k:=1) rfl I) (s.ZL I) (by omega) (by omega) (by omega)).mono fun _ _ ⟨J,h2,h3⟩=>by
  rw[cP] at J
  exact s.Bv h2 J h3
noncomputable def bdL : Code:=cN [1,1,1,1,0,1,0,0] ((Tryz.f162.body).getD .skip)
theorem Qz (hT:W told){ch:V}{aR:List cq}(gT:∀c∈aR,c.Ok)(J:AB aR): ∀(j i:Nat) (sv:V) (l:List Nat) (h:H) (E:List (Nat×V)) (Q:Ex→List (Nat×V)→H→Prop),i+j=aR.length →
  l.length+((aR.drop i).flatMap kC).length≤140737488355000 →
  Sat h (aQ sv l::.arr 4 ch cs::dm cs aR::S)→Has E [(1,.ptr p1 0),(3,sv),(37,ch),(38,.int .i64 aR.length),(39,.int .i64 i)] →
  (∀E' h' I,look E' 3=some I→Sat h' (aQ I (l++(aR.drop i).flatMap kC)::.arr 4 ch cs::dm cs aR::S)→Q (.exit 2) E' h')→WP ⟨Tryz.prog,told⟩ 63 (.loop bdL) E h Q:=by
 intro j
 induction j with
 |zero =>
  intro i sv l h E Q hi hlen s hE hx
  have hm:=J.1
  refine WP.loop (WP.has hE (zg rfl (zC rfl bh (by simp;omega) ?_)))
  refine zk 3 rfl (WP.exit (hx _ _ sv rfl ?_))
  rw[lX (by omega)]
  simpa using s
 |succ j ih =>
  intro i sv l h E Q hi hlen s hE hx
  have hm:=J.1
  have hc:aR[i]?=some (aR[i]'(by omega)):=bx _
  generalize (aR[i]'(by omega))=c at hc
  have GC:=bD hc
  have acE:=gT c GC
  have hcb:=J.2.1 c GC
  have oG:aR.drop i=c::aR.drop (i+1):=by
   obtain⟨h1,rfl⟩:=List.getElem?_eq_some_iff.1 hc
   exact qa h1
  rw[oG,wu] at hlen hx
  obtain⟨pg,ps,wh,bb⟩:=c
  obtain⟨q1,q2,q3,q4,_⟩:=acE
  dsimp only at q1 q2 q3 q4 hcb
  obtain⟨pg,rfl⟩:∃n:Nat,pg=n:=⟨pg.toNat,by omega⟩
  obtain⟨ps,rfl⟩:∃n:Nat,ps=n:=⟨ps.toNat,by omega⟩
  have Tv:kC ⟨pg,ps,wh,bb⟩=digits 9 pg++digits 9 ps++[if wh then 1 else 0]++(digits 9 bb.length++bb):=by simp[kC]
  have PG:(kC ⟨pg,ps,wh,bb⟩).length=(digits 9 pg).length+(digits 9 ps).length+1+(digits 9 bb.length).length+bb.length:=by rw[Tv];simp;omega
  rw[bV,PG] at hlen
  obtain⟨id,off,u,e1,e2,u1,u2,u3,s⟩:=I4 (s.ae [1,1]) hc
  dsimp only at e2
  have s:=s.ae [3,0,0,0]
  dsimp only[aI,bringA,getA] at s
  refine WP.loop (WP.has hE (zg rfl (zB rfl bh (by simp;omega) ?_)))
  refine zk 5 rfl (WP.block (zg rfl (zo rfl (cK (r:=.ptr id off) rfl rfl e1) (zl rfl e2 ?_))))
  refine ax.cm s rfl rfl rfl (b6 oE) (fun p7 h s => ?_)
  dsimp only[V.cells,List.length_cons,List.length_nil,Nat.reduceAdd] at s
  refine zS rfl (s.fS (j:=0) rfl pK rfl (by simp only[iT,iU,u2];rfl)) ?_
  intro h s
  dsimp only[setA] at s
  refine zk 2 rfl ?_
  have s:=s.ae [1,0]
  dsimp only[bringA,getA,aI] at s
  have s0:=s
  refine WP.drawn [ah,ah,ah,ah,ah,some (0,2),some (0,2),some (0,2),none,none] rfl (by kernel_rfl) (by kernel_rfl) ?_
  refine zM rfl (zF rfl (oF _ _) (zL rfl (s.ld (k:=1) rfl dN rfl) (ay.op rfl rfl rfl (by simp only[isEff,c_]) (cJ rfl (by exact jE bT c_ (fZ (by omega) (by omega)))) ?_)))
  refine ay.any rfl rfl rfl rfl (OpR.call rfl rfl rfl rfl (qE hT s (by omega) (by omega))) ?_
  intro v1 h s
  have s1:=s
  refine zF rfl (qt _ _) (zL rfl (s.ld (k:=1) rfl dN rfl) (ay.op rfl rfl rfl (by simp only[isEff,c_]) (cJ rfl (by exact jE bT c_ (fZ (by omega) (by omega)))) ?_))
  refine ay.any rfl rfl rfl rfl (OpR.call rfl rfl rfl rfl (qE hT s (by omega) (by simp;omega))) ?_
  intro v2 h s
  refine zA rfl ?_
  refine ay.nil ⟨⟨aa,aa,aa,aa,aa,fun _ _=>.inr ⟨rfl,⟨_,lE rfl (qt _ _)⟩,bH _ rfl⟩,eE (.inr ⟨rfl,⟨_,aZ rfl (s0.ld (k:=1) rfl dN rfl)⟩,bH _ rfl⟩) (.inr ⟨rfl,⟨_,aZ rfl (s1.ld (k:=1) rfl dN rfl)⟩,bH _ rfl⟩),fun _ _=>.inr ⟨rfl,⟨_,cJ rfl (by exact jE bT c_ (fZ (by omega) (by omega)))⟩,bH _ rfl⟩,aa,aa,aa⟩,?_⟩
  have I6:∀(h:H) (E:List (Nat×V)) (I:V),Sat h (aQ I (l++kC ⟨pg,ps,wh,bb⟩)::.arr 4 ch cs::dm cs aR::S)→Has E [(1,.ptr p1 0),(3,I),(37,ch),(38,.int .i64 aR.length),(39,.int .i64 ((i:Int)+1))]→WP ⟨Tryz.prog,told⟩ 63 (.loop bdL) E h Q:=by
   intro h E I s hE
   refine ih (i+1) I _ h E Q (by omega) (by rw[bV,PG];omega) s hE (fun E' h' sv2 yS s'=>hx E' h' sv2 yS ?_)
   rw[cP] at s'
   exact s'
  have hlp:=iq 9 pg
  have hlq:=iq 9 ps
  refine zK 7 rfl (zf rfl (w9 _ _) ?_)
  have Pg:wh=false∨wh=true:=by cases wh<;>simp
  rcases Pg with hw|hw
  ·skip
   refine zh rfl (aZ rfl (s.ld (k:=1) rfl kZ rfl)) (hw) (zk 3 rfl ?_)
   have s0:=s
   have nL:=dB (s.buf (k:=0) rfl).view
   refine WP.drawn [some (0,2),ah,ah,ah,some (0,3),some (0,3),none,none] rfl (by kernel_rfl) (by kernel_rfl) ?_
   refine zM rfl (zM rfl (ay.any rfl rfl rfl rfl (OpR.NS (n:=0) rfl s rfl rfl rfl (by decide)) ?_))
   intro v3 h s
   have s:=s.ae [1,1,0]
   dsimp only[bringA,getA,aI] at s
   have s1:=s
   refine ay.any rfl rfl rfl rfl (OpR.pQ rfl (s.ae [0,1]) (bk _ _) rfl rfl rfl rfl (by simp;omega)) ?_
   intro v4 h s
   have s:=s.del 1
   dsimp only[aI,bringA] at s
   have s2:=s
   refine zF rfl (nD _ _) (zL rfl (s.ld (k:=1) rfl bE rfl) (ay.any rfl rfl rfl rfl (OpR.call rfl rfl rfl rfl (FC hT (s.ae [0,1]) (c8 _ _) (by simp;omega))) ?_))
   intro v5 h s
   dsimp only[aI,bringA] at s
   refine zA rfl ?_
   refine ay.nil ⟨⟨fun _ _=>.inr ⟨rfl,⟨_,bK rfl⟩,nL⟩,aa,aa,aa,fun _ _=>.inr ⟨rfl,⟨_,lE rfl (nD _ _)⟩,bH _ rfl⟩,qU (.inr ⟨rfl,⟨_,aZ rfl (s0.ld (k:=1) rfl bE rfl)⟩,u3⟩) (.inr ⟨rfl,⟨_,aZ rfl (s1.ld (k:=1) rfl bE rfl)⟩,u3⟩) (.inr ⟨rfl,⟨_,aZ rfl (s2.ld (k:=1) rfl bE rfl)⟩,u3⟩),aa,aa,aa⟩,?_⟩
   refine zr rfl (zb rfl (by exact bC (aB (by omega) (by omega))) ?_)
   refine zm rfl (zv ?_)
   refine I6 _ _ v5 ?_ ?_
   ·rw[Tv,hw]
    have s:=(s.del 1).del 1
    dsimp only[aI] at s
    simpa[cP] using s
   ·exact⟨rfl,rfl,rfl,rfl,rfl,aa⟩
  ·skip
   refine zt rfl (aZ rfl (s.ld (k:=1) rfl kZ rfl)) (hw) (zk 5 rfl ?_)
   have s0:=s
   have nL:=dB (s.buf (k:=0) rfl).view
   refine WP.drawn [some (0,2),ah,ah,ah,some (0,3),some (0,3),none,none] rfl (by kernel_rfl) (by kernel_rfl) ?_
   refine zM rfl (zM rfl (ay.any rfl rfl rfl rfl (OpR.NS (n:=1) rfl s rfl rfl rfl (by decide)) ?_))
   intro v3 h s
   have s:=s.ae [1,1,0]
   dsimp only[bringA,getA,aI] at s
   have s1:=s
   refine ay.any rfl rfl rfl rfl (OpR.pQ rfl (s.ae [0,1]) (bk _ _) rfl rfl rfl rfl (by simp;omega)) ?_
   intro v4 h s
   have s:=s.del 1
   dsimp only[aI,bringA] at s
   have s2:=s
   refine zF rfl (nD _ _) (zL rfl (s.ld (k:=1) rfl bE rfl) (ay.any rfl rfl rfl rfl (OpR.call rfl rfl rfl rfl (FC hT (s.ae [0,1]) (c8 _ _) (by simp;omega))) ?_))
   intro v5 h s
   dsimp only[aI,bringA] at s
   refine zA rfl ?_
   refine ay.nil ⟨⟨fun _ _=>.inr ⟨rfl,⟨_,bK rfl⟩,nL⟩,aa,aa,aa,fun _ _=>.inr ⟨rfl,⟨_,lE rfl (nD _ _)⟩,bH _ rfl⟩,qU (.inr ⟨rfl,⟨_,aZ rfl (s0.ld (k:=1) rfl bE rfl)⟩,u3⟩) (.inr ⟨rfl,⟨_,aZ rfl (s1.ld (k:=1) rfl bE rfl)⟩,u3⟩) (.inr ⟨rfl,⟨_,aZ rfl (s2.ld (k:=1) rfl bE rfl)⟩,u3⟩),aa,aa,aa⟩,?_⟩
   refine zr rfl (zb rfl (by exact bC (aB (by omega) (by omega))) ?_)
   refine zm rfl (zv ?_)
   refine I6 _ _ v5 ?_ ?_
   ·rw[Tv,hw]
    have s:=(s.del 1).del 1
    dsimp only[aI] at s
    simpa[cP] using s
   ·exact⟨rfl,rfl,rfl,rfl,rfl,aa⟩
theorem Tw (J:W told){kd:Nat}{ch:V}{aR:List cq}(s:Sat h (X::.arr 4 ch cs::dm cs aR::S))(hX:cL X (cQ dt data))(hg:ej kd aR=true)(I:AB aR)
 (GD:tx<18446744073709551616)(VQ:pv<18446744073709551616)(rE:nx<18446744073709551616)(hlen:data.length+(aR.flatMap kC).length≤70368744177664):
  Call ⟨Tryz.prog,told⟩ 162 [.agg (iw kd tx pv nx dt ch)] h fun r h'=>Sat h' (aQ r (dD kd tx pv nx data aR)::X::.arr 4 ch cs::dm cs aR::S):=by
 have jf:=s.ju (j:=1) rfl
 have jV:=s.aD (k:=0) rfl hX
 have B5:=dB jV
 have fX:=m8 (kd:=kd) (tx:=tx) (pv:=pv) (nx:=nx) jV.cells.2 jf.2.1
 have hk:1≤kd∧kd≤9:=by simp[ej] at hg;omega
 have gT:∀c∈aR,c.Ok:=by
  simp only[ej,bQ,ud,gE] at hg
  exact hg.2
 have hm:=I.1
 have h1:=iq 9 tx
 have h2:=iq 9 pv
 have h3:=iq 9 nx
 have h4:=iq 9 data.length
 have h5:=iq 9 aR.length
 refine Call.of_wp (J.free _ rfl) Tryz.func162 rfl rfl (zg rfl (ax.cm s rfl rfl rfl (fY rfl fX) ?_))
 intro p1 h s
 dsimp only[V.cells] at s
 refine zk 4 rfl (zY s 0 uQ dN rfl (zo rfl (cJ rfl (by exact jE bT Tryz.underlying5 (DF (by omega) (by omega)))) ?_))
 refine ax.any rfl rfl rfl (OpR.NS (n:=kd) rfl s rfl rfl rfl (by omega)) ?_
 intro v3 h s
 refine zk 5 rfl (zY s 1 P_ mh rfl (zY s 1 Qa mh rfl (zY s 1 Qb mh rfl (zo rfl (cT rfl (by rw[abi];rfl)) ?_))))
 refine zk 2 rfl (WP.block (WP.loop (zg rfl (zB rfl bh (by decide) ?_))))
 refine zk 5 rfl (WP.block (zg rfl (zo rfl (Cx rfl rfl (r:=.int .u64 (tx:Int)) (by simp only[indexV,IU,vR,pI,mh];rfl)) ?_)))
 refine zk 5 rfl (zc rfl (qE J s (by omega) (by simp only[bV,bF,cG];omega)) ?_)
 intro v3 h s
 refine za rfl (zv (zr rfl (zb rfl (by exact bC (aB (by omega) (by omega))) ?_)))
 refine zm rfl (zv (WP.loop (zg rfl (zt rfl (aA rfl rfl bh) (by decide) ?_))))
 refine zk 5 rfl (WP.block (zg rfl (zo rfl (Cx rfl rfl (r:=.int .u64 (pv:Int)) (by simp only[indexV,IU,vR,pI,mh];rfl)) ?_)))
 refine zk 5 rfl (zc rfl (qE J s (by omega) (by simp only[bV,bF,cG];omega)) ?_)
 intro v3 h s
 refine za rfl (zv (zr rfl (zb rfl (by exact bC (aB (by omega) (by omega))) ?_)))
 refine zm rfl (zv (WP.loop (zg rfl (zt rfl (aA rfl rfl bh) (by decide) ?_))))
 refine zk 5 rfl (WP.block (zg rfl (zo rfl (Cx rfl rfl (r:=.int .u64 (nx:Int)) (by simp only[indexV,IU,vR,pI,mh];rfl)) ?_)))
 refine zk 5 rfl (zc rfl (qE J s (by omega) (by simp only[bV,bF,cG];omega)) ?_)
 intro v3 h s
 refine za rfl (zv (zr rfl (zb rfl (by exact bC (aB (by omega) (by omega))) ?_)))
 refine zm rfl (zv (WP.loop (zg rfl (zh rfl (aA rfl rfl bh) (by decide) ?_))))
 refine zk 3 rfl (WP.exit (zw ?_))
 have s0:=s
 have sD:=dB (s.buf (k:=0) rfl).view
 refine WP.drawn [ah,ah,ah,ah,some (0,2),some (0,2),some (0,2),some (0,2),none,none] rfl (by kernel_rfl) (by kernel_rfl) ?_
 refine zM rfl (zF rfl (Ak _ _) (zL rfl (s.ld (k:=1) rfl bE rfl) (ay.any rfl rfl rfl rfl (OpR.call rfl rfl rfl rfl (FC J (s.ae [0,1]) hX (by simp only[bV,bF,cG];omega))) ?_)))
 intro v4 h s
 have s:=s.ae [0,1,0]
 have s1:=s
 refine zF rfl (m5 _ _) (zL rfl (s.ld (k:=1) rfl uP rfl) (zO rfl (aN rfl rfl rfl (s.xh (j1:=3) (j2:=4) rfl rfl ji)) (ay.op rfl rfl rfl (by simp only[isEff,c_]) (cJ rfl (by exact jE bT c_ (fZ (by omega) (by omega)))) ?_)))
 refine ay.any rfl rfl rfl rfl (OpR.call rfl rfl rfl rfl (qE J s (by omega) (by simp only[bV,bF,cG];omega))) ?_
 intro v5 h s
 refine zA rfl ?_
 refine ay.nil ⟨⟨aa,aa,aa,aa,fun _ _=>.inr ⟨rfl,⟨_,lE rfl (m5 _ _)⟩,bH _ rfl⟩,eE (.inr ⟨rfl,⟨_,aZ rfl (s0.ld (k:=1) rfl uP rfl)⟩,jf.2.2⟩) (.inr ⟨rfl,⟨_,aZ rfl (s1.ld (k:=1) rfl uP rfl)⟩,jf.2.2⟩),eE (.inr ⟨rfl,⟨_,aN rfl rfl rfl (s0.xh (j1:=3) (j2:=4) rfl rfl ji)⟩,bH _ rfl⟩) (.inr ⟨rfl,⟨_,aN rfl rfl rfl (s1.xh (j1:=3) (j2:=4) rfl rfl ji)⟩,bH _ rfl⟩),fun _ _=>.inr ⟨rfl,⟨_,cJ rfl (by exact jE bT c_ (fZ (by omega) (by omega)))⟩,bH _ rfl⟩,aa,aa,aa⟩,?_⟩
 refine zK 3 rfl (zY s 1 m5 uP rfl (zo rfl (aN rfl rfl rfl (s.xh (j1:=3) (j2:=4) rfl rfl ji)) (zk 2 rfl (WP.block ?_))))
 have s:=s.ae [0,2,2,1]
 refine Qz J gT I aR.length 0 v5 _ _ _ _ (by omega) (by rw[gV];simp only[bV,bF,cG];omega) s ⟨rfl,rfl,rfl,rfl,rfl,aa⟩ (fun E' h' GF jx s' => ?_)
 refine WP.has (F:=[(3,GF)]) ⟨jx,aa⟩ (zK 5 rfl (WP.ret ⟨aa,_,rfl,?_⟩))
 have s'':=(s'.ae [0,2,0,0]).del 4
 dsimp only[List.cons_append,List.nil_append,List.drop,aI,bringA,getA] at s''
 simpa[dD,cP] using s''
end
def iR (aO:Nat)(b:List Nat): List Nat:=le 4 b.length++le 4 (tT aO b)++b
theorem pV (aO:Nat)(b:List Nat): (iR aO b).length=8+b.length:=by simp[iR,dL];omega
theorem od : ∃i,Tryz.prog.info? 3=some i∧i.size=1∧i.bytes=8 :=
 ⟨_,(show Tryz.prog.info? 3=some ((Tryz.prog.info? 3).getD default) by kernel_rfl),by kernel_rfl,by kernel_rfl⟩
section
variable {told:cR} {p:Nat} {v w:V} {m:List Nat}
theorem GG (I:W told)(s:Sat h S)(J:getA S k=some X)(hX:cL X (cQ v l))(hl:l.length≤4611686018427387904):
  Call ⟨Tryz.prog,told⟩ 163 [.int .u64 (n:Int),v] h fun r h'=>r=.int .u32 (tT n l:Nat)∧Sat h' S :=
 (Qo I.VM s.wf (s.aD J hX) hl).mono fun _ _ ⟨h1,h2⟩=>⟨h1,s.kH h2⟩
structure D1 (tx pv nx:Nat)(data:List Nat)(aR:List cq): Prop where
 fit:AB aR
 tx:tx<18446744073709551616
 pv:pv<18446744073709551616
 nx:nx<18446744073709551616
 len:data.length+(aR.flatMap kC).length≤70368744177664
theorem QA (J:W told){kd:Int}{ch:V}{aR:List cq}(s:Sat h (X::.arr 4 ch cs::dm cs aR::S))(hX:cL X (cQ dt data))(I:D1 tx pv nx data aR):
  Call ⟨Tryz.prog,told⟩ 116 [.agg (iw kd tx pv nx dt ch),.int .u64 (aO:Int)] h fun r h' =>
  (ej kd aR=false∧r=.bf [.a_,.int .i64 1]∧Sat h' (X::.arr 4 ch cs::dm cs aR::S)) ∨
  (ej kd aR=true∧1048576<(dD kd tx pv nx data aR).length∧r=.bf [.a_,.int .i64 2]∧Sat h' (X::.arr 4 ch cs::dm cs aR::S)) ∨
  (ej kd aR=true∧(dD kd tx pv nx data aR).length≤1048576∧∃u,r=.bf [u,.int .i64 0]∧Sat h' (aQ u (iR aO (dD kd tx pv nx data aR))::X::.arr 4 ch cs::dm cs aR::S)):=by
 have jf:=s.ju (j:=1) rfl
 have jV:=s.aD (k:=0) rfl hX
 have fX:=m8 (kd:=kd) (tx:=tx) (pv:=pv) (nx:=nx) jV.cells.2 jf.2.1
 refine Call.of_wp (J.free _ rfl) Tryz.func116 rfl rfl (zg rfl (ax.cm s rfl rfl rfl (fY rfl fX) ?_))
 intro p1 h s
 dsimp only[V.cells] at s
 refine zk 6 rfl (zl rfl (s.dn (k:=0) rfl oc ik) (zc rfl (I5 J (s.ae [2,2]) jV.cells.2 I.fit) ?_))
 rintro r h' ⟨rfl,s⟩
 cases hg:ej kd aR with
 |false =>
  exact zo rfl (er rfl rfl) (zk 7 rfl (WP.ret ⟨aa,_,rfl,.inl ⟨rfl,rfl,(s.ae [3,0,0]).del 3⟩⟩))
 |true =>
  refine zo rfl (er rfl rfl) (zk 5 rfl (zl rfl (s.dn (k:=2) rfl oc ik) ?_))
  have hk:∃n:Nat,kd=n:=⟨kd.toNat,by simp[ej] at hg;omega⟩
  obtain⟨kd,rfl⟩:=hk
  refine zc rfl (Tw J (s.ae [3,0,0]) hX hg I.fit I.tx I.pv I.nx I.len) ?_
  intro u h s
  dsimp only[bringA,getA,aI] at s
  have m7:(dD kd tx pv nx data aR).length<9223372036854775808:=by
   have h1:=iq 9 tx
   have h2:=iq 9 pv
   have h3:=iq 9 nx
   have h4:=iq 9 data.length
   have h5:=iq 9 aR.length
   have h6:=I.len
   simp only[dD,bV,bF,cG]
   omega
  generalize Vm:dD kd tx pv nx data aR=bd at s m7 ⊢
  refine zk 6 rfl (zo rfl (aN rfl rfl rfl (aW aK (s.aD (k:=0) rfl (bk _ _)))) ?_)
  by_cases N_:1048576<bd.length
  ·skip
   refine zB rfl gA (by simp;omega) ?_
   exact zk 7 rfl (WP.ret ⟨aa,_,rfl,.inr (.inl ⟨rfl,N_,rfl,(s.del 4).del 0⟩)⟩)
  ·skip
   refine zC rfl gA (by simp;omega) ?_
   refine zk 6 rfl (zo rfl (aN rfl rfl rfl (aW aK (s.aD (k:=0) rfl (bk _ _)))) (zb rfl (by exact bC (aB (by omega) (by omega))) ?_))
   refine ax.any rfl rfl rfl (OpR.sJ (c:=8+bd.length) rfl s rfl rfl rfl rfl (by omega)) ?_
   intro v h s
   refine zm rfl (zo rfl (aN rfl rfl rfl (aW aK (s.aD (k:=1) rfl (bk _ _)))) (zo rfl (cJ rfl (by exact jE bT c_ (fZ (by omega) (by omega)))) ?_))
   refine zc rfl (I1 (z:=4) J s (by decide) (by simp)) ?_
   intro v h s
   have cI:=(s.buf (k:=1) rfl).1
   refine zk 7 rfl (zc rfl (GG (n:=aO) J s (k:=1) rfl (bk _ _) (by omega)) ?_)
   rintro r h ⟨rfl,s⟩
   have kz:=IX (aO:=aO) cI
   refine zo rfl (cJ rfl (by exact jE Tryz.underlying231 c_ (fZ (by omega) (by omega)))) ?_
   refine zc rfl (I1 (z:=4) J s (by decide) (by simp[dL])) ?_
   intro v h s
   refine zk 6 rfl (ax.any rfl rfl rfl (OpR.pQ rfl s (bk _ _) rfl rfl rfl rfl (by simp only[bV,dL,cG];omega)) ?_)
   intro v h s
   refine zk 3 rfl (WP.ret ⟨aa,_,rfl,?_⟩)
   refine .inr (.inr ⟨rfl,by omega,v,rfl,?_⟩)
   have s:=(s.del 5).del 1
   dsimp only[aI] at s
   simpa[iR,cP] using s
def Lg.app (μ:Lg)(b:List Nat): Lg:={ μ with b:=μ.b++b,cE:=μ.cE++[μ.b.length] }
theorem Oa (hT:W told){kd:Int}{ch:V}{aR:List cq}(s:Sat h (b7 q p μ::aS p δ::X::.arr 4 ch cs::dm cs aR::S))(hX:cL X (cQ dt data))(eX:D1 tx pv nx data aR)
 (J:μ.Ok)(hf:δ.aT<4294967296)(hl:δ.log.length≤16777216)(hr:δ.room≤16777216):
  Call ⟨Tryz.prog,told⟩ 59 [.ptr q 0,.agg (iw kd tx pv nx dt ch)] h fun r h' =>
  (∃e:Int,r=.bf [.int .u64 0,.int .i64 e]∧((ej kd aR=false∧e=1)∨(ej kd aR=true∧1048576<(dD kd tx pv nx data aR).length∧e=2)∨(ej kd aR=true∧(dD kd tx pv nx data aR).length≤1048576∧δ.dead=true∧e=9) ∨
    (ej kd aR=true∧(dD kd tx pv nx data aR).length≤1048576∧δ.dead=false∧δ.room<δ.log.length+(iR (μ.base+μ.b.length) (dD kd tx pv nx data aR)).length∧e=7))∧Sat h' (b7 q p μ::aS p δ::X::.arr 4 ch cs::dm cs aR::S)) ∨
  (ej kd aR=true∧(dD kd tx pv nx data aR).length≤1048576∧δ.dead=false∧δ.log.length+(iR (μ.base+μ.b.length) (dD kd tx pv nx data aR)).length≤δ.room∧δ.aT=0∧r=.bf [.int .u64 0,.int .i64 9] ∧
   Sat h' (b7 q p μ::aS p { δ.die with tail:=iR (μ.base+μ.b.length) (dD kd tx pv nx data aR) }::X::.arr 4 ch cs::dm cs aR::S)) ∨
  (ej kd aR=true∧(dD kd tx pv nx data aR).length≤1048576∧δ.dead=false∧δ.log.length+(iR (μ.base+μ.b.length) (dD kd tx pv nx data aR)).length≤δ.room∧δ.aT≠0∧r=.bf [.int .u64 ((μ.base+μ.b.length:Nat):Int),.int .i64 0] ∧
   Sat h' (b7 q p (μ.app (iR (μ.base+μ.b.length) (dD kd tx pv nx data aR)))::aS p { δ.cV with log:=δ.log++iR (μ.base+μ.b.length) (dD kd tx pv nx data aR) }::X::.arr 4 ch cs::dm cs aR::S)):=by
 have jf:=s.ju (j:=3) rfl
 have jV:=s.aD (k:=2) rfl hX
 have fX:=m8 (kd:=kd) (tx:=tx) (pv:=pv) (nx:=nx) jV.cells.2 jf.2.1
 have N8:=J.size
 refine Call.of_wp (hT.free _ rfl) Tryz.func59 rfl rfl (zg rfl (ax.cm s rfl rfl rfl (fY rfl fX) ?_))
 intro p1 h s
 dsimp only[V.cells] at s
 have s:=s.ae [1,0]
 refine zk 6 rfl (zc rfl (xg hT s J.size) ?_)
 rintro v h' ⟨rfl,rfl⟩
 refine zk 4 rfl (zl rfl (s.dn (k:=1) rfl oc ik) (zm rfl (zc rfl (QA (aO:=μ.base+μ.b.length) hT (s.ae [3,3,3]) hX eX) ?_)))
 generalize hrc:iR (μ.base+μ.b.length) (dD kd tx pv nx data aR)=rc
 have GH:rc.length=8+(dD kd tx pv nx data aR).length:=by rw[←hrc,pV]
 rintro r h' (⟨hg,rfl,s⟩|⟨hg,N_,rfl,s⟩|⟨hg,oP,u,rfl,s⟩)
 ·dsimp only[bringA,getA,aI] at s
  exact zk 10 rfl (zB rfl aE (rfl) (zk 8 rfl (WP.ret ⟨aa,_,rfl,.inl ⟨1,rfl,.inl ⟨hg,rfl⟩,(s.ae [3,4,0,0,0]).del 5⟩⟩)))
 ·dsimp only[bringA,getA,aI] at s
  exact zk 10 rfl (zB rfl aE (rfl) (zk 8 rfl (WP.ret ⟨aa,_,rfl,.inl ⟨2,rfl,.inr (.inl ⟨hg,N_,rfl⟩),(s.ae [3,4,0,0,0]).del 5⟩⟩)))
 ·dsimp only[bringA,getA,aI] at s
  have cI:=(s.buf (k:=0) rfl).1
  obtain⟨lq,_,cap,_,rfl,_⟩:=s.gq (by omega)
  obtain⟨bv,sv,s⟩:=gy.1 (s.ae [4])
  refine zk 10 rfl (zC rfl aE (rfl) (zk 8 rfl (zY s 0 L7 pP rfl (zm rfl ?_))))
  have s:=s.ae [8,3]
  refine zc rfl (NY hT s (bk _ _) (by omega) hf (by omega) (by omega)) ?_
  rintro r h (⟨hd,rfl,s⟩|⟨hd,abt,rfl,s⟩|⟨hd,I,h0,rfl,s⟩|⟨hd,I,h0,rfl,s⟩)
  ·refine ax.op rfl rfl rfl (fD rfl) ?_
   exact zk 4 rfl (zB rfl aE (rfl) (zk 8 rfl (WP.ret ⟨aa,_,rfl,.inl ⟨9,rfl,.inr (.inr (.inl ⟨hg,oP,hd,rfl⟩)),(gy.2 ⟨bv,sv,((s.ae [2,2,2,0,1,1,1]).del 8).del 7⟩)⟩⟩)))
  ·skip
   exact zk 5 rfl (zB rfl aE (rfl) (zk 8 rfl (WP.ret ⟨aa,_,rfl,.inl ⟨7,rfl,.inr (.inr (.inr ⟨hg,oP,hd,by omega,rfl⟩)),(gy.2 ⟨bv,sv,((s.ae [2,2,2,0,1,1,1]).del 8).del 7⟩)⟩⟩)))
  ·skip
   exact zk 5 rfl (zB rfl aE (rfl) (zk 8 rfl (WP.ret ⟨aa,_,rfl,.inr (.inl ⟨hg,oP,hd,I,h0,rfl,(gy.2 ⟨bv,sv,((s.ae [2,2,2,0,1,1,1]).del 8).del 7⟩)⟩)⟩)))
  ·skip
   have s:=s.ae [2,2,2,1,0,0,0,0]
   refine zk 5 rfl (zC rfl aE (rfl) (zk 4 rfl ?_))
   have s0:=s
   have VJ:=dB (s.buf (k:=1) rfl).view
   have GI:=(s.ju (j:=2) rfl).2.2
   refine WP.drawn [some (0,3),some (0,2),some (0,2),some (0,2),some (0,2),ah,ah,ah,ah,ah,ah,ah,ah,ah,ah] rfl (by kernel_rfl) (by kernel_rfl) ?_
   refine zM rfl (zM rfl (zN rfl (zF rfl (oD _ _) (zL rfl (s.ld (k:=0) rfl ob rfl) (zM rfl (zN rfl (zF rfl (ff _ _) (zL rfl (s.ld (k:=0) rfl bE rfl) (zO rfl (aN rfl rfl rfl (aW aK (s.aD (k:=1) rfl (bk _ _)))) ?_)))))))))
   obtain⟨i1,iu,gW,pz⟩:=od
   obtain⟨iv,h1,e1,s1⟩:=jB (P:=Tryz.prog) (k:=1) (x:=.int .i64 (μ.b.length:Int)) s cf uO jF rfl (by decide) (by decide) rfl rfl
   dsimp only[V.cells] at s1
   refine ay.any rfl rfl rfl rfl (OpR.of (R:=fun v h'=>v=iv∧h'=h1) (ke rfl e1) ⟨rfl,rfl⟩) ?_
   rintro v h' ⟨rfl,rfl⟩
   have DZ:=J.many
   obtain⟨GF,h2,e2,s2⟩:=gv (s1.ae [3,0]) cf iu uO gW (by omega) rfl (by decide) (by simp only[gh,bF,cG];omega)
   refine ay.any rfl rfl rfl rfl (OpR.of (R:=fun v h'=>v=GF∧h'=h2) (jI rfl rfl e2) ⟨rfl,rfl⟩) ?_
   rintro v h' ⟨rfl,rfl⟩
   have hv:=s2.ju (j:=0) rfl
   refine zN rfl (zF rfl (oD _ _) (ay.ij rfl rfl rfl (OpR.eA rfl rfl rfl (s2.eH (k:=2) rfl IG rfl (by decide) hv.1 hv.2.1)) ?_))
   rintro v h ⟨rfl,s⟩
   refine ay.nil ⟨⟨fun _ _=>.inr ⟨rfl,⟨_,bK rfl⟩,bH _ rfl⟩,fun _ _=>.inr ⟨rfl,⟨_,bK rfl⟩,bH _ rfl⟩,fun _ _=>.inr ⟨rfl,⟨_,pJ rfl⟩,bH _ rfl⟩,fun _ _=>.inr ⟨rfl,⟨_,lE rfl (oD _ _)⟩,bH _ rfl⟩,eE (.inr ⟨rfl,⟨_,aZ rfl (s0.ld (k:=0) rfl ob rfl)⟩,GI⟩) (.inr ⟨rfl,⟨_,aZ rfl (s1.ld (k:=1) rfl ob rfl)⟩,GI⟩),aa,aa,aa,aa,aa,aa,aa,aa,aa,aa,aa⟩,?_⟩
   refine zK 5 rfl (zY s 2 ff bE rfl (zm rfl (ax.any rfl rfl rfl (OpR.pQ rfl (s.ae [3,3]) (bk _ _) rfl rfl rfl rfl (by have:=J.len;omega)) ?_)))
   intro yZ h s
   have hv:=(s.buf (k:=0) rfl).view.cells
   refine zn rfl (zf rfl (ff _ _) (zS rfl (s.eH (k:=4) rfl gU rfl (by decide) hv.1 hv.2) ?_))
   intro h s
   refine zk 7 rfl (WP.ret ⟨aa,_,rfl,?_⟩)
   refine .inr (.inr ⟨hg,oP,hd,I,h0,rfl,gy.2 ⟨yZ,v,?_⟩⟩)
   have s:=(((s.ae [4,0,1]).del 4).del 3).del 7
   have e:bG (μ.app rc).cE=bG μ.cE++[.int .i64 (μ.b.length:Int)]:=by simp[Lg.app,bG]
   rw[e]
   exact s
end
def Dk.cg (δ:Dk): Int×Dk:=if δ.dead=true then(9,δ) else if δ.aT=0 then(9,δ.die) else(0,{ δ.cV with bj:=δ.log.length })
def Dk.bz (δ:Dk)(n:Int)(b:List Nat): Int×Dk:=if δ.dead=true then(9,δ) else if ¬(0≤n∧n<δ.aq.length∧b.length=512) then(1,δ) else
 if δ.aT=0 then(9,{ δ.die with dG:=some (n.toNat,b) }) else(0,δ.wr n b)
def Dk.jr (δ:Dk)(b:List Nat): Int×Dk:=if δ.dead=true then(9,δ) else if δ.room<δ.log.length+b.length then(7,δ) else if δ.aT=0 then(9,{ δ.die with tail:=b }) else(0,{ δ.cV with log:=δ.log++b })
def Dk.lV (δ:Dk)(n:Int): Int:=if δ.dead=true then 9 else if ¬(0≤n∧n<δ.aq.length) then 1 else 0
structure Dk.Ok (δ:Dk): Prop where
 aT:δ.aT<4294967296
 len:δ.log.length≤16777216
 room:δ.room≤16777216
 now:∀e∈δ.now,e.2.length=512
 aq:∀(i:Nat) (b:List Nat),δ.aq[i]?=some (some b)→b.length=512
 bj:δ.bj≤δ.log.length
 many:δ.aq.length≤65536
theorem Dk.Ok.cV (h:δ.Ok): δ.cV.Ok:=⟨by have:=h.aT;simp only[Dk.cV];split<;>omega,h.len,h.room,h.now,h.aq,h.bj,h.many⟩
theorem Dk.Ok.die (h:δ.Ok): δ.die.Ok:=⟨h.aT,h.len,h.room,h.now,h.aq,h.bj,h.many⟩
theorem Dk.Ok.cg (h:δ.Ok): δ.cg.2.Ok:=by
 unfold Dk.cg
 split
 ·exact h
 ·split
  ·exact h.die
  ·exact⟨h.cV.aT,h.len,h.room,h.now,h.aq,aU _,h.many⟩
theorem fJ {n:Int}{x:α}: ∀ {l:List (Int×α)},lookL n l=some x→(n,x)∈l:=by
 intro l
 induction l<;>grind[lookL]
theorem Dk.Ok.at (I:δ.Ok)(n:Int): (δ.at n).length=512:=by
 unfold Dk.at
 cases J:lookL n δ.now with
 |some b=>exact I.now _ (fJ J)
 |none =>
  cases h2:δ.aq[n.toNat]? with
  |none=>grind
  |some o =>
   cases o with
   |none=>grind
   |some b=>exact I.aq _ _ h2
section
variable {told:cR} {p:Nat} {v:V}
theorem Xo (I:W told)(s:Sat h (aS p δ::S))(J:δ.aT<4294967296): Call ⟨Tryz.prog,told⟩ 130 [.ptr p 0] h fun v h'=>v=.int .i64 δ.cg.1∧Sat h' (aS p δ.cg.2::S):=by
 refine(Gx I s J).mono fun v h' hr => ?_
 grind[Dk.cg]
theorem Mj (I:W told){n:Int}(s:Sat h (aS p δ::X::S))(J:cL X (cQ x b))(hb:b.length<1073741824)(hf:δ.aT<4294967296)(hw:δ.waiting.length≤268435456):
  Call ⟨Tryz.prog,told⟩ 138 [.ptr p 0,.int .i64 n,x] h fun v h'=>v=.int .i64 (δ.bz n b).1∧Sat h' (aS p (δ.bz n b).2::X::S):=by
 refine(Qr I s J hb hf hw).mono fun v h' hr => ?_
 grind[Dk.bz]
theorem QB (J:W told){n:Int}(s:Sat h (aS p δ::S))(I:δ.Ok): Call ⟨Tryz.prog,told⟩ 124 [.ptr p 0,.int .i64 n] h fun v h' =>
  (δ.lV n≠0∧v=.bf [.a_,.int .i64 (δ.lV n)]∧Sat h' (aS p δ::S))∨(δ.lV n=0∧∃u,v=.bf [u,.int .i64 0]∧Sat h' (aQ u (δ.at n)::aS p δ::S)):=by
 refine(Tp J s (I.at n)).mono fun v h' hr => ?_
 grind[Dk.lV]
end
abbrev LD := Lg×Dk
def aJ (x:LD)(n:Nat): Int×LD:=if n<x.1.base+x.1.forced then(0,x) else if x.2.cg.1≠0 then(x.2.cg.1,(x.1,x.2.cg.2)) else(0,({ x.1 with forced:=x.1.b.length },x.2.cg.2))
def cC (μ:Lg)(kd:Int)(tx pv nx:Nat)(data:List Nat)(aR:List cq): List Nat:=iR (μ.base+μ.b.length) (dD kd tx pv nx data aR)
def aG (x:LD)(kd:Int)(tx pv nx:Nat)(data:List Nat)(aR:List cq): (Nat×Int)×LD :=
 if ej kd aR=false then((0,1),x) else if 1048576<(dD kd tx pv nx data aR).length then((0,2),x) else
 if (x.2.jr (cC x.1 kd tx pv nx data aR)).1≠0 then((0,(x.2.jr (cC x.1 kd tx pv nx data aR)).1),(x.1,(x.2.jr (cC x.1 kd tx pv nx data aR)).2)) else
 ((x.1.base+x.1.b.length,0),(x.1.app (cC x.1 kd tx pv nx data aR),(x.2.jr (cC x.1 kd tx pv nx data aR)).2))
theorem KV : δ.cg.2.waiting=δ.waiting:=by
 unfold Dk.cg
 split
 ·rfl
 ·split<;>rfl
theorem mq {x:LD}: (aJ x n).2.2.waiting=x.2.waiting:=by
 grind[aJ,KV]
theorem Dk.Ok.bz {n:Int}(h:δ.Ok): (δ.bz n b).2.Ok:=by
 unfold Dk.bz
 split
 ·exact h
 ·split
  ·exact h
  ·split
   ·exact⟨h.aT,h.len,h.room,h.now,h.aq,h.bj,h.many⟩
   ·refine⟨h.cV.aT,h.len,h.room,fun e he => ?_,h.aq,h.bj,h.many⟩
    have:∀l:List (Int×List Nat),(∀e∈l,e.2.length=512)→∀e∈cD n b l,e.2.length=512:=by
     intro l
     induction l<;>grind[cD]
    exact this δ.now h.now e he
theorem oH {x:LD}(h:x.2.Ok): (aJ x n).2.2.Ok:=by
 unfold aJ
 split
 ·exact h
 ·split
  ·exact h.cg
  ·exact h.cg
theorem Lg.Ok.Xp (h:μ.Ok): ({ μ with forced:=μ.b.length }:Lg).Ok:=⟨h.size,h.many,h.low,h.FA,aU _,h.len,h.check⟩
theorem vU {x:LD}(h:x.1.Ok): (aJ x n).2.1.Ok:=by
 unfold aJ
 split
 ·exact h
 ·split
  ·exact h
  ·exact h.Xp
section
variable {told:cR} {p:Nat} {v:V}
theorem Mk (J:W told)(s:Sat h (b7 q p μ::aS p δ::S))(I:μ.Ok)(hf:δ.aT<4294967296): Call ⟨Tryz.prog,told⟩ 79 [.ptr q 0,.int .u64 (n:Int)] h fun v h' =>
  v=.int .i64 (aJ (μ,δ) n).1∧Sat h' (b7 q p (aJ (μ,δ) n).2.1::aS p (aJ (μ,δ) n).2.2::S):=by
 refine(Qx J s I hf).mono fun v h' hr => ?_
 grind[aJ,Dk.cg]
theorem Tx (hT:W told){kd:Int}{ch:V}{aR:List cq}(s:Sat h (b7 q p μ::aS p δ::X::.arr 4 ch cs::dm cs aR::S))(hX:cL X (cQ dt data))(J:D1 tx pv nx data aR)(FD:μ.Ok)(I:δ.Ok):
  Call ⟨Tryz.prog,told⟩ 59 [.ptr q 0,.agg (iw kd tx pv nx dt ch)] h fun r h' =>
  r=.bf [.int .u64 ((aG (μ,δ) kd tx pv nx data aR).1.1:Nat),.int .i64 (aG (μ,δ) kd tx pv nx data aR).1.2] ∧
  Sat h' (b7 q p (aG (μ,δ) kd tx pv nx data aR).2.1::aS p (aG (μ,δ) kd tx pv nx data aR).2.2::X::.arr 4 ch cs::dm cs aR::S):=by
 refine(Oa hT s hX J FD I.aT I.len I.room).mono fun v h' hr => ?_
 grind[aG,Dk.jr,cC]
end
structure Fm where
 aM:Int
 b:List Nat
 pins:Int
 gz:Bool
 changed:Bool
variable {f:Fm}
structure Pl where
 ai:List Fm
 aH:List (Int×Int)
 br:List (Int×(Nat×Bool))
 hand:Nat
variable {π:Pl}
def gX (f:Fm)(v:V): List V:=[.int .i64 f.aM,v,.int .i64 f.pins,.bool f.gz,.bool f.changed]
def uX : List V→List Fm→aL
 |[],[]=>.pu True
 |a::v::c::d::e::l,x::m=>.an (.an (.pu (a=.int .i64 x.aM∧c=.int .i64 x.pins∧d=.bool x.gz∧e=.bool x.changed)) (.bY v x.b)) (uX l m)
 |_,_=>.pu False
theorem aV.fm : ∀(m:List Fm) (l:List V),aV (uX l m):=by
 intro m
 induction m with
 |nil=>intro l;rcases l with _|⟨a,_|⟨b,_|⟨c,_|⟨d,_|⟨e,l⟩⟩⟩⟩⟩<;>exact aV.pu _
 |cons x m I=>intro l;rcases l with _|⟨a,_|⟨b,_|⟨c,_|⟨d,_|⟨e,l⟩⟩⟩⟩⟩<;>first|exact aV.pu _|exact aV.an (aV.an (aV.pu _) (aV.bY _ _)) (I l)
theorem AD {b:PM}: ∀ {m:List Fm} {l:List V} {i:Nat} {f:Fm},(uX l m).p a b→m[i]?=some f→∃pre v post,l=pre++(gX f v++post)∧pre.length=i*5∧(aL.bY v f.b).p a b ∧
  (∀(f':Fm) (v':V) (I J:PM),(aL.bY v' f'.b).p I J→PM.le a I→PM.le b J→(uX (pre++(gX f' v'++post)) (m.set i f')).p I J):=by
 intro m
 induction m with
 |nil=>intro l i f h hc;simp at hc
 |cons x m ih =>
  intro l i f h hc
  rcases l with _|⟨p,_|⟨q,_|⟨w,_|⟨d,_|⟨e,l⟩⟩⟩⟩⟩<;>first|exact h.elim|skip
  obtain⟨⟨⟨h1,h2,h3,h4⟩,h5⟩,h6⟩:=h
  cases i with
  |zero =>
   simp at hc
   subst hc
   refine⟨[],q,l,?_,rfl,h5,fun f' v' I J hv ha hb=>⟨⟨⟨rfl,rfl,rfl,rfl⟩,hv⟩,(uX l m).mono _ _ _ _ ha hb h6⟩⟩
   rw[h1,h2,h3,h4];rfl
  |succ i =>
   simp at hc
   obtain⟨pre,v,post,e1,e2,e3,e4⟩:=ih h6 hc
   refine⟨p::q::w::d::e::pre,v,post,?_,?_,e3,fun f' v' I J hv ha hb=>⟨⟨⟨h1,h2,h3,h4⟩,aL.mono _ _ _ _ _ ha hb h5⟩,e4 f' v' I J hv ha hb⟩⟩
   ·rw[e1];rfl
   ·simp only[bF,e2];omega
theorem Xq {b:PM}: ∀ {m:List Fm} {l:List V},(uX l m).p a b→l.length=m.length*5:=by
 intro m
 induction m with
 |nil=>intro l h;rcases l with _|⟨a,_|⟨b,_|⟨c,_|⟨d,_|⟨e,l⟩⟩⟩⟩⟩<;>first|rfl|exact h.elim
 |cons x m I =>
  intro l h
  rcases l with _|⟨a,_|⟨b,_|⟨c,_|⟨d,_|⟨e,l⟩⟩⟩⟩⟩<;>first|exact h.elim|skip
  have:=I h.2
  simp only[bF]
  omega
def fg (dg:Nat)(m:List Fm): aL:=xs fun cs:List V=>star [pt dg (.cells (m.length*5) cs false),uX cs m]
abbrev I7 (v:V)(m:List (Int×Int)): aL:=jv (fun v x=>.pu (v=.int .i64 x)) v m
abbrev D2 (v:V)(m:List (Int×(Nat×Bool))): aL:=jv (fun v x=>.pu (v=.agg [.int .u64 (x.1:Int),.bool x.2])) v m
def qZ (p q dg n:Nat)(wh di:V)(hand:Nat): List V:=[.ptr p 0,.ptr q 0,.sl dg 0 n (.exact n),wh,di,.int .i64 (hand:Int)]
def dO (r p q:Nat)(π:Pl): aL:=xs fun dg:Nat=>xs fun wh:V=>xs fun di:V =>
 star [pt r (.cells 6 (qZ p q dg π.ai.length wh di π.hand) false),fg dg π.ai,I7 wh π.aH,D2 di π.br]
section
variable {p:Nat} {v:V} {m:List Fm}
theorem d_ : Sat h (dO r p q π::S)↔∃dg wh di,Sat h (pt r (.cells 6 (qZ p q dg π.ai.length wh di π.hand) false)::fg dg π.ai::I7 wh π.aH::D2 di π.br::S):=by
 simp only[dO,g_,bn,jy,ey]
theorem kn : Sat h (fg dg m::S)↔∃cs,Sat h (pt dg (.cells (m.length*5) cs false)::uX cs m::S):=by
 simp only[fg,g_,bn,jy,ey]
theorem jL (s:Sat h (fg dg m::S))(hf:m[i]?=some f): ∃pre v post,pre.length=i*5∧(pre++(gX f v++post)).length=m.length*5 ∧
  Sat h (pt dg (.cells (m.length*5) (pre++(gX f v++post)) false)::uX (pre++(gX f v++post)) m::.bY v f.b::S):=by
 obtain⟨cs,s⟩:=kn.1 s
 obtain⟨a,b,q1,q2,q3⟩:=s.at (k:=1) rfl
 obtain⟨pre,v,post,e1,e2,e3,_⟩:=AD q3 hf
 have hl:=Xq q3
 subst e1
 refine⟨pre,v,post,e2,hl,?_⟩
 have s1:Sat h (uX (pre++(gX f v++post)) m::pt dg (.cells (m.length*5) (pre++(gX f v++post)) false)::S):=s.ae [1]
 have s2:=(s1.dup (aV.fm _ _)).gK (B:=.bY v f.b) fun a' b' h'=>by
  obtain⟨acF,v',I,J,sM,e3',_⟩:=AD h' hf
  have:=EY J (by omega)
  obtain⟨_,h5⟩:=this
  have h6:=jm (fun l=>l[1]?) h5
  simp[gX] at h6
  subst h6
  exact e3'
 exact s2.ae [2,1,0]
theorem ie {f':Fm}{pre:List V}(s:Sat h (pt dg (.cells n (pre++(gX f' v'++post)) false)::uX (pre++(gX f v++post)) m::.bY v' f'.b::S))(hn:n=m.length*5)(hf:m[i]?=some f)(hp:pre.length=i*5): Sat h (fg dg (m.set i f')::S):=by
 subst hn
 have s1:Sat h (uX (pre++(gX f v++post)) m::.bY v' f'.b::pt dg (.cells (m.length*5) (pre++(gX f' v'++post)) false)::S):=s.ae [1,1,0]
 have s2:=s1.two (C:=uX (pre++(gX f' v'++post)) (m.set i f')) (aV.fm _ _) (aV.bY _ _) fun a b h1 h2=>by
  obtain⟨acF,v0,I,J,sM,e3',e4'⟩:=AD h1 hf
  obtain⟨h3,h4⟩:=EY J (by omega)
  subst h3
  have h5:post=I:=by
   have:=EY h4 (by simp[gX])
   exact this.2
  subst h5
  exact e4' f' v' a b h2 (PM.le_refl _) (PM.le_refl _)
 refine kn.2 ⟨pre++(gX f' v'++post),?_⟩
 rw[dJ]
 exact s2.ae [1]
theorem js {pre row:List V}{a:Nat}(hp:pre.length=a)(I:nth row j=some x): nth (pre++(row++post)) (a+j)=some x:=by
 rw[ir] at I ⊢
 have J:=(List.getElem?_eq_some_iff.1 I).1
 rw[rG (by omega),show a+j-pre.length=j by omega,tY J,I]
theorem Xr {pre row:List V}{a:Nat}(J:pre.length=a)(I:j<row.length): (pre++(row++post)).set (a+j) x=pre++(row.set j x++post):=by
 rw[EG _ _ (by omega),show a+j-pre.length=j by omega,List.set_append_left _ _ I]
theorem Sat.stM {a:Nat}{pre row:List V}(s:Sat h S)(hk:getA S k=some (pt id (.cells n (pre++(row++post)) false)))(hs:bN P t=some 1)(hp:pre.length=a)(J:(pre++(row++post)).length=n)(hj:j<row.length)(hv:x.cells=[x])(I:storable x=true):
  ∃h₁,gY P h t (.ptr id (a+j)) x=some h₁∧Sat h₁ (setA S k (pt id (.cells n (pre++(row.set j x++post)) false))):=by
 have:=s.eH (P:=P) (t:=t) (off:=a+j) (v:=x) hk hs J (by rw[←J];simp;omega) hv I
 rwa [Xr hp hj] at this
theorem Sat.I8 {a:Nat}{pre row row':List V}(s:Sat h S)(hk:getA S k=some (pt id (.cells n (pre++(row++post)) false)))(hs:bN P t=some row'.length)(hp:pre.length=a)(J:(pre++(row++post)).length=n)(hr:row'.length=row.length)(I:row'.all storable=true):
  ∃h₁,gY P h t (.ptr id a) (.agg row')=some h₁∧Sat h₁ (setA S k (pt id (.cells n (pre++(row'++post)) false))):=by
 have:=s.stN (P:=P) (t:=t) (off:=a) (l:=row') hk hs J (by rw[←J];simp;omega) I
 have e:(pre++(row++post)).take a++(row'++(pre++(row++post)).drop (a+row'.length))=pre++(row'++post):=by
  rw[nt hp,A_,lX (by omega),ey,show a+row'.length-pre.length=row.length by omega,wB rfl]
 rwa [e] at this
theorem ldF {a:Nat}{pre row:List V}(s:Sat h S)(J:getA S k=some (pt id (.cells n (pre++(row++post)) false)))(ht:isAggT P t=some true)(hs:bN P t=some row.length)(hp:pre.length=a)(I:(pre++(row++post)).length=n): loadV P h t (.ptr id a)=some (.agg row):=by
 rw[ZI ht hs (s.row J) I (by rw[←I];simp;omega),wB hp,nt rfl]
end
abbrev aX := Pl×LD
variable {ε:aX}
def mu (π:Pl)(n:Int): Nat:=match lookL n π.br with
 |some x=>x.1
 |none=>0
def outF (ε:aX)(i:Nat): Int×aX:=match ε.1.ai[i]? with
 |none=>(0,ε)
 |some f=>if f.aM<0∨f.changed=false then(0,ε) else if bW f.b=false then(4,ε) else
  if (aJ ε.2 (dh f.b 4 8)).1≠0 then((aJ ε.2 (dh f.b 4 8)).1,(ε.1,(aJ ε.2 (dh f.b 4 8)).2)) else
  if ((aJ ε.2 (dh f.b 4 8)).2.2.bz f.aM f.b).1≠0 then(((aJ ε.2 (dh f.b 4 8)).2.2.bz f.aM f.b).1,(ε.1,((aJ ε.2 (dh f.b 4 8)).2.1,((aJ ε.2 (dh f.b 4 8)).2.2.bz f.aM f.b).2))) else
  (0,({ ε.1 with ai:=ε.1.ai.set i { f with changed:=false },br:=cD f.aM (mu ε.1 f.aM,false) ε.1.br },((aJ ε.2 (dh f.b 4 8)).2.1,((aJ ε.2 (dh f.b 4 8)).2.2.bz f.aM f.b).2)))
section
variable {told:cR} {p:Nat} {v:V}
theorem QC (hT:W told)(s:Sat h (pt r (.cells 6 (qZ p q dg π.ai.length wh di π.hand) false)::fg dg π.ai::I7 wh π.aH::D2 di π.br::b7 q p μ::aS p δ::S))(hi:π.ai[i]?=some f)(FD:μ.Ok)(oI:δ.Ok)(qP:f.b.length<1073741824)(hw:δ.waiting.length≤268435456):
  Call ⟨Tryz.prog,told⟩ 123 [.ptr r 0,.ptr dg (i*5)] h fun v h'=>v=.int .i64 (outF (π,μ,δ) i).1 ∧
   Sat h' (pt r (.cells 6 (qZ p q dg (outF (π,μ,δ) i).2.1.ai.length wh di (outF (π,μ,δ) i).2.1.hand) false)::fg dg (outF (π,μ,δ) i).2.1.ai::I7 wh (outF (π,μ,δ) i).2.1.aH::D2 di (outF (π,μ,δ) i).2.1.br::b7 q p (outF (π,μ,δ) i).2.2.1::aS p (outF (π,μ,δ) i).2.2.2::S):=by
 have s00:=s
 obtain⟨pre,fv,post,I,hlen,s⟩:=jL (s.ae [1]) hi
 have hfv:=(s.aD (k:=2) rfl (c8 _ _))
 refine Call.of_wp (hT.free _ rfl) Tryz.func123 rfl rfl (zK 9 rfl (zf rfl (qu _ _) (zl rfl (s.ld (k:=0) rfl dN (js I rfl)) ?_)))
 refine zd rfl (aA rfl rfl bh) ?_ ?_
 ·intro hq
  have hq:f.aM<0:=by simpa using hq
  have he:outF (π,μ,δ) i=(0,(π,μ,δ)):=by simp only[outF,hi];rw[aP (.inl hq)]
  rw[he]
  exact zk 13 rfl (WP.ret ⟨aa,_,rfl,rfl,s00⟩)
 ·intro hq
  have hq:¬ f.aM<0:=by simpa using hq
  refine zk 3 rfl (zf rfl (Fu _ _) (zl rfl (s.ld (k:=0) rfl kZ (js I rfl)) ?_))
  have Qg:f.changed=false∨f.changed=true:=by cases f.changed<;>simp
  rcases Qg with hc|hc
  ·have he:outF (π,μ,δ) i=(0,(π,μ,δ)):=by simp only[outF,hi];rw[aP (.inr hc)]
   rw[he]
   refine zt rfl (er rfl rfl) (by rw[hc];rfl) ?_
   exact zk 7 rfl (WP.ret ⟨aa,_,rfl,rfl,s00⟩)
  ·have he:outF (π,μ,δ) i=(if bW f.b=false then(4,(π,μ,δ)) else
    if (aJ (μ,δ) (dh f.b 4 8)).1≠0 then((aJ (μ,δ) (dh f.b 4 8)).1,(π,(aJ (μ,δ) (dh f.b 4 8)).2)) else
    if ((aJ (μ,δ) (dh f.b 4 8)).2.2.bz f.aM f.b).1≠0 then(((aJ (μ,δ) (dh f.b 4 8)).2.2.bz f.aM f.b).1,(π,((aJ (μ,δ) (dh f.b 4 8)).2.1,((aJ (μ,δ) (dh f.b 4 8)).2.2.bz f.aM f.b).2))) else
    (0,({ π with ai:=π.ai.set i { f with changed:=false },br:=cD f.aM (mu π f.aM,false) π.br },((aJ (μ,δ) (dh f.b 4 8)).2.1,((aJ (μ,δ) (dh f.b 4 8)).2.2.bz f.aM f.b).2)))):=by
    simp only[outF,hi];rw[ak (by rw[hc];simp;omega)]
   rw[he]
   refine zh rfl (er rfl rfl) (by rw[hc];rfl) ?_
   refine zk 8 rfl (zf rfl (BA _ _) (zl rfl (s.ld (k:=0) rfl bE (js I rfl)) (zc rfl (Fz hT (s.ae [2]) (c8 _ _) (by omega)) ?_)))
   rintro w h ⟨s,(⟨hg,rfl⟩|⟨hg,rfl⟩)⟩
   ·dsimp only[bringA,getA,aI] at s
    rw[ak (by rw[hg];decide)]
    have Ty:(aJ (μ,δ) (dh f.b 4 8)).2.2.Ok:=oH oI
    have ZP:(aJ (μ,δ) (dh f.b 4 8)).2.2.waiting.length≤268435456:=by rw[mq];exact hw
    have J:=Mk (n:=dh f.b 4 8) hT (s.ae [6,6]) FD oI.aT
    generalize aJ (μ,δ) (dh f.b 4 8)=x at J Ty ZP ⊢
    obtain⟨xe,xl,xd⟩:=x
    dsimp only at J Ty ZP ⊢
    refine zk 16 rfl (zC rfl aE (rfl) (zk 8 rfl (zY s 3 W_ Cy rfl (zm rfl (zc rfl (J) ?_)))))
    rintro w h ⟨rfl,s⟩
    refine zk 5 rfl ?_
    by_cases hx:xe=0
    ·subst hx
     rw[ak (by decide)]
     refine zC rfl aE (rfl) ?_
     have vx:=fun(s:Sat h (aS p xd::.bY fv f.b::b7 q p xl::pt dg (.cells (π.ai.length*5) (pre++(gX f fv++post)) false)::uX (pre++(gX f fv++post)) π.ai::pt r (.cells 6 (qZ p q dg π.ai.length wh di π.hand) false)::I7 wh π.aH::D2 di π.br::S))=>Mj (n:=f.aM) hT s (c8 fv f.b) qP Ty.aT ZP
     generalize xd.bz f.aM f.b=y at vx ⊢
     obtain⟨ye,yd⟩:=y
     dsimp only at vx ⊢
     have s:=s.ae [1,1,0]
     refine zk 5 rfl (WP.drawn [ah,ah,ah,ah,ah,ah,ah,ah,ah,ah,ah,ah,ah,ah] rfl (by kernel_rfl) (by kernel_rfl) ?_)
     refine zM rfl (zN rfl (zF rfl (w_ _ _) (zL rfl (s.ld (k:=5) rfl pP rfl) (zM rfl (zN rfl (zF rfl (qu _ _) (zL rfl (s.ld (k:=3) rfl dN (js I rfl)) (zM rfl (zN rfl (zF rfl (BA _ _) (zL rfl (s.ld (k:=3) rfl bE (js I rfl)) (ay.any rfl rfl rfl rfl (OpR.call rfl rfl rfl rfl (vx s)) ?_))))))))))))
     rintro w h ⟨rfl,s⟩
     refine zA rfl ?_
     refine ay.nil ⟨⟨aa,aa,aa,aa,aa,aa,aa,aa,aa,aa,aa,aa,aa,aa,aa⟩,?_⟩
     refine zK 3 rfl ?_
     by_cases hy:ye=0
     ·subst hy
      rw[ak (by decide)]
      refine zC rfl aE (rfl) (zk 7 rfl (zf rfl (Fu _ _) (zS rfl (s.stM (k:=3) (j:=4) rfl yX I hlen (by simp[gX]) rfl rfl) ?_)))
      intro h s
      have e5:(gX f fv).set 4 (.bool false)=gX { f with changed:=false } fv:=rfl
      rw[e5] at s
      have s:=s.ae [7,3,4]
      refine zk 2 rfl (WP.drawn [ah,ah,ah,ah,ah,ah,ah,ah,ah,ah,ah,ah,ah,ah,ah,ah,ah,ah,ah,ah] rfl (by kernel_rfl) (by kernel_rfl) ?_)
      refine zM rfl (zN rfl (zF rfl (rS _ _) (zL rfl (s.ld (k:=2) rfl x_ rfl) (zM rfl (zN rfl (zF rfl (qu _ _) (zL rfl (s.ld (k:=1) rfl dN (js I rfl)) (zM rfl (zN rfl (zF rfl (rS _ _) (zL rfl (s.ld (k:=2) rfl x_ rfl) (zM rfl (zN rfl (zF rfl (qu _ _) (zL rfl (s.ld (k:=1) rfl dN (js I rfl)) ?_)))))))))))))))
      have Ob:∃b,fR Tryz.prog h 187 di (.int .i64 f.aM) false=some (.agg [.int .u64 (mu π f.aM:Nat),.bool b]):=by
       rcases mK (f:=fun v (x:Nat×Bool)=>.pu (v=.agg [.int .u64 (x.1:Int),.bool x.2])) (n:=f.aM) (fun _ _=>aV.pu _) s uU bT ya with⟨g1,_,g3⟩|⟨u,x,g1,_,g3,s'⟩
       ·exact⟨false,by rw[g3];simp only[mu,g1];rfl⟩
       ·obtain⟨rfl,_⟩:=eS.1 s'
        exact⟨x.2,by rw[g3];simp only[mu,g1]⟩
      obtain⟨lb,Ob⟩:=Ob
      refine zO rfl (iL rfl rfl Ob) (zO rfl (aa4 rfl (aa6 (Xa _) rfl)) (zO rfl (cT rfl (by rw[abf];rfl)) ?_))
      refine ay.ij rfl rfl rfl (OpR.mapUpdate rfl rfl rfl rfl (pS (f:=fun v (x:Nat×Bool)=>.pu (v=.agg [.int .u64 (x.1:Int),.bool x.2])) (x:=(mu π f.aM,false)) (fun _ _=>aV.pu _) (s.gD rfl) uU bT)) ?_
      intro w h s
      refine ay.nil ⟨⟨aa,aa,aa,aa,aa,aa,aa,aa,aa,aa,aa,aa,aa,aa,aa,aa,aa,aa,aa,aa,aa⟩,?_⟩
      refine zK 4 rfl (WP.ret ⟨aa,_,rfl,?_⟩)
      refine⟨rfl,?_⟩
      have s:=ie (i:=i) (f':={ f with changed:=false }) (s.ae [1,5,3]) rfl hi I
      have e6:(π.ai.set i { f with changed:=false }).length=π.ai.length:=dJ
      rw[e6]
      exact s.ae [2,0,3,0,1,0]
     ·rw[aP hy]
      refine zB rfl aE (by simp;exact hy) ?_
      refine zk 7 rfl (WP.ret ⟨aa,_,rfl,?_⟩)
      refine⟨rfl,?_⟩
      have s:=kn.2 ⟨_,s.ae [3,3]⟩
      exact(s.del 2).ae [3,0,2,2,1,0]
    ·rw[aP hx]
     refine zB rfl aE (by simp;exact hx) ?_
     refine zk 7 rfl (WP.ret ⟨aa,_,rfl,?_⟩)
     refine⟨rfl,?_⟩
     have s:=kn.2 ⟨_,s.ae [3,3]⟩
     exact(s.del 3).ae [3,0,2,2,0,0]
   ·dsimp only[bringA,getA,aI] at s
    rw[aP hg]
    refine zk 16 rfl (zB rfl aE (rfl) (zk 7 rfl (WP.ret ⟨aa,_,rfl,?_⟩)))
    refine⟨rfl,?_⟩
    have s:=kn.2 ⟨_,s.ae [1,1]⟩
    exact(s.del 1).ae [1,0]
end
structure f_ (π bR:Pl): Prop where
 aH:bR.aH=π.aH
 br:bR.br=π.br
 len:bR.ai.length=π.ai.length
 get:∀(i:Nat) (f:Fm),π.ai[i]?=some f→∃t,bR.ai[i]?=some { f with gz:=t }
theorem f_.refl (π:Pl): f_ π π:=⟨rfl,rfl,rfl,fun _ f h=>⟨f.gz,h⟩⟩
theorem f_.trans {bR I:Pl}(a:f_ π bR)(b:f_ bR I): f_ π I:=by
 refine⟨b.aH.trans a.aH,b.br.trans a.br,b.len.trans a.len,fun i f h => ?_⟩
 obtain⟨t,ht⟩:=a.get i f h
 obtain⟨t',J⟩:=b.get i _ ht
 exact⟨t',J⟩
theorem f_.hand : f_ π { π with hand:=n }:=⟨rfl,rfl,rfl,fun _ f h=>⟨f.gz,h⟩⟩
theorem f_.Xs (hi:π.ai[i]?=some f): f_ π { π with ai:=π.ai.set i { f with gz:=false } }:=by
 refine⟨rfl,rfl,dJ,fun j g I => ?_⟩
 by_cases h:i=j
 ·subst h
  rw[hi] at I
  have:=cA I
  subst this
  have J:=(List.getElem?_eq_some_iff.1 hi).1
  exact⟨false,by simp[ES,J]⟩
 ·exact⟨g.gz,by simp only[ES,ak h];exact I⟩
theorem CH {x:Operand}{a b:Nat}(I:0<b): binV P h .rem t x y (.int .i64 (a:Int)) (.int .i64 (b:Int))=some (.int .i64 ((a%b:Nat):Int)):=by
 simp only[binV,ikBeq,aj,intV]
 have:intBeq (b:Int) 0=false:=by rw[mS];simp;omega
 rw[this,aY,Int.tmod_eq_emod_of_nonneg (by omega)]
 rfl
section
variable {told:cR} {p:Nat} {v:V} {m:List Fm}
theorem mU (hi:i<n): indexAddrV Tryz.prog 185 (.sl dg 0 n (.exact n)) (.int .i64 (i:Int))=some (.ptr dg (i*5)):=by
 rw[abb,show(decide ((0:Int)≤(i:Int))&&decide ((i:Int)<(n:Int)))=true by simp;omega,aj]
 simp
theorem KW (I:W told)(s:Sat h S)(hv:storable v=true): Call ⟨Tryz.prog,told⟩ 169 [.agg (gX f v)] h fun w h'=>w=.bool (decide (f.pins=0))∧Sat h' S:=by
 refine Call.of_wp (I.free _ rfl) Tryz.func169 rfl rfl (zg rfl (ax.cm s rfl rfl rfl (fY rfl (by simp only[V.cells,gX,iT,iU,hv];rfl)) ?_))
 intro p1 h s
 dsimp only[V.cells,gX] at s
 exact zk 4 rfl (zY s 0 rT dN rfl (zb rfl eu (zk 2 rfl (WP.ret ⟨aa,_,rfl,rfl,s.drop⟩))))
theorem Tz (hT:W told)(s:Sat h (fg dg m::S))(h0:m[0]?=some f)(hp:f.pins=0): Call ⟨Tryz.prog,told⟩ 190 [.sl dg 0 m.length (.exact m.length),.fn (.func 169) [] []] h fun w h'=>w=.int .i64 0∧Sat h' (fg dg m::S):=by
 have hl:=(List.getElem?_eq_some_iff.1 h0).1
 obtain⟨pre,fv,post,I,hlen,s⟩:=jL s h0
 have J:=(s.aD (k:=2) rfl (c8 _ _)).cells.2
 refine Call.of_wp (hT.free _ rfl) Tryz.func190 rfl rfl (zK 8 rfl (zo rfl (aN rfl rfl rfl (qx rfl Av)) (zk 2 rfl (WP.block (WP.loop (zg rfl (zB rfl bh (by simp;omega) ?_)))))))
 refine zk 5 rfl (WP.block (zK 10 rfl (zo rfl (cK rfl rfl (mU (i:=0) hl)) (zl rfl (ldF s (k:=0) rfl abd DJ I hlen) (zc rfl (KW hT s J) ?_)))))
 rintro w h ⟨rfl,s⟩
 rw[gn hp]
 exact zk 7 rfl (WP.ret ⟨aa,_,rfl,rfl,(kn.2 ⟨_,s⟩).del 1⟩)
theorem KX (I:W told)(s:Sat h (fg dg m::S))(J:m[0]?=some f)(hp:f.pins=0): Call ⟨Tryz.prog,told⟩ 168 [.sl dg 0 m.length (.exact m.length),.fn (.func 169) [] []] h fun w h'=>w=.bool true∧Sat h' (fg dg m::S):=by
 refine Call.of_wp (I.free _ rfl) Tryz.func168 rfl rfl (zK 8 rfl (zc rfl (Tz I s J hp) ?_))
 rintro w h ⟨rfl,s⟩
 refine zB rfl oa (by decide) ?_
 exact zk 2 rfl (WP.ret ⟨aa,_,rfl,rfl,s⟩)
noncomputable def fdA : Code:=cN [1,0,0,1,0,0] ((Tryz.f122.body).getD .skip)
noncomputable def ZQ : Code:=cN [1,0,1,1,1,0,0] ((Tryz.f122.body).getD .skip)
theorem KY {hand:Nat}: ∀(j i:Nat) (h:H) (E:List (Nat×V)) (Q:Ex→List (Nat×V)→H→Prop),i+j=m.length→m.length<4294967296 →
  Sat h (pt r (.cells 6 (qZ p q dg m.length wh di hand) false)::fg dg m::S)→Has E [(0,.ptr r 0),(10,.int .i64 m.length),(11,.int .i64 i)] →
  (∀E' (i:Nat) (f:Fm),m[i]?=some f→f.aM<0→look E' 2=some (.int .i64 (i:Int))→Q .ret E' h) →
  (∀E',Has E' [(0,.ptr r 0)]→Q (.exit 0) E' h)→WP ⟨Tryz.prog,told⟩ 70 (.loop fdA) E h Q:=by
 intro j
 induction j with
 |zero =>
  intro i h E Q hi hm s hE hr hx
  refine WP.loop (WP.has hE (zg rfl (zC rfl bh (by simp;omega) ?_)))
  exact zk 3 rfl (WP.exit (hx _ ⟨rfl,aa⟩))
 |succ j ih =>
  intro i h E Q hi hm s hE hr hx
  have hc:m[i]?=some (m[i]'(by omega)):=bx _
  generalize (m[i]'(by omega))=f at hc
  obtain⟨pre,fv,post,I,hlen,s'⟩:=jL (s.ae [1]) hc
  refine WP.loop (WP.has hE (zg rfl (zB rfl bh (by simp;omega) ?_)))
  refine zk 5 rfl (WP.block (zK 9 rfl (zY s 0 kR pL rfl (zm rfl (zo rfl (cK rfl rfl (mU (i:=i) (by omega))) ?_)))))
  refine zf rfl (qu _ _) (zl rfl (s'.ld (k:=0) rfl dN (js I rfl)) ?_)
  refine zd rfl (aA rfl rfl bh) ?_ ?_
  ·intro J
   have J:f.aM<0:=by simpa using J
   exact zk 7 rfl (WP.ret (hr _ i f hc J rfl))
  ·intro J
   refine zv (zj rfl (WP.skip (zr rfl (zb rfl (by exact bC (aB (by omega) (by omega))) ?_))))
   refine zm rfl (zv ?_)
   exact ih (i+1) h _ Q (by omega) hm s ⟨rfl,rfl,rfl,aa⟩ hr hx
def rW (m:List Fm): Nat:=(m.filter fun f=>f.gz).length
theorem B_ : ∀ {m:List Fm} {i:Nat},m[i]?=some f→f.gz=true→rW (m.set i { f with gz:=false })+1=rW m:=by
 intro m
 induction m with
 |nil=>intro i h;simp at h
 |cons g m J =>
  intro i h I
  cases i with
  |zero=>simp at h;subst h;simp[rW,I]
  |succ i =>
   rw[nh] at h
   have:=J h I
   simp only[rW,List.set_cons_succ,EV] at this ⊢
   split<;>(try simp only[bF])<;>omega
theorem D3 (hf:π.ai[π.hand]?=some f)(hm:π.ai.length<4294967296)(hp:f.pins=0)
 (s:Sat h (pt r (.cells 6 (qZ p q dg π.ai.length wh di π.hand) false)::fg dg π.ai::S))(hE:Has E [(0,.ptr r 0)])
 (hr:f.gz=false→∀E' h',look E' 2=some (.int .i64 (π.hand:Int))→Sat h' (pt r (.cells 6 (qZ p q dg π.ai.length wh di ((π.hand+1)%π.ai.length)) false)::fg dg π.ai::S)→Q .ret E' h')
 (hx:f.gz=true→∀E' h',Has E' [(0,.ptr r 0)]→Sat h' (pt r (.cells 6 (qZ p q dg (π.ai.set π.hand { f with gz:=false }).length wh di ((π.hand+1)%π.ai.length)) false)::fg dg (π.ai.set π.hand { f with gz:=false })::S)→WP ⟨Tryz.prog,told⟩ 70 (.loop ZQ) E' h' Q):
  WP ⟨Tryz.prog,told⟩ 70 (.loop ZQ) E h Q:=by
 have hl:=(List.getElem?_eq_some_iff.1 hf).1
 refine WP.loop (WP.has hE (WP.block (zK 4 rfl (zY s 0 Fs dN rfl (zk 6 rfl (zY s 0 kR pL rfl (zm rfl (zo rfl (cK rfl rfl (mU (i:=π.hand) hl)) (zk 3 rfl (WP.drawn [ah,ah,ah,ah,ah,ah,ah,ah,ah,ah,ah,ah,ah,ah,ah] rfl (by kernel_rfl) (by kernel_rfl) ?_))))))))))
 refine zM rfl (zM rfl (zN rfl (zF rfl (Fs _ _) (zL rfl (s.ld (k:=0) rfl dN rfl) (zO rfl (aA rfl rfl (by exact bC (aB (by omega) (by omega)))) ?_)))))
 refine zM rfl (zN rfl (zF rfl (kR _ _) (zL rfl (s.ld (k:=0) rfl pL rfl) (zO rfl (aN rfl rfl rfl (qx rfl Av)) (zO rfl (aA rfl rfl (CH (a:=π.hand+1) (by omega))) ?_)))))
 refine zN rfl (zF rfl (Fs _ _) (ay.ij rfl rfl rfl (OpR.eA rfl rfl rfl (s.eH (k:=0) rfl jF rfl (by decide) rfl rfl)) ?_))
 rintro v h ⟨rfl,s⟩
 have s:Sat h (pt r (.cells 6 (qZ p q dg π.ai.length wh di ((π.hand+1)%π.ai.length)) false)::fg dg π.ai::S):=s
 refine ay.nil ⟨⟨aa,aa,aa,aa,aa,aa,aa,aa,aa,aa,aa,aa,aa,aa,aa,aa⟩,?_⟩
 obtain⟨pre,fv,post,I,hlen,s⟩:=jL (s.ae [1]) hf
 refine zw (WP.block (zK 4 rfl (zf rfl (rT _ _) (zl rfl (s.ld (k:=0) rfl dN (js I rfl)) (zC rfl gA (by rw[hp];decide) ?_)))))
 refine zk 7 rfl (zf rfl (Ft _ _) (zl rfl (s.ld (k:=0) rfl kZ (js I rfl)) (zk 2 rfl ?_)))
 have Ml:f.gz=false∨f.gz=true:=by cases f.gz<;>simp
 rcases Ml with J|J
 ·refine WP.Vv rfl (J) ?_
  refine zK 5 rfl (WP.ret (hr J _ _ rfl ?_))
  have s:=kn.2 ⟨_,s.ae [0,0]⟩
  exact(s.del 1).ae [1,0]
 ·skip
  refine WP.NJ rfl (J) (zK 3 rfl (zf rfl (Ft _ _) (zS rfl (s.stM (k:=0) (j:=3) rfl yX I hlen (by simp[gX]) rfl rfl) ?_)))
  intro h s
  have e5:(gX f fv).set 3 (.bool false)=gX { f with gz:=false } fv:=rfl
  rw[e5] at s
  refine zv (WP.exit (hx J _ _ ⟨rfl,aa⟩ ?_))
  have s:=ie (i:=π.hand) (f':={ f with gz:=false }) s rfl hf I
  rw[dJ]
  exact s.ae [1,0]
theorem KZ : ∀(fuel:Nat) (π:Pl) (h:H) (E:List (Nat×V)) (Q:Ex→List (Nat×V)→H→Prop),rW π.ai≤fuel→π.hand<π.ai.length→π.ai.length<4294967296→(∀f∈π.ai,f.pins=0) →
  Sat h (pt r (.cells 6 (qZ p q dg π.ai.length wh di π.hand) false)::fg dg π.ai::S)→Has E [(0,.ptr r 0)] →
  (∀E' h' (i:Nat) (bR:Pl) (f:Fm),f_ π bR→bR.ai[i]?=some f→bR.hand<bR.ai.length→look E' 2=some (.int .i64 (i:Int))→Sat h' (pt r (.cells 6 (qZ p q dg bR.ai.length wh di bR.hand) false)::fg dg bR.ai::S)→Q .ret E' h') →
  WP ⟨Tryz.prog,told⟩ 70 (.loop ZQ) E h Q:=by
 intro fuel
 induction fuel with
 |zero =>
  intro π h E Q ht J hm hp s hE hr
  have I:π.ai[π.hand]?=some (π.ai[π.hand]'J):=bx _
  generalize (π.ai[π.hand]'J)=f at I
  refine D3 I hm (hp f (bD I)) s hE (fun h1 E' h' h2 s' => ?_) (fun h1 => ?_)
  ·exact hr E' h' π.hand { π with hand:=(π.hand+1)%π.ai.length } f f_.hand I (Bh _ (by omega)) h2 s'
  ·have:=B_ I h1
   omega
 |succ fuel ih =>
  intro π h E Q ht J hm hp s hE hr
  have I:π.ai[π.hand]?=some (π.ai[π.hand]'J):=bx _
  generalize (π.ai[π.hand]'J)=f at I
  refine D3 I hm (hp f (bD I)) s hE (fun h1 E' h' h2 s' => ?_) (fun h1 E' h' jx s' => ?_)
  ·exact hr E' h' π.hand { π with hand:=(π.hand+1)%π.ai.length } f f_.hand I (Bh _ (by omega)) h2 s'
  ·have vl:=B_ I h1
   have hn:f_ π { π with ai:=π.ai.set π.hand { f with gz:=false },hand:=(π.hand+1)%π.ai.length }:=(f_.Xs I).trans f_.hand
   refine ih { π with ai:=π.ai.set π.hand { f with gz:=false },hand:=(π.hand+1)%π.ai.length } h' E' Q (by show rW (π.ai.set π.hand { f with gz:=false })≤fuel;omega) ?_ (by simp only[dJ];exact hm) (fun g hg => ?_) s' jx (fun E2 h2 i bR g Yx hg VR hl s2=>hr E2 h2 i bR g (hn.trans Yx) hg VR hl s2)
   ·simp only[dJ];exact Bh _ (by omega)
   ·rcases qb hg with hg|rfl
    ·exact hp g hg
    ·exact hp f (bD I)
theorem TA (hT:W told)(s:Sat h (pt r (.cells 6 (qZ p q dg π.ai.length wh di π.hand) false)::fg dg π.ai::S))(hh:π.hand<π.ai.length)(hm:π.ai.length<4294967296)(hp:∀f∈π.ai,f.pins=0):
  Call ⟨Tryz.prog,told⟩ 122 [.ptr r 0] h fun v h'=>∃(i:Nat) (bR:Pl) (f:Fm),v=.int .i64 (i:Int)∧f_ π bR∧bR.ai[i]?=some f∧bR.hand<bR.ai.length ∧
   Sat h' (pt r (.cells 6 (qZ p q dg bR.ai.length wh di bR.hand) false)::fg dg bR.ai::S):=by
 have I:π.ai[0]?=some (π.ai[0]'(by omega)):=bx _
 generalize (π.ai[0]'(by omega))=f0 at I
 have s0:=s
 refine Call.of_wp (hT.free _ rfl) Tryz.func122 rfl rfl (zK 4 rfl (WP.scope (zK 5 rfl (zY s 0 kR pL rfl (zo rfl (aN rfl rfl rfl (qx rfl Av)) (zk 2 rfl (WP.block ?_)))))))
 refine KY π.ai.length 0 _ _ _ (by omega) hm s ⟨rfl,rfl,rfl,aa⟩ (fun E' i f J _ h2 => ?_) (fun E' jx => ?_)
 ·exact⟨aa,_,pO h2,i,π,f,rfl,f_.refl π,J,hh,s⟩
 ·skip
  refine WP.has jx (zK 5 rfl (zY s 0 kR pL rfl (zc rfl (KX hT (s.ae [1]) I (hp f0 (bD I))) ?_)))
  rintro w h ⟨rfl,s⟩
  refine zo rfl (er rfl rfl) (zk 4 rfl (WP.label (WP.block ?_)))
  refine KZ (rW π.ai) π _ _ _ (aU _) hh hm hp (s.ae [1,0]) ⟨rfl,aa⟩ (fun E' h' i bR f hn J VR h2 s' => ?_)
  exact⟨aa,_,pO h2,i,bR,f,rfl,hn,J,VR,s'⟩
end
structure Pl.Ok (π:Pl): Prop where
 hand:π.hand<π.ai.length
 many:π.ai.length≤1024
 aH:∀e∈π.aH,0≤e.2∧e.2<π.ai.length
 len:∀f∈π.ai,f.b.length≤512
 pins:∀f∈π.ai,0≤f.pins∧f.pins≤4294967296
theorem Pl.Ok.at (h:π.Ok){n i:Int}(I:lookL n π.aH=some i): ∃(k:Nat) (f:Fm),i=k∧π.ai[k]?=some f:=by
 have J:=h.aH _ (fJ I)
 exact⟨i.toNat,π.ai[i.toNat]'(by omega),by omega,bx _⟩
def heldI (π:Pl)(n:Int): Option Nat:=match lookL n π.aH with
 |none=>none
 |some i=>match π.ai[i.toNat]? with
  |none=>none
  |some f=>if f.pins=0 then none else some i.toNat
def unpinF (π:Pl)(n:Int): Int×Pl:=match heldI π n with
 |none=>(18,π)
 |some i=>match π.ai[i]? with
  |none=>(18,π)
  |some f=>(0,{ π with ai:=π.ai.set i { f with pins:=f.pins-1 } })
def dirtOf (π:Pl)(n:Int)(aO:Nat): Nat:=match lookL n π.br with
 |some x=>x.1
 |none=>aO
def lK (π:Pl)(n:Int)(b:List Nat)(aO:Nat): Int×Pl:=match heldI π n with
 |none=>(18,π)
 |some i=>match π.ai[i]? with
  |none=>(18,π)
  |some f=>if bW b=false then(4,π) else(0,{ π with ai:=π.ai.set i { f with b:=cW b aO,changed:=true },br:=cD n (dirtOf π n aO,true) π.br })
def eW (ε:aX)(n:Int): Int×aX:=match lookL n ε.1.aH with
 |none=>(18,ε)
 |some i=>outF ε i.toNat
section
variable {told:cR} {p:Nat} {v:V} {m:List Fm}
theorem FE {n:Int}{j:Nat}(s:Sat h (I7 wh π.aH::S)): (lookL n π.aH=none∧fR Tryz.prog h 186 wh (.int .i64 n) true=some (.bf [.int .i64 0,.bool false])) ∨
  ∃i,lookL n π.aH=some i∧fR Tryz.prog h 186 wh (.int .i64 n) true=some (.bf [.int .i64 i,.bool true]):=by
 grind[mK,aV.pu,Tryz.underlying186,Tryz.underlying3,uO,eS]
theorem Mm {n:Int}(s:Sat h (D2 di π.br::S)): (lookL n π.br=none∧fR Tryz.prog h 187 di (.int .i64 n) true=some (.bf [.agg [.int .u64 0,.bool false],.bool false])∧fR Tryz.prog h 187 di (.int .i64 n) false=some (.agg [.int .u64 0,.bool false])) ∨
  ∃x,lookL n π.br=some x∧fR Tryz.prog h 187 di (.int .i64 n) true=some (.bf [.agg [.int .u64 (x.1:Int),.bool x.2],.bool true])∧fR Tryz.prog h 187 di (.int .i64 n) false=some (.agg [.int .u64 (x.1:Int),.bool x.2]):=by
 grind[mK,aV.pu,Tryz.underlying187,Tryz.underlying3,ya,eS]
theorem Mn (hT:W told){n:Int}(s:Sat h (pt r (.cells 6 (qZ p q dg π.ai.length wh di π.hand) false)::fg dg π.ai::I7 wh π.aH::S))(J:π.Ok):
  Call ⟨Tryz.prog,told⟩ 126 [.ptr r 0,.int .i64 n] h fun v h'=>h'=h∧((heldI π n=none∧v=.bf [.b_,.int .i64 18])∨∃(i:Nat) (f:Fm),heldI π n=some i∧π.ai[i]?=some f∧v=.bf [.ptr dg (i*5),.int .i64 0]):=by
 refine Call.of_wp (hT.free _ rfl) Tryz.func126 rfl rfl (zK 9 rfl (zY s 0 rR xZ rfl (zm rfl ?_)))
 rcases FE (n:=n) (j:=0) (s.ae [2]) with⟨g1,g2⟩|⟨i,g1,g2⟩
 ·refine ax.op rfl rfl rfl (iL rfl rfl g2) ?_
  exact zk 10 rfl (zt rfl (er rfl rfl) (rfl) (zk 18 rfl (WP.ret ⟨aa,_,rfl,rfl,.inl ⟨by simp only[heldI,g1],rfl⟩⟩)))
 ·obtain⟨i,f,rfl,hf⟩:=J.at g1
  have hl:=(List.getElem?_eq_some_iff.1 hf).1
  have hh:heldI π n=if f.pins=0 then none else some i:=by grind[heldI]
  obtain⟨pre,fv,post,I,hlen,s'⟩:=jL (s.ae [1]) hf
  refine zo rfl (iL rfl rfl g2) (zk 10 rfl (zh rfl (er rfl rfl) (rfl) (zk 3 rfl (zY s 0 kR pL rfl (zm rfl (zo rfl (cK rfl rfl (mU (i:=i) hl)) (zf rfl (rT _ _) (zl rfl (s'.ld (k:=0) rfl dN (js I rfl)) ?_))))))))
  refine zd rfl (aA rfl rfl eu) ?_ ?_
  ·intro hq
   have hq:f.pins=0:=by grind
   exact zk 8 rfl (WP.ret ⟨aa,_,rfl,rfl,.inl ⟨by grind,rfl⟩⟩)
  ·intro hq
   have hq:f.pins≠0:=by grind
   exact zk 8 rfl (zY s 0 kR pL rfl (zm rfl (zo rfl (cK rfl rfl (mU (i:=i) hl)) (zk 3 rfl (WP.ret ⟨aa,_,rfl,rfl,.inr ⟨i,f,by grind,hf,rfl⟩⟩)))))
theorem I9 (hT:W told){n:Int}(s:Sat h (dO r p q π::S))(J:π.Ok):
  Call ⟨Tryz.prog,told⟩ 65 [.ptr r 0,.int .i64 n] h fun v h'=>v=.int .i64 (unpinF π n).1∧Sat h' (dO r p q (unpinF π n).2::S):=by
 have s0:=s
 obtain⟨dg,wh,di,s⟩:=d_.1 s
 refine Call.of_wp (hT.free _ rfl) Tryz.func65 rfl rfl (zK 8 rfl (zc rfl (Mn (n:=n) hT s J) ?_))
 rintro v h' ⟨rfl,(⟨hh,rfl⟩|⟨i,f,hh,hf,rfl⟩)⟩
 ·have he:unpinF π n=(18,π):=by simp only[unpinF,hh]
  rw[he]
  exact zk 10 rfl (zB rfl aE (rfl) (zk 7 rfl (WP.ret ⟨aa,_,rfl,rfl,s0⟩)))
 ·have he:unpinF π n=(0,{ π with ai:=π.ai.set i { f with pins:=f.pins-1 } }):=by simp only[unpinF,hh,hf]
  rw[he]
  obtain⟨pre,fv,post,I,hlen,s⟩:=jL (s.ae [1]) hf
  have TB:=J.pins f (bD hf)
  refine zk 10 rfl (zC rfl aE (rfl) (zk 7 rfl (zf rfl (rT _ _) (zl rfl (s.ld (k:=0) rfl dN (js I rfl)) (zb rfl (by exact iM (aB (by omega) (by omega))) ?_)))))
  refine zn rfl (zf rfl (rT _ _) (zS rfl (s.stM (k:=0) (j:=2) rfl jF I hlen (by simp[gX]) rfl rfl) ?_))
  intro h s
  have e5:(gX f fv).set 2 (.int .i64 (f.pins-1))=gX { f with pins:=f.pins-1 } fv:=rfl
  rw[e5] at s
  refine zk 5 rfl (WP.ret ⟨aa,_,rfl,?_⟩)
  refine⟨rfl,d_.2 ⟨dg,wh,di,?_⟩⟩
  have s:=ie (i:=i) (f':={ f with pins:=f.pins-1 }) s rfl hf I
  rw[dJ]
  exact s.ae [1,0]
theorem Xt (J:W told){n:Int}(s:Sat h (dO r p q π::X::S))(hX:cL X (cQ bv b))(TC:π.Ok)(hb:b.length<9223372036854775808):
  Call ⟨Tryz.prog,told⟩ 64 [.ptr r 0,.int .i64 n,bv,.int .u64 (aO:Int)] h fun v h'=>v=.int .i64 (lK π n b aO).1∧Sat h' (dO r p q (lK π n b aO).2::X::S):=by
 have s0:=s
 obtain⟨dg,wh,di,s⟩:=d_.1 s
 refine Call.of_wp (J.free _ rfl) Tryz.func64 rfl rfl (zK 8 rfl (zc rfl (Mn (n:=n) J s TC) ?_))
 rintro v h' ⟨rfl,(⟨hh,rfl⟩|⟨i,f,hh,hf,rfl⟩)⟩
 ·have he:lK π n b aO=(18,π):=by simp only[lK,hh]
  rw[he]
  exact zk 10 rfl (zB rfl aE (rfl) (zk 7 rfl (WP.ret ⟨aa,_,rfl,rfl,s0⟩)))
 ·have he:lK π n b aO=(if bW b=false then(4,π) else(0,{ π with ai:=π.ai.set i { f with b:=cW b aO,changed:=true },br:=cD n (dirtOf π n aO,true) π.br })):=by simp only[lK,hh,hf]
  rw[he]
  refine zk 10 rfl (zC rfl aE (rfl) (zk 7 rfl (zc rfl (Mg (n:=aO) J (s.ae [4]) hX hb) ?_)))
  rintro v h (⟨hg,u,rfl,s⟩|⟨hg,rfl,s⟩)
  ·rw[ak (by grind)]
   have QD:(cW b aO).length=512:=by
    grind[yj,eB,cW,c9,dL]
   obtain⟨lq,_,cap,_,rfl,_⟩:=s.gq (by omega)
   have s:=s.ga
   obtain⟨pre,fv,post,I,hlen,s⟩:=jL (s.ae [3]) hf
   refine zk 10 rfl (zC rfl aE (rfl) (zk 9 rfl (zf rfl (BA _ _) (zS rfl (s.stM (k:=0) (j:=1) rfl gU I hlen (by simp[gX]) rfl rfl) ?_))))
   intro h s
   refine zn rfl (zf rfl (Fu _ _) (zS rfl (s.stM (k:=0) (j:=4) rfl yX I (by grind) (by simp[gX]) rfl rfl) ?_))
   intro h s
   have e5:((gX f fv).set 1 (.sl lq 0 (cW b aO).length cap)).set 4 (.bool true)=gX { f with b:=cW b aO,changed:=true } (.sl lq 0 (cW b aO).length cap):=rfl
   rw[e5] at s
   have s:=ie (i:=i) (f':={ f with b:=cW b aO,changed:=true }) (s.ae [0,0,1]) rfl hf I
   have s:=s.ae [3,4,0]
   refine zk 5 rfl (zY s 0 rS x_ rfl (zm rfl ?_))
   rcases Mm (n:=n) (s.ae [1]) with⟨g1,g2,_⟩|⟨x,g1,g2,_⟩
   ·refine ax.op rfl rfl rfl (iL rfl rfl g2) ?_
    refine zk 3 rfl ?_
    refine ax.cm s rfl rfl rfl (b6 ya) (fun uY h s => ?_)
    refine zS rfl (s.fS (j:=0) rfl vu rfl rfl) (fun h s => ?_)
    refine zk 6 rfl (zo rfl (er rfl rfl) (zk 4 rfl (zf rfl (Fv _ _) ?_)))
    refine zS rfl (by exact s.eH (k:=0) rfl vR rfl (by decide) rfl rfl) (fun h s => ?_)
    refine zk 3 rfl (zf rfl (Fw _ _) ?_)
    refine zS rfl (by exact s.eH (k:=0) rfl yX rfl (by decide) rfl rfl) (fun h s => ?_)
    refine zk 2 rfl (WP.drawn [ah,ah,ah,ah,ah,ah,ah] rfl (by kernel_rfl) (by kernel_rfl) ?_)
    refine zM rfl (zN rfl (zF rfl (rS _ _) (zL rfl (s.ld (k:=1) rfl x_ rfl) (zM rfl (zL rfl (s.dn (k:=0) rfl NN vu) (ay.ij rfl rfl rfl (OpR.mapUpdate rfl rfl rfl rfl (pS (f:=fun v (x:Nat×Bool)=>.pu (v=.agg [.int .u64 (x.1:Int),.bool x.2])) (x:=(aO,true)) (fun _ _=>aV.pu _) ((s.ae [2]).gD rfl) uU bT)) ?_))))))
    intro w h s
    refine ay.nil ⟨⟨aa,aa,aa,aa,aa,aa,aa,aa⟩,?_⟩
    refine zK 4 rfl (WP.ret ⟨aa,_,rfl,?_⟩)
    have ed:dirtOf π n aO=aO:=by simp only[dirtOf,g1]
    rw[ed]
    refine⟨rfl,d_.2 ⟨dg,wh,di,?_⟩⟩
    have e6:(π.ai.set i { f with b:=cW b aO,changed:=true }).length=π.ai.length:=dJ
    show Sat h (pt r (.cells 6 (qZ p q dg (π.ai.set i { f with b:=cW b aO,changed:=true }).length wh di π.hand) false)::_)
    rw[e6]
    exact((s.ae [2,2,4,0,2]).del 6).del 5
   ·skip
    refine zo rfl (iL rfl rfl g2) (zk 3 rfl ?_)
    refine ax.cm s rfl rfl rfl (b6 ya) (fun uY h s => ?_)
    refine zS rfl (s.fS (j:=0) rfl vu rfl rfl) (fun h s => ?_)
    refine zk 6 rfl (zo rfl (er rfl rfl) (zk 5 rfl (zf rfl (Fw _ _) ?_)))
    refine zS rfl (by exact s.eH (k:=0) rfl yX rfl (by decide) rfl rfl) (fun h s => ?_)
    refine zk 2 rfl (WP.drawn [ah,ah,ah,ah,ah,ah,ah] rfl (by kernel_rfl) (by kernel_rfl) ?_)
    refine zM rfl (zN rfl (zF rfl (rS _ _) (zL rfl (s.ld (k:=1) rfl x_ rfl) (zM rfl (zL rfl (s.dn (k:=0) rfl NN vu) (ay.ij rfl rfl rfl (OpR.mapUpdate rfl rfl rfl rfl (pS (f:=fun v (x:Nat×Bool)=>.pu (v=.agg [.int .u64 (x.1:Int),.bool x.2])) (x:=(x.1,true)) (fun _ _=>aV.pu _) ((s.ae [2]).gD rfl) uU bT)) ?_))))))
    intro w h s
    refine ay.nil ⟨⟨aa,aa,aa,aa,aa,aa,aa,aa⟩,?_⟩
    refine zK 4 rfl (WP.ret ⟨aa,_,rfl,?_⟩)
    have ed:dirtOf π n aO=x.1:=by simp only[dirtOf,g1]
    rw[ed]
    refine⟨rfl,d_.2 ⟨dg,wh,di,?_⟩⟩
    have e6:(π.ai.set i { f with b:=cW b aO,changed:=true }).length=π.ai.length:=dJ
    show Sat h (pt r (.cells 6 (qZ p q dg (π.ai.set i { f with b:=cW b aO,changed:=true }).length wh di π.hand) false)::_)
    rw[e6]
    exact((s.ae [2,2,4,0,2]).del 6).del 5
  ·rw[aP hg]
   exact zk 10 rfl (zB rfl aE (rfl) (zk 7 rfl (WP.ret ⟨aa,_,rfl,rfl,d_.2 ⟨dg,wh,di,s.ae [1,1,1,1,0]⟩⟩)))
theorem QE (hT:W told){n:Int}(s:Sat h (dO r p q π::b7 q p μ::aS p δ::S))(I:π.Ok)(J:μ.Ok)(oI:δ.Ok)(hw:δ.waiting.length≤268435456):
  Call ⟨Tryz.prog,told⟩ 144 [.ptr r 0,.int .i64 n] h fun v h'=>v=.int .i64 (eW (π,μ,δ) n).1 ∧
   Sat h' (dO r p q (eW (π,μ,δ) n).2.1::b7 q p (eW (π,μ,δ) n).2.2.1::aS p (eW (π,μ,δ) n).2.2.2::S):=by
 have s0:=s
 obtain⟨dg,wh,di,s⟩:=d_.1 s
 refine Call.of_wp (hT.free _ rfl) Tryz.func144 rfl rfl (zK 8 rfl (zY s 0 rR xZ rfl (zm rfl ?_)))
 rcases FE (n:=n) (j:=0) (s.ae [2]) with⟨g1,g2⟩|⟨i,g1,g2⟩
 ·have he:eW (π,μ,δ) n=(18,(π,μ,δ)):=by simp only[eW,g1]
  rw[he]
  exact zo rfl (iL rfl rfl g2) (zk 10 rfl (zo rfl (er rfl rfl) (zk 6 rfl (WP.ret ⟨aa,_,rfl,rfl,s0⟩))))
 ·obtain⟨i,f,rfl,hf⟩:=I.at g1
  have hl:=(List.getElem?_eq_some_iff.1 hf).1
  have he:eW (π,μ,δ) n=outF (π,μ,δ) i:=by grind[eW]
  rw[he]
  refine zo rfl (iL rfl rfl g2) (zk 10 rfl (zo rfl (er rfl rfl) (zk 8 rfl (zY s 0 kR pL rfl (zm rfl (zo rfl (cK rfl rfl (mU (i:=i) hl)) (zc rfl (QC hT s hf J oI (by have:=I.len f (bD hf);omega) hw) ?_)))))))
  rintro v h ⟨rfl,s⟩
  exact zk 2 rfl (WP.ret ⟨aa,_,rfl,rfl,d_.2 ⟨dg,wh,di,s⟩⟩)
theorem ZR (hT:W told){n:Int}(s:Sat h (dO r p q π::S)): Call ⟨Tryz.prog,told⟩ 114 [.ptr r 0,.int .i64 n] h fun v h'=>v=.bf [.int .u64 (dirtOf π n 0:Nat),.bool (lookL n π.br).isSome]∧Sat h' (dO r p q π::S):=by
 obtain⟨dg,wh,di,s⟩:=d_.1 s
 refine Call.of_wp (hT.free _ rfl) Tryz.func114 rfl rfl (zK 9 rfl (zY s 0 rS x_ rfl (zm rfl ?_)))
 rcases Mm (n:=n) (s.ae [3]) with⟨I,J,_⟩|⟨x,I,J,_⟩
 ·refine ax.op rfl rfl rfl (iL rfl rfl J) ?_
  refine zk 3 rfl ?_
  refine ax.cm s rfl rfl rfl (b6 ya) (fun p6 h s => ?_)
  refine zS rfl (s.fS (j:=0) rfl vu rfl rfl) (fun h s => ?_)
  exact zk 4 rfl (zY s 0 Fv mh rfl (zk 4 rfl (WP.ret ⟨aa,_,rfl,by simp only[dirtOf,I];rfl,d_.2 ⟨dg,wh,di,s.drop⟩⟩)))
 ·skip
  refine zo rfl (iL rfl rfl J) (zk 3 rfl ?_)
  refine ax.cm s rfl rfl rfl (b6 ya) (fun p6 h s => ?_)
  refine zS rfl (s.fS (j:=0) rfl vu rfl rfl) (fun h s => ?_)
  exact zk 4 rfl (zY s 0 Fv mh rfl (zk 4 rfl (WP.ret ⟨aa,_,rfl,by simp only[dirtOf,I];rfl,d_.2 ⟨dg,wh,di,s.drop⟩⟩)))
def fA : Fm:=⟨-1,[],0,false,false⟩
def dF (π:Pl)(i:Nat)(f:Fm): Pl:={ π with ai:=π.ai.set i fA,aH:=if f.aM<0 then π.aH else oU f.aM π.aH }
def jP (π:Pl)(i:Nat)(n:Int)(b:List Nat): Pl:={ π with ai:=π.ai.set i ⟨n,b,1,true,false⟩,aH:=cD n (i:Int) π.aH }
inductive fE (ε:aX)(n:Int): Int→List Nat→aX→Prop where
 |arg (h:¬(0≤n∧n<ε.2.2.aq.length)):fE ε n 1 [] ε
 |AE (i:Nat) (f:Fm) (h1:0≤n) (h2:n<ε.2.2.aq.length) (hl:lookL n ε.1.aH=some (i:Int)) (hf:ε.1.ai[i]?=some f):fE ε n 0 f.b ({ ε.1 with ai:=ε.1.ai.set i { f with gz:=true,pins:=f.pins+1 } },ε.2)
 |out (bR:Pl) (i:Nat) (f:Fm) (h1:0≤n) (h2:n<ε.2.2.aq.length) (hl:lookL n ε.1.aH=none) (hn:f_ ε.1 bR) (hf:bR.ai[i]?=some f) (hh:bR.hand<bR.ai.length) (he:(outF (bR,ε.2) i).1≠0):fE ε n (outF (bR,ε.2) i).1 [] (outF (bR,ε.2) i).2
 |read (bR:Pl) (i:Nat) (f:Fm) (h1:0≤n) (h2:n<ε.2.2.aq.length) (hl:lookL n ε.1.aH=none) (hn:f_ ε.1 bR) (hf:bR.ai[i]?=some f) (hh:bR.hand<bR.ai.length) (he:(outF (bR,ε.2) i).1=0)
   (hr:(outF (bR,ε.2) i).2.2.2.lV n≠0):fE ε n ((outF (bR,ε.2) i).2.2.2.lV n) [] (dF (outF (bR,ε.2) i).2.1 i f,(outF (bR,ε.2) i).2.2)
 |bad (bR:Pl) (i:Nat) (f:Fm) (h1:0≤n) (h2:n<ε.2.2.aq.length) (hl:lookL n ε.1.aH=none) (hn:f_ ε.1 bR) (hf:bR.ai[i]?=some f) (hh:bR.hand<bR.ai.length) (he:(outF (bR,ε.2) i).1=0)
   (hr:(outF (bR,ε.2) i).2.2.2.lV n=0) (hc:h_ ((outF (bR,ε.2) i).2.2.2.at n)≠0):fE ε n (h_ ((outF (bR,ε.2) i).2.2.2.at n)) [] (dF (outF (bR,ε.2) i).2.1 i f,(outF (bR,ε.2) i).2.2)
 |load (bR:Pl) (i:Nat) (f:Fm) (h1:0≤n) (h2:n<ε.2.2.aq.length) (hl:lookL n ε.1.aH=none) (hn:f_ ε.1 bR) (hf:bR.ai[i]?=some f) (hh:bR.hand<bR.ai.length) (he:(outF (bR,ε.2) i).1=0)
   (hr:(outF (bR,ε.2) i).2.2.2.lV n=0) (hc:h_ ((outF (bR,ε.2) i).2.2.2.at n)=0):fE ε n 0 ((outF (bR,ε.2) i).2.2.2.at n) (jP (dF (outF (bR,ε.2) i).2.1 i f) i n ((outF (bR,ε.2) i).2.2.2.at n),(outF (bR,ε.2) i).2.2)
theorem CI (h:ε.2.2.Ok): (outF ε i).2.2.2.Ok:=by
 unfold outF
 split
 ·exact h
 ·split
  ·exact h
  ·split
   ·exact h
   ·split
    ·exact oH h
    ·split
     ·exact(oH h).bz
     ·exact(oH h).bz
theorem TD (h:ε.2.1.Ok): (outF ε i).2.2.1.Ok:=by
 grind[outF,vU]
theorem oJ (I:ε.1.ai[i]?=some f): ∃c,(outF ε i).2.1.ai[i]?=some { f with changed:=c }:=by
 have J:=(List.getElem?_eq_some_iff.1 I).1
 unfold outF
 rw[I]
 dsimp only
 split
 ·exact⟨f.changed,I⟩
 ·split
  ·exact⟨f.changed,I⟩
  ·split
   ·exact⟨f.changed,I⟩
   ·split
    ·exact⟨f.changed,I⟩
    simp_all
theorem QF (hT:W told){n:Int}(s:Sat h (dO r p q π::b7 q p μ::aS p δ::S))(TC:π.Ok)(TB:∀f∈π.ai,f.pins=0)(FD:μ.Ok)(oI:δ.Ok)(hw:δ.waiting.length≤268435456):
  Call ⟨Tryz.prog,told⟩ 63 [.ptr r 0,.int .i64 n] h fun v h'=>∃(e:Int) (b:List Nat) (ε:aX),fE (π,μ,δ) n e b ε ∧
   ((e≠0∧v=.bf [.a_,.int .i64 e]∧Sat h' (dO r p q ε.1::b7 q p ε.2.1::aS p ε.2.2::S))∨(e=0∧∃u,v=.bf [u,.int .i64 0]∧Sat h' (aQ u b::dO r p q ε.1::b7 q p ε.2.1::aS p ε.2.2::S))):=by
 have s0:=s
 obtain⟨dg,wh,di,s⟩:=d_.1 s
 refine Call.of_wp (hT.free _ rfl) Tryz.func63 rfl rfl (zK 9 rfl ?_)
 refine zd rfl (aA rfl rfl bh) ?_ ?_
 ·intro hq
  have hq:n<0:=by grind
  exact zk 16 rfl (WP.ret ⟨aa,_,rfl,1,[],(π,μ,δ),.arg (fun q=>by omega),.inl ⟨by decide,rfl,s0⟩⟩)
 ·intro hq
  have hq:0≤n:=by grind
  refine zk 4 rfl (zY s 0 w_ pP rfl (zc rfl (yg hT (s.ae [5])) ?_))
  rintro v h' ⟨rfl,rfl⟩
  refine zd rfl (aA rfl rfl oa) ?_ ?_
  ·intro jM
   have jM:¬ n<δ.aq.length:=by grind
   exact zk 8 rfl (WP.ret ⟨aa,_,rfl,1,[],(π,μ,δ),.arg (fun q=>jM q.2),.inl ⟨by decide,rfl,s0⟩⟩)
  ·intro jM
   have jM:n<δ.aq.length:=by grind
   refine zk 9 rfl (zY s 0 rR xZ rfl (zm rfl ?_))
   rcases FE (n:=n) (j:=0) (s.ae [2]) with⟨g1,g2⟩|⟨i,g1,g2⟩
   ·refine ax.op rfl rfl rfl (iL rfl rfl g2) ?_
    refine zk 15 rfl (zc rfl (TA hT s TC.hand (by have:=TC.many;omega) TB) ?_)
    rintro v h ⟨i,bR,f,rfl,q_,hf,hh,s⟩
    have hl:=(List.getElem?_eq_some_iff.1 hf).1
    rw[←q_.aH,←q_.br] at s
    have hfb:f.b.length≤512:=by
     have h1:π.ai[i]?=some (π.ai[i]'(by have:=q_.len;omega)):=bx _
     generalize (π.ai[i]'(by grind))=f0 at h1
     obtain⟨t,ht⟩:=q_.get i f0 h1
     rw[hf] at ht
     have:=cA ht
     rw[this]
     exact TC.len f0 (bD h1)
    refine zk 6 rfl (zC rfl bh (by rfl) ?_)
    refine zk 7 rfl (zY s 0 kR pL rfl (zm rfl (zo rfl (cK rfl rfl (mU (i:=i) hl)) (zk 7 rfl (zc rfl (QC (π:=bR) hT s hf FD oI (by omega) hw) ?_)))))
    rintro v h ⟨rfl,s⟩
    obtain⟨c,Ca⟩:=oJ (ε:=(bR,μ,δ)) hf
    have FF:=CI (ε:=(bR,μ,δ)) (i:=i) oI
    refine zk 5 rfl ?_
    by_cases he:(outF (bR,μ,δ) i).1=0
    ·generalize ho:outF (bR,μ,δ) i=o at he s Ca FF ⊢
     obtain⟨oe,I,μ1,AF⟩:=o
     dsimp only at he s Ca FF ⊢
     subst he
     have Mp:(outF (bR,μ,δ) i).1=0:=by rw[ho]
     have GJ:(outF (bR,μ,δ) i).2=(I,μ1,AF):=by rw[ho]
     refine zC rfl aE (by decide) ?_
     obtain⟨pre,fv,post,J,hlen,s⟩:=jL (s.ae [1]) Ca
     refine zk 8 rfl (zf rfl (qu _ _) (zl rfl (s.ld (k:=0) rfl dN (js J rfl)) ?_))
     refine zd rfl (aA rfl rfl oa) ?_ ?_
     ·intro nN
      have nN:¬ f.aM<0:=by grind
      refine zk 2 rfl (WP.drawn [ah,ah,ah,ah,ah,ah,ah,ah,ah] rfl (by kernel_rfl) (by kernel_rfl) ?_)
      refine zM rfl (zN rfl (zF rfl (rR _ _) (zL rfl (s.ld (k:=3) rfl xZ rfl) (zM rfl (zN rfl (zF rfl (qu _ _) (zL rfl (s.ld (k:=0) rfl dN (js J rfl)) (ay.ij rfl rfl rfl (OpR.delete rfl rfl rfl rfl (Tm (s.ae [4]) DR bT)) ?_))))))))
      intro v h s
      have s:=s.ae [1,1,1,1,0]
      refine ay.nil ⟨⟨aa,aa,aa,aa,aa,aa,aa,aa,aa,aa⟩,?_⟩
      refine zK 3 rfl (zo rfl (cT rfl (by rw[HQ];rfl)) ?_)
      refine zn rfl (zS rfl (s.I8 (k:=0) (row':=gX fA .a_) rfl DJ J hlen (by rfl) rfl) ?_)
      intro h s
      have Oc:(pre++(gX fA .a_++post)).length=I.ai.length*5:=by simpa[gX] using hlen
      have pn:(dF I i f).aH=oU f.aM I.aH:=by grind[dF]
      refine zk 5 rfl (zY s 3 w_ pP rfl (zm rfl (zc rfl (QB (n:=n) hT (s.ae [7]) FF) ?_)))
      rintro v h (⟨hr,rfl,s⟩|⟨hr,u,rfl,s⟩)
      ·dsimp only[bringA,getA,aI] at s
       refine zk 10 rfl (zB rfl aE (by grind) ?_)
       refine zk 8 rfl (WP.ret ⟨aa,_,rfl,?_⟩)
       have s:=ie (i:=i) (f':=fA) (v':=.a_) (s.sy.ae [2,2,0]) rfl Ca J
       have e6:(I.ai.set i fA).length=I.ai.length:=dJ
       rw[←e6,←pn] at s
       have s:=(d_ (π:=dF I i f)).2 ⟨dg,wh,di,s.ae [3,0,2,2]⟩
       have hR:=fE.read (ε:=(π,μ,δ)) bR i f hq jM g1 q_ hf hh Mp (by grind)
       rw[GJ] at hR
       exact⟨_,[],_,hR,.inl ⟨hr,rfl,(s.del 2).ae [0,1,0]⟩⟩
      ·have abu:=FF.at n
       obtain⟨lq,_,cap,_,rfl,_⟩:=s.gq (by omega)
       refine zk 10 rfl (zC rfl aE (rfl) (zk 7 rfl (zc rfl (I2 hT s (bk _ _) (by omega)) ?_)))
       rintro v h ⟨rfl,s⟩
       refine zk 5 rfl ?_
       by_cases hc:h_ (AF.at n)=0
       ·skip
        refine zC rfl aE (by grind) ?_
        have s:=s.ga.ae [2,2,0,2,2,2,2,0,0]
        refine zk 8 rfl (zo rfl (cT rfl (by rw[HQ];rfl)) ?_)
        refine zn rfl (zS rfl (s.I8 (k:=0) (row':=gX ⟨n,AF.at n,1,true,false⟩ (.sl lq 0 (AF.at n).length cap)) rfl DJ J Oc (by rfl) rfl) ?_)
        intro h s
        refine zk 5 rfl (zY s 3 rR xZ rfl (zk 2 rfl (ax.ij rfl rfl (OpR.mapUpdate rfl rfl rfl rfl (pS (f:=fun v (x:Int)=>.pu (v=.int .i64 x)) (x:=(i:Int)) (fun _ _=>aV.pu _) ((s.ae [4]).gD rfl) DR bT)) ?_)))
        intro w h s
        refine zk 4 rfl (zc rfl (yf hT (s.ae [3]) (c8 _ _) (by omega)) ?_)
        intro u h s
        refine zk 3 rfl (WP.ret ⟨aa,_,rfl,?_⟩)
        have s:=ie (i:=i) (f':=⟨n,AF.at n,1,true,false⟩) (s.ae [3,3,1]) rfl Ca J
        have e6:(I.ai.set i ⟨n,AF.at n,1,true,false⟩).length=I.ai.length:=dJ
        have e7:(jP (dF I i f) i n (AF.at n)).ai=I.ai.set i ⟨n,AF.at n,1,true,false⟩:=by simp[jP,dF]
        rw[←e6,←e7,←pn] at s
        have s:=(d_ (π:=jP (dF I i f) i n (AF.at n))).2 ⟨dg,wh,di,s.ae [3,0,1,1]⟩
        have hR:=fE.load (ε:=(π,μ,δ)) bR i f hq jM g1 q_ hf hh Mp (by grind) (by grind)
        rw[GJ] at hR
        exact⟨_,_,_,hR,.inr ⟨rfl,u,rfl,(s.del 4).ae [1,0]⟩⟩
       ·skip
        refine zB rfl aE (by grind) ?_
        refine zk 8 rfl (WP.ret ⟨aa,_,rfl,?_⟩)
        have s:=s.drop
        have s:=ie (i:=i) (f':=fA) (v':=.a_) (s.sy.ae [2,2,0]) rfl Ca J
        dsimp only[bringA,getA,aI] at s
        have e6:(I.ai.set i fA).length=I.ai.length:=dJ
        rw[←e6,←pn] at s
        have s:=(d_ (π:=dF I i f)).2 ⟨dg,wh,di,s.ae [3,0,2,2]⟩
        dsimp only[bringA,getA,aI] at s
        have hR:=fE.bad (ε:=(π,μ,δ)) bR i f hq jM g1 q_ hf hh Mp (by grind) (by grind)
        rw[GJ] at hR
        exact⟨_,[],_,hR,.inl ⟨hc,rfl,(s.del 2).ae [0,1,0]⟩⟩
     ·intro nN
      have nN:f.aM<0:=by grind
      refine zk 6 rfl (zo rfl (cT rfl (by rw[HQ];rfl)) ?_)
      refine zn rfl (zS rfl (s.I8 (k:=0) (row':=gX fA .a_) rfl DJ J hlen (by rfl) rfl) ?_)
      intro h s
      dsimp only[setA] at s
      have Oc:(pre++(gX fA .a_++post)).length=I.ai.length*5:=by simpa[gX] using hlen
      have pn:(dF I i f).aH=I.aH:=by grind[dF]
      refine zk 5 rfl (zY s 3 w_ pP rfl (zm rfl (zc rfl (QB (n:=n) hT (s.ae [7]) FF) ?_)))
      rintro v h (⟨hr,rfl,s⟩|⟨hr,u,rfl,s⟩)
      ·dsimp only[bringA,getA,aI] at s
       refine zk 10 rfl (zB rfl aE (by grind) ?_)
       refine zk 8 rfl (WP.ret ⟨aa,_,rfl,?_⟩)
       have s:=ie (i:=i) (f':=fA) (v':=.a_) (s.sy.ae [2,2,0]) rfl Ca J
       dsimp only[bringA,getA,aI] at s
       have e6:(I.ai.set i fA).length=I.ai.length:=dJ
       rw[←e6,←pn] at s
       have s:=(d_ (π:=dF I i f)).2 ⟨dg,wh,di,s.ae [3,0,2,2]⟩
       dsimp only[bringA,getA,aI] at s
       have hR:=fE.read (ε:=(π,μ,δ)) bR i f hq jM g1 q_ hf hh Mp (by grind)
       rw[GJ] at hR
       exact⟨_,[],_,hR,.inl ⟨hr,rfl,(s.del 2).ae [0,1,0]⟩⟩
      ·have abu:=FF.at n
       obtain⟨lq,_,cap,_,rfl,_⟩:=s.gq (by omega)
       refine zk 10 rfl (zC rfl aE (rfl) (zk 7 rfl (zc rfl (I2 hT s (bk _ _) (by omega)) ?_)))
       rintro v h ⟨rfl,s⟩
       refine zk 5 rfl ?_
       by_cases hc:h_ (AF.at n)=0
       ·skip
        refine zC rfl aE (by grind) ?_
        have s:=s.ga.ae [2,2,0,2,2,2,2,0,0]
        dsimp only[bringA,getA,aI] at s
        refine zk 8 rfl (zo rfl (cT rfl (by rw[HQ];rfl)) ?_)
        refine zn rfl (zS rfl (s.I8 (k:=0) (row':=gX ⟨n,AF.at n,1,true,false⟩ (.sl lq 0 (AF.at n).length cap)) rfl DJ J Oc (by rfl) rfl) ?_)
        intro h s
        dsimp only[setA] at s
        refine zk 5 rfl (zY s 3 rR xZ rfl (zk 2 rfl (ax.ij rfl rfl (OpR.mapUpdate rfl rfl rfl rfl (pS (f:=fun v (x:Int)=>.pu (v=.int .i64 x)) (x:=(i:Int)) (fun _ _=>aV.pu _) ((s.ae [4]).gD rfl) DR bT)) ?_)))
        intro w h s
        dsimp only[bringA,getA,aI] at s
        refine zk 4 rfl (zc rfl (yf hT (s.ae [3]) (c8 _ _) (by omega)) ?_)
        intro u h s
        dsimp only[bringA,getA,aI] at s
        refine zk 3 rfl (WP.ret ⟨aa,_,rfl,?_⟩)
        have s:=ie (i:=i) (f':=⟨n,AF.at n,1,true,false⟩) (s.ae [3,3,1]) rfl Ca J
        dsimp only[bringA,getA,aI] at s
        have e6:(I.ai.set i ⟨n,AF.at n,1,true,false⟩).length=I.ai.length:=dJ
        have e7:(jP (dF I i f) i n (AF.at n)).ai=I.ai.set i ⟨n,AF.at n,1,true,false⟩:=by simp[jP,dF]
        rw[←e6,←e7,←pn] at s
        have s:=(d_ (π:=jP (dF I i f) i n (AF.at n))).2 ⟨dg,wh,di,s.ae [3,0,1,1]⟩
        dsimp only[bringA,getA,aI] at s
        have hR:=fE.load (ε:=(π,μ,δ)) bR i f hq jM g1 q_ hf hh Mp (by grind) (by grind)
        rw[GJ] at hR
        exact⟨_,_,_,hR,.inr ⟨rfl,u,rfl,(s.del 4).ae [1,0]⟩⟩
       ·skip
        refine zB rfl aE (by grind) ?_
        refine zk 8 rfl (WP.ret ⟨aa,_,rfl,?_⟩)
        have s:=s.drop
        have s:=ie (i:=i) (f':=fA) (v':=.a_) (s.sy.ae [2,2,0]) rfl Ca J
        dsimp only[bringA,getA,aI] at s
        have e6:(I.ai.set i fA).length=I.ai.length:=dJ
        rw[←e6,←pn] at s
        have s:=(d_ (π:=dF I i f)).2 ⟨dg,wh,di,s.ae [3,0,2,2]⟩
        dsimp only[bringA,getA,aI] at s
        have hR:=fE.bad (ε:=(π,μ,δ)) bR i f hq jM g1 q_ hf hh Mp (by grind) (by grind)
        rw[GJ] at hR
        exact⟨_,[],_,hR,.inl ⟨hc,rfl,(s.del 2).ae [0,1,0]⟩⟩
    ·skip
     refine zB rfl aE (by grind) ?_
     exact zk 8 rfl (WP.ret ⟨aa,_,rfl,_,[],_,.out bR i f hq jM g1 q_ hf hh he,.inl ⟨he,rfl,d_.2 ⟨dg,wh,di,s⟩⟩⟩)
   ·obtain⟨i,f,rfl,hf⟩:=TC.at g1
    have hl:=(List.getElem?_eq_some_iff.1 hf).1
    obtain⟨pre,fv,post,J,hlen,s⟩:=jL (s.ae [1]) hf
    have sF:=TB f (bD hf)
    have qP:=TC.len f (bD hf)
    refine zo rfl (iL rfl rfl g2) (zk 15 rfl (zY s 3 kR pL rfl (zm rfl (zo rfl (cK rfl rfl (mU (i:=i) hl)) (zk 6 rfl (zf rfl (Ft _ _) (zS rfl (s.stM (k:=0) (j:=3) rfl yX J hlen (by simp[gX]) rfl rfl) ?_)))))))
    intro h s
    dsimp only[setA] at s
    refine zk 5 rfl (zf rfl (rT _ _) (zl rfl (s.ld (k:=0) rfl dN (js J rfl)) (zb rfl (by exact bC (aB (by omega) (by omega))) ?_)))
    refine zn rfl (zf rfl (rT _ _) (zS rfl (s.stM (k:=0) (j:=2) rfl jF J (by grind) (by simp[gX]) rfl rfl) ?_))
    intro h s
    have e5:((gX f fv).set 3 (.bool true)).set 2 (.int .i64 (f.pins+1))=gX { f with gz:=true,pins:=f.pins+1 } fv:=rfl
    rw[e5] at s
    refine zk 5 rfl (zf rfl (BA _ _) (zl rfl (s.ld (k:=0) rfl bE (js J rfl)) (zc rfl (yf hT (s.ae [2]) (c8 _ _) (by omega)) ?_)))
    intro u h s
    refine zk 3 rfl (WP.ret ⟨aa,_,rfl,?_⟩)
    have s:=ie (i:=i) (f':={ f with gz:=true,pins:=f.pins+1 }) (s.ae [2,2,1]) rfl hf J
    refine⟨0,f.b,_,.AE i f hq jM g1 hf,.inr ⟨rfl,u,rfl,?_⟩⟩
    have e6:(π.ai.set i { f with gz:=true,pins:=f.pins+1 }).length=π.ai.length:=dJ
    rw[←e6] at s
    exact((d_ (π:={ π with ai:=π.ai.set i { f with gz:=true,pins:=f.pins+1 } })).2 ⟨dg,wh,di,s.ae [2,0,1,1]⟩).ae [1,0]
end
def D4 : Fm:=⟨0,[],0,false,false⟩
def Pl.fresh (n:Nat): Pl:=⟨List.replicate n fA,[],[],0⟩
theorem Xu : ∃i,Tryz.prog.info? 193=some i∧i.size=5∧i.bytes=48 :=
 ⟨_,(show Tryz.prog.info? 193=some ((Tryz.prog.info? 193).getD default) by kernel_rfl),by kernel_rfl,by kernel_rfl⟩
theorem TE {b:PM}: ∀n:Nat,(uX (repeatL [.int .i64 0,.a_,.int .i64 0,.bool false,.bool false] n) (List.replicate n D4)).p a b:=by
 intro n
 induction n with
 |zero=>trivial
 |succ n I=>exact⟨⟨⟨rfl,rfl,rfl,rfl⟩,⟨(by intro b J;cases J),.inl ⟨.inl rfl,rfl⟩⟩⟩,I⟩
section
variable {told:cR} {p:Nat} {v:V} {m:List Fm}
noncomputable def pnL : Code:=cN [1,1,1,0,1,0,0] ((Tryz.f81.body).getD .skip)
theorem QG (hn:n<4294967296): ∀(j i:Nat) (m:List Fm) (h:H) (E:List (Nat×V)) (Q:Ex→List (Nat×V)→H→Prop),i+j=n→m=List.replicate i fA++List.replicate j D4 →
  Sat h (pt r (.cells 6 (qZ p q dg n wh di 0) false)::fg dg m::S)→Has E [(8,.ptr r 0),(28,.int .i64 n),(29,.int .i64 i)] →
  (∀E' h',Has E' [(8,.ptr r 0)]→Sat h' (pt r (.cells 6 (qZ p q dg n wh di 0) false)::fg dg (List.replicate n fA)::S)→Q (.exit 0) E' h')→WP ⟨Tryz.prog,told⟩ 41 (.loop pnL) E h Q:=by
 intro j
 induction j with
 |zero =>
  intro i m h E Q hi hm s J hx
  refine WP.loop (WP.has J (zg rfl (zC rfl bh (by simp<;>omega) ?_)))
  refine zk 3 rfl (WP.exit (hx _ _ ⟨rfl,aa⟩ ?_))
  rw[hm] at s
  have:i=n:=by omega
  subst this
  simpa using s
 |succ j ih =>
  intro i m h E Q hi hm s J hx
  have xj:m.length=n:=by rw[hm];simp;omega
  have hf:m[i]?=some D4:=by rw[hm,rG (by simp)];simp[EK]
  obtain⟨pre,fv,post,I,hlen,s⟩:=jL (s.ae [1]) hf
  dsimp only[bringA,getA,aI] at s
  refine WP.loop (WP.has J (zg rfl (zB rfl bh (by simp<;>omega) ?_)))
  refine zk 5 rfl (WP.block (zK 8 rfl (zY s 3 kR pL rfl (zm rfl (zo rfl (cK rfl rfl (mU (i:=i) (by omega))) ?_)))))
  refine zf rfl (qu _ _) (zS rfl (s.stM (k:=0) (j:=0) rfl jF I hlen (by simp[gX]) rfl rfl) ?_)
  intro h s
  dsimp only[setA] at s
  have e5:(gX D4 fv).set 0 (.int .i64 (-1))=gX fA fv:=rfl
  rw[e5] at s
  refine zv (zr rfl (zb rfl (by exact bC (aB (by omega) (by omega))) ?_))
  refine zm rfl (zv ?_)
  have s:=ie (i:=i) (f':=fA) s rfl hf I
  refine ih (i+1) (m.set i fA) h _ Q (by omega) ?_ (s.ae [1,0]) ⟨rfl,rfl,rfl,aa⟩ hx
  rw[hm,EG _ _ (by simp),fN,wE,EK,List.set_cons_zero,List.replicate_succ',cP]
  rfl
theorem Mq (hT:W told){n:Int}(s:Sat h S): Call ⟨Tryz.prog,told⟩ 81 [.ptr p 0,.ptr q 0,.int .i64 n] h fun v h' =>
  (¬(1≤n∧n≤1024)∧v=.bf [.b_,.int .i64 1]∧Sat h' S)∨(1≤n∧n≤1024∧∃r,v=.bf [.ptr r 0,.int .i64 0]∧Sat h' (dO r p q (Pl.fresh n.toNat)::S)):=by
 refine Call.of_wp (hT.free _ rfl) Tryz.func81 rfl rfl (zK 9 rfl ?_)
 refine zd rfl (aA rfl rfl bh) ?_ ?_
 ·intro J
  have J:n<1:=by simpa using J
  exact zk 11 rfl (WP.ret ⟨aa,_,rfl,.inl ⟨fun q=>by omega,rfl,s⟩⟩)
 ·intro J
  have J:1≤n:=by simp at J;omega
  refine zk 2 rfl ?_
  refine zd rfl (aA rfl rfl gA) ?_ ?_
  ·intro I
   have I:1024<n:=by simpa using I
   exact zk 8 rfl (WP.ret ⟨aa,_,rfl,.inl ⟨fun q=>by omega,rfl,s⟩⟩)
  ·intro I
   have I:n≤1024:=by simp at I;omega
   obtain⟨n,rfl⟩:∃k:Nat,n=k:=⟨n.toNat,by omega⟩
   refine zk 9 rfl ?_
   obtain⟨i1,iu,gW,pz⟩:=Xu
   obtain⟨id,h1,e1,s1⟩:=Gs (P:=Tryz.prog) s Av iu abe gW (by omega) rfl (by decide) (n:=n) (by omega)
   refine ax.any rfl rfl rfl (OpR.of (R:=fun v h'=>v=.sl id 0 n (.exact n)∧h'=h1) (qT rfl rfl e1) ⟨rfl,rfl⟩) ?_
   rintro v h ⟨rfl,rfl⟩
   have s:Sat h (fg id (List.replicate n D4)::S):=kn.2 ⟨_,by rw[fN];exact((s1.gD (φ:=True) aa).gK fun a b _=>TE n).ae [1]⟩
   refine ax.Ai s rfl rfl rfl rfl (fun p20 h s => ?_)
   refine ax.Ai s rfl rfl rfl rfl (fun ZS h s => ?_)
   refine zo rfl (cT rfl (by rw[abc];rfl)) ?_
   refine ax.cm s rfl rfl rfl (fY rfl rfl) (fun p23 h s => ?_)
   refine zk 7 rfl (zY s 0 kR pL rfl (zo rfl (aN rfl rfl rfl (qx rfl Av)) (zk 2 rfl (WP.block ?_))))
   have s:=uT (f:=fun v (x:Nat×Bool)=>.pu (v=.agg [.int .u64 (x.1:Int),.bool x.2])) (s.ae [1])
   have s:=uT (f:=fun v (x:Int)=>.pu (v=.int .i64 x)) (s.ae [2])
   have s:=s.ae [2,2,0,0]
   refine QG (n:=n) (by omega) n 0 _ _ _ _ (by omega) rfl s ⟨rfl,rfl,rfl,aa⟩ (fun E' h' jx s' => ?_)
   refine WP.has jx (zK 6 rfl (WP.ret ⟨aa,_,rfl,?_⟩))
   refine .inr ⟨J,I,_,rfl,(d_ (π:=Pl.fresh n)).2 ⟨id,.map p20,.map ZS,?_⟩⟩
   have e6:(Pl.fresh n).ai.length=n:=by simp[Pl.fresh]
   rw[e6]
   exact s'
end
theorem QH : ∀ {l:cn} {b:Nat},fy c b l→bornUp c b (l.map eR)=true:=by
 intro l
 induction l with
 |nil=>intro b _;rfl
 |cons e l I =>
  intro b h
  obtain⟨J,h2,h3⟩:=h
  simp only[iE,eR,bornUp]
  rw[show(Nat.ble b e.2.2&&Nat.blt e.2.2 c)=true by rw[bQ,bg];exact⟨J,by rw[Nat.blt];exact bg.2 h2⟩,aj]
  exact I h3
theorem Od : ∀ {l:cn},(∀e∈l,(Lit.int .i64 e.1).wf=true)→keyInts (l.map eR)=some (l.map (·.1)):=by
 intro l
 induction l with
 |nil=>intro _;rfl
 |cons e l I =>
  intro h
  simp only[iE,eR,keyInts]
  rw[h e bZ,aj]
  have:=I (fun e he=>h e (b8 _ he))
  rw[this]
theorem K0 {x:Int}: ∀ {l:List Int},l.Pairwise (· < ·)→x∉l→(insI x l).Pairwise (· < ·):=by
 intro l
 induction l with
 |nil=>intro _ _;simp[insI]
 |cons y l ih =>
  intro h hx
  simp only[ua,kP,not_or] at h hx
  simp only[insI]
  by_cases J:x≤y
  ·rw[gn J,aj]
   have:x<y:=by omega
   simp only[ua,kP]
   refine⟨fun z I => ?_,h⟩
   rcases I with rfl|I
   ·exact this
   ·have:=h.1 z I;omega
  ·rw[gF J,aY]
   simp only[ua]
   refine⟨fun z I => ?_,ih h.2 hx.2⟩
   have:=(Ad x l).mem_iff.1 I
   rcases List.mem_cons.1 this with rfl|I
   ·omega
   ·exact h.1 z I
theorem K1 : ∀ {l:List Int},l.Nodup→(nG l).Pairwise (· < ·):=by
 intro l
 induction l with
 |nil=>intro _;exact List.Pairwise.nil
 |cons x l I =>
  intro h
  simp only[EZ] at h
  exact K0 (I h.2) (fun J=>h.1 ((eL l).mem_iff.1 J))
theorem TF : ∀ {l:List Int},l.Pairwise (· < ·)→sH l=true:=by
 intro l
 induction l with
 |nil=>intro _;rfl
 |cons x l I =>
  intro h
  simp only[ua] at h
  simp only[sH,bQ,ud,gE]
  exact⟨h.1,I h.2⟩
section
variable {f:V→α→aL} {told:cR} {mv:V} {m:List (Int×α)} {b:Nat}
theorem TG (I:W told)(s:Sat h S): Call ⟨Tryz.prog,told⟩ 143 [.map id] h fun v h'=>∃b,v=.fn (.func 174) [] [.ptr b 0]∧Sat h' (pt b (.cells 1 [.map id] false)::S):=by
 refine Call.of_wp (I.free _ rfl) Tryz.func143 rfl rfl (zg rfl ?_)
 refine ax.cm s rfl rfl rfl (fY rfl rfl) (fun p1 h s => ?_)
 exact zk 4 rfl (zo rfl (Bu rfl rfl) (zk 2 rfl (WP.ret ⟨aa,_,rfl,_,rfl,s⟩)))
def aF (m:List (Int×α)): List Int:=nG (m.map (·.1))
theorem fB {n:Int}: n∈aF m↔n∈m.map (·.1):=(eL _).mem_iff
theorem TH (l:List Int): (fL l).all storable=true:=by simp[fL,storable]
theorem sN (hT:W told)(s:Sat h (pt b (.cells 1 [mv] false)::jv f mv m::S))(hg:xE BB g=true)(hm:m.length≤1048576)(hk:∀n∈m.map (·.1),(Lit.int .i64 n).wf=true):
  Call ⟨Tryz.prog,told⟩ 61 [.fn (.func g) [] [.ptr b 0]] h fun v h'=>Sat h' (.arr 1 v (fL (aF m))::pt b (.cells 1 [mv] false)::jv f mv m::S):=by
 obtain⟨id,l,c,rfl,hb,hn,s1⟩:=eM.1 (s.ae [1])
 have s1:Sat h (gB id l c::eV f l m::pt b (.cells 1 [.map id] false)::S):=s1
 obtain⟨q1,q2,q3,q4,q5⟩:=s1.at (k:=1) rfl
 have I:=tR q5
 have hlen:l.length=m.length:=by have:=jm List.length I;simpa using this
 have xY:=s1.row (k:=0) rfl
 have acG:=s1.row (k:=2) rfl
 have nJ:∀e∈l,(Lit.int .i64 e.1).wf=true:=fun e he=>hk e.1 (by rw[←I];exact nj he)
 have hri:sH (nG (l.map (·.1)))=true:=TF (K1 (by rw[I];exact hn))
 have J:∃v h',toldSorted BB [.fn (.func g) [] [.ptr b 0]] h=some (v,h')∧Sat h' (.arr 1 v (fL (aF m))::pt b (.cells 1 [.map id] false)::jv f (.map id) m::S):=by
  simp only[toldSorted,acG,xY,jl,hg,QH hb,Od nJ,hri]
  rw[show(Nat.beq 1 1&&true&&true&&Nat.ble l.length 1048576)=true by rw[bg.2 (by omega)];rfl,aj]
  simp only[aj]
  cases hl:l.map (·.1) with
  |nil =>
   refine⟨_,_,rfl,?_⟩
   have:aF m=[]:=by rw[aF,←I,hl];rfl
   rw[this]
   exact s.m6
  |cons x xs =>
   refine⟨_,_,rfl,?_⟩
   have e1:aF m=nG (x::xs):=by rw[aF,←I,hl]
   have e2:(nG (x::xs)).length=(x::xs).length:=(eL _).length_eq
   have e3:(x::xs).length=l.length:=by rw[←hl,jl]
   rw[e1,←e3]
   refine(s.new (.cells (fL (nG (x::xs))).length (fL (nG (x::xs))) false)).gK fun a r B1=>⟨TH _,.inr ⟨h.next,(x::xs).length,.rest 1 0,(fL (nG (x::xs))).length,[],rfl,?_,?_,by simp,rfl,rfl,rfl,rfl,by simp⟩⟩
   ·rw[dS];exact B1
   ·simp only[fL,jl,e2,eF]
 obtain⟨v,h',e1,e2⟩:=J
 exact⟨v,h',gO.told hT.sorted Tryz.func61 rfl e1,e2⟩
end
structure rX (ε:aX): Prop where
 pl:ε.1.Ok
 lg:ε.2.1.Ok
 dk:ε.2.2.Ok
theorem TI (h:ε.1.Ok): (outF ε i).2.1.Ok:=by
 unfold outF
 split
 ·exact h
 ·rename_i f J
  have hm:=bD J
  split
  ·exact h
  ·split
   ·exact h
   ·split
    ·exact h
    ·split
     ·exact h
     ·refine⟨by simp only[dJ];exact h.hand,by simp only[dJ];exact h.many,fun e he=>by simp only[dJ];exact h.aH e he,fun g I => ?_,fun g I => ?_⟩
      ·rcases qb I with I|rfl
       ·exact h.len g I
       ·exact h.len f hm
      ·rcases qb I with I|rfl
       ·exact h.pins g I
       ·exact h.pins f hm
theorem rY (h:rX ε): rX (outF ε i).2:=⟨TI h.pl,TD h.lg,CI h.dk⟩
theorem Cb {n:Int}: (δ.bz n b).2.waiting.length≤δ.waiting.length+1:=by
 unfold Dk.bz
 split
 ·exact kQ _
 ·split
  ·exact kQ _
  ·split
   ·exact kQ _
   ·exact Bg (by simp[Dk.wr])
theorem QI : (outF ε i).2.2.2.waiting.length≤ε.2.2.waiting.length+1:=by
 unfold outF
 split
 ·exact kQ _
 ·rename_i f J
  split
  ·exact kQ _
  ·split
   ·exact kQ _
   ·split
    ·exact Nat.le_succ_of_le (Bg (by rw[mq]))
    ·have I:=Cb (δ:=(aJ ε.2 (dh f.b 4 8)).2.2) (n:=f.aM) (b:=f.b)
     rw[mq] at I
     split<;>exact I
theorem K2 {n:Int}(h:rX ε): rX (eW ε n).2:=by
 unfold eW
 split
 ·exact h
 ·exact rY h
theorem I_ {n:Int}: (eW ε n).2.2.2.waiting.length≤ε.2.2.waiting.length+1:=by
 unfold eW
 split
 ·exact kQ _
 ·exact QI
def writeAllF : List Int→aX→Int×aX
 |[],ε=>(0,ε)
 |n::l,ε=>if (eW ε n).1≠0 then eW ε n else writeAllF l (eW ε n).2
section
variable {told:cR} {p:Nat} {v:V} {m:List Fm}
noncomputable def waL : Code:=cN [1,0,1,0,0] ((Tryz.f92.body).getD .skip)
theorem Hx (hT:W told){ks:List Int}{kv:V}(ZT:ks.length≤1048576): ∀(j i:Nat) (ε:aX) (h:H) (E:List (Nat×V)) (Q:Ex→List (Nat×V)→H→Prop),i+j=ks.length→rX ε→ε.2.2.waiting.length+j≤268435456 →
  Sat h (dO r p q ε.1::b7 q p ε.2.1::aS p ε.2.2::.arr 1 kv (fL ks)::S)→Has E [(0,.ptr r 0),(11,kv),(12,.int .i64 ks.length),(13,.int .i64 i)] →
  ((writeAllF (ks.drop i) ε).1≠0→∀E' h',look E' 2=some (.int .i64 (writeAllF (ks.drop i) ε).1)→Sat h' (dO r p q (writeAllF (ks.drop i) ε).2.1::b7 q p (writeAllF (ks.drop i) ε).2.2.1::aS p (writeAllF (ks.drop i) ε).2.2.2::S)→Q .ret E' h') →
  ((writeAllF (ks.drop i) ε).1=0→∀E' h',Sat h' (dO r p q (writeAllF (ks.drop i) ε).2.1::b7 q p (writeAllF (ks.drop i) ε).2.2.1::aS p (writeAllF (ks.drop i) ε).2.2.2::S)→Q (.exit 0) E' h') →
  WP ⟨Tryz.prog,told⟩ 24 (.loop waL) E h Q:=by
 intro j
 induction j with
 |zero =>
  intro i ε h E Q hi I hw s hE J hx
  refine WP.loop (WP.has hE (zg rfl (zC rfl bh (by simp<;>omega) ?_)))
  refine zk 3 rfl (WP.exit ?_)
  rw[lX (by omega)] at hx
  exact hx rfl _ _ (s.del 3)
 |succ j ih =>
  intro i ε h E Q hi I hw s hE J hx
  have hn:ks[i]?=some (ks[i]'(by omega)):=bx _
  generalize (ks[i]'(by omega))=n at hn
  have hc:(fL ks)[i]?=some (.int .i64 n):=by simp[fL,hn]
  have oG:ks.drop i=n::ks.drop (i+1):=by
   obtain⟨h1,rfl⟩:=List.getElem?_eq_some_iff.1 hn
   exact qa h1
  rw[oG] at J hx
  obtain⟨id,off,e1,e2⟩:=gJ (P:=Tryz.prog) s (k:=3) rfl hc cf jF
  have Ja:=K2 (n:=n) I
  have Cc:=I_ (ε:=ε) (n:=n)
  refine WP.loop (WP.has hE (zg rfl (zB rfl bh (by simp<;>omega) ?_)))
  refine zk 5 rfl (WP.block (zg rfl (zo rfl (cK (r:=.ptr id off) rfl rfl e1) (zl rfl (e2 _ dN) (zk 6 rfl (zc rfl (QE (n:=n) hT s I.pl I.lg I.dk (by omega)) ?_))))))
  rintro v h ⟨rfl,s⟩
  simp only[writeAllF] at J hx
  refine zk 5 rfl ?_
  by_cases he:(eW ε n).1=0
  ·skip
   refine zC rfl aE (by simp;exact he) ?_
   refine zv (zj rfl (WP.skip (zr rfl (zb rfl (by exact bC (aB (by omega) (by omega))) ?_))))
   refine zm rfl (zv ?_)
   rw[ak (by simpa using he)] at J hx
   exact ih (i+1) (eW ε n).2 h _ Q (by omega) Ja (by omega) s ⟨rfl,rfl,rfl,rfl,aa⟩ J hx
  ·skip
   refine zB rfl aE (by simp;exact he) ?_
   refine zk 7 rfl (WP.ret ?_)
   rw[aP he] at J
   exact J he _ _ rfl (s.del 3)
theorem K3 (I:W told)(s:Sat h (dO r p q π::b7 q p μ::aS p δ::S))(J:rX (π,μ,δ))(hw:δ.waiting.length+π.aH.length≤268435456)(hm:π.aH.length≤1048576)(hk:∀n∈π.aH.map (·.1),(Lit.int .i64 n).wf=true):
  Call ⟨Tryz.prog,told⟩ 92 [.ptr r 0] h fun v h'=>v=.int .i64 (writeAllF (aF π.aH) (π,μ,δ)).1 ∧
   Sat h' (dO r p q (writeAllF (aF π.aH) (π,μ,δ)).2.1::b7 q p (writeAllF (aF π.aH) (π,μ,δ)).2.2.1::aS p (writeAllF (aF π.aH) (π,μ,δ)).2.2.2::S):=by
 obtain⟨dg,wh,di,s⟩:=d_.1 s
 obtain⟨wid,rfl⟩:=DQ s (j:=2) rfl
 have hl:(aF π.aH).length=π.aH.length:=by rw[aF,(eL _).length_eq,jl]
 refine Call.of_wp (I.free _ rfl) Tryz.func92 rfl rfl (zK 9 rfl (zY s 0 rR xZ rfl (zc rfl (TG I s) ?_)))
 rintro v h ⟨b,rfl,s⟩
 refine zc rfl (sN I (s.ae [0,2]) (by decide) hm hk) ?_
 intro kv h s
 refine zo rfl (aN rfl rfl rfl (s.dZ (n:=(aF π.aH).length) (j:=0) rfl (by simp[fL]) (by decide) cf)) ?_
 refine zk 2 rfl (WP.block ?_)
 have s:=d_.2 ⟨dg,.map wid,di,s.ae [3,3,2,2]⟩
 have s:=(s.del 2).ae [0,1,1,0]
 refine Hx I (ks:=aF π.aH) (by omega) (aF π.aH).length 0 (π,μ,δ) _ _ _ (by omega) J (by simp only;omega) s ⟨rfl,rfl,rfl,rfl,aa⟩ (fun he E' h' h2 s' => ?_) (fun he E' h' s' => ?_)
 ·rw[gV] at h2 s'
  exact⟨aa,_,pO h2,rfl,s'⟩
 ·rw[gV] at he s'
  rw[he]
  exact WP.has (F:=[]) aa (zK 4 rfl (WP.ret ⟨aa,_,rfl,rfl,s'⟩))
end
def Jb (au:Nat)(Q:Ex→List (Nat×V)→H→Prop)(c:Ctx)(a:Act)(w:World)(e:Exit)(J:Act)(w':World): Prop :=
 ∃ex I h' E',e=exOf ex∧iX I E'∧Q ex E' h'∧J.defers=a.defers∧∃c',Rel c' h' w'∧dH c' I au J∧cF c w c' w'
def WPO (C:fc)(au:Nat)(code:Code)(E:List (Nat×V))(h:H)(Q:Ex→List (Nat×V)→H→Prop): Prop :=
 ∀(c:Ctx) (a:Act) (w:World) (env:Env),iX env E→Rel c h w→dH c env au a→code.wpIn (Fr none) 0 C.P (Jb au Q c a w) a w
section
variable {au:Nat} {Q':Ex→List (Nat×V)→H→Prop} {a b:Code}
theorem Jb.trans {c c₁:Ctx}{A I a':Act}{w J w':World}{e:Exit}(hd:I.defers=A.defers)(hs:cF c w c₁ J)(ho:Jb au Q c₁ I J e a' w'): Jb au Q c A w e a' w':=by
 obtain⟨ex,FG,h',E',h1,h2,h3,h4,c',h5,h6,h7⟩:=ho
 exact⟨ex,FG,h',E',h1,h2,h3,h4.trans hd,c',h5,h6,hs.trans h7⟩
theorem WPO.of (hm:C.P.follows .mixedOrders=true)(J:fq C)(hw:WP C au a E h Q): WPO C au a E h Q:=by
 intro c A w env hE hr he
 obtain⟨N,ex,I,h',E',h1,h2,h3⟩:=hw env hE
 refine wpIn_mono ((z8 hm J N).1 _ _ _ _ h1 none c A w hr he) ?_
 rintro e a' w' ⟨rfl,h4,c',h5,h6,h7⟩
 exact⟨ex,I,h',E',rfl,h2,h3,h4,c',h5,h6,h7⟩
theorem WPO.mono (hw:WPO C au a E h Q)(J:∀ex E' h',Q ex E' h'→Q' ex E' h'): WPO C au a E h Q':=by
 intro c A w env hE hr he
 refine wpIn_mono (hw c A w env hE hr he) ?_
 rintro e a' w' ⟨ex,I,h',E',h1,h2,h3,h4⟩
 exact⟨ex,I,h',E',h1,h2,J _ _ _ h3,h4⟩
theorem WPO.seq (hw:WPO C au a E h fun ex E' h'=>match ex with
  |.normal=>WPO C au b E' h' Q
  |ex=>Q ex E' h'): WPO C au (.seq a b) E h Q:=by
 intro c A w env hE hr he
 refine wpIn_seq (wpIn_mono (hw c A w env hE hr he) ?_)
 rintro e J sE ⟨ex,I,h',E',rfl,h2,h3,h4,c₁,h5,h6,h7⟩
 cases ex with
 |normal=>exact wpIn_mono (h3 c₁ J sE I h2 h5 h6) fun e a' w' ho=>ho.trans h4 h7
 |exit i=>exact⟨_,I,h',E',rfl,h2,h3,h4,c₁,h5,h6,h7⟩
 |ret=>exact⟨_,I,h',E',rfl,h2,h3,h4,c₁,h5,h6,h7⟩
theorem WPO.cond {x:Operand}{t:Bool}(J:bA E x=some (.bool t))(hw:WPO C au (_root_.cond t a b) E h Q): WPO C au (.cond x a b) E h Q:=by
 intro c A w env I hr he
 obtain⟨e1,_⟩:=wK he (bU I J)
 refine wpIn_cond (t:=t) (by rw[e1];rfl) ?_
 have:=hw c A w env I hr he
 cases t<;>simpa using this
theorem WPO.block (hw:WPO C au b E h fun ex E' h'=>match ex with
  |.exit j=>_root_.cond (Nat.beq j i) (Q .normal E' h') (Q (.exit j) E' h')
  |ex=>Q ex E' h'): WPO C au (.block i b) E h Q:=by
 intro c A w env hE hr he
 refine wpIn_block (wpIn_mono (hw c A w env hE hr he) ?_)
 rintro e BN sE ⟨ex,I,h',E',rfl,h2,J,h4,c₁,h5,h6,h7⟩
 cases ex with
 |normal=>simp only[exOf,Exit.inBlock];exact⟨.normal,I,h',E',rfl,h2,J,h4,c₁,h5,h6,h7⟩
 |exit j =>
  by_cases hj:j=i
  ·simp only[oS hj,aj] at J
   simp only[exOf,Exit.inBlock,hj,cY]
   exact⟨.normal,I,h',E',rfl,h2,J,h4,c₁,h5,h6,h7⟩
  ·simp only[eo hj,aY] at J
   simp only[exOf,Exit.inBlock,hj,fQ]
   exact⟨.exit j,I,h',E',rfl,h2,J,h4,c₁,h5,h6,h7⟩
 |ret=>simp only[exOf,Exit.inBlock];exact⟨.ret,I,h',E',rfl,h2,J,h4,c₁,h5,h6,h7⟩
theorem WPO.loop (J:Nat→List (Nat×V)→H→Prop)(hJ:∀j E h,J j E h→WPO C au b E h fun ex E' h'=>match ex with
  |.normal=>∃i,i<j∧J i E' h'
  |ex=>Q ex E' h')(h0:J j E h): WPO C au (.loop b) E h Q:=by
 have key:∀m j E h,j<m→J j E h→∀(c:Ctx) (A:Act) (w:World) (env:Env) (R:Exit→Act→World→Prop),iX env E→Rel c h w→dH c env au A →
   (∀e a' w',Jb au Q c A w e a' w'→R e a' w')→Code.roundsIn (Fr none) 0 C.P b R m A w:=by
  intro m
  induction m with
  |zero=>intro j E h hj;omega
  |succ m ih =>
   intro j E h hj hJj c A w env R hE hr he hR
   rw[roundsIn_succ]
   refine wpIn_mono (hJ j E h hJj c A w env hE hr he) ?_
   rintro e BN sE ⟨ex,I,h',E',rfl,h2,h3,h4,c₁,h5,h6,h7⟩
   cases ex with
   |normal =>
    obtain⟨i,hi,h3⟩:=h3
    exact ih i E' h' (by omega) h3 c₁ BN sE I R h2 h5 h6 fun e a' w' ho=>hR _ _ _ (ho.trans h4 h7)
   |exit i=>exact hR _ _ _ ⟨_,I,h',E',rfl,h2,h3,h4,c₁,h5,h6,h7⟩
   |ret=>exact hR _ _ _ ⟨_,I,h',E',rfl,h2,h3,h4,c₁,h5,h6,h7⟩
 intro c A w env hE hr he
 exact wpIn_loop_rounds (j+1) (key (j+1) j E h (by omega) h0 c A w env _ hE hr he fun _ _ _ ho=>ho)
theorem QJ {β:Type}{f:α→Option (List β)}{p:β→Prop}: ∀ {L:List α},(∀q∈L,∃s,f q=some [s]∧p s)→∃R,flatM f L=some R∧∀s∈R,p s:=by
 intro L
 induction L with
 |nil=>intro _;exact⟨[],rfl,fun s hs=>by cases hs⟩
 |cons q L ih =>
  intro J
  obtain⟨R,h1,h2⟩:=ih fun q I=>J q (b8 _ I)
  obtain⟨s,e1,e2⟩:=J q bZ
  refine⟨s::R,?_,fun s' hs => ?_⟩
  ·simp only[flatM,e1,h1,jy,ey]
  ·rcases List.mem_cons.1 hs with rfl|hs
   ·exact e2
   ·exact h2 s' hs
theorem WPO.next {I J:Oper}{x:Operand}{nZ Fj:Nat}(hm:C.P.follows .mixedOrders=true)(hT:fq C)(acH:I.guard=none)(acI:J.guard=none)(acJ:I.op=.next x false)(aeh:I.dst=some nZ)
 (ZU:J.op=.extract y 0)(hy:y=.tmp nZ)(aei:J.dst=some Fj)(aaQ:Nat.blt nZ au=true)(Yq:Nat.blt Fj au=true)(hx:bA E x=some (.ptr r 0))(hL:nextAll h r=some L)
 (hq:∀q∈L,∃t l,q.1=.bf (t::l)∧Q .normal ((Fj,t)::(nZ,q.1)::E) q.2): WPO C au (.region id #[I,J] false) E h Q:=by
 intro c A w env hE hr he
 subst hy
 have hS:=(z8 (C:=C) hm hT 0).1
 refine wpIn_region ?_
 rw[EH,←A5]
 have nK:∃R,opsAll C (ev C 0) (#[I,J]:Array Oper).toList (#[I,J]:Array Oper).toList ⟨env,au,h⟩=some R∧∀s∈R,∃E',iX s.env E'∧s.au=au∧Q .normal E' s.h:=by
  have e1:∀uI:Env,wantedV [I,J] uI I=true:=fun uI=>by simp only[wantedV,acH]
  have e2:∀uI:Env,wantedV [I,J] uI J=true:=fun uI=>by simp only[wantedV,acI]
  have mY:=bU hE hx
  simp only[opsAll,e1,e2,aj,opAll,acJ,mY,fP,hL]
  refine QJ fun q zJ => ?_
  obtain⟨t,l,k1,k2⟩:=hq q zJ
  refine⟨⟨(env.set nZ (some q.1)).set Fj (some t),au,q.2⟩,?_,_,(hE.set nZ q.1).set Fj t,rfl,k2⟩
  have hg:evO (T.set env nZ (some (V.bf (t::l)))) (.tmp nZ)=some (.bf (t::l)):=by simp only[evO,Env.v,bp,cY]
  simp only[St.put,aeh,aaQ,aj,ZU,evOp,k1,hg,nth,fP,bO,aei,Yq,flatM,dS]
 obtain⟨R,nK,h2⟩:=nK
 refine PX hS hT _ 0 ⟨env,au,h⟩ R c A w (fun j=>by rw[gG,lY]) nK hr he ?_
 intro s' Gn c' a' w' r1 r2 r3 r4
 obtain⟨E',e1,e2,e3⟩:=h2 s' Gn
 exact⟨.normal,s'.env,s'.h,E',rfl,e1,e3,r4,c',r1,by rw[e2] at r2;exact r2,r3⟩
theorem eZ.D5 {f:FuncId}{fn:Func}{code:Code}{v:V}{dz:H}(hf:C.P.funcs[f]?=some fn)(hb:fn.body=some code)(hn:args.length≤fn.ntmps)
 (hw:WPO C fn.ntmps code (argE args 0) h fun ex E' h'=>(match ex with|.exit _=>False|_=>True)∧resLE C.P E' h' fn.results.toList=some v∧dz.next=h'.next∧∀id o,T.get dz.tr id=some o→T.get h'.tr id=some o){c:Ctx}{w:World}(hr:Rel c h w)(ha:∀x∈args,wf c x): eZ C.P f args c w v dz:=by
 have nX:=jN (c:=c) hn ha
 have Pm:=hw c _ w _ (ur args) hr nX
 unfold eZ
 refine calls_of_wp hf hb (wpIn_wide.1 (wpIn_mono Pm ?_))
 rintro e a' w' ⟨ex,FG,h',E',rfl,jx,⟨hx,I,rE,hle⟩,hd,c',r1,r2,r3⟩
 have fin:a'.defers=[]∧∃x,(results fn a'.tmps).run C.P w'=.ok x w'∧∃tD,Ending.returned x=.returned (conc tD v)∧wf tD v∧Rel tD dz w'∧cF c w tD w':=by
  refine⟨hd,?_⟩
  unfold resLE at I
  cases Df:mapO (resE C.P E' h') fn.results.toList with
  |none=>simp[Df] at I
  |some vs =>
   rw[Df] at I
   have B1:=wT (P:=C.P) (s:=⟨FG,fn.ntmps,h'⟩) jx Df
   obtain⟨t1,t2⟩:=oB (s:=⟨FG,fn.ntmps,h'⟩) r1 r2 B1
   refine⟨_,t1,c',?_⟩
   have J:=r1.aa3 rE hle
   match vs,I with
   |[],I =>
    simp at I
    subst I
    refine⟨?_,by simp[wf,gM],J,r3⟩
    simp[conc,concL]
   |[x],I =>
    simp at I
    subst I
    exact⟨by simp,t2 _ (by simp),J,r3⟩
   |x::y::l,I =>
    simp at I
    subst I
    refine⟨?_,by simp only[wf,iV];exact t2,J,r3⟩
    rw[dif_neg (by simp)]
    simp[conc,gu,concL]
 cases ex with
 |normal=>simpa[bodyPost,exOf] using fin
 |exit i=>exact hx.elim
 |ret=>simpa[bodyPost,exOf] using fin
end
end Go.Proofs.YtefepnnfphdkpaaGreat.Am
namespace Go.Proofs.YtefepnnfphdkpaaGreat.Am
open Go
variable {X:aL} {C:fc} {δ:Dk} {ε:aX} {es:cn} {Q:Ex→List (Nat×V)→H→Prop} {f:Fm} {h h₁ h':H} {μ:Lg} {E:List (Nat×V)} {L:List (V×H)} {S:List aL} {l b data seen:List Nat} {cs post args:List V} {g n k s i aO d z p6 r id off q j tx pv nx j1 j2 p1 dg c mid clock im N:Nat} {o:Oper} {y:Operand} {a:PM} {π:Pl} {P:Program} {α:Type} {t e:TypeId} {x bv dt v' wh di:V}
theorem mw (l:List Nat)(b x:Nat): inL (l++[b]) x=(inL l x||Nat.beq b x):=by
 induction l with
 |nil=>simp only[ey,inL,wD];cases Nat.beq b x<;>rfl
 |cons y l I=>simp only[jy,inL,I];cases Nat.beq y x<;>simp
theorem QK : ∀ {l:List (V×V×Nat)} {e:V×V×Nat},e∈leftV seen l→e∈l∧inL seen e.2.2=false:=by
 intro l
 induction l with
 |nil=>intro e h;cases h
 |cons y l I =>
  intro e h
  simp only[leftV] at h
  cases J:inL seen y.2.2 with
  |true=>rw[J,aj] at h;exact⟨b8 _ (I h).1,(I h).2⟩
  |false =>
   rw[J,aY] at h
   rcases List.mem_cons.1 h with rfl|h
   ·exact⟨bZ,J⟩
   ·exact⟨b8 _ (I h).1,(I h).2⟩
theorem QL : ∀ {l:List (V×V×Nat)},leftV seen l=[]→∀e∈l,inL seen e.2.2=true:=by
 intro l
 induction l with
 |nil=>intro _ e he;cases he
 |cons y l J =>
  intro h e he
  simp only[leftV] at h
  cases I:inL seen y.2.2 with
  |false=>rw[I,aY] at h;cases h
  |true =>
   rw[I,aj] at h
   rcases List.mem_cons.1 he with rfl|he
   ·exact I
   ·exact J h e he
theorem Jc {b:Nat}: ∀ {l:List (V×V×Nat)},(leftV (seen++[b]) l).length≤(leftV seen l).length:=by
 intro l
 induction l with
 |nil=>exact aU _
 |cons y l I =>
  simp only[leftV,mw]
  cases inL seen y.2.2<;>cases Nat.beq b y.2.2<;>simp<;>omega
theorem TJ : ∀ {l:List (V×V×Nat)} {e:V×V×Nat},e∈leftV seen l→(leftV (seen++[e.2.2]) l).length<(leftV seen l).length:=by
 intro l
 induction l with
 |nil=>intro e h;cases h
 |cons y l J =>
  intro e h
  simp only[leftV] at h
  cases I:inL seen y.2.2 with
  |true =>
   rw[I,aj] at h
   simp only[leftV,mw,I,Bool.true_or,aj]
   exact J h
  |false =>
   rw[I,aY] at h
   simp only[leftV,mw,I,wD,aY]
   rcases List.mem_cons.1 h with rfl|h
   ·rw[fP,aj]
    have:=Jc (seen:=seen) (b:=e.2.2) (l:=l)
    simp;omega
   ·cases Nat.beq e.2.2 y.2.2
    ·simp only[aY,bF];have:=J h;omega
    ·simp only[aj,bF];have:=Jc (seen:=seen) (b:=e.2.2) (l:=l);omega
theorem QM : ∀ {l:cn} {b:Nat},fy c b l→uA c (l.map eR)=true:=by
 intro l
 induction l with
 |nil=>intro b _;rfl
 |cons e l I =>
  intro b h
  simp only[iE,eR,uA]
  rw[iF.2 h.2.1,aj]
  exact I h.2.2
theorem K4 : ∀ {l:cn} {b:Nat},fy c b l→bornRise b (l.map eR)=true:=by
 intro l
 induction l with
 |nil=>intro b _;rfl
 |cons e l I =>
  intro b h
  simp only[iE,eR,bornRise]
  rw[bg.2 h.1,aj]
  exact I h.2.2
theorem pW : ∀ {l:cn} {b:Nat},fy c b l→∀e∈l,b≤e.2.2:=by
 intro l
 induction l with
 |nil=>intro b _ e he;cases he
 |cons y l I =>
  intro b h e he
  rcases List.mem_cons.1 he with rfl|he
  ·exact h.1
  ·have:=I h.2.2 e he;have:=h.1;omega
theorem rj : ∀ {l:cn} {b:Nat} {e:Int×V×Nat},fy c b l→e∈l→uh e.2.2 (l.map eR)=some (eR e):=by
 intro l
 induction l with
 |nil=>intro b e _ he;cases he
 |cons y l I =>
  intro b e h he
  simp only[iE,uh]
  rcases List.mem_cons.1 he with rfl|he
  ·show cond (Nat.beq e.2.2 e.2.2) _ _=_
   rw[fP,aj]
  ·have:=pW h.2.2 e he
   show cond (Nat.beq y.2.2 e.2.2) _ _=_
   rw[eo (by omega),aY]
   exact I h.2.2 he
theorem QN : ∀(l:List Nat) (b:Nat),lastN (l++[b])=some b:=by
 intro l b
 induction l with
 |nil=>rfl
 |cons x l I =>
  cases l with
  |nil=>rfl
  |cons y l=>simpa[lastN] using I
section
variable {since b:Nat}
theorem Jd {e:Int×V×Nat}(J:T.get h.tr r=some (.iter mid since clock (seen++[e.2.2])))(hm:T.get h.tr mid=some (.map (es.map eR) clock))(I:fy clock 0 es)(he:e∈es):
  wH h (.ptr r 0)=some (.bf [.int .i64 e.1,e.2.1]):=by
 simp only[wH,fP,aj,J,hm,K4 I,jz,QN,rj I he]
 rfl
theorem next_at (I:T.get h.tr r=some (.iter mid since clock seen))(hs:since≤clock)(hm:T.get h.tr mid=some (.map (es.map eR) clock))(J:fy since 0 es):
  nextAll h r=some (match leftV seen (es.map eR) with
   |[]=>[(.bf [.bool false],h)]
   |l=>l.map fun e=>(.bf [.bool true,e.1,e.2.1],h.put r (some (.iter mid since clock (seen++[e.2.2]))))):=by
 simp only[nextAll,I,hm,QM J,bg.2 hs,jz,aj]
 cases leftV seen (es.map eR)<;>rfl
theorem Je (hg:T.get h.tr r=some (.iter mid since clock seen))(hs:since≤clock)(hm:T.get h.tr mid=some (.map (es.map eR) clock))(hb:fy since 0 es)(hL:nextAll h r=some L):
  ∀q∈L,(q=(.bf [.bool false],h)∧∀e∈es,inL seen e.2.2=true) ∨
   ∃e∈es,inL seen e.2.2=false∧(leftV (seen++[e.2.2]) (es.map eR)).length<(leftV seen (es.map eR)).length∧q=(.bf [.bool true,.int .i64 e.1,e.2.1],h.put r (some (.iter mid since clock (seen++[e.2.2])))):=by
 rw[next_at hg hs hm hb] at hL
 simp only[az] at hL
 subst hL
 intro q hq
 cases J:leftV seen (es.map eR) with
 |nil =>
  rw[J] at hq
  refine .inl ⟨List.mem_singleton.1 hq,fun e he => ?_⟩
  exact QL J (eR e) (nj he)
 |cons y l =>
  rw[J] at hq
  obtain⟨e',I,rfl⟩:=List.mem_map.1 hq
  rw[←J] at I
  obtain⟨h1,h2⟩:=QK I
  obtain⟨e,he,rfl⟩:=List.mem_map.1 h1
  have h3:=TJ I
  rw[J] at h3
  exact .inr ⟨e,he,h2,h3,rfl⟩
end
open Classical in
noncomputable def iZ (P:Program)(f:FuncId)(jj:List V→H→V×H→Prop)(args:List V)(h:H): Option (V×H) :=
 if I:∃r,jj args h r∧∀(c:Ctx) (w:World),Rel c h w→(∀x∈args,wf c x)→eZ P f args c w r.1 r.2 then some I.choose else none
theorem sO {f : FuncId} {jj : List V → H → V × H → Prop} (J : ∃ fn, P.funcs[f]? = some fn ∧ fn.body.isSome = true ∧ (fn.name == "runtime.NumGoroutine") = false) : LN P f (iZ P f jj) := by
 refine .inl ⟨J, fun args σ v dz I c w h hw => ?_⟩
 unfold iZ at I
 split at I
 ·rename_i hx
  have := hx.choose_spec.2 c w h hw
  injection I with I
  rw [I] at this
  exact this
 ·cases I
theorem sP {f:FuncId}{jj:List V→H→V×H→Prop}{r:V×H}(J:jj args h r)(h2:∀(c:Ctx) (w:World),Rel c h w→(∀x∈args,wf c x)→eZ P f args c w r.1 r.2):
  ∃r,iZ P f jj args h=some r∧jj args h r:=by
 have I:∃r,jj args h r∧∀(c:Ctx) (w:World),Rel c h w→(∀x∈args,wf c x)→eZ P f args c w r.1 r.2:=⟨r,J,h2⟩
 refine⟨I.choose,?_,I.choose_spec.1⟩
 unfold iZ
 rw[dif_pos I]
noncomputable def mV (f:Nat): Option (List V→H→Option (V×H)) :=
 cond (Nat.beq f 61) (some (toldSorted BB)) (cond (Nat.beq f 178) (some toldMore) none)
noncomputable abbrev CB : fc:=⟨Tryz.prog,mV⟩
theorem iy : Tryz.prog.follows .mixedOrders=true:=by kernel_rfl
theorem fF : fq CB:=by
 intro f g I
 simp only[CB,mV] at I ⊢
 by_cases h1:f=61
 ·subst h1
  rw[oS rfl,aj] at I
  simp only[az] at I
  subst I
  exact .inl ⟨⟨_,Tryz.func61,rfl,by decide⟩,fun args σ v dz J c w h _=>Hu bT Qk J h⟩
 ·rw[eo h1,aY] at I
  by_cases h2:f=178
  ·subst h2
   rw[oS rfl,aj] at I
   simp only[az] at I
   subst I
   exact .inl ⟨⟨_,Dm,rfl,by decide⟩,fun args σ v dz J c w h hw=>KR (C:=CB) rfl iy J h hw⟩
  ·rw[eo h2,aY] at I
   cases I
theorem W.base : W mV:=by
 refine⟨fun f I => ?_,rfl,rfl⟩
 have J:f≠61:=fun e=>by subst e;revert I;decide
 have h2:f≠178:=fun e=>by subst e;revert I;decide
 simp only[mV,eo J,eo h2,aY]
theorem gO.det {f:FuncId}{v:V}{I:H}(a:gO C f args h v h₁)(b:gO C f args h v' I): v=v'∧h₁=I:=by
 obtain⟨N,hN⟩:=a
 obtain⟨M,hM⟩:=b
 have e1:=mR (dA (nr N M)) hN
 have J:=mR (dA (nk N M)) hM
 rw[e1] at J
 simp only[az,bJ] at J
 exact J
section
variable {st:Bool} {v:V}
theorem Sat.ZV (s:Sat h S)(hk:getA S k=some (pt id (.cells n cs false)))(hs:bN P t=some 1)(hl:cs.length=n)(ho:off<n)(hv:v.cells=[v])(I:storable v=true):
  gY P h t (.ptr id off) v=some (h.put id (some (.cells n (cs.set off v) false))):=by
 simp only[gY,hs,hv,bF,cG,iT,iU,I,Bool.and_true]
 rw[show Nat.beq (0+1) 1=true from rfl,aj]
 simp only[wrN,s.row hk,bF,cG]
 rw[bg.2 (show off+(0+1)≤n by omega),aj]
 congr 3
 rw[LG,aP (by omega)]
 cases J:(Nat.beq off 0&&Nat.beq (0+1) n) with
 |true =>
  simp only[bQ,beq_iff] at J
  obtain⟨rfl,hn⟩:=J
  rw[aj]
  have:cs.drop (0+1)=[]:=lX (by omega)
  simp[this]
 |false=>rw[aY];rfl
end
theorem OpR.entry {x:Operand}{v r:V}(I:o.op=.entry x)(J:bA E x=some v)(hf:wH h v=some r): OpR C E h o fun w h'=>w=r∧h'=h :=
 ⟨r,h,⟨rfl,rfl⟩,fun env hE=>⟨0,by simp only[evOp,I,bU hE J,hf,bO]⟩⟩
theorem OpR.range {x:Operand}{v r:V}(I:o.op=.range t x)(J:bA E x=some v)(hf:rangeV C.P h t v=some (r,h₁)): OpR C E h o fun w h'=>w=r∧h'=h₁ :=
 ⟨r,h₁,⟨rfl,rfl⟩,fun env hE=>⟨0,by simp only[evOp,I,bU hE J,hf]⟩⟩
def doneRow (seen:List Nat): cn→List V→List V
 |[],row=>row
 |e::l,row=>doneRow seen l (cond (inL seen e.2.2) (row.set e.1.toNat e.2.1) row)
def og : cn→List V→List V
 |[],row=>row
 |e::l,row=>og l (row.set e.1.toNat e.2.1)
theorem K5 : ∀ {l:cn} {row:List V},(∀e∈l,inL seen e.2.2=true)→doneRow seen l row=og l row:=by
 intro l
 induction l with
 |nil=>intro row _;rfl
 |cons e l J =>
  intro row h
  simp only[doneRow,og,h e bZ,aj]
  exact J fun e' I=>h e' (b8 _ I)
theorem K6 : ∀ {l:cn} {row:List V},doneRow [] l row=row:=by
 intro l
 induction l with
 |nil=>intro row;rfl
 |cons e l I=>intro row;simp only[doneRow,inL,aY];exact I
theorem K7 : ∀ {l:cn} {row:List V},(doneRow seen l row).length=row.length:=by
 intro l
 induction l with
 |nil=>intro row;rfl
 |cons e l I=>intro row;simp only[doneRow];rw[I];cases inL seen e.2.2<;>simp
theorem K8 {v:V}: ∀ {l:cn} {row:List V},(∀e∈l,e.1.toNat≠i)→doneRow seen l (row.set i v)=(doneRow seen l row).set i v:=by
 intro l
 induction l with
 |nil=>intro row _;rfl
 |cons e l ih =>
  intro row h
  simp only[doneRow]
  have h1:=h e bZ
  cases inL seen e.2.2 with
  |true=>rw[aj,aj,List.set_comm _ _ (qi h1)];exact ih fun J I=>h J (b8 _ I)
  |false=>exact ih fun J I=>h J (b8 _ I)
theorem Hy {b:Nat}: ∀ {l:cn} {row:List V},(∀e∈l,e.2.2≠b)→doneRow (seen++[b]) l row=doneRow seen l row:=by
 intro l
 induction l with
 |nil=>intro row _;rfl
 |cons e l J =>
  intro row h
  simp only[doneRow,mw,eo (qi (h e bZ)),Bool.or_false]
  exact J fun e' I=>h e' (b8 _ I)
theorem Jf : ∀ {l:cn} {b:Nat} {row:List V} {e:Int×V×Nat},fy c b l→(l.map fun e=>e.1.toNat).Nodup→e∈l→inL seen e.2.2=false →
  doneRow (seen++[e.2.2]) l row=(doneRow seen l row).set e.1.toNat e.2.1:=by
 intro l
 induction l with
 |nil=>intro b row e _ _ he;cases he
 |cons y l ih =>
  intro b row e J hn he hs
  simp only[iE,EZ] at hn
  rcases List.mem_cons.1 he with rfl|he
  ·simp only[doneRow,mw,hs,fP,Bool.or_true,aj,aY]
   rw[Hy fun e' I=>by have:=pW J.2.2 e' I;omega]
   exact K8 fun e' I hq=>hn.1 (hq ▸ nj (f:=fun e:Int×V×Nat=>e.1.toNat) I)
  ·have:=pW J.2.2 e he
   simp only[doneRow,mw,eo (show e.2.2≠y.2.2 by omega),Bool.or_false]
   exact ih J.2.2 hn.2 he hs
def laidP : List (Int×List Nat)→List (Option (List Nat))→List (Option (List Nat))
 |[],m=>m
 |e::l,m=>laidP l (m.set e.1.toNat (some e.2))
theorem oh : ∀ {l:List (Int×List Nat)} {m:List (Option (List Nat))},(laidP l m).length=m.length:=by
 intro l
 induction l with
 |nil=>intro row;rfl
 |cons e l I=>intro row;simp only[laidP];rw[I];simp
theorem K9 {b:PM}: ∀ {es:cn} {m:List (Int×List Nat)} {row:List V} {pg:List (Option (List Nat))},(eV (fun v x=>.bY v x) es m).p a b→(∀e∈m,e.2≠[])→(each lp row pg).p a b→(each lp (og es row) (laidP m pg)).p a b:=by
 intro es
 induction es with
 |nil=>intro m row pg h _ hr;cases m with
  |nil=>exact hr
  |cons x m=>exact h.elim
 |cons e es ih=>intro m row pg h I hr;cases m with
  |nil=>exact h.elim
  |cons x m =>
   obtain⟨⟨h1,h2⟩,h3⟩:=h
   simp only[og,laidP]
   have hk:e.1=x.1:=h1
   refine ih h3 (fun e he=>I e (b8 _ he)) ?_
   rw[hk]
   refine CF hr ⟨?_,h2⟩
   rintro hv
   have J:ViewM b e.2.1 x.2:=h2
   rw[hv] at J
   rcases J.2 with⟨_,h4⟩|h4
   ·exact I x bZ h4
   ·obtain⟨_,_,_,_,_,_,h4,_⟩:=h4
    cases h4
def Dk.sync (δ:Dk): Dk:={ δ with aq:=laidP δ.now δ.aq,waiting:=[],now:=[] }
section
variable {told:cR} {p:Nat} {v:V} {m:List Fm}
noncomputable def D6 (h:H)(p:Nat)(cs:List V)(im N:Nat)(row:List V)(mid:Nat)(es:cn)(clock:Nat): H :=
 ((((h.new (.iter mid clock clock [])).put im (some (.cells N (og es row) false))).put p (some (.cells 12 (cs.set 2 .a_) false))).put mid (some (.map [] clock))).put h.next none
def FH (args:List V)(h:H)(r:V×H): Prop:=∃p cs,args=[.ptr p 0]∧T.get h.tr p=some (.cells 12 cs false) ∧
 ((nth cs 9=some (.bool true)∧r=(.int .i64 9,h))∨(nth cs 9=some (.bool false)∧∃v1 I,gO CB 164 [.ptr p 0] h v1 I ∧
  ((v1=.bool false∧r=(.int .i64 9,I))∨(v1=.bool true∧∃cs im N row mid es clock,T.get I.tr p=some (.cells 12 cs false)∧nth cs 1=some (.sl im 0 N (.exact N))∧nth cs 3=some (.map mid) ∧
   T.get I.tr im=some (.cells N row false)∧T.get I.tr mid=some (.map (es.map eR) clock)∧r=(.int .i64 0,D6 I p cs im N row mid es clock)))))
structure FI (h h':H)(X:List Nat): Prop where
 next:h'.next=h.next
 get:∀i,i∉X→T.get h'.tr i=T.get h.tr i
theorem FI.put {X:List Nat}(s:FI h h' X){o:Option Obj}(hi:i∈X): FI h (h'.put i o) X :=
 ⟨s.next,fun j I=>by rw[dK,ak (fun(e:j=i)=>I (e ▸ hi))];exact s.get j I⟩
theorem AG {f:V→α→aL}{b:PM}: ∀ {l:cn} {m:List (Int×α)},(eV f l m).p a b→∀e∈l,∃x,(e.1,x)∈m∧(f e.2.1 x).p a b:=by
 intro l
 induction l with
 |nil=>intro m _ e he;cases he
 |cons y l I=>intro m h e he;cases m with
  |nil=>exact h.elim
  |cons x m =>
   obtain⟨⟨J,h2⟩,h3⟩:=h
   rcases List.mem_cons.1 he with rfl|he
   ·exact⟨x.2,by rw[show e.1=x.1 from J];exact bZ,h2⟩
   ·obtain⟨z,k1,k2⟩:=I h3 e he
    exact⟨z,b8 _ k1,k2⟩
noncomputable def syA : Code:=cN [0] ((Tryz.f139.body).getD .skip)
noncomputable def syB : Code:=cN [1,0] ((Tryz.f139.body).getD .skip)
noncomputable def syC : Code:=cN [1,1,0,0] ((Tryz.f139.body).getD .skip)
noncomputable def ZW : Code:=cN [1,1,0,1,0,0,0] ((Tryz.f139.body).getD .skip)
noncomputable def syD : Code:=cN [1,1,0,1,0,0,1,1,0] ((Tryz.f139.body).getD .skip)
noncomputable def syE : Code:=cN [1,1,1] ((Tryz.f139.body).getD .skip)
theorem CJ : Tryz.f139.body=some (.seq syA (.seq syB (.seq (.seq syC (.block 0 (.loop (.seq ZW (.seq (.cond (.tmp 20) .skip (.exit 0)) (.block 1 syD)))))) syE))):=rfl
theorem Xv : ∃id I J,ZW=.region id #[I,J] false∧I.guard=none∧J.guard=none∧I.op=.next (.tmp 18) false∧I.dst=some 19∧J.op=.extract (.tmp 19) 0∧J.dst=some 20:=⟨_,_,_,rfl,rfl,rfl,rfl,rfl,rfl,rfl⟩
def syJ (h₀:H)(p it im N mid clock:Nat)(cs row:List V)(es:cn)(S:List aL)(j:Nat)(E:List (Nat×V))(h:H): Prop :=
 ∃seen,Has E [(0,.ptr p 0),(18,.ptr it 0)]∧j=(leftV seen (es.map eR)).length∧FI h₀ h [it,im] ∧
  Sat h (pt it (.iter mid clock clock seen)::pt p (.cells 12 cs false)::pt im (.cells N (doneRow seen es row) false)::gB mid es clock::S)
theorem QO {h₀:H}{it:Nat}{row:List V}(vm:nth cs 1=some (.sl im 0 N (.exact N)))(hl:row.length=N)(J:fy clock 0 es)(hn:(es.map fun e=>e.1.toNat).Nodup)
 (hk:∀e∈es,0≤e.1∧e.1<N)(hv:∀e∈es,e.2.1.cells=[e.2.1]∧storable e.2.1=true)(h0:syJ h₀ p it im N mid clock cs row es S j E h):
  WPO CB 38 (.loop (.seq ZW (.seq (.cond (.tmp 20) .skip (.exit 0)) (.block 1 syD)))) E h fun ex E' h'=>ex=.exit 0∧Has E' [(0,.ptr p 0)]∧FI h₀ h' [it,im] ∧
   ∃seen,Sat h' (pt it (.iter mid clock clock seen)::pt p (.cells 12 cs false)::pt im (.cells N (og es row) false)::gB mid es clock::S):=by
 refine WPO.loop (syJ h₀ p it im N mid clock cs row es S) ?_ h0
 rintro j E h ⟨seen,hE,rfl,hs,s⟩
 have g1:=s.row (k:=0) rfl
 have g2:=s.row (k:=3) rfl
 obtain⟨id,M9,KB,q0,q1,q2,q3,q4,q5,q6⟩:=Xv
 refine WPO.seq ?_
 rw[q0]
 have hL:=next_at g1 (aU _) g2 J
 refine WPO.next iy fF q1 q2 q3 q4 q5 rfl q6 rfl rfl (r:=it) ?_ hL fun q hq => ?_
 ·exact hE.2.1
 ·rcases Je g1 (aU _) g2 J hL q hq with⟨rfl,I⟩|⟨e,he,Mr,cI,rfl⟩
  ·refine⟨.bool false,[],rfl,?_⟩
   refine WPO.seq (WPO.cond (t:=false) rfl ?_)
   refine WPO.of iy fF (WP.exit ?_)
   refine⟨rfl,⟨hE.1,aa⟩,hs,seen,?_⟩
   rw[←K5 I]
   exact s
  ·refine⟨.bool true,_,rfl,?_⟩
   refine WPO.seq (WPO.cond (t:=true) rfl ?_)
   refine WPO.of iy fF (WP.skip ?_)
   refine WPO.block (WPO.of iy fF ?_)
   have s:=s.put (o':=.iter mid clock clock (seen++[e.2.2])) (k:=0) rfl
   have hs:=hs.put (i:=it) (o:=some (.iter mid clock clock (seen++[e.2.2]))) bZ
   generalize h.put it (some (.iter mid clock clock (seen++[e.2.2])))=h' at s hs
   have g1:=s.row (k:=0) rfl
   have g2:=s.row (k:=3) rfl
   refine WP.has (F:=[(0,.ptr p 0),(18,.ptr it 0),(20,.bool true)]) ⟨hE.1,hE.2.1,rfl,aa⟩ (zg rfl (ax.any rfl rfl rfl (OpR.entry rfl rfl (Jd g1 g2 J he)) ?_))
   rintro v h ⟨rfl,rfl⟩
   refine zk 8 rfl (zf rfl (nC _ _) (zl rfl (s.ld (k:=1) rfl sx vm) (zk 2 rfl ?_)))
   obtain⟨k1,k2⟩:=hk e he
   refine zo rfl (cK (r:=.ptr im e.1.toNat) rfl rfl (by rw[Vy,show(decide (0≤e.1)&&decide (e.1<(N:Int)))=true by simp;omega,aj];simp)) ?_
   have e1:=s.ZV (P:=Tryz.prog) (k:=2) (t:=28) (off:=e.1.toNat) rfl gU (by rw[K7];exact hl) (by omega) (hv e he).1 (hv e he).2
   have s1:=s.put (o':=.cells N ((doneRow seen es row).set e.1.toNat e.2.1) false) (k:=2) rfl
   refine ax.Vn rfl rfl (wY rfl rfl e1) (zv ?_)
   refine⟨_,cI,seen++[e.2.2],⟨rfl,rfl,aa⟩,rfl,hs.put (by simp),?_⟩
   rw[Jf J hn he Mr]
   exact s1
theorem TK {row:List V}(hs:FI (h₁.new (.iter mid clock clock [])) h' [h₁.next,im])(hi:T.get h'.tr im=some (.cells N (og es row) false))(hp:p≠im)(hm:mid≠im):
  (D6 h₁ p cs im N row mid es clock).next=((h'.put p (some (.cells 12 (cs.set 2 .a_) false))).put mid (some (.map [] clock))).next ∧
  ∀id o,T.get (D6 h₁ p cs im N row mid es clock).tr id=some o→T.get ((h'.put p (some (.cells 12 (cs.set 2 .a_) false))).put mid (some (.map [] clock))).tr id=some o:=by
 refine⟨hs.next.symm,fun id o ho => ?_⟩
 unfold D6 at ho
 rw[dK] at ho
 by_cases J:id=h₁.next
 ·rw[aP J] at ho;cases ho
 ·rw[ak J,dK] at ho
  rw[dK]
  by_cases h2:id=mid
  ·rw[aP h2] at ho ⊢;exact ho
  ·rw[ak h2,dK] at ho
   rw[ak h2,dK]
   by_cases h3:id=p
   ·rw[aP h3] at ho ⊢;exact ho
   ·rw[ak h3,dK] at ho
    rw[ak h3]
    by_cases I:id=im
    ·rw[aP I] at ho;rw[I,hi];exact ho
    ·rw[ak I] at ho
     rw[hs.get id (by simp[J,I])]
     exact ho
theorem TL {es:List (V×V×Nat)}{kt et:TypeId}(I:T.get h.tr mid=some (.map es c))(hu:P.underlying t=some (.map kt et)):
  ∃v h₁,builtinV P h .clear #[t] [.map mid]=some (v,h₁)∧(fun(_:V) (h₁:H)=>h₁=h.put mid (some (.map [] c))) v h₁ :=
 ⟨ct,_,by simp only[builtinV,clearV,hu,I];rfl,rfl⟩
theorem QS (s:Sat h (aS p δ::S))(oI:δ.Ok)(hk:∀e∈δ.now,0≤e.1∧e.1<δ.aq.length):
  ∃r,FH [.ptr p 0] h r∧∀(c:Ctx) (w:World),Rel c h w→(∀x∈[V.ptr p 0],wf c x)→eZ Tryz.prog 139 [.ptr p 0] c w r.1 r.2:=by
 obtain⟨pg,wt,nw,lg,mk,tn,tl,ops,s1⟩:=bI.1 s
 have gp:=s1.row (k:=0) rfl
 cases hd:δ.dead with
 |true =>
  refine⟨(.int .i64 9,h),⟨p,_,rfl,gp,.inl ⟨by rw[hd];rfl,rfl⟩⟩,fun c w hr ha => ?_⟩
  refine eZ.D5 (C:=CB) (args:=[.ptr p 0]) Aw CJ (show 1≤Tryz.f139.ntmps by decide) ?_ hr ha
  refine WPO.seq (WPO.of iy fF ?_)
  have s:=s1
  refine zr rfl (za rfl (zv ?_))
  refine WPO.seq (WPO.of iy fF ?_)
  exact zK 4 rfl (zf rfl (kx _ _) (zt rfl (aZ rfl (s.ld (k:=0) rfl kZ rfl)) (hd) (zk 11 rfl (WP.ret ⟨aa,pO rfl,rfl,fun _ _ h=>h⟩))))
 |false =>
  obtain⟨v1,J,Aa,hR⟩:=qz W.base s oI.aT
  have I:Call CB 164 [.ptr p 0] h (fun v' h'=>v'=v1∧h'=J):=⟨v1,J,Aa,rfl,rfl⟩
  rcases hR with⟨h0,rfl,s2⟩|⟨h0,rfl,s2⟩
  ·refine⟨(.int .i64 9,J),⟨p,_,rfl,gp,.inr ⟨by rw[hd];rfl,_,J,Aa,.inl ⟨rfl,rfl⟩⟩⟩,fun c w hr ha => ?_⟩
   refine eZ.D5 (C:=CB) (args:=[.ptr p 0]) Aw CJ (show 1≤Tryz.f139.ntmps by decide) ?_ hr ha
   refine WPO.seq (WPO.of iy fF ?_)
   have s:=s1
   refine zr rfl (za rfl (zv ?_))
   refine WPO.seq (WPO.of iy fF ?_)
   refine zK 4 rfl (zf rfl (kx _ _) (zh rfl (aZ rfl (s.ld (k:=0) rfl kZ rfl)) (hd) (zk 2 rfl (zc rfl (I) ?_))))
   rintro v h ⟨rfl,rfl⟩
   exact zo rfl (er rfl rfl) (zk 7 rfl (WP.ret ⟨aa,pO rfl,rfl,fun _ _ h=>h⟩))
  ·obtain⟨pg,wt,nw,lg,mk,tn,tl,ops,s3⟩:=bI.1 s2
   obtain⟨im,row,rfl,s4⟩:=gS.1 (s3.ae [1])
   obtain⟨mid,es,clock,rfl,hb,hn,s5⟩:=eM.1 (s4.ae [4])
   dsimp only[bringA,getA,aI] at s5
   have s6:=s5.ae [4,2,0,0,0,0]
   dsimp only[bringA,getA,aI] at s6
   have gp1:=s6.row (k:=0) rfl
   have gi:=s6.row (k:=1) rfl
   have gm:=s6.row (k:=2) rfl
   obtain⟨a,b,_,_,q3⟩:=s6.at (k:=3) rfl
   obtain⟨a',b',_,_,q4⟩:=s6.at (k:=4) rfl
   have xY:row.length=δ.cV.aq.length:=pT q4
   have SF:=tR q3
   have ZX:∀e∈es,0≤e.1∧e.1<(δ.cV.aq.length:Int):=fun e he=>by
    obtain⟨x,k1,_⟩:=AG q3 e he
    exact hk _ k1
   have fX:∀e∈es,e.2.1.cells=[e.2.1]∧storable e.2.1=true:=fun e he=>by
    obtain⟨x,_,k2⟩:=AG q3 e he
    have k3:ViewM b e.2.1 x:=k2
    rcases k3.2 with⟨k4|⟨_,k4⟩,_⟩|⟨_,_,_,_,_,_,k4,_⟩
    ·rw[k4];exact⟨rfl,rfl⟩
    ·rw[k4];exact⟨rfl,rfl⟩
    ·rw[k4];exact⟨rfl,rfl⟩
   have iK:(es.map fun e=>e.1.toNat).Nodup:=by
    have J:(es.map (·.1)).Nodup:=by rw[SF];exact hn
    rw[List.nodup_iff_pairwise_ne,List.pairwise_map] at J ⊢
    refine(List.pairwise_iff_forall_sublist.2 fun {x y} ZY => ?_)
    have h2:=(List.pairwise_iff_forall_sublist.1 J) ZY
    have hx:=(ZX x (ZY.subset bZ)).1
    have hy:=(ZX y (ZY.subset (b8 _ bZ))).1
    omega
   refine⟨(.int .i64 0,D6 J p _ im δ.cV.aq.length row mid es clock),⟨p,_,rfl,gp,.inr ⟨by rw[hd];rfl,_,J,Aa,.inr ⟨rfl,_,im,_,row,mid,es,clock,gp1,rfl,rfl,gi,gm,rfl⟩⟩⟩,fun c w hr ha => ?_⟩
   refine eZ.D5 (C:=CB) (args:=[.ptr p 0]) Aw CJ (show 1≤Tryz.f139.ntmps by decide) ?_ hr ha
   refine WPO.seq (WPO.of iy fF ?_)
   have s:=s1
   refine zr rfl (za rfl (zv ?_))
   refine WPO.seq (WPO.of iy fF ?_)
   refine zK 4 rfl (zf rfl (kx _ _) (zh rfl (aZ rfl (s.ld (k:=0) rfl kZ rfl)) (hd) (zk 2 rfl (zc rfl (I) ?_))))
   rintro v h ⟨rfl,rfl⟩
   refine zo rfl (er rfl rfl) (zp rfl (zv (zj rfl (WP.skip ?_))))
   refine WPO.seq (WPO.seq (WPO.of iy fF ?_))
   have s:=s6
   refine zK 3 rfl (zY s 0 Bx jT rfl (ax.any rfl rfl rfl (OpR.range rfl rfl (show rangeV Tryz.prog h 109 (.map mid)=some (.ptr h.next 0,h.new (.iter mid clock clock [])) by simp only[rangeV,k_,gm])) ?_))
   rintro v h' ⟨rfl,rfl⟩
   refine zv ?_
   have s7:=s.new (.iter mid clock clock [])
   refine WPO.block ((QO (row:=row) (es:=es) (S:=_) rfl xY hb iK ZX fX ⟨[],⟨rfl,rfl,aa⟩,rfl,⟨rfl,fun _ _=>rfl⟩,by rw[K6];exact s7⟩).mono ?_)
   rintro ex E' h' ⟨rfl,jx,hs,seen,s⟩
   refine WPO.of iy fF (WP.has jx ?_)
   have e1:=s.ZV (P:=Tryz.prog) (k:=1) (t:=146) (off:=2) (v:=.a_) rfl Vz rfl (by decide) rfl rfl
   have s8:=s.put (o':=.cells 12 (List.set (xb δ.cV.room (.sl im 0 δ.cV.aq.length (.exact δ.cV.aq.length)) wt (.map mid) lg δ.cV.bj mk δ.cV.aT ops δ.cV.dead tn tl) 2 .a_) false) (k:=1) rfl
   have mH:p≠im:=(s.ae [1,1]).ne
   have hnm:mid≠im:=(s.ae [3,2]).ne
   have gi:=s.row (k:=2) rfl
   have ZZ:=TK (p:=p) (cs:=(xb δ.cV.room (.sl im 0 δ.cV.aq.length (.exact δ.cV.aq.length)) wt (.map mid) lg δ.cV.bj mk δ.cV.aT ops δ.cV.dead tn tl)) hs gi mH hnm
   refine zK 4 rfl (zf rfl (uw _ _) (ax.Vn rfl rfl (wY rfl rfl e1) ?_))
   have s:=s8
   have gm8:=s.row (k:=3) rfl
   refine zk 5 rfl (zY s 1 Bx jT rfl (ax.ij rfl rfl (OpR.builtin rfl rfl rfl (TL gm8 k_)) ?_))
   rintro v h'' rfl
   exact zk 5 rfl (WP.ret ⟨aa,pO rfl,ZZ.1,ZZ.2⟩)
end
end Go.Proofs.YtefepnnfphdkpaaGreat.Am

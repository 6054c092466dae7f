/- TxOrders: a part of its proof; conditions: its statement's. -/
import Derived.Test.YtiojppeahfoiaaaGreatJ02
import Derived.Test.YtiojppeahfoiaaaGreatJ03
set_option linter.defProp false
namespace Go.Proofs.YtiojppeahfoiaaaGreat.Am
open Go Go.Maps Go.Sort Go.Shelf Go.RowKit
def gy:=@Tryz.underlying106
def gG:=@Tryz.underlying102
def pZ:=@Tryz.underlying78
def xh:=@Tryz.underlying214
def FR:=@Tryz.underlying281
def FU:=@Tryz.underlying334
abbrev af {α:Type}:Option α:=none
variable {X:aE} {C:dR} {Q:Ex→List (Nat×V)→H→Prop} {h:H} {κ:IntKind} {now:List (Int×List Nat)} {E:List (Nat×V)} {L:List (V×H)} {S:List aE} {l b data seen:List Nat} {cs pre post args:List V} {g n k s i size aB a d z p6 r id off q j tx pv nx j1 j2 p1 cM c aH:Nat} {o:Oper} {y:Operand} {P:Program} {α:Type} {t e:TypeId} {x u bv dt wh di:V}
theorem XT (m:Nat): AnyZI.SortsIn Tryz.prog Tryz.sorted106_ren Fence.wide m :=
 ⟨fun jX off cap ss W hH I J=>callsIn_wide.2 (AnyM.slices_Sort_int Tryz.sort176 jX off cap ss W hH I J),
  fun p cap W=>callsIn_wide.2 (AnyM.slices_Sort_int_none Tryz.sort176 p cap W)⟩
theorem C7 (eg:∀args w,(callFunc g args).run Tryz.prog w=.ok (.enter g args) w){Bm:Nat}{D0:DataW Unit}{w:World}(jq:Maps.size D0≤maxLen)(I:Maps.size D0*8≤140737488355328)
 (Z6:SeqGives Fence.wide 2 Tryz.prog g #[.pointer (some ⟨Bm,0,none⟩)] encZ (fun J=>J.Perm (intKeys D0)) (Maps.size D0) w):
  Calls Tryz.prog 106 #[.func (.func g) #[] #[.pointer (some ⟨Bm,0,none⟩)]] w fun e w'=>∃(v:Value) (J:List Int),e=.returned v∧J.Perm (intKeys D0) ∧
   w'.ownsRow w.heap.size 3 1 v J.length ((J.mergeSort (fun x y=>decide (x≤y))).map encZ)∧(v=.slice none 0 0↔J=[])∧Below w.heap.size w w' :=
 (callsIn_wide (n:=5)).1 (AnyZI.sorted_in Tryz.sorted106 Fence.wide 5 aa aa aa aa rfl (by omega) (XT _) (enters_of Tryz.func176 (by rfl) rfl) g _ aa eg _ _ jq I _ Z6)
def yP : List Nat:=[177,187,218]
theorem MX : DN Tryz.prog 106 3 yP:=by
 intro g hg Bm b nn D0 w hB hm J jq I
 simp only[yP,gY,iu,j8] at hg
 rcases hg with rfl|rfl|rfl
 ·exact C7 (enters_of Tryz.func177 (by rfl) rfl) jq I (AnyZI.keys_gives (ρ:=Tryz.keys107_ren) { Tryz.keys107 with } Fence.wide _ aa rfl (by omega) Bm b nn D0 w hB hm J)
 ·exact C7 (enters_of Tryz.func187 (by rfl) rfl) jq I (AnyZI.keys_gives (ρ:=Tryz.keys115_ren) { Tryz.keys115 with } Fence.wide _ aa rfl (by omega) Bm b nn D0 w hB hm J)
 ·exact C7 (enters_of Tryz.func218 (by rfl) rfl) jq I (AnyZI.keys_gives (ρ:=Tryz.keys181_ren) { Tryz.keys181 with } Fence.wide _ aa rfl (by omega) Bm b nn D0 w hB hm J)
end Go.Proofs.YtiojppeahfoiaaaGreat.Am
namespace Go.Proofs.YtiojppeahfoiaaaGreat.Am
open Go
variable {X:aE} {C:dR} {Q:Ex→List (Nat×V)→H→Prop} {h:H} {κ:IntKind} {now:List (Int×List Nat)} {E:List (Nat×V)} {L:List (V×H)} {S:List aE} {l b data seen:List Nat} {cs pre post args:List V} {g n k s i size aB a d z p6 r id off q j tx pv nx j1 j2 p1 cM c aH:Nat} {o:Oper} {y:Operand} {P:Program} {α:Type} {t e:TypeId} {x u bv dt wh di:V}
def FW : List Nat:=[71,235,236,212,211,180,190,163]
structure Std (told:cE): Prop where
 free:∀f,inL FW f=true→told f=none
 more:told 217=some toldMore
theorem wrap_u64 (h:n<18446744073709551616): IntKind.wrap .u64 (n:Int)=(n:Int):=by
 grind[IntKind.wrap,IntKind.bits,IntKind.signed]
theorem wrap_u8 (n:Nat): IntKind.wrap .u8 (n:Int)=((n%256:Nat):Int):=by
 rfl
def digits : Nat→Nat→List Nat
 |0,n=>[n%128]
 |k+1,n=>if n<128 then[n] else(n%128+128)::digits k (n/128)
set_option maxRecDepth 10000 in
theorem XU (h:n<256): Nat.lor n 128=n%128+128:=by
 have:∀m:Fin 256,Nat.lor m.1 128=m.1%128+128:=by decide
 exact this ⟨n,h⟩
theorem KM (h:n<256): intV .or .u8 (n:Int) 128=some (.int .u8 ((n%128+128:Nat):Int)):=by
 have I:((n:Int)%(2^(IntKind.u8).bits:Int)).toNat=n:=by grind[IntKind.bits]
 have J:((128:Int)%(2^(IntKind.u8).bits:Int)).toNat=128:=by rfl
 grind[intV,bitsV,XU,wrap_u8]
theorem Z7 : shiftV .shr .u64 (n:Int) 7=some (.int .u64 ((n/128:Nat):Int)):=by
 grind[shiftV,IntKind.bits]
section
variable {told:cE}
noncomputable def YU : Code:=unloop (unblk (leftC (b6 ((Tryz.f235.body).getD .skip))))
theorem tE : convV Tryz.prog h 32 5 (.int .u64 (n:Int))=some (.int .u8 ((n%256:Nat):Int),h):=by
 simp[convV,wrap_u8]
theorem iq (h:n<128): digits k n=[n]:=by
 cases k<;>grind[digits]
theorem BB (hn:n<128)(I:look E 1=some (.int .u64 (n:Int)))
 (J:Q (.exit 0) ((6,.bool false)::(5,.int .u64 (n:Int))::E) h): WP ⟨Tryz.prog,told⟩ 20 (.loop YU) E h Q:=by
 refine WP.loop (WP.seq (WP.seq (WP.region rfl ?_)))
 refine zo rfl (bf I) (zo rfl (ak (v:=.int .u64 (n:Int)) (u:=.int .u64 128) (r:=.bool false) rfl rfl (by simp only[binV,ikBeq,ai,intV];congr 2;simp;omega)) ?_)
 exact aq.nil (WP.cond (t:=false) rfl (WP.exit J))
theorem HW : ∀(k n:Nat) (l:List Nat) (s:V) (h:H) (E:List (Nat×V)) (Q:Ex→List (Nat×V)→H→Prop),jG h→iM h s l→n<128^(k+1)→k≤9→l.length+k+1≤140737488355328 →
  look E 0=some s→look E 1=some (.int .u64 (n:Int)) →
  (∀E' h' s' l' (m:Nat),look E' 0=some s'→look E' 1=some (.int .u64 (m:Int))→m<128→l'++[m]=l++digits k n→iM h' s' l'→c7 (2*k) (rowIds s) h h'→(∀i∈rowIds s',i∈rowIds s∨h.next≤i)→Q (.exit 0) E' h') →
  WP ⟨Tryz.prog,told⟩ 20 (.loop YU) E h Q:=by
 intro k
 induction k with
 |zero =>
  intro n l s h E Q hw hs hn _ _ h0 J hq
  have I:n<128:=by omega
  exact BB I J (hq _ h s l n h0 J I (by rw[iq I]) hs (c7.refl hw _) (fun i hi=>.inl hi))
 |succ k ih =>
  intro n l s h E Q hw hs hn hk hl h0 J hq
  by_cases I:n<128
  ·exact BB I J (hq _ h s l n h0 J I (by rw[iq I]) hs ((c7.refl hw _).mono (eX _) (fun _ h=>h)) (fun i hi=>.inl hi))
  ·have hd:n/128<128^(k+1):=by
    omega
   refine WP.loop (WP.seq (WP.seq (WP.region rfl ?_)))
   refine zo rfl (bf J) (zo rfl (ak (v:=.int .u64 (n:Int)) (u:=.int .u64 128) (r:=.bool true) rfl rfl (by simp only[binV,ikBeq,ai,intV];congr 2;simp;omega)) ?_)
   refine aq.nil (WP.cond (t:=true) rfl (WP.skip ?_))
   refine WP.block (WP.seq (WP.region rfl ?_))
   refine zo rfl (bf h0) (zo rfl (bf J) (zo rfl (bJ (v:=.int .u64 (n:Int)) rfl tE) (zo rfl (ak (v:=.int .u8 ((n%256:Nat):Int)) (u:=.int .u8 128) (r:=.int .u8 ((n%256%128+128:Nat):Int)) rfl rfl (by exact KM (by omega))) ?_)))
   refine aq.Kt (b:=n%256%128+128) rfl hw rfl rfl rfl rfl rfl rfl (by omega) (fun v h₁ b1 k1 f1 => ?_)
   have fX:iM h₁ s l:=hs.iO hw k1 (fun i _=>iu)
   refine aq.app (s:=s) (x:=v) rfl k1.wf rfl rfl rfl rfl rfl rfl rfl fX b1.view (by grind) (fun v2 MY b2 k2 f2 => ?_)
   have DW:c7 2 (rowIds s) h MY:=(k1.mono (aS _) (fun i hi=>by grind)).trans k2 (fun i hi=>.inl hi)
   refine za rfl ?_
   refine aq.nil (WP.region rfl ?_)
   refine zo rfl (bf J) (zo rfl (ak (v:=.int .u64 (n:Int)) (u:=.int .u64 7) (r:=.int .u64 ((n/128:Nat):Int)) rfl rfl Z7) (zk 2 rfl ?_))
   refine ih (n/128) (l++[n%256%128+128]) v2 MY _ Q DW.wf b2 hd (by omega) (by grind) rfl rfl (fun E' h' s' l' m q1 q2 q3 q4 q5 q6 q7 => ?_)
   refine hq E' h' s' l' m q1 q2 q3 ?_ q5 ?_ (fun i hi => ?_)
   ·grind[digits]
   ·exact(DW.trans q6 (fun i hi=>(f2 i hi).imp_right (fun h=>b9 k1.le h))).mono (by omega) (fun i hi=>hi)
   ·rcases q7 i hi with h3|h3
    ·exact(f2 i h3).imp_right (fun h=>b9 k1.le h)
    ·exact .inr (b9 DW.le h3)
theorem DX (hT:Std told){s:V}(hw:jG h)(hs:iM h s l)(hn:n<128^(k+1))(hk:k≤9)(hl:l.length+k+1≤140737488355328):
  Call ⟨Tryz.prog,told⟩ 235 [s,.int .u64 (n:Int)] h fun v h'=>iM h' v (l++digits k n)∧c7 (2*k+2) (rowIds s) h h'∧∀i∈rowIds v,i∈rowIds s∨h.next≤i:=by
 refine Call.of_wp (hT.free _ rfl) Tryz.func235 rfl rfl ?_
 refine WP.seq (WP.region rfl (aq.op rfl rfl rfl (dZ rfl) (aq.nil ?_)))
 refine WP.seq (WP.block ?_)
 refine HW k n l s h _ _ hw hs hn hk hl rfl rfl (fun E' h' s' l' m q1 q2 q3 q4 q5 I q7 => ?_)
 have wJ:l'.length=l.length+(digits k n).length-1:=by
  have:=iA List.length q4
  simp at this
  omega
 have J:∀(k n:Nat),(digits k n).length≤k+1:=by
  intro k
  induction k<;>grind[digits]
 have abC:=J k n
 refine WP.seq (WP.region rfl ?_)
 refine zo rfl (bf q1) (zo rfl (bf q2) (zo rfl (bJ (v:=.int .u64 (m:Int)) rfl tE) ?_))
 refine aq.Kt (b:=m%256) rfl I.wf rfl rfl rfl rfl rfl rfl (by omega) (fun v h₁ b1 k1 f1 => ?_)
 have fX:iM h₁ s' l':=q5.iO I.wf k1 (fun i _=>iu)
 refine aq.app (s:=s') (x:=v) rfl k1.wf rfl rfl rfl rfl rfl rfl rfl fX b1.view (by grind) (fun v2 MY b2 k2 f2 => ?_)
 refine za rfl ?_
 refine aq.nil (WP.ret ?_)
 refine⟨aa,v2,rfl,?_,?_,fun i hi => ?_⟩
 ·grind
 ·refine((I.trans k1 (fun i hi=>by grind)).trans k2 (fun i hi => ?_)).mono (by omega) (fun i hi=>hi)<;>grind
 ·rcases f2 i hi with h3|h3
  ·grind
  ·exact .inr (by have:=I.le;have:=k1.le;omega)
theorem FX (I:n<18446744073709551616): convV Tryz.prog h 3 32 (.int .i64 (n:Int))=some (.int .u64 (n:Int),h):=by
 simp_all[convV,wrap_u64]
theorem fJ : ∀(k n:Nat),(digits k n).length≤k+1:=by
 intro k
 induction k<;>grind[digits]
theorem S_ (I:Std told){s:V}{m:List Nat}(hw:jG h)(hs:iM h s l)(J:View h x m)(hd:∀i∈rowIds x,i∉rowIds s)(hn:m.length<128^(k+1))(hk:k≤9)(hl:l.length+k+1+m.length≤140737488355328):
  Call ⟨Tryz.prog,told⟩ 236 [s,x] h fun v h'=>iM h' v (l++digits k m.length++m)∧c7 (2*k+3) (rowIds s) h h'∧∀i∈rowIds v,i∈rowIds s∨h.next≤i:=by
 refine Call.of_wp (I.free _ rfl) Tryz.func236 rfl rfl ?_
 refine WP.seq (WP.region rfl (aq.op rfl rfl rfl (dZ rfl) (aq.nil ?_)))
 refine WP.seq (WP.region rfl ?_)
 refine zk 2 rfl (zo rfl (aQ (v:=x) rfl rfl rfl J.len) (zo rfl (bJ (v:=.int .i64 (m.length:Int)) rfl (FX (by omega))) ?_))
 refine aq.call rfl rfl rfl rfl rfl rfl rfl (DX I (k:=k) hw hs hn hk (by omega)) (fun v h₁ ⟨b1,k1,f1⟩ => ?_)
 refine zm rfl ?_
 have v7:=fJ k m.length
 refine aq.app (s:=v) (x:=x) rfl k1.wf rfl rfl rfl rfl rfl rfl rfl b1 (J.iO hw k1 hd) (by grind) (fun v2 MY b2 k2 f2 => ?_)
 refine aq.op rfl rfl rfl (dZ rfl) (aq.nil (WP.ret ?_))
 refine⟨aa,v2,rfl,b2,(k1.trans k2 f1).mono (by omega) (fun i hi=>hi),fun i hi => ?_⟩
 rcases f2 i hi with h3|h3
 ·grind
 ·exact .inr (b9 k1.le h3)
def le : Nat→Nat→List Nat
 |0,_=>[]
 |k+1,n=>(n%256)::le k (n/256)
theorem cF : ∀(k n:Nat),(le k n).length=k:=by
 intro k
 induction k<;>grind[le]
theorem KN : ∀(k n:Nat),∀b∈le k n,b<256:=by
 intro k
 induction k with
 |zero=>intro n b I;cases I
 |succ k J =>
  intro n b I
  rcases List.mem_cons.1 I with rfl|I<;>grind
noncomputable def lyX : Code:=unloop (unblk (b6 (leftC (b6 ((Tryz.f71.body).getD .skip)))))
theorem Z8 (hi:i≤8): shiftV .shr .u64 (n:Int) ((8*i:Nat):Int)=some (.int .u64 ((n/256^i:Nat):Int)):=by
 simp only[shiftV,IntKind.bits,b8]
 rw[show min (8*i) 64=8*i by omega,show decide (((8*i:Nat):Int)<0)=false by rfl,aK]
 rw[Int.fdiv_eq_ediv_of_nonneg _ (Int.pow_nonneg (by omega))]
 rw[show(256:Nat)^i=2^(8*i) by rw[Nat.pow_mul]]
 push_cast
 rfl
theorem PL (ej:size≤8): ∀(j i:Nat) (l:List Nat) (s:V) (h:H) (E:List (Nat×V)) (Q:Ex→List (Nat×V)→H→Prop),jG h→iM h s l→i+j=size→l.length+j≤140737488355328 →
  look E 0=some s→look E 2=some (.int .u64 (n:Int))→look E 8=some (.int .i64 (size:Int))→look E 9=some (.int .i64 (i:Int)) →
  (∀E' h' s',look E' 0=some s'→iM h' s' (l++le j (n/256^i))→c7 (2*j) (rowIds s) h h'→(∀i∈rowIds s',i∈rowIds s∨h.next≤i)→Q (.exit 0) E' h') →
  WP ⟨Tryz.prog,told⟩ 22 (.loop lyX) E h Q:=by
 intro j
 induction j with
 |zero =>
  intro i l s h E Q hw hs hi _ h0 h2 h8 h9 hq
  refine WP.loop (WP.seq (WP.region rfl ?_))
  refine zo rfl (ak (v:=.int .i64 (i:Int)) (u:=.int .i64 (size:Int)) (r:=.bool false) h9 h8 (by simp_all[binV,ikBeq,intV])) ?_
  refine aq.nil (WP.seq (WP.cond (t:=false) rfl (WP.exit ?_)))
  exact hq _ h s h0 (by simpa[le] using hs) (c7.refl hw _) (fun i hi=>.inl hi)
 |succ j ih =>
  intro i l s h E Q hw hs hi hl h0 h2 h8 h9 hq
  refine WP.loop (WP.seq (WP.region rfl ?_))
  refine zo rfl (ak (v:=.int .i64 (i:Int)) (u:=.int .i64 (size:Int)) (r:=.bool true) h9 h8 (by simp only[binV,ikBeq,ai,intV];congr 2;simp;omega)) ?_
  refine aq.nil (WP.seq (WP.cond (t:=true) rfl (WP.skip ?_)))
  refine WP.seq (WP.block (WP.seq (WP.region rfl ?_)))
  refine zo rfl (bf h9) ?_
  refine aq.op rfl rfl rfl (dZ rfl) (aq.nil (WP.region rfl ?_))
  refine zo rfl (bf h0) (zo rfl (bf h2) (zm rfl ?_))
  refine aq.op rfl rfl rfl (ak (v:=.int .i64 8) (u:=.int .i64 (i:Int)) (r:=.int .i64 ((8*i:Nat):Int)) rfl rfl (by
   simp only[binV,ikBeq,ai,intV]
   rw[show(8:Int)*(i:Int)=((8*i:Nat):Int) by rfl,wrap_i64 (by omega)])) ?_
  refine zo rfl (ak (v:=.int .u64 (n:Int)) (u:=.int .i64 ((8*i:Nat):Int)) (r:=.int .u64 ((n/256^i:Nat):Int)) rfl rfl (by exact Z8 (by omega))) ?_
  refine zo rfl (bJ (v:=.int .u64 ((n/256^i:Nat):Int)) rfl tE) ?_
  refine aq.Kt (b:=n/256^i%256) rfl hw rfl rfl rfl rfl rfl rfl (by omega) (fun v h₁ b1 k1 f1 => ?_)
  have fX:iM h₁ s l:=hs.iO hw k1 (fun i _=>iu)
  refine aq.app (s:=s) (x:=v) rfl k1.wf rfl rfl rfl rfl rfl rfl rfl fX b1.view (by grind) (fun v2 I b2 k2 f2 => ?_)
  have J:c7 2 (rowIds s) h I:=(k1.mono (aS _) (fun i hi=>by grind)).trans k2 (fun i hi=>.inl hi)
  refine aq.op rfl rfl rfl (dZ rfl) (aq.nil (WP.region rfl ?_))
  refine zo rfl (ak (v:=.int .i64 (i:Int)) (u:=.int .i64 1) h9 rfl (by simp only[binV,ikBeq,ai];exact wS (by omega))) ?_
  refine aq.op rfl rfl rfl (bf rfl) (aq.nil ?_)
  refine ih (i+1) (l++[n/256^i%256]) v2 I _ Q J.wf b2 (by omega) (by grind) rfl h2 h8 rfl (fun E' h' s' q1 q2 q3 q4 => ?_)
  refine hq E' h' s' q1 ?_ ?_ (fun i hi => ?_)
  ·grind[Nat.div_div_eq_div_mul,le]
  ·exact(J.trans q3 (fun i hi=>(f2 i hi).imp_right (fun h=>b9 k1.le h))).mono (by omega) (fun i hi=>hi)
  ·rcases q4 i hi with h3|h3
   ·exact(f2 i h3).imp_right (fun h=>b9 k1.le h)
   ·exact .inr (b9 J.le h3)
theorem MZ (J:Std told){s:V}(hw:jG h)(hs:iM h s l)(I:size≤8)(hl:l.length+size≤140737488355328):
  Call ⟨Tryz.prog,told⟩ 71 [s,.int .i64 (size:Int),.int .u64 (n:Int)] h fun v h'=>iM h' v (l++le size n)∧c7 (2*size) (rowIds s) h h'∧∀i∈rowIds v,i∈rowIds s∨h.next≤i:=by
 refine Call.of_wp (J.free _ rfl) Tryz.func71 rfl rfl ?_
 refine WP.seq (WP.region rfl (aq.op rfl rfl rfl (dZ rfl) (aq.nil ?_)))
 refine WP.seq (WP.seq (WP.region rfl ?_))
 refine zm rfl ?_
 refine aq.op rfl rfl rfl (bf rfl) (aq.nil (WP.block ?_))
 refine PL I size 0 l s h _ _ hw hs (by omega) hl rfl rfl rfl rfl (fun E' h' s' q1 q2 q3 q4 => ?_)
 refine WP.seq (WP.region rfl ?_)
 refine zo rfl (bf q1) ?_
 refine aq.op rfl rfl rfl (dZ rfl) (aq.nil (WP.ret ?_))
 exact⟨aa,s',rfl,by grind,q3,q4⟩
theorem KO : ∀(l:List Nat),(∀b∈l,b<256)→bytesIn (ofBytes l)=some l:=by
 intro l
 induction l<;>grind[List.mem_cons_self,bytesIn,ofBytes]
def Aq (s:Nat)(l:List Nat): Nat:=Nat.xor (crcL (Nat.xor s 4294967295) l) 4294967295
theorem C8 (hs:s<4294967296)(I:∀b∈l,b<256): Aq s l<4294967296:=mI (CQ l _ (mI hs (by omega)) I) (by omega)
theorem Ja (hT:Std told)(J:View h x l)(hl:l.length≤4611686018427387904)(hs:s<4294967296):
  gD ⟨Tryz.prog,told⟩ 217 [.int .u32 (s:Int),x] h (.int .u32 (Aq s l:Nat)) h:=by
 refine gD.told hT.more A_ rfl ?_
 have I:=J
 obtain⟨hb,I⟩:=I
 rcases I with⟨rfl|⟨ea,rfl⟩,rfl⟩|⟨id,off,cap,n,cs,st,rfl,hg,h1,h2,h3,h4⟩
 ·simp only[toldMore]
  rw[show(decide ((0:Int)≤(s:Int))&&decide ((s:Int)<4294967296))=true by grind]
  rfl
 ·simp only[toldMore]
  rw[show(decide ((0:Int)≤(s:Int))&&decide ((s:Int)<4294967296))=true by grind]
  rfl
 ·simp only[toldMore]
  rw[show(decide ((0:Int)≤(s:Int))&&decide ((s:Int)<4294967296)&&Nat.ble l.length 4611686018427387904)=true by simp[aG];omega,ai,(View.rdN J).2]
  simp only[KO l hb]
  rfl
theorem XV (I:Std told)(J:View h x l)(hl:l.length≤4611686018427387904):
  Call ⟨Tryz.prog,told⟩ 180 [x] h fun v h'=>v=.int .u32 (Aq 0 l:Nat)∧h'=h:=by
 refine Call.of_wp (I.free _ rfl) Tryz.func180 rfl rfl ?_
 refine WP.seq (WP.region rfl (aq.op rfl rfl rfl (dZ rfl) (aq.nil ?_)))
 refine WP.seq (WP.region rfl ?_)
 refine zm rfl ?_
 refine aq.call (wP:=fun v h'=>v=.int .u32 (Aq 0 l:Nat)∧h'=h) rfl rfl rfl rfl rfl rfl rfl ⟨_,_,Ja (s:=0) I J hl (by omega),rfl,rfl⟩ (fun v h₁ ⟨e1,e2⟩ => ?_)
 subst e1;subst e2
 exact aq.op rfl rfl rfl (dZ rfl) (aq.nil (WP.ret ⟨aa,_,rfl,rfl,rfl⟩))
def qJ (aB:Nat)(l:List Nat): Nat:=Aq (Aq 0 (le 8 aB)) l
theorem FY (I:∀b∈l,b<256): qJ aB l<4294967296:=C8 (C8 (by omega) (KN 8 aB)) I
theorem M1 (J:Std told)(hw:jG h)(hx:View h x l)(hl:l.length≤4611686018427387904):
  Call ⟨Tryz.prog,told⟩ 190 [.int .u64 (aB:Int),x] h fun v h'=>v=.int .u32 (qJ aB l:Nat)∧c7 16 [] h h':=by
 refine Call.of_wp (J.free _ rfl) Tryz.func190 rfl rfl ?_
 refine WP.seq (WP.region rfl (aq.op rfl rfl rfl (dZ rfl) (aq.nil ?_)))
 refine WP.seq (WP.region rfl ?_)
 refine zm rfl ?_
 refine aq.call rfl rfl rfl rfl rfl rfl rfl (MZ (size:=8) (s:=.aO) (l:=[]) (n:=aB) J hw ⟨by simp,.inl ⟨rfl,rfl⟩⟩ (by omega) (by simp)) (fun v h₁ ⟨b1,k1,f1⟩ => ?_)
 rw[d_] at b1
 refine aq.call rfl rfl rfl rfl rfl rfl rfl (XV J b1.view (by rw[cF];omega)) (fun v2 I ⟨e1,e2⟩ => ?_)
 subst e1;subst e2
 refine zm rfl ?_
 refine aq.call (wP:=fun v h'=>v=.int .u32 (qJ aB l:Nat)∧h'=I) rfl rfl rfl rfl rfl rfl rfl
  ⟨_,_,Ja (s:=Aq 0 (le 8 aB)) J (hx.iO hw k1 (fun i _ hi=>by simp[rowIds] at hi)) hl (C8 (by omega) (KN 8 aB)),rfl,rfl⟩ (fun v3 Bg ⟨e3,e4⟩ => ?_)
 subst e3;subst e4
 exact aq.op rfl rfl rfl (dZ rfl) (aq.nil (WP.ret ⟨aa,_,rfl,rfl,k1.mono (aS _) (fun i hi=>by simp[rowIds] at hi)⟩))
end
def Vz : List Nat:=[11]
def VA : List Nat:=[79]
def VB : List Nat:=[]
def VC : List Nat:=[76,136,159,208]
def VD : List Nat:=[80,26]
def FZ : List Nat:=Vz++(VA++(VB++(VC++(VD++[217,106,191,117,118]))))
structure W (told:cE): Prop where
 free:∀f,inL FZ f=false→told f=none
 more:told 217=some toldMore
 sorted:told 106=some (toldSorted yP)
theorem W.RZ {told:cE}(I:W told): Std told:=by
 refine⟨fun f J=>I.free f ?_,I.more⟩
 have:∀f∈FW,inL FZ f=false:=by decide
 grind[L8]
def uL (v:V): Option (List Nat)→aE
 |none=>.pu (v=.aO)
 |some b=>.an (.pu (v≠.aO)) (.cL v b)
theorem aX.uL (v:V)(o:Option (List Nat)): aX (Am.uL v o):=by
 cases o with
 |none=>exact aX.pu _
 |some b=>exact aX.an (aX.pu _) (aX.cL _ _)
def each {α:Type}(f:V→α→aE): List V→List α→aE
 |[],[]=>.pu True
 |v::l,x::m=>.an (f v x) (each f l m)
 |_,_=>.pu False
theorem aX.each {f:V→α→aE}(I:∀v x,aX (f v x)): ∀(l:List V) (m:List α),aX (Am.each f l m):=by
 intro l
 induction l with
 |nil=>intro m;cases m<;>exact aX.pu _
 |cons v l J=>intro m;cases m with
  |nil=>exact aX.pu _
  |cons x m=>exact aX.an (I _ _) (J m)
section
variable {f:V→α→aE} {a b:PM}
theorem F0 : ∀ {l:List V} {m:List α},(each f l m).p a b→l.length=m.length:=by
 intro l
 induction l with
 |nil=>intro m h;cases m with
  |nil=>rfl
  |cons x m=>exact h.elim
 |cons v l I=>intro m h;cases m with
  |nil=>exact h.elim
  |cons x m=>simp only[bq,I h.2]
theorem F1 : ∀ {l:List V} {m:List α} {i:Nat} {v:V} {x:α},(each f l m).p a b→l[i]?=some v→m[i]?=some x→(f v x).p a b:=by
 intro l
 induction l with
 |nil=>simp
 |cons u l ih=>intro m i v x h I J;cases m with
  |nil=>grind
  |cons y m =>
   cases i with
   |zero=>simp at I J;subst I;subst J;exact h.1
   |succ i=>exact ih h.2 I J
theorem Ta {us:List V}{cs:List α}{c:α}(J:∀v x,aX (f v x))(s:Sat h (each f us cs::S))(I:cs[i]?=some c): ∃u,us[i]?=some u∧Sat h (f u c::each f us cs::S):=by
 obtain⟨a,b,q1,q2,q3⟩:=s.at (k:=0) rfl
 have hl:=F0 q3
 have hi:=(List.getElem?_eq_some_iff.1 I).1
 have hu:us[i]?=some (us[i]'(by omega)):=bp _
 exact⟨_,hu,(s.dup (aX.each J _ _)).gO fun a b h=>F1 h hu I⟩
end
abbrev Wr := Nat×List Nat
structure Dk where
 room:Nat
 bu:List (Option (List Nat))
 waiting:List Wr
 now:List (Int×List Nat)
 log:List Nat
 eA:Nat
 mark:List Nat
 bH:Int
 dead:Bool
 r6:Option Wr
 tail:List Nat
variable {δ:Dk}
def M3 (room:Nat)(pg wt I lg:V)(ct:Nat)(mk:V)(J ops:Int)(dead:Bool)(tn tl:V): List V :=
 [.int .i64 (room:Int),pg,wt,I,lg,.int .i64 (ct:Int),mk,.int .i64 J,.int .i64 ops,.bool dead,tn,tl]
def BC : List V→List Wr→aE
 |[],[]=>.pu True
 |p::v::l,x::m=>.an (.an (.pu (p=.int .i64 (x.1:Int)∧v≠.aO)) (.cL v x.2)) (BC l m)
 |_,_=>.pu False
theorem aX.wr : ∀(m:List Wr) (l:List V),aX (BC l m):=by
 intro m
 induction m with
 |nil=>intro l;cases l with
  |nil=>exact aX.pu _
  |cons v l=>cases l<;>exact aX.pu _
 |cons x m I=>intro l;cases l with
  |nil=>exact aX.pu _
  |cons v l=>cases l with
   |nil=>exact aX.pu _
   |cons u l=>exact aX.an (aX.an (aX.pu _) (aX.cL _ _)) (I l)
theorem Tb {a b:PM}: ∀ {m:List Wr} {l:List V} {x:Wr} {v:V},(BC l m).p a b→v≠.aO→(aE.cL v x.2).p a b→(BC (l++[.int .i64 (x.1:Int),v]) (m++[x])).p a b:=by
 intro m
 induction m with
 |nil=>intro l x v h I J;cases l with
  |nil=>exact⟨⟨⟨rfl,I⟩,J⟩,aa⟩
  |cons u l=>cases l<;>exact h.elim
 |cons y m ih=>intro l x v h I J;cases l with
  |nil=>exact h.elim
  |cons u l=>cases l with
   |nil=>exact h.elim
   |cons w l=>exact⟨h.1,ih h.2 I J⟩
theorem Tc {a b:PM}: ∀ {m:List Wr} {l:List V},(BC l m).p a b→l.length=m.length*2:=by
 intro m
 induction m with
 |nil=>intro l h;cases l with
  |nil=>rfl
  |cons u l=>cases l<;>exact h.elim
 |cons y m I=>intro l h;cases l with
  |nil=>exact h.elim
  |cons u l=>cases l with
   |nil=>exact h.elim
   |cons w l=>have:=I h.2;simp only[bq];omega
def mN (v:V)(m:List (Option (List Nat))): aE:=xs fun id:Nat=>xs fun cs:List V=>star [.pu (v=.sl id 0 m.length (.exact m.length)),pt id (.cells m.length cs false),each uL cs m]
def yQ (v:V)(m:List Wr): aE:=xs fun cs:List V=>star [.arr 2 v cs,BC cs m]
def BD (v:V): Option Wr→aE
 |none=>.pu (v=.a_)
 |some x=>xs fun id:Nat=>xs fun u:V=>star [.pu (v=.ptr id 0),pt id (.cells 2 [.int .i64 (x.1:Int),u] false),.cL u x.2]
def bw (p:Nat)(δ:Dk): aE:=xs fun pg:V=>xs fun wt:V=>xs fun I:V=>xs fun lg:V=>xs fun mk:V=>xs fun J:V=>xs fun tl:V=>xs fun ops:Int =>
 star [pt p (.cells 12 (M3 δ.room pg wt I lg δ.eA mk δ.bH ops δ.dead J tl) false),mN pg δ.bu,yQ wt δ.waiting,pn (fun v b=>.cL v b) I δ.now,aW lg δ.log,Bp mk δ.mark,BD J δ.r6,Bp tl δ.tail]
section
variable {p:Nat}
theorem cK : Sat h (bw p δ::S)↔∃pg wt I lg mk J tl ops,Sat h (pt p (.cells 12 (M3 δ.room pg wt I lg δ.eA mk δ.bH ops δ.dead J tl) false)::mN pg δ.bu::yQ wt δ.waiting::pn (fun v b=>.cL v b) I δ.now::aW lg δ.log::Bp mk δ.mark::BD J δ.r6::Bp tl δ.tail::S):=by
 simp[bw,gT,aZ]
theorem ov {v:V}{m:List (Option (List Nat))}: Sat h (mN v m::S)↔∃id cs,v=.sl id 0 m.length (.exact m.length)∧Sat h (pt id (.cells m.length cs false)::each uL cs m::S):=by
 simp[mN,gT,aZ,mL]
theorem xj {v:V}{m:List Wr}: Sat h (yQ v m::S)↔∃cs,Sat h (.arr 2 v cs::BC cs m::S):=by
 grind[yQ,gT,aZ]
end
section
variable {told:cE} {v:V}
def BE (s:Nat)(l:List Nat): Nat:=Nat.xor (crcL (Nat.xor s 4294967295) l) 4294967295
theorem Ar (hs:s<4294967296)(I:∀b∈l,b<256): BE s l<4294967296:=mI (CQ _ _ (mI hs (by omega)) I) (by omega)
theorem Td (hT:W told)(sa:Sat h S)(hk:getA S k=some X)(hX:cq X (cz v l))(hs:s<4294967296)(hl:l.length≤4611686018427387904):
  Call ⟨Tryz.prog,told⟩ 217 [.int .u32 (s:Int),v] h fun r h'=>r=.int .u32 (BE s l:Nat)∧h'=h:=by
 have I:=sa.aD hk hX
 refine⟨_,_,gD.told hT.more A_ rfl ?_,rfl,rfl⟩
 have J:uy (s:Int) l=.int .u32 (BE s l:Nat):=by rfl
 have hv':=I
 rcases hv'.2 with⟨rfl|⟨ea,rfl⟩,rfl⟩|⟨id,off,cap,n,cs,st,rfl,_⟩
 ·grind[toldMore]
 ·grind[toldMore]
 ·simp only[toldMore]
  rw[show(decide ((0:Int)≤(s:Int))&&decide ((s:Int)<4294967296)&&Nat.ble l.length 4611686018427387904)=true by simp;omega,ai,I.rdN.2]
  simp only
  have:∀l:List Nat,(∀b∈l,b<256)→bytesIn (ofBytes l)=some l:=by
   intro l
   induction l with
   |nil=>intro _;rfl
   |cons b l ih =>
    intro hb
    grind[ofBytes,bytesIn,List.mem_cons_self]
  rw[this l I.1]
  simp only[J]
end
section
variable {told:cE} {p:Nat}
theorem mu (J:W told)(s:Sat h (X::S))(I:cq X (cz x l))(hl:l.length<1073741824):
  Call ⟨Tryz.prog,told⟩ 62 [x] h fun v h'=>Sat h' (aW v l::X::S):=by
 refine Call.of_wp (J.free _ rfl) Tryz.func62 rfl rfl (zK 7 rfl (zo rfl (aQ rfl rfl rfl (bh aM (s.aD (k:=0) rfl I))) (aq.any rfl rfl rfl (OpR.rZ rfl s rfl rfl rfl rfl hl) ?_)))
 intro v h s
 refine zm rfl (aq.any rfl rfl rfl (OpR.rY rfl s I rfl rfl rfl rfl (by simp;omega)) ?_)
 intro v h s
 exact zk 2 rfl (WP.ret ⟨aa,_,rfl,s⟩)
theorem vt (J:W told)(s:Sat h (X::S))(I:cq X (cz x l))(hl:l.length<1073741824):
  Call ⟨Tryz.prog,told⟩ 164 [x] h fun v h'=>Sat h' (aW v l::X::S):=by
 refine Call.of_wp (J.free _ rfl) Tryz.func164 rfl rfl (zK 7 rfl (zo rfl (aQ rfl rfl rfl (bh aM (s.aD (k:=0) rfl I))) (aq.any rfl rfl rfl (OpR.rZ rfl s rfl rfl rfl rfl hl) ?_)))
 intro v h s
 refine zm rfl (aq.any rfl rfl rfl (OpR.rY rfl s I rfl rfl rfl rfl (by simp;omega)) ?_)
 intro v h s
 exact zk 2 rfl (WP.ret ⟨aa,_,rfl,s⟩)
theorem ow (J:W told)(s:Sat h (X::S))(I:cq X (cz x l))(hl:l.length<1073741824):
  Call ⟨Tryz.prog,told⟩ 67 [x] h fun v h'=>Sat h' (aW v l::X::S):=by
 refine Call.of_wp (J.free _ rfl) Tryz.func67 rfl rfl (zK 7 rfl (zo rfl (aQ rfl rfl rfl (bh aM (s.aD (k:=0) rfl I))) (aq.any rfl rfl rfl (OpR.rZ rfl s rfl rfl rfl rfl hl) ?_)))
 intro v h s
 refine zm rfl (aq.any rfl rfl rfl (OpR.rY rfl s I rfl rfl rfl rfl (by simp;omega)) ?_)
 intro v h s
 exact zk 2 rfl (WP.ret ⟨aa,_,rfl,s⟩)
theorem As (I:W told)(s:Sat h (bw p δ::S)): Call ⟨Tryz.prog,told⟩ 132 [.ptr p 0] h fun v h'=>v=.int .i64 (δ.bu.length:Int)∧h'=h:=by
 obtain⟨pg,wt,J,lg,mk,tn,tl,ops,s⟩:=cK.1 s
 obtain⟨id,cs,rfl,s'⟩:=ov.1 (s.ae [1])
 exact Call.of_wp (I.free _ rfl) Tryz.func132 rfl rfl (zK 8 rfl (zY s 0 CY Ky rfl (zo rfl (aQ rfl rfl rfl (o9 rfl gy)) (zk 2 rfl (WP.ret ⟨aa,_,rfl,rfl,rfl⟩)))))
theorem M4 (hT:W told){n:Int}(s:Sat h (bw p δ::S)): Call ⟨Tryz.prog,told⟩ 193 [.ptr p 0,.int .i64 n] h fun v h'=>h'=h∧((0≤n∧n<δ.bu.length∧v=.bool true)∨(¬(0≤n∧n<δ.bu.length)∧v=.bool false)):=by
 obtain⟨pg,wt,nw,lg,mk,tn,tl,ops,s⟩:=cK.1 s
 obtain⟨id,cs,rfl,s'⟩:=ov.1 (s.ae [1])
 refine Call.of_wp (hT.free _ rfl) Tryz.func193 rfl rfl (zK 7 rfl ?_)
 refine zd rfl (ak rfl rfl jQ) ?_ ?_
 ·intro J
  have J:0≤n:=by simpa using J
  refine zk 4 rfl (zY s 0 CY Ky rfl (zo rfl (aQ rfl rfl rfl (o9 rfl gy)) ?_))
  refine zd rfl (ak rfl rfl aJ) ?_ ?_
  ·intro I
   have I:n<δ.bu.length:=by simpa using I
   exact zk 3 rfl (WP.ret ⟨aa,_,rfl,rfl,.inl ⟨J,I,rfl⟩⟩)
  ·intro I
   have I:¬ n<δ.bu.length:=by simpa using I
   exact zk 3 rfl (WP.ret ⟨aa,_,rfl,rfl,.inr ⟨fun h=>I h.2,rfl⟩⟩)
 ·intro J
  have J:¬ 0≤n:=by simpa using J
  exact zk 11 rfl (WP.ret ⟨aa,_,rfl,rfl,.inr ⟨fun h=>J h.1,rfl⟩⟩)
def Dk.R1 (δ:Dk): Nat:=δ.room
def Dk.F2 (δ:Dk): Nat:=δ.eA
def Dk.gQ (δ:Dk): Dk:={ δ with bH:=if 0<δ.bH then δ.bH-1 else δ.bH }
def Dk.die (δ:Dk): Dk:={ δ with dead:=true }
theorem xk (hT:W told)(s:Sat h (bw p δ::S))(hf:δ.bH<4294967296):
  Call ⟨Tryz.prog,told⟩ 188 [.ptr p 0] h fun v h'=>(δ.bH=0∧v=.bool false∧Sat h' (bw p δ.die::S))∨(δ.bH≠0∧v=.bool true∧Sat h' (bw p δ.gQ::S)):=by
 obtain⟨pg,wt,nw,lg,mk,tn,tl,ops,s⟩:=cK.1 s
 refine Call.of_wp (hT.free _ rfl) Tryz.func188 rfl rfl (zK 9 rfl (zY s 0 yC ep rfl ?_))
 refine zd rfl (ak rfl rfl c4) ?_ ?_
 ·intro J
  refine zk 6 rfl (zf rfl (nH _ _) ?_)
  refine zS rfl (by exact s.dL (k:=0) rfl vZ rfl (by decide) rfl rfl) (fun h s => ?_)
  refine zk 5 rfl (WP.ret ⟨aa,_,rfl,?_⟩)
  have J:δ.bH=0:=by simpa using J
  exact .inl ⟨J,rfl,cK.2 ⟨pg,wt,nw,lg,mk,tn,tl,ops,s⟩⟩
 ·intro J
  have J:δ.bH≠0:=by simpa using J
  refine zk 8 rfl (zY s 0 yC ep rfl ?_)
  refine zd rfl (ak rfl rfl fI) ?_ ?_
  ·intro I
   have I:0<δ.bH:=by simpa using I
   refine zk 5 rfl (zY s 0 yC ep rfl (zb rfl (by exact jP (ax (by omega) (by omega))) ?_))
   refine zn rfl (zf rfl (yC _ _) ?_)
   refine zS rfl (by exact s.dL (k:=0) rfl nE rfl (by decide) rfl rfl) (fun h s => ?_)
   refine zk 5 rfl (zY s 0 yD ep rfl (zb rfl (by rfl) ?_))
   refine zn rfl (zf rfl (yD _ _) ?_)
   refine zS rfl (by exact s.dL (k:=0) rfl nE rfl (by decide) rfl rfl) (fun h s => ?_)
   exact zk 5 rfl (WP.ret ⟨aa,_,rfl,.inr ⟨J,rfl,cK.2 ⟨pg,wt,nw,lg,mk,tn,tl,_,by simp only[Dk.gQ,aF I];exact s⟩⟩⟩)
  ·intro I
   have I:¬ 0<δ.bH:=by simpa using I
   refine zk 7 rfl (zY s 0 yD ep rfl (zb rfl (by rfl) ?_))
   refine zn rfl (zf rfl (yD _ _) ?_)
   refine zS rfl (by exact s.dL (k:=0) rfl nE rfl (by decide) rfl rfl) (fun h s => ?_)
   exact zk 5 rfl (WP.ret ⟨aa,_,rfl,.inr ⟨J,rfl,cK.2 ⟨pg,wt,nw,lg,mk,tn,tl,_,by simp only[Dk.gQ,ay I];exact s⟩⟩⟩)
def Dk.at (δ:Dk)(n:Int): List Nat:=match lookL n δ.now with
 |some b=>b
 |none=>match δ.bu[n.toNat]? with
  |some (some b)=>b
  |_=>List.replicate 512 0
theorem KP {v:V}{m:List (Option (List Nat))}(s:Sat h (mN v m::S))(hi:i<m.length):
  ∃id u,v=.sl id 0 m.length (.exact m.length)∧(∀(P:Program) (t:TypeId),isAggT P t=some false→loadV P h t (.ptr id i)=some u)∧Sat h (uL u m[i]::mN v m::S):=by
 obtain⟨id,cs,rfl,s1⟩:=ov.1 s
 obtain⟨a,b,q1,q2,I⟩:=s1.at (k:=1) rfl
 have hl:=F0 I
 have hu:cs[i]?=some (cs[i]'(by omega)):=bp _
 have s2:Sat h (each uL cs m::pt id (.cells m.length cs false)::S):=s1.ae [1]
 have J:=s2.dup (aX.each aX.uL cs m)
 have s4:Sat h (uL (cs[i]'(by omega)) m[i]::each uL cs m::pt id (.cells m.length cs false)::S):=J.gO fun a b h=>F1 h hu (bp hi)
 refine⟨id,cs[i]'(by omega),rfl,fun P t ht=>RK ht (s1.row (k:=0) rfl) (by rw[gu,hu]),?_⟩
 have s5:Sat h (pt id (.cells m.length cs false)::each uL cs m::uL (cs[i]'(by omega)) m[i]::S):=s4.ae [2,1]
 exact(ov.2 ⟨id,cs,rfl,s5⟩:Sat h (mN _ m::uL (cs[i]'(by omega)) m[i]::S)).ae [1]
theorem PN (hT:W told){n:Int}(s:Sat h (bw p δ::S))(hl:(δ.at n).length=512): Call ⟨Tryz.prog,told⟩ 167 [.ptr p 0,.int .i64 n] h fun v h' =>
  (δ.dead=true∧v=.aI [.aO,.int .i64 9]∧Sat h' (bw p δ::S)) ∨
  (δ.dead=false∧¬(0≤n∧n<δ.bu.length)∧v=.aI [.aO,.int .i64 1]∧Sat h' (bw p δ::S)) ∨
  (δ.dead=false∧0≤n∧n<δ.bu.length∧∃b,v=.aI [b,.int .i64 0]∧Sat h' (aW b (δ.at n)::bw p δ::S)):=by
 have s0:=s
 obtain⟨pg,wt,nw,lg,mk,tn,tl,ops,s⟩:=cK.1 s
 refine Call.of_wp (hT.free _ rfl) Tryz.func167 rfl rfl (zK 6 rfl (WP.block (zK 4 rfl (zY s 0 nH nF rfl (zk 2 rfl ?_)))))
 refine WP.split rfl ?_ ?_
 ·intro hd
  exact zK 5 rfl (WP.ret ⟨aa,_,rfl,.inl ⟨hd,rfl,s0⟩⟩)
 ·intro hd
  refine zK 4 rfl (zc rfl (M4 hT s0) ?_)
  rintro v h' ⟨rfl,(⟨J,v8,rfl⟩|⟨hn,rfl⟩)⟩
  ·skip
   refine zo rfl (dB rfl rfl) (za rfl (zv (zj rfl (WP.skip (zg rfl (zk 2 rfl (zf rfl (I1 _ _) (zl rfl (by exact s.ld (k:=0) rfl mW rfl) ?_))))))))
   refine zm rfl ?_
   have s1:Sat h' (pn (fun v b=>.cL v b) nw δ.now::pt p (.cells 12 (M3 δ.room pg wt nw lg δ.eA mk δ.bH ops δ.dead tn tl) false)::mN pg δ.bu::yQ wt δ.waiting::aW lg δ.log::Bp mk δ.mark::BD tn δ.r6::Bp tl δ.tail::S):=s.ae [3]
   rcases jI (n:=n) (fun _ _=>aX.cL _ _) s1 pY bz qm with⟨g1,g2,_⟩|⟨u,b,g1,g2,_,s2⟩
   ·refine aq.op rfl rfl rfl (gx rfl rfl g2) ?_
    refine zk 10 rfl (zo rfl (dB rfl rfl) (zk 5 rfl (zY s 0 CY Ky rfl (zm rfl ?_))))
    have hi:n.toNat<δ.bu.length:=by omega
    obtain⟨id,u,rfl,g3,s3⟩:=KP (s.ae [1]) hi
    refine zo rfl (cu (r:=.ptr id n.toNat) rfl rfl (by rw[Xi,show(decide (0≤n)&&decide (n<((δ.bu.length:Nat):Int)))=true by simp;omega,ai];simp)) ?_
    refine zl rfl (g3 _ _ bX) (zk 6 rfl ?_)
    have I:δ.at n=match δ.bu[n.toNat] with|some b=>b|none=>List.replicate 512 0:=by
     simp only[Dk.at,g1,bp hi]
     cases δ.bu[n.toNat]<;>rfl
    cases hp:δ.bu[n.toNat] with
    |none =>
     rw[hp] at s3 I
     have I:δ.at n=List.replicate 512 0:=I
     obtain⟨rfl,_⟩:=mL.1 s3
     refine zt rfl ((by exact ak rfl rfl (by simp only[binV,eqV,aM];rfl))) (rfl) ?_
     refine zk 4 rfl (aq.any rfl rfl rfl (OpR.Bx rfl s0 rfl rfl rfl rfl (by decide)) ?_)
     intro v h s
     exact zk 3 rfl (WP.ret ⟨aa,_,rfl,.inr (.inr ⟨hd,J,v8,v,rfl,by rw[I];exact s⟩)⟩)
    |some b =>
     rw[hp] at s3 I
     have I:δ.at n=b:=I
     have s4:Sat h' (aE.an (.pu (u≠.aO)) (.cL u b)::mN _ δ.bu::_):=s3
     have hu:u≠.aO:=by
      obtain⟨a,b,q1,q2,q3⟩:=s4.at (k:=0) rfl
      exact q3.1
     have s5:Sat h' (.cL u b::bw p δ::S):=by
      have s6:=s4.gO (B:=.cL u b) fun a b h=>h.2
      exact(cK.2 ⟨_,wt,nw,lg,mk,tn,tl,ops,s6.ae [2,1,1,1,1,1,1,1]⟩:Sat h' (bw p δ::.cL u b::S)).ae [1]
     have DY:∃a b c d,u=.sl a b c d:=by
      rcases (s5.aD (k:=0) rfl (eC _ _)).2 with⟨_,e⟩|⟨a,b,c,_,_,_,e,_⟩
      ·rw[I,e] at hl;simp at hl
      ·exact⟨_,_,_,_,e⟩
     obtain⟨a,b',c,d,rfl⟩:=DY
     refine zh rfl ((by exact ak rfl rfl (by simp only[binV,eqV,aM];rfl))) (rfl) ?_
     refine zk 6 rfl (zc rfl (mu hT s5 (eC _ _) (by rw[←I,hl];decide)) ?_)
     intro v h s
     exact zk 3 rfl (WP.ret ⟨aa,_,rfl,.inr (.inr ⟨hd,J,v8,v,rfl,by rw[I];exact s.del 1⟩)⟩)
   ·skip
    refine zo rfl (gx rfl rfl g2) (zk 10 rfl (zo rfl (dB rfl rfl) (zk 7 rfl ?_)))
    have I:δ.at n=b:=by simp only[Dk.at,g1]
    have DY:∃a b c d,u=.sl a b c d:=by
     rcases (s2.aD (k:=0) rfl (eC _ _)).2 with⟨_,e⟩|⟨a,b,c,_,_,_,e,_⟩
     ·rw[I,e] at hl;simp at hl
     ·exact⟨_,_,_,_,e⟩
    obtain⟨a,b',c,d,rfl⟩:=DY
    refine zh rfl ((by exact ak rfl rfl (by simp only[binV,eqV,aM];rfl))) (rfl) ?_
    refine zk 6 rfl (zc rfl (mu hT s2 (eC _ _) (by rw[←I,hl];decide)) ?_)
    intro v h s
    refine zk 3 rfl (WP.ret ⟨aa,_,rfl,?_⟩)
    have s:=cK.2 ⟨pg,wt,nw,lg,mk,tn,tl,ops,s.ae [3,3,3,2,2,2,2,2]⟩
    exact .inr (.inr ⟨hd,J,v8,v,rfl,by rw[I];exact(s.del 2).ae [1,0]⟩)
  ·skip
   exact zo rfl (dB rfl rfl) (zk 8 rfl (WP.ret ⟨aa,_,rfl,.inr (.inl ⟨hd,hn,rfl,s0⟩)⟩))
theorem PO (I:W told)(s:Sat h (bw p δ::S)): Call ⟨Tryz.prog,told⟩ 142 [.ptr p 0] h fun v h'=>v=.int .i64 (δ.R1:Int)∧h'=h:=by
 obtain⟨pg,wt,J,lg,mk,tn,tl,ops,s⟩:=cK.1 s
 exact Call.of_wp (I.free _ rfl) Tryz.func142 rfl rfl (zK 8 rfl (zY s 0 I0 ep rfl (zk 2 rfl (WP.ret ⟨aa,_,rfl,rfl,rfl⟩))))
theorem HX (I:W told)(s:Sat h (bw p δ::S)): Call ⟨Tryz.prog,told⟩ 127 [.ptr p 0] h fun v h'=>v=.int .i64 (δ.F2:Int)∧h'=h:=by
 obtain⟨pg,wt,J,lg,mk,tn,tl,ops,s⟩:=cK.1 s
 exact Call.of_wp (I.free _ rfl) Tryz.func127 rfl rfl (zK 8 rfl (zY s 0 I2 ep rfl (zk 2 rfl (WP.ret ⟨aa,_,rfl,rfl,rfl⟩))))
theorem F3 (I:W told)(s:Sat h (bw p δ::S)): Call ⟨Tryz.prog,told⟩ 17 [.ptr p 0] h fun v h'=>v=.bool δ.dead∧h'=h:=by
 obtain⟨pg,wt,J,lg,mk,tn,tl,ops,s⟩:=cK.1 s
 exact Call.of_wp (I.free _ rfl) Tryz.func17 rfl rfl (zK 8 rfl (zY s 0 nH nF rfl (zk 2 rfl (WP.ret ⟨aa,_,rfl,rfl,rfl⟩))))
theorem M5 (J:W told)(s:Sat h (bw p δ::S))(hf:δ.bH<4294967296): Call ⟨Tryz.prog,told⟩ 128 [.ptr p 0] h fun v h' =>
  (δ.dead=true∧v=.int .i64 9∧Sat h' (bw p δ::S))∨(δ.dead=false∧δ.bH=0∧v=.int .i64 9∧Sat h' (bw p δ.die::S)) ∨
  (δ.dead=false∧δ.bH≠0∧v=.int .i64 0∧Sat h' (bw p { δ.gQ with eA:=δ.log.length }::S)):=by
 have s0:=s
 obtain⟨pg,wt,nw,lg,mk,tn,tl,ops,s⟩:=cK.1 s
 refine Call.of_wp (J.free _ rfl) Tryz.func128 rfl rfl (zK 9 rfl (zf rfl (nH _ _) ?_))
 refine zd rfl (aP rfl (s.ld (k:=0) rfl nF rfl)) ?_ ?_
 ·intro hd
  exact zk 11 rfl (WP.ret ⟨aa,_,rfl,.inl ⟨hd,rfl,s0⟩⟩)
 ·intro hd
  refine zk 2 rfl (zc rfl (xk J s0 hf) ?_)
  rintro v h (⟨I,rfl,s⟩|⟨I,rfl,s⟩)
  ·skip
   exact zo rfl (dB rfl rfl) (zk 7 rfl (WP.ret ⟨aa,_,rfl,.inr (.inl ⟨hd,I,rfl,s⟩)⟩))
  ·skip
   obtain⟨pg,wt,nw,lg,mk,tn,tl,ops,s⟩:=cK.1 s
   dsimp only[Dk.gQ] at s
   refine zo rfl (dB rfl rfl) (zk 9 rfl (zY s 0 uE bX rfl (zo rfl (aQ rfl rfl rfl (bh aM (s.aD (k:=4) rfl (aU _ _)))) (zn rfl (zf rfl (I2 _ _) ?_)))))
   refine zS rfl (by exact s.dL (k:=0) rfl nE rfl (by decide) rfl rfl) (fun h s => ?_)
   exact zk 5 rfl (WP.ret ⟨aa,_,rfl,.inr (.inr ⟨hd,I,rfl,cK.2 ⟨pg,wt,nw,lg,mk,tn,tl,ops,s⟩⟩)⟩)
theorem KQ (hT:W told)(s:Sat h (bw p δ::X::S))(hX:cq X (cz x b))(hb:b.length<1073741824)(hf:δ.bH<4294967296)(hl:δ.log.length≤4294967296)(hr:δ.room≤4294967296):
  Call ⟨Tryz.prog,told⟩ 174 [.ptr p 0,x] h fun v h' =>
  (δ.dead=true∧v=.int .i64 9∧Sat h' (bw p δ::X::S))∨(δ.dead=false∧δ.room<δ.log.length+b.length∧v=.int .i64 7∧Sat h' (bw p δ::X::S)) ∨
  (δ.dead=false∧δ.log.length+b.length≤δ.room∧δ.bH=0∧v=.int .i64 9∧Sat h' (bw p { δ.die with tail:=b }::X::S)) ∨
  (δ.dead=false∧δ.log.length+b.length≤δ.room∧δ.bH≠0∧v=.int .i64 0∧Sat h' (bw p { δ.gQ with log:=δ.log++b }::X::S)):=by
 have s0:=s
 obtain⟨pg,wt,nw,lg,mk,tn,tl,ops,s⟩:=cK.1 s
 refine Call.of_wp (hT.free _ rfl) Tryz.func174 rfl rfl (zK 5 rfl (WP.block (zK 4 rfl (zf rfl (nH _ _) ?_))))
 refine zd rfl (aP rfl (s.ld (k:=0) rfl nF rfl)) ?_ ?_
 ·intro hd
  exact zk 7 rfl (WP.ret ⟨aa,_,rfl,.inl ⟨hd,rfl,s0⟩⟩)
 ·intro hd
  refine zk 4 rfl (WP.drawn [af,af,af,af,af,af,af,af,af,af,af,af,af,af] rfl (by kernel_rfl) (by kernel_rfl) ?_)
  refine zM rfl (zO rfl (aQ rfl rfl rfl (bh aM (s.aD (k:=8) rfl hX))) (zM rfl (zN rfl (zF rfl (I0 _ _) (zL rfl (s.ld (k:=0) rfl ep rfl) (zM rfl (zN rfl (zF rfl (uE _ _) (zL rfl (s.ld (k:=0) rfl bX rfl) (zO rfl (aQ rfl rfl rfl (bh aM (s.aD (k:=4) rfl (aU _ _)))) (zO rfl (ak rfl rfl (by exact jP (ax (by omega) (by omega)))) ?_)))))))))))
  refine az.Vm rfl rfl rfl rfl (ak rfl rfl fI) ?_ ?_
  ·intro I
   have I:δ.room<δ.log.length+b.length:=by simp at I;omega
   refine zA rfl ?_
   refine az.nil ⟨⟨aa,aa,aa,aa,aa,aa,aa,aa,aa,aa,aa,aa,aa,aa,aa⟩,?_⟩
   exact zK 5 rfl (WP.ret ⟨aa,_,rfl,.inr (.inl ⟨hd,I,rfl,s0⟩)⟩)
  ·intro I
   have I:δ.log.length+b.length≤δ.room:=by simp at I;omega
   refine zA rfl ?_
   refine az.nil ⟨⟨aa,aa,aa,aa,aa,aa,aa,aa,aa,aa,aa,aa,aa,aa,aa⟩,?_⟩
   refine zK 4 rfl (zc rfl (xk hT s0 hf) ?_)
   rintro v h (⟨h0,rfl,s⟩|⟨h0,rfl,s⟩)
   ·skip
    refine zo rfl (dB rfl rfl) (zk 7 rfl (zc rfl (mu hT (s.ae [1]) hX hb) ?_))
    intro v h s
    have s:=(s.gP).ae [2,0,0]
    obtain⟨pg,wt,nw,lg,mk,tn,tl,ops,s⟩:=cK.1 s
    have J:=(s.aD (k:=8) rfl (eC _ _)).cells
    refine zn rfl (zf rfl (PD _ _) (zS rfl (s.dL (k:=0) rfl jR rfl (by decide) J.1 J.2) ?_))
    intro h s
    exact zk 5 rfl (WP.ret ⟨aa,_,rfl,.inr (.inr (.inl ⟨hd,I,h0,rfl,cK.2 ⟨pg,wt,nw,lg,mk,tn,v,ops,s.del 7⟩⟩))⟩)
   ·skip
    obtain⟨pg,wt,nw,lg,mk,tn,tl,ops,s⟩:=cK.1 s
    dsimp only[Dk.gQ] at s
    refine zo rfl (dB rfl rfl) (za rfl (zv (zj rfl (WP.skip (zg rfl (zk 3 rfl (zf rfl (uE _ _) (zl rfl (by exact s.ld (k:=0) rfl bX rfl) ?_))))))))
    refine zm rfl (aq.any rfl rfl rfl (OpR.rY rfl (s.ae [4,7]) hX rfl rfl rfl rfl (by show δ.log.length+_≤_;omega)) ?_)
    intro v h s
    have J:=(s.buf (k:=0) rfl).view.cells
    refine zn rfl (zf rfl (uE _ _) (zS rfl (s.dL (k:=2) rfl jR rfl (by decide) J.1 J.2) ?_))
    intro h s
    exact zk 5 rfl (WP.ret ⟨aa,_,rfl,.inr (.inr (.inr ⟨hd,I,h0,rfl,cK.2 ⟨pg,wt,nw,v,mk,tn,tl,ops,s.ae [2,2,2,2,0,1,1,1]⟩⟩))⟩)
end
section
variable {told:cE} {p:Nat}
def Dk.wr (δ:Dk)(n:Int)(b:List Nat): Dk:={ δ.gQ with waiting:=δ.waiting++[(n.toNat,b)],now:=cN n b δ.now }
theorem Te : ∃i,Tryz.prog.info? 128=some i∧i.size=2∧i.bytes=32 :=
 ⟨_,(show Tryz.prog.info? 128=some ((Tryz.prog.info? 128).getD default) by kernel_rfl),by kernel_rfl,by kernel_rfl⟩
theorem Sat.VE {m:List Wr}{x:Wr}(s:Sat h (.cL u x.2::BC cs m::S))(hu:u≠.aO): Sat h (BC (cs++[.int .i64 (x.1:Int),u]) (m++[x])::S) :=
 s.two (aX.cL _ _) (aX.wr _ _) fun _ _ I J=>Tb J hu I
theorem M6 (hT:W told){n:Int}(s:Sat h (bw p δ::X::S))(hX:cq X (cz x b))(hb:b.length<1073741824)(hf:δ.bH<4294967296)(hw:δ.waiting.length≤268435456):
  Call ⟨Tryz.prog,told⟩ 133 [.ptr p 0,.int .i64 n,x] h fun v h' =>
  (δ.dead=true∧v=.int .i64 9∧Sat h' (bw p δ::X::S)) ∨
  (δ.dead=false∧¬(0≤n∧n<δ.bu.length∧b.length=512)∧v=.int .i64 1∧Sat h' (bw p δ::X::S)) ∨
  (δ.dead=false∧0≤n∧n<δ.bu.length∧b.length=512∧δ.bH=0∧v=.int .i64 9∧Sat h' (bw p { δ.die with r6:=some (n.toNat,b) }::X::S)) ∨
  (δ.dead=false∧0≤n∧n<δ.bu.length∧b.length=512∧δ.bH≠0∧v=.int .i64 0∧Sat h' (bw p (δ.wr n b)::X::S)):=by
 have J:=s
 obtain⟨pg,wt,nw,lg,mk,tn,tl,ops,s⟩:=cK.1 s
 refine Call.of_wp (hT.free _ rfl) Tryz.func133 rfl rfl (zK 5 rfl (WP.block (zK 4 rfl (zf rfl (nH _ _) ?_))))
 refine zd rfl (aP rfl (s.ld (k:=0) rfl nF rfl)) ?_ ?_
 ·intro hd
  exact zk 7 rfl (WP.ret ⟨aa,_,rfl,.inl ⟨hd,rfl,J⟩⟩)
 ·intro hd
  refine zk 7 rfl (zc rfl (M4 hT J) ?_)
  rintro v h' ⟨rfl,(⟨BF,v8,rfl⟩|⟨hn,rfl⟩)⟩
  ·skip
   refine zo rfl (dB rfl rfl) (zk 2 rfl (zo rfl (aQ rfl rfl rfl (bh aM (s.aD (k:=8) rfl hX))) ?_))
   refine zd rfl (ak rfl rfl aA) ?_ ?_
   ·intro I
    have I:b.length≠512:=by simp at I;omega
    exact zk 8 rfl (WP.ret ⟨aa,_,rfl,.inr (.inl ⟨hd,fun q=>I q.2.2,rfl,J⟩)⟩)
   ·intro I
    have I:b.length=512:=by simp at I;omega
    refine zk 2 rfl (zv (zj rfl (WP.skip (zg rfl (zk 2 rfl (zc rfl (mu hT (J.ae [1]) hX hb) ?_))))))
    intro u h s
    obtain⟨kD,_,cap,_,rfl,_⟩:=s.eZ (by omega)
    have s:=s.gP
    have YV:((n.toNat:Nat):Int)=n:=by omega
    refine zo rfl (b_ rfl (by rw[Xq];rfl)) ?_
    refine aq.bG s rfl rfl rfl (bM KB) (fun p7 h s => ?_)
    refine zS rfl (s.fh (j:=0) rfl KA rfl rfl) (fun h s => ?_)
    refine zk 5 rfl (zc rfl (xk hT (s.ae [3]) hf) ?_)
    rintro v h (⟨h0,rfl,s⟩|⟨h0,rfl,s⟩)
    ·skip
     obtain⟨pg,wt,nw,lg,mk,tn,tl,ops,s⟩:=cK.1 s
     refine zo rfl (dB rfl rfl) (zk 6 rfl (zf rfl (PC _ _) ?_))
     refine zS rfl (by exact s.dL (k:=0) rfl Xk rfl (by decide) rfl rfl) (fun h s => ?_)
     dsimp only[M3,V.cells,List.length_cons,List.length_nil,Nat.reduceAdd,aC,bringA,List.take,List.drop,List.cons_append,List.nil_append,setA,List.set] at s
     refine zk 5 rfl (WP.ret ⟨aa,_,rfl,?_⟩)
     have s1:=s.ae [8,8,8]
     have s2:Sat h (BD _ (some (n.toNat,b))::_):=gT.2 ⟨_,gT.2 ⟨_,aZ.2 (mL.2 ⟨rfl,by rw[YV];exact s1⟩)⟩⟩
     have s3:=(s2.del 8).ae [2,2,2,2,2,2,0,1,0]
     exact .inr (.inr (.inl ⟨hd,BF,v8,I,h0,rfl,cK.2 ⟨_,_,_,_,_,_,_,_,s3⟩⟩))
    ·skip
     obtain⟨pg,wt,nw,lg,mk,tn,tl,ops,s⟩:=cK.1 s
     dsimp only[Dk.gQ] at s
     obtain⟨cs,sw⟩:=xj.1 (s.ae [2])
     have s:=sw.ae [2,8,0,0]
     dsimp only[M3,V.cells,List.length_cons,List.length_nil,Nat.reduceAdd,aC,bringA,List.take,List.drop,List.cons_append,List.nil_append,setA,getA] at s
     have J:=s
     have M7:=(s.iU (j:=2) rfl).2.2
     refine zo rfl (dB rfl rfl) (zk 4 rfl (WP.drawn [some (0,3),some (0,2),some (0,2),some (0,2),some (0,2),af,af,af,af,af,af] rfl (by kernel_rfl) (by kernel_rfl) ?_))
     refine zM rfl (zM rfl (zN rfl (zF rfl (CZ _ _) (zL rfl (s.ld (k:=0) rfl Kz rfl) (zL rfl (s.cy (k:=1) rfl Xp KA) ?_)))))
     obtain⟨i1,mB,kE,xm⟩:=Te
     obtain⟨sv,h1,e1,s1⟩:=k9 (P:=Tryz.prog) (x:=.agg [.int .i64 n,.sl kD 0 b.length cap]) s Tryz.underlying107 KB KA rfl (by decide) (by decide) rfl rfl
     dsimp only[V.cells] at s1
     refine az.any rfl rfl rfl rfl (OpR.of (R:=fun v h'=>v=sv∧h'=h1) (ob rfl e1) ⟨rfl,rfl⟩) ?_
     rintro v h' ⟨rfl,rfl⟩
     have iZ:cs.length=δ.waiting.length*2:=by
      obtain⟨a,b,q1,q2,q3⟩:=s.at (k:=3) rfl
      exact Tc q3
     obtain⟨wt',h2,e2,s2⟩:=iV (s1.ae [3,0]) Tryz.underlying107 mB KB kE (by omega) rfl (by decide) (by simp only[V.cells,bq,cD];omega)
     dsimp only[aC,bringA] at s2
     refine az.any rfl rfl rfl rfl (OpR.of (R:=fun v h'=>v=wt'∧h'=h2) (pJ rfl rfl e2) ⟨rfl,rfl⟩) ?_
     rintro v h' ⟨rfl,rfl⟩
     have hv:=s2.iU (j:=0) rfl
     refine zN rfl (zF rfl (CZ _ _) (az.iR rfl rfl rfl (OpR.uC rfl rfl rfl (s2.dL (k:=2) rfl Xj rfl (by decide) hv.1 hv.2.1)) ?_))
     rintro v h ⟨rfl,s⟩
     dsimp only[Nat.reduceAdd,List.set,setA] at s
     refine az.nil ⟨⟨fun _ _=>.inr ⟨rfl,⟨_,bf rfl⟩,aN _ rfl⟩,fun _ _=>.inr ⟨rfl,⟨_,bf rfl⟩,aN _ rfl⟩,fun _ _=>.inr ⟨rfl,⟨_,lF rfl⟩,aN _ rfl⟩,fun _ _=>.inr ⟨rfl,⟨_,jr rfl (CZ _ _)⟩,aN _ rfl⟩,dW (.inr ⟨rfl,⟨_,aP rfl (J.ld (k:=0) rfl Kz rfl)⟩,M7⟩) (.inr ⟨rfl,⟨_,aP rfl (s1.ld (k:=1) rfl Kz rfl)⟩,M7⟩),aa,aa,aa,aa,aa,aa,aa⟩,?_⟩
     refine zw (WP.drawn [af,af,af,af,af,af,af,af] rfl (by kernel_rfl) (by kernel_rfl) ?_)
     refine zM rfl (zN rfl (zF rfl (I1 _ _) (zL rfl (s.ld (k:=2) rfl mW rfl) (zM rfl (zF rfl (S1 _ _) (zL rfl (s.ld (k:=3) rfl bX rfl) (az.iR rfl rfl rfl (OpR.mapUpdate rfl rfl rfl rfl (kJ (f:=fun v b=>aE.cL v b) (x:=b) (fun _ _=>aX.cL _ _) (((s.ae [11]).dup (aX.cL _ _)).ae [0,7]) pY bz)) ?_)))))))
     intro v h s
     dsimp only[aC,bringA] at s
     refine az.nil ⟨⟨aa,aa,aa,aa,aa,aa,aa,aa,aa⟩,?_⟩
     refine zK 4 rfl (WP.ret ⟨aa,_,rfl,?_⟩)
     have s1:=(s.ae [1,5]).VE (x:=(n.toNat,b)) (by simp)
     rw[YV] at s1
     have s2:=((xj.2 ⟨_,s1.ae [2,0]⟩).del 4).del 2
     exact .inr (.inr (.inr ⟨hd,BF,v8,I,h0,rfl,cK.2 ⟨_,_,_,_,_,_,_,_,s2.ae [2,2,0,0,0,0,0,0,0]⟩⟩))
  ·skip
   exact zo rfl (dB rfl rfl) (zk 12 rfl (WP.ret ⟨aa,_,rfl,.inr (.inl ⟨hd,fun q=>hn ⟨q.1,q.2.1⟩,rfl,J⟩)⟩))
theorem Tf (I:W told)(s:Sat h (bw p δ::S))(J:δ.log.length<1073741824): Call ⟨Tryz.prog,told⟩ 124 [.ptr p 0] h fun v h' =>
  (δ.dead=true∧v=.aI [.aO,.int .i64 9]∧Sat h' (bw p δ::S))∨(δ.dead=false∧∃b,v=.aI [b,.int .i64 0]∧Sat h' (aW b δ.log::bw p δ::S)):=by
 have s0:=s
 obtain⟨pg,wt,nw,lg,mk,tn,tl,ops,s⟩:=cK.1 s
 refine Call.of_wp (I.free _ rfl) Tryz.func124 rfl rfl (zK 10 rfl (zf rfl (nH _ _) ?_))
 refine zd rfl (aP rfl (s.ld (k:=0) rfl nF rfl)) ?_ ?_
 ·intro hd
  exact zk 7 rfl (WP.ret ⟨aa,_,rfl,.inl ⟨hd,rfl,s0⟩⟩)
 ·intro hd
  refine zk 7 rfl (zY s 0 uE bX rfl (zc rfl (mu I (s.ae [4]) (aU _ _) J) ?_))
  intro v h s
  exact zk 3 rfl (WP.ret ⟨aa,_,rfl,.inr ⟨hd,v,rfl,(cK.2 ⟨pg,wt,nw,lg,mk,tn,tl,ops,s.ae [2,2,2,2,1,1,1,1,0]⟩).ae [1]⟩⟩)
theorem KR (I:W told)(s:Sat h (bw p δ::S))(hl:δ.mark.length≤64): Call ⟨Tryz.prog,told⟩ 123 [.ptr p 0] h fun v h' =>
  (δ.dead=true∧v=.aI [.aO,.int .i64 9]∧Sat h' (bw p δ::S))∨(δ.dead=false∧∃b,v=.aI [b,.int .i64 0]∧Sat h' (aW b δ.mark::bw p δ::S)):=by
 have J:=s
 obtain⟨pg,wt,nw,lg,mk,tn,tl,ops,s⟩:=cK.1 s
 refine Call.of_wp (I.free _ rfl) Tryz.func123 rfl rfl (zK 10 rfl (zf rfl (nH _ _) ?_))
 refine zd rfl (aP rfl (s.ld (k:=0) rfl nF rfl)) ?_ ?_
 ·intro hd
  exact zk 7 rfl (WP.ret ⟨aa,_,rfl,.inl ⟨hd,rfl,J⟩⟩)
 ·intro hd
  refine zk 7 rfl (zY s 0 SY bX rfl (zc rfl (mu I (s.ae [5]) (eC _ _) (by omega)) ?_))
  intro v h s
  exact zk 3 rfl (WP.ret ⟨aa,_,rfl,.inr ⟨hd,v,rfl,(cK.2 ⟨pg,wt,nw,lg,mk,tn,tl,ops,s.ae [2,2,2,2,2,1,1,1,0]⟩).ae [1]⟩⟩)
def Dk.fresh (bu room:Nat): Dk:={ room:=room,bu:=List.replicate bu none,waiting:=[],now:=[],log:=[],eA:=0,mark:=[],bH := -1,dead:=false,r6:=none,tail:=[] }
theorem Tg : ∃i,Tryz.prog.info? 23=some i∧i.size=1∧i.bytes=24 :=
 ⟨_,(show Tryz.prog.info? 23=some ((Tryz.prog.info? 23).getD default) by kernel_rfl),by kernel_rfl,by kernel_rfl⟩
theorem HY (v:V): ∀n:Nat,repeatL [v] n=List.replicate n v:=by
 intro n
 induction n with
 |zero=>rfl
 |succ n I=>simp only[repeatL,I,Ck,gW,d_]
theorem M8 {a b:PM}: ∀n:Nat,(each uL (List.replicate n .aO) (List.replicate n none)).p a b:=by
 intro n
 induction n with
 |zero=>trivial
 |succ n I=>exact⟨rfl,I⟩
theorem PR (hT:W told){m:Nat}(s:Sat h S)(hn:n<1073741824): Call ⟨Tryz.prog,told⟩ 60 [.int .i64 (n:Int),.int .i64 (m:Int)] h fun v h'=>∃p,v=.ptr p 0∧Sat h' (bw p (Dk.fresh n m)::S):=by
 refine Call.of_wp (hT.free _ rfl) Tryz.func60 rfl rfl (zK 8 rfl ?_)
 obtain⟨i1,I,J,xm⟩:=Tg
 obtain⟨id,h1,e1,s1⟩:=DT (P:=Tryz.prog) s gy I qm J (by omega) rfl (by decide) hn
 refine aq.any rfl rfl rfl (OpR.of (R:=fun v h'=>v=.sl id 0 n (.exact n)∧h'=h1) (yy rfl rfl e1) ⟨rfl,rfl⟩) ?_
 rintro v h ⟨rfl,rfl⟩
 have s:=s1
 dsimp only[V.cells] at s
 rw[iz,HY] at s
 refine aq.w8 s rfl rfl rfl rfl (fun p8 h s => ?_)
 refine zo rfl (b_ rfl (by rw[Xl];rfl)) ?_
 refine aq.bG s rfl rfl rfl (dc rfl rfl) (fun M9 h s => ?_)
 refine zk 2 rfl (WP.ret ⟨aa,_,rfl,?_⟩)
 have s:=(pq (f:=fun v b=>aE.cL v b) (s.ae [1]))
 have s:=s.qH.qH.rW
 have s:Sat _ (yQ .aO []::_):=xj.2 ⟨[],(s.fH (φ:=True) aa).ot⟩
 have s:Sat _ (BD .a_ none::_):=s.fH rfl
 have s:=s.ae [6,6]
 have hp:Sat _ (mN (.sl id 0 n (.exact n)) (List.replicate n none)::_):=ov.2 ⟨id,List.replicate n .aO,by rw[gi],by
  rw[gi]
  exact(((s.ae [1]).fH (φ:=True) aa).gO fun a b _=>M8 n).ae [1]⟩
 dsimp only[V.cells,List.take,List.length_cons,List.length_nil,Nat.reduceAdd,List.drop,List.cons_append,List.nil_append,aC,bringA,getA] at hp
 exact⟨_,rfl,cK.2 ⟨_,_,_,_,_,_,_,_,hp.ae [1,0,1,4,1,1,0,0]⟩⟩
theorem Th (hT:W told){n m:Int}(s:Sat h S): Call ⟨Tryz.prog,told⟩ 30 [.int .i64 n,.int .i64 m] h fun v h' =>
  (¬(1≤n∧n≤65536∧0≤m∧m≤16777216)∧v=.aI [.a_,.int .i64 1]∧Sat h' S) ∨
  (1≤n∧n≤65536∧0≤m∧m≤16777216∧∃p,v=.aI [.ptr p 0,.int .i64 0]∧Sat h' (bw p (Dk.fresh n.toNat m.toNat)::S)):=by
 refine Call.of_wp (hT.free _ rfl) Tryz.func30 rfl rfl (zK 9 rfl ?_)
 refine zd rfl (ak rfl rfl aJ) ?_ ?_
 ·intro hq
  have hq:n<1:=by simpa using hq
  exact zk 19 rfl (WP.ret ⟨aa,_,rfl,.inl ⟨fun q=>by omega,rfl,s⟩⟩)
 ·intro hq
  have hq:1≤n:=by simpa using hq
  refine zk 2 rfl ?_
  refine zd rfl (ak rfl rfl fI) ?_ ?_
  ·intro I
   have I:65536<n:=by simpa using I
   exact zk 16 rfl (WP.ret ⟨aa,_,rfl,.inl ⟨fun q=>by omega,rfl,s⟩⟩)
  ·intro I
   have I:n≤65536:=by simpa using I
   refine zk 3 rfl ?_
   refine zd rfl (ak rfl rfl aJ) ?_ ?_
   ·intro J
    have J:m<0:=by simpa using J
    exact zk 12 rfl (WP.ret ⟨aa,_,rfl,.inl ⟨fun q=>by omega,rfl,s⟩⟩)
   ·intro J
    have J:0≤m:=by simpa using J
    refine zk 3 rfl ?_
    refine zd rfl (ak rfl rfl fI) ?_ ?_
    ·intro nN
     have nN:16777216<m:=by simpa using nN
     exact zk 8 rfl (WP.ret ⟨aa,_,rfl,.inl ⟨fun q=>by omega,rfl,s⟩⟩)
    ·intro nN
     have nN:m≤16777216:=by simpa using nN
     refine zk 8 rfl ?_
     obtain⟨n,rfl⟩:∃k:Nat,n=k:=⟨n.toNat,by omega⟩
     obtain⟨m,rfl⟩:∃k:Nat,m=k:=⟨m.toNat,by omega⟩
     refine zc rfl (PR hT s (by omega)) ?_
     rintro v h ⟨p,rfl,s⟩
     exact zk 3 rfl (WP.ret ⟨aa,_,rfl,.inr ⟨hq,I,J,nN,p,rfl,s⟩⟩)
end
def leN : List Nat→Nat
 |[]=>0
 |b::l=>b+256*leN l
theorem PS : ∀(l:List Nat) (b:Nat),leN (l++[b])=leN l+b*256^l.length:=by
 intro l
 induction l with
 |nil=>intro b;simp[leN]
 |cons x l I=>intro b;simp only[gW,leN,I,bq,ue,Nat.mul_add];rw[←nm,qS (256^l.length) 256,←Nat.mul_assoc b,qS b 256,Nat.mul_assoc 256 b]
theorem BG : ∀(l:List Nat),(∀b∈l,b<256)→leN l<256^l.length:=by
 intro l
 induction l with
 |nil=>intro _;simp[leN]
 |cons x l I =>
  intro h
  have h1:=I (fun b J=>h b (dh _ J))
  have h2:=h x dJ
  simp only[leN,bq,ue]
  omega
theorem F4 (i:Nat): (256:Nat)^i=2^(8*i):=by rw[Nat.pow_mul]
theorem Z9 {x:Operand}(hd:d<256)(hi:i≤7): binV P h .shl t x y (.int .u64 (d:Int)) (.int .i64 (8*(i:Int)))=some (.int .u64 ((d*256^i:Nat):Int)):=by
 have J:(256:Nat)^i≤256^7:=oO (by omega) hi
 have I:d*256^i<18446744073709551616:=by
  have:d*256^i≤255*256^7:=qQ (by omega) J
  omega
 simp only[binV,shiftV,IntKind.bits]
 have e:(8*(i:Int)).toNat=8*i:=by omega
 rw[e,show min (8*i) 64=8*i by omega,show decide (8*(i:Int)<0)=false by simp;omega,aK]
 have:(d:Int)*2^(8*i)=((d*256^i:Nat):Int):=by rw[F4];push_cast;rfl
 simp only[this,wrap_u64 I]
theorem or8 {x:Operand}(I:a<256^i)(hd:d<256)(hi:i≤7): binV P h .or t x y (.int .u64 (a:Int)) (.int .u64 ((d*256^i:Nat):Int))=some (.int .u64 ((a+d*256^i:Nat):Int)):=by
 have J:(256:Nat)^i≤256^7:=oO (by omega) hi
 have hm:d*256^i≤255*256^7:=qQ (by omega) J
 have h1:((a:Int)%(2^(IntKind.u64).bits:Int)).toNat=a:=by simp only[IntKind.bits];omega
 have h2:(((d*256^i:Nat):Int)%(2^(IntKind.u64).bits:Int)).toNat=d*256^i:=by simp only[IntKind.bits];omega
 have h3:Nat.lor a (d*256^i)=a+d*256^i:=by
  have e:d*256^i=2^(8*i)*d:=by rw[←F4,qS]
  have:=IA (i:=8*i) (b:=a) (by rw[←F4];exact I) d
  rw[←e] at this
  rw[yh a,this]
  exact Nat.or_comm _ _
 simp only[binV,ikBeq,ai,intV,bitsV,h1,h2,h3]
 rw[wrap_u64 (by omega)]
section
variable {told:cE} {v:V}
noncomputable def wdL : Code:=c6 [1,1,0,1,0,0] ((Tryz.f68.body).getD .skip)
theorem M_ (hv:View h v l)(hl:l.length≤8): ∀(j i:Nat) (E:List (Nat×V)) (Q:Ex→List (Nat×V)→H→Prop),i+j=l.length →
  Has E [(3,.int .u64 (leN (l.take i))),(6,v),(7,.int .i64 l.length),(8,.int .i64 i)]→(∀E',look E' 3=some (.int .u64 (leN l))→Q (.exit 0) E' h)→WP ⟨Tryz.prog,told⟩ 22 (.loop wdL) E h Q:=by
 intro j
 induction j with
 |zero =>
  intro i E Q hi hE hq
  refine WP.loop (WP.has hE (zg rfl (zC rfl aJ (by simp;omega) ?_)))
  refine zk 3 rfl (WP.exit (hq _ ?_))
  rw[fS (by omega)]
  rfl
 |succ j ih =>
  intro i E Q hi hE hq
  have J:l[i]?=some (l[i]'(by omega)):=bp _
  generalize RF:(l[i]'(by omega))=b at J
  have I:b<256:=hv.1 b (bI J)
  obtain⟨id,off,e1,e2⟩:=er hv J
  have ht:l.take (i+1)=l.take i++[b]:=by rw[Cp,J];rfl
  have cA:leN (l.take i)<256^i:=by
   have:=BG (l.take i) (fun x hx=>hv.1 x (kX hx))
   rwa [j6,Nat.min_eq_left (by omega)] at this
  refine WP.loop (WP.has hE (zg rfl (zB rfl aJ (by simp;omega) ?_)))
  refine zk 5 rfl (WP.block (zK 3 rfl (zo rfl (cu (r:=.ptr id off) rfl rfl e1) (zl rfl e2 (zk 6 rfl (zo rfl (bJ rfl (by exact gC Tryz.underlying5 bN (eV (by omega) (by omega)))) ?_))))))
  refine zm rfl (zb rfl (by exact ik (ax (by omega) (by omega))) ?_)
  refine zb rfl (Z9 I (by omega)) ?_
  refine zb rfl (or8 cA I (by omega)) ?_
  refine za rfl (zv (zr rfl (zb rfl (by exact aR (ax (by omega) (by omega))) ?_)))
  refine zm rfl (zv ?_)
  refine ih (i+1) _ _ (by omega) ?_ hq
  rw[ht,PS,j6,Nat.min_eq_left (by omega)]
  exact⟨rfl,rfl,rfl,rfl,aa⟩
theorem nO (hT:W told)(s:Sat h S)(hk:getA S k=some X)(hX:cq X (cz v l))(hl:l.length≤8): Call ⟨Tryz.prog,told⟩ 68 [v] h fun r h'=>r=.int .u64 (leN l)∧h'=h:=by
 have J:=s.aD hk hX
 refine Call.of_wp (hT.free _ rfl) Tryz.func68 rfl rfl (zK 12 rfl (zo rfl (aQ rfl rfl rfl (bh aM J)) (zk 2 rfl (WP.block ?_))))
 refine M_ J hl l.length 0 _ _ (by omega) ⟨rfl,rfl,rfl,rfl,aa⟩ (fun E' I => ?_)
 exact WP.has (F:=[(3,.int .u64 (leN l))]) ⟨I,aa⟩ (zK 5 rfl (WP.ret ⟨aa,_,rfl,rfl,rfl⟩))
theorem R3 (I:W told)(s:Sat h S)(J:getA S k=some X)(hX:cq X (cz v l))(hl:l.length≤4611686018427387904): Call ⟨Tryz.prog,told⟩ 180 [v] h fun r h'=>r=.int .u32 (BE 0 l:Nat)∧h'=h:=by
 refine Call.of_wp (I.free _ rfl) Tryz.func180 rfl rfl (zK 7 rfl (zc rfl (Td (s:=0) I s J hX (by decide) hl) ?_))
 rintro v h' ⟨rfl,rfl⟩
 exact zk 2 rfl (WP.ret ⟨aa,_,rfl,rfl,rfl⟩)
def cU (l:List Nat)(a z:Nat): Nat:=leN ((l.take (a+z)).drop a)
theorem r7 (hT:W told){a z:Int}(s:Sat h S)(J:getA S k=some X)(hX:cq X (cz v l))(ha:0≤a)(hz:1≤z)(zW:z≤7)(hl:a+z≤l.length)(gA:l.length≤65536):
  Call ⟨Tryz.prog,told⟩ 179 [.agg [v],.int .i64 a,.int .i64 z] h fun r h'=>r=.int .i64 (cU l a.toNat z.toNat)∧Sat h' S:=by
 have hv:=s.aD J hX
 obtain⟨pi,po,pc,rfl⟩:=gL hv (by omega)
 refine Call.of_wp (hT.free _ rfl) Tryz.func179 rfl rfl (zg rfl ?_)
 refine aq.bG s rfl rfl rfl (dc rfl rfl) (fun p3 h s => ?_)
 refine zk 4 rfl (zY s 0 fV bX rfl (zk 3 rfl (zb rfl (by exact aR (ax (by omega) (by omega))) ?_)))
 refine zk 2 rfl (zb rfl (by exact aR (ax (by omega) (by omega))) ?_)
 have jY:=zV (s.aD (k8 J) hX) (a:=a.toNat) (b:=(a+z).toNat) (c:=(a+z).toNat) (by omega) (by omega) (by omega) (by omega)
 refine zo rfl (cf (p:=some (.int .i64 a)) (q:=some (.int .i64 (a+z))) (m:=some (.int .i64 (a+z))) rfl rfl rfl rfl (cn ha) (cn (by omega)) (cn (by omega)) jY) ?_
 have hlen:((l.take (a+z).toNat).drop a.toNat).length=z.toNat:=by simp;omega
 refine zc rfl (nO hT s (k8 J) (DU hX (a:=a.toNat) (b:=(a+z).toNat) (c:=(a+z).toNat) (by omega) (by omega) (by omega) (by omega)) (by omega)) ?_
 rintro r h' ⟨rfl,rfl⟩
 have I:=BG ((l.take (a+z).toNat).drop a.toNat) (fun x hx=>hv.1 x (kX (l7 hx)))
 have hp:256^z.toNat≤256^7:=oO (by omega) (by omega)
 rw[hlen] at I
 have e:(a+z).toNat=a.toNat+z.toNat:=by omega
 rw[e] at I ⊢
 refine zo rfl (bJ rfl (by exact gC bN bz (ax (by omega) (by omega)))) ?_
 exact zk 2 rfl (WP.ret ⟨aa,_,rfl,rfl,s.drop⟩)
theorem xn (I:∀b∈l,b<256): cU l a z<256^z:=by
 have:=BG ((l.take (a+z)).drop a) (fun x J=>I x (kX (l7 J)))
 have h2:((l.take (a+z)).drop a).length≤z:=by simp;omega
 exact gj this (oO (by omega) h2)
def jS (l:List Nat): Nat:=cU l 14 2
def g8 (l:List Nat): Nat:=cU l 16 2
def cZ (l:List Nat)(i:Nat): Nat:=cU l (26+4*i) 2
def h_ (l:List Nat)(i:Nat): Nat:=cU l (26+4*i+2) 2
theorem jT (I:W told)(s:Sat h S)(J:getA S k=some X)(hX:cq X (cz v l))(hl:l.length=512):
  Call ⟨Tryz.prog,told⟩ 160 [.agg [v]] h fun r h'=>r=.int .i64 (jS l)∧Sat h' S:=by
 have hv:=s.aD J hX
 obtain⟨pi,po,pc,rfl⟩:=gL hv (by omega)
 refine Call.of_wp (I.free _ rfl) Tryz.func160 rfl rfl (zg rfl ?_)
 refine aq.bG s rfl rfl rfl (dc rfl rfl) (fun p1 h s => ?_)
 refine zk 4 rfl (zl rfl (s.cy (k:=0) rfl bV bB) (zc rfl (r7 I s (k8 J) hX (by decide) (by decide) (by decide) (by omega) (by omega)) ?_))
 rintro r h' ⟨rfl,s⟩
 exact zk 2 rfl (WP.ret ⟨aa,_,rfl,rfl,s.drop⟩)
theorem F5 (I:W told)(s:Sat h S)(J:getA S k=some X)(hX:cq X (cz v l))(hl:l.length=512):
  Call ⟨Tryz.prog,told⟩ 161 [.agg [v]] h fun r h'=>r=.int .i64 (g8 l)∧Sat h' S:=by
 have hv:=s.aD J hX
 obtain⟨pi,po,pc,rfl⟩:=gL hv (by omega)
 refine Call.of_wp (I.free _ rfl) Tryz.func161 rfl rfl (zg rfl ?_)
 refine aq.bG s rfl rfl rfl (dc rfl rfl) (fun p1 h s => ?_)
 refine zk 4 rfl (zl rfl (s.cy (k:=0) rfl bV bB) (zc rfl (r7 I s (k8 J) hX (by decide) (by decide) (by decide) (by omega) (by omega)) ?_))
 rintro r h' ⟨rfl,s⟩
 exact zk 2 rfl (WP.ret ⟨aa,_,rfl,rfl,s.drop⟩)
end
def v_ (t:List Bool): List V:=t.map V.bool
theorem Ti (t:List Bool)(k:Nat)(b:Bool): (v_ t).set k (.bool b)=v_ (t.set k b):=by simp[v_,List.map_set]
theorem Jb {t:List Bool}(I:k<t.length): nth (v_ t) k=some (.bool (t.getD k false)):=by
 rw[gu];simp[v_,bp I]
theorem PT : zeroT Tryz.prog 264=some (.agg (v_ (List.replicate 512 false))):=by kernel_rfl
def markL : Nat→Nat→List Bool→Option (List Bool)
 |0,_,t=>some t
 |n+1,k,t=>if t.getD k false then none else markL n (k+1) (t.set k true)
def cellsL (l:List Nat)(low:Nat): Nat→Nat→List Bool→Bool
 |0,_,_=>true
 |n+1,i,t=>if cZ l i<low∨512<cZ l i+h_ l i then false else match markL (h_ l i) (cZ l i) t with
  |none=>false
  |some t'=>cellsL l low n (i+1) t'
def bW (l:List Nat): Bool:=decide (l.length=512)&&(decide (l.getD 13 0=0)&&(decide (26+4*jS l≤g8 l∧g8 l≤512)&&cellsL l (g8 l) (jS l) 0 (List.replicate 512 false)))
theorem Na : ∀(n k:Nat) (t t':List Bool),markL n k t=some t'→t'.length=t.length:=by
 intro n
 induction n with
 |zero=>intro k t t' h;simp only[markL] at h;injection h with h;subst h;rfl
 |succ n I =>
  intro k t t' h
  simp only[markL] at h
  split at h
  ·cases h
  ·have:=I _ _ _ h;simpa using this
section
variable {told:cE} {v:V}
theorem yR (I:W told)(s:Sat h S)(J:getA S k=some X)(hX:cq X (cz v l))(hl:l.length=512)(hi:30+4*i≤512):
  Call ⟨Tryz.prog,told⟩ 162 [.agg [v],.int .i64 (i:Int)] h fun r h'=>r=.aI [.int .i64 (cZ l i),.int .i64 (h_ l i)]∧Sat h' S:=by
 have hv:=s.aD J hX
 obtain⟨pi,po,pc,rfl⟩:=gL hv (by omega)
 have e1:(26+4*(i:Int)).toNat=26+4*i:=by omega
 have e2:(26+4*(i:Int)+2).toNat=26+4*i+2:=by omega
 refine Call.of_wp (I.free _ rfl) Tryz.func162 rfl rfl (zg rfl ?_)
 refine aq.bG s rfl rfl rfl (dc rfl rfl) (fun p2 h s => ?_)
 refine zk 6 rfl (zb rfl (by exact ik (ax (by omega) (by omega))) ?_)
 refine zb rfl (by exact aR (ax (by omega) (by omega))) ?_
 refine zk 3 rfl ?_
 have s0:=s
 refine WP.drawn [af,af,af,some (0,2),some (0,2),some (0,2),af,af,af] rfl (by kernel_rfl) (by kernel_rfl) ?_
 refine zL rfl (s.cy (k:=0) rfl bV bB) (zM rfl (az.any rfl rfl rfl rfl (OpR.call rfl rfl rfl rfl (r7 I s (k8 J) hX (by omega) (by decide) (by decide) (by omega) (by omega))) ?_))
 rintro r h' ⟨rfl,s⟩
 rw[e1]
 have s1:=s
 refine zL rfl (s.cy (k:=0) rfl bV bB) (zM rfl (zO rfl (ak rfl rfl (by exact aR (ax (by omega) (by omega)))) ?_))
 refine az.any rfl rfl rfl rfl (OpR.call rfl rfl rfl rfl (r7 I s (k8 J) hX (by omega) (by decide) (by decide) (by omega) (by omega))) ?_
 rintro r h' ⟨rfl,s⟩
 rw[e2]
 refine zA rfl (zA rfl ?_)
 refine az.nil ⟨⟨aa,aa,aa,dW (.inr ⟨rfl,⟨_,aP rfl (s0.cy (k:=0) rfl bV bB)⟩,aN _ rfl⟩) (.inr ⟨rfl,⟨_,aP rfl (s1.cy (k:=0) rfl bV bB)⟩,aN _ rfl⟩),fun _ _=>.inr ⟨rfl,⟨_,bf rfl⟩,aN _ rfl⟩,fun _ _=>.inr ⟨rfl,⟨_,ak rfl rfl (by exact aR (ax (by omega) (by omega)))⟩,aN _ rfl⟩,aa,aa,aa,aa⟩,?_⟩
 refine WP.ret ⟨aa,_,rfl,?_⟩
 exact⟨rfl,s.drop⟩
noncomputable def gdO : Code:=c6 [1,1,1,1,1,1,0,1,0,0] ((Tryz.f90.body).getD .skip)
noncomputable def gdI : Code:=c6 [1,1,1,1,1,1,0,1,0,0,1,1,0,0,1,1,1,1,0,0] ((Tryz.f90.body).getD .skip)
theorem KS {v3 v4 v5 v35 v36:V}(haz:a+z≤512): ∀(m q:Nat) (t:List Bool) (h:H) (E:List (Nat×V)) (Q:Ex→List (Nat×V)→H→Prop),q+m=a+z→t.length=512 →
  Sat h (pt p6 (.cells 512 (v_ t) false)::S)→Has E [(3,v3),(4,v4),(5,v5),(6,.ptr p6 0),(8,.int .i64 (a:Int)),(9,.int .i64 (z:Int)),(10,.int .i64 (q:Int)),(35,v35),(36,v36)] →
  (markL m q t=none→∀E' h',look E' 2=some (.bool false)→Sat h' S→Q .ret E' h') →
  (∀t' E' h',markL m q t=some t'→Has E' [(3,v3),(4,v4),(5,v5),(6,.ptr p6 0),(35,v35),(36,v36)]→Sat h' (pt p6 (.cells 512 (v_ t') false)::S)→Q (.exit 2) E' h') →
  WP ⟨Tryz.prog,told⟩ 68 (.loop gdI) E h Q:=by
 intro m
 induction m with
 |zero =>
  intro q t h E Q hq ht s hE J hx
  refine WP.loop (WP.has hE (zK 6 rfl (zb rfl (by exact aR (ax (by omega) (by omega))) ?_)))
  refine zC rfl aJ (by simp;omega) ?_
  exact zk 2 rfl (WP.exit (hx t _ _ rfl ⟨rfl,rfl,rfl,rfl,rfl,rfl,aa⟩ s))
 |succ m ih =>
  intro q t h E Q hq ht s hE J hx
  have I:q<t.length:=by omega
  refine WP.loop (WP.has hE (zK 6 rfl (zb rfl (by exact aR (ax (by omega) (by omega))) ?_)))
  refine zB rfl aJ (by simp;omega) ?_
  refine zk 4 rfl (WP.block (zK 4 rfl (zo rfl (cu (r:=.ptr p6 q) rfl rfl (by rw[RT,show(decide ((0:Int)≤(q:Int))&&decide ((q:Int)<((512:Nat):Int)))=true by simp;omega,ai];simp)) ?_)))
  cases hm:t.getD q false with
  |true =>
   refine zt rfl (aP rfl (s.ld (k:=0) rfl nF (Jb I))) (hm) (zk 6 rfl (WP.ret ?_))
   refine J ?_ _ _ rfl s.drop
   rw[markL,aF hm]
  |false =>
   refine zh rfl (aP rfl (s.ld (k:=0) rfl nF (Jb I))) (hm) (zk 5 rfl (zo rfl (cu (r:=.ptr p6 q) rfl rfl (by rw[RT,show(decide ((0:Int)≤(q:Int))&&decide ((q:Int)<((512:Nat):Int)))=true by simp;omega,ai];simp)) ?_))
   refine zS rfl (s.dL (k:=0) rfl vZ (by simp[v_,ht]) (by omega) rfl rfl) ?_
   intro h s
   dsimp only[setA] at s
   rw[Ti] at s
   refine zv (zr rfl (zm rfl (zb rfl (by exact aR (ax (by omega) (by omega))) ?_)))
   refine za rfl (zv ?_)
   have e:markL (m+1) q t=markL m (q+1) (t.set q true):=by rw[markL,ay (by rw[hm];decide)]
   rw[e] at J hx
   exact ih (q+1) (t.set q true) h _ Q (by omega) (by simp[ht]) s ⟨rfl,rfl,rfl,rfl,rfl,rfl,rfl,rfl,rfl,aa⟩ J hx
theorem KT (hT:W told){p3:Nat}{low:Nat}(hX:cq X (cz x l))(hl:l.length=512)(cA:∀b∈l,b<256)(DI:x.cells=[x])(hx2:storable x=true)(hn:n=jS l)(KU:26+4*n≤low)(abm:low≤512): ∀(m i:Nat) (t:List Bool) (h:H) (E:List (Nat×V)) (Q:Ex→List (Nat×V)→H→Prop),i+m=n→t.length=512 →
  Sat h (pt p6 (.cells 512 (v_ t) false)::pt p3 (.cells 1 [x] false)::X::S)→Has E [(3,.ptr p3 0),(4,.int .i64 (n:Int)),(5,.int .i64 (low:Int)),(6,.ptr p6 0),(35,.int .i64 (n:Int)),(36,.int .i64 (i:Int))] →
  (cellsL l low m i t=false→∀E' h',look E' 2=some (.bool false)→Sat h' (X::S)→Q .ret E' h') →
  (cellsL l low m i t=true→∀E' h',Sat h' (X::S)→Q (.exit 0) E' h') →
  WP ⟨Tryz.prog,told⟩ 68 (.loop gdO) E h Q:=by
 intro m
 induction m with
 |zero =>
  intro i t h E Q hi ht s hE J hx
  refine WP.loop (WP.has hE (zg rfl (zC rfl aJ (by simp;omega) ?_)))
  exact zk 3 rfl (WP.exit (hx rfl _ _ s.drop.drop))
 |succ m ih =>
  intro i t h E Q hi ht s hE J hx
  have hf:=xn (l:=l) (a:=26+4*i) (z:=2) cA
  have hz:=xn (l:=l) (a:=26+4*i+2) (z:=2) cA
  have ef:cZ l i=cU l (26+4*i) 2:=rfl
  have ez:h_ l i=cU l (26+4*i+2) 2:=rfl
  refine WP.loop (WP.has hE (zg rfl (zB rfl aJ (by simp;omega) ?_)))
  refine zk 5 rfl (WP.block (zK 7 rfl (zl rfl (s.cy (k:=1) rfl bV bB) (zm rfl (zc rfl (yR (i:=i) hT s (k:=2) rfl hX hl (by omega)) ?_)))))
  rintro r h' ⟨rfl,s⟩
  refine zk 11 rfl ?_
  refine zd rfl (ak rfl rfl aJ) ?_ ?_
  ·intro hq
   have hq:cZ l i<low:=by simp at hq;omega
   refine zk 12 rfl (WP.ret ?_)
   refine J ?_ _ _ rfl s.drop.drop
   rw[cellsL,aF (.inl hq)]
  ·intro hq
   have hq:low≤cZ l i:=by simp at hq;omega
   refine zk 3 rfl (zb rfl (by exact aR (ax (by omega) (by omega))) ?_)
   refine zd rfl (ak rfl rfl fI) ?_ ?_
   ·intro I
    have I:512<cZ l i+h_ l i:=by simp at I;omega
    refine zk 7 rfl (WP.ret ?_)
    refine J ?_ _ _ rfl s.drop.drop
    rw[cellsL,aF (.inr I)]
   ·intro I
    have I:cZ l i+h_ l i≤512:=by simp at I;omega
    refine zk 9 rfl (WP.block ?_)
    have e:cellsL l low (m+1) i t=(match markL (h_ l i) (cZ l i) t with|none=>false|some t'=>cellsL l low m (i+1) t'):=by rw[cellsL,ay (by omega)]
    rw[e] at J hx
    refine KS I (h_ l i) (cZ l i) t _ _ _ rfl ht s ⟨rfl,rfl,rfl,rfl,rfl,rfl,rfl,rfl,rfl,aa⟩ (fun hm E' h' h2 s' => ?_) (fun t' E' h' hm eF s' => ?_)
    ·rw[hm] at J
     exact J rfl _ _ h2 s'.drop
    ·rw[hm] at J hx
     refine WP.has eF (zr rfl (zb rfl (by exact aR (ax (by omega) (by omega))) ?_))
     refine zm rfl (zv ?_)
     exact ih (i+1) t' h' _ Q (by omega) (by rw[Na _ _ _ _ hm,ht]) s' ⟨rfl,rfl,rfl,rfl,rfl,rfl,aa⟩ J hx
theorem Jc (hT:W told)(s:Sat h (X::S))(hX:cq X (cz v l))(gA:l.length<9223372036854775808):
  Call ⟨Tryz.prog,told⟩ 90 [v] h fun r h'=>r=.bool (bW l)∧Sat h' (X::S):=by
 have hv:=s.aD (k:=0) rfl hX
 refine Call.of_wp (hT.free _ rfl) Tryz.func90 rfl rfl (zK 8 rfl (zo rfl (aQ rfl rfl rfl (bh aM (s.aD (k:=0) rfl hX))) ?_))
 refine zd rfl (ak rfl rfl aA) ?_ ?_
 ·intro hq
  have hq:l.length≠512:=by simp at hq;omega
  exact zk 12 rfl (WP.ret ⟨aa,_,rfl,by rw[bW,fg hq,ju],s⟩)
 ·intro hq
  have hq:l.length=512:=by simp at hq;omega
  have hb:l[13]?=some (l[13]'(by omega)):=bp _
  generalize RF:(l[13]'(by omega))=b at hb
  have zX:l.getD 13 0=b:=by rw[tO,hb];rfl
  obtain⟨id,off,e1,e2⟩:=er hv hb
  refine zk 2 rfl (zo rfl (cu (r:=.ptr id off) rfl rfl e1) (zl rfl e2 ?_))
  refine zd rfl (ak rfl rfl aA) ?_ ?_
  ·intro I
   have I:b≠0:=by simp at I;omega
   exact zk 7 rfl (WP.ret ⟨aa,_,rfl,by rw[bW,ew hq,zX,fg I,ju,Bool.and_false],s⟩)
  ·intro I
   have I:b=0:=by simp at I;omega
   obtain⟨pi,po,pc,rfl⟩:=gL hv (by omega)
   refine zk 7 rfl (zo rfl (b_ rfl (by rw[yH];rfl)) ?_)
   refine aq.bG s rfl rfl rfl (bM iT) (fun p3 h s => ?_)
   refine zS rfl (s.fh (j:=0) rfl bB rfl rfl) (fun h s => ?_)
   refine zk 2 rfl ?_
   have s0:=s
   refine WP.drawn [none,none,some (0,2),af,af,af] rfl (by kernel_rfl) (by kernel_rfl) ?_
   refine zL rfl (s.cy (k:=0) rfl bV bB) (az.any rfl rfl rfl rfl (OpR.call rfl rfl rfl rfl (jT hT s (k:=1) rfl hX hq)) ?_)
   rintro r h' ⟨rfl,s⟩
   have s1:=s
   refine zL rfl (s.cy (k:=0) rfl bV bB) (az.any rfl rfl rfl rfl (OpR.call rfl rfl rfl rfl (F5 hT s (k:=1) rfl hX hq)) ?_)
   rintro r h' ⟨rfl,s⟩
   refine zA rfl (zA rfl ?_)
   refine az.nil ⟨⟨aa,aa,dW (.inr ⟨rfl,⟨_,aP rfl (s0.cy (k:=0) rfl bV bB)⟩,aN _ rfl⟩) (.inr ⟨rfl,⟨_,aP rfl (s1.cy (k:=0) rfl bV bB)⟩,aN _ rfl⟩),aa,aa,aa,aa⟩,?_⟩
   have AZ:=xn (l:=l) (a:=14) (z:=2) hv.1
   have zE:=xn (l:=l) (a:=16) (z:=2) hv.1
   have ec:jS l=cU l 14 2:=rfl
   have el:g8 l=cU l 16 2:=rfl
   refine zK 4 rfl (zb rfl (by exact ik (ax (by omega) (by omega))) ?_)
   refine zb rfl (by exact aR (ax (by omega) (by omega))) ?_
   refine zm rfl ?_
   refine zd rfl (ak rfl rfl fI) ?_ ?_
   ·intro J
    have J:g8 l<26+4*jS l:=by simp at J;omega
    exact zk 10 rfl (WP.ret ⟨aa,_,rfl,by rw[bW,ew hq,zX,ew I,fg (by omega:¬(26+4*jS l≤g8 l∧g8 l≤512))];rfl,s.drop⟩)
   ·intro J
    have J:26+4*jS l≤g8 l:=by simp at J;omega
    refine zk 2 rfl ?_
    refine zd rfl (ak rfl rfl fI) ?_ ?_
    ·intro nN
     have nN:512<g8 l:=by simp at nN;omega
     exact zk 7 rfl (WP.ret ⟨aa,_,rfl,by rw[bW,ew hq,zX,ew I,fg (by omega:¬(26+4*jS l≤g8 l∧g8 l≤512))];rfl,s.drop⟩)
    ·intro nN
     have nN:g8 l≤512:=by simp at nN;omega
     refine zk 6 rfl (aq.bG s rfl rfl rfl (bM PT) ?_)
     intro p6 h s
     have xo:(v_ (List.replicate 512 false)).length=512:=by rw[v_,fE,gi]
     dsimp only[V.cells] at s
     rw[xo] at s
     refine zk 7 rfl (WP.block ?_)
     have hg:bW l=cellsL l (g8 l) (jS l) 0 (List.replicate 512 false):=by
      rw[bW,ew hq,zX,ew I,ew (⟨J,nN⟩:26+4*jS l≤g8 l∧g8 l≤512)];rfl
     refine KT hT hX hq hv.1 rfl rfl rfl J nN (jS l) 0 (List.replicate 512 false) _ _ _ (by omega) gi s ⟨rfl,rfl,rfl,rfl,rfl,rfl,aa⟩ (fun hc E' h' h2 s' => ?_) (fun hc E' h' s' => ?_)
     ·rw[hg,hc]
      exact⟨aa,_,ql h2,rfl,s'⟩
     ·rw[hg,hc]
      exact WP.has (F:=[]) aa (zK 4 rfl (WP.ret ⟨aa,_,rfl,rfl,s'⟩))
end
section
variable {told:cE} {v:V}
theorem uM (I:W told)(s:Sat h (aW v l::S))(J:z≤8)(hl:l.length+z≤140737488355328):
  Call ⟨Tryz.prog,told⟩ 71 [v,.int .i64 (z:Int),.int .u64 (n:Int)] h fun r h'=>Sat h' (aW r (l++le z n)::S) :=
 (MZ I.RZ s.wf (s.buf (k:=0) rfl) J hl).mono fun _ _ ⟨h1,h2,h3⟩=>s.yz h2 h1 h3
theorem ox (hT:W told)(s:Sat h (aW v l::S))(hz:1≤z)(zW:z≤8)(J:a+z≤l.length)(gA:l.length≤65536):
  Call ⟨Tryz.prog,told⟩ 88 [.agg [v],.int .i64 (a:Int),.int .i64 (z:Int),.int .u64 (n:Int)] h fun r h'=>r=.aI []∧Sat h' (aW v (bx l a (le z n))::S):=by
 obtain⟨kD,_,cap,_,rfl,_⟩:=s.eZ (by omega)
 refine Call.of_wp (hT.free _ rfl) Tryz.func88 rfl rfl (zg rfl ?_)
 refine aq.bG s rfl rfl rfl (dc rfl rfl) (fun p4 h s => ?_)
 refine zv ?_
 have s0:=s
 refine WP.drawn [some (0,2),some (0,2),some (0,2),some (0,2),some (0,2),some (0,2),some (0,2),af,af,af,af] rfl (by kernel_rfl) (by kernel_rfl) ?_
 refine zF rfl (fV _ _) (zL rfl (s.ld (k:=0) rfl bX rfl) (zM rfl (zM rfl (zM rfl (zO rfl (ak rfl rfl (by exact aR (ax (by omega) (by omega)))) ?_)))))
 have ez:((a:Int)+(z:Int)).toNat=a+z:=by omega
 have ea:((a:Int)).toNat=a:=by omega
 refine zO rfl (cf (p:=some (.int .i64 (a:Int))) (q:=some (.int .i64 ((a:Int)+(z:Int)))) (m:=none) (p':=some a) (q':=some (a+z)) (m':=none) rfl rfl rfl rfl (by rw[cn (by omega),ea]) (by rw[cn (by omega),ez]) rfl (cH (s.buf (k:=1) rfl).view (by omega) J).1) ?_
 refine zM rfl (zM rfl (az.any rfl rfl rfl rfl (OpR.call rfl rfl rfl rfl (uM hT s.rW zW (by simp;omega))) ?_))
 intro u h s
 have s:=s.ae [1,1,0]
 dsimp only[List.nil_append,V.cells,List.length_cons,List.length_nil,Nat.reduceAdd,bringA,getA,aC] at s
 have s1:=s
 refine az.any rfl rfl rfl rfl (OpR.KK rfl (s.ae [1,1]) (aU _ _) rfl rfl rfl rfl (by omega) J (by simp[cF];omega)) ?_
 intro r h s
 have hs:∃q c,slR (V.sl kD 0 l.length cap) a (a+z)=.sl kD q (a+z-a) c:=by
  cases cap with
  |exact c=>exact⟨_,_,rfl⟩
  |rest e alt=>exact⟨_,_,rfl⟩
 obtain⟨q,c,hs⟩:=hs
 have I:(slR (V.sl kD 0 l.length cap) a (a+z)).beq (slR (V.sl kD 0 l.length cap) a (a+z))=true:=by rw[hs];exact EM _ _ _ _
 refine az.nil ⟨⟨fun _ _=>.inr ⟨rfl,⟨_,jr rfl (fV _ _)⟩,aN _ rfl⟩,dW (.inr ⟨rfl,⟨_,aP rfl (s0.ld (k:=0) rfl bX rfl)⟩,aN _ rfl⟩) (.inr ⟨rfl,⟨_,aP rfl (s1.ld (k:=0) rfl bX rfl)⟩,aN _ rfl⟩),fun _ _=>.inr ⟨rfl,⟨_,bf rfl⟩,aN _ rfl⟩,fun _ _=>.inr ⟨rfl,⟨_,bf rfl⟩,aN _ rfl⟩,fun _ _=>.inr ⟨rfl,⟨_,bf rfl⟩,aN _ rfl⟩,fun _ _=>.inr ⟨rfl,⟨_,ak rfl rfl (by exact aR (ax (by omega) (by omega)))⟩,aN _ rfl⟩,dW (.inr ⟨rfl,⟨_,cf (p:=some (.int .i64 (a:Int))) (q:=some (.int .i64 ((a:Int)+(z:Int)))) (m:=none) (p':=some a) (q':=some (a+z)) (m':=none) rfl rfl rfl rfl (by rw[cn (by omega),ea]) (by rw[cn (by omega),ez]) rfl (cH (s0.buf (k:=1) rfl).view (by omega) J).1⟩,I⟩) (.inr ⟨rfl,⟨_,cf (p:=some (.int .i64 (a:Int))) (q:=some (.int .i64 ((a:Int)+(z:Int)))) (m:=none) (p':=some a) (q':=some (a+z)) (m':=none) rfl rfl rfl rfl (by rw[cn (by omega),ea]) (by rw[cn (by omega),ez]) rfl (cH (s1.buf (k:=1) rfl).view (by omega) J).1⟩,I⟩),aa,aa,aa,aa,aa⟩,?_⟩
 refine⟨aa,_,rfl,rfl,?_⟩
 rw[show a+z-a=z by omega,fS (by rw[cF];omega)] at s
 exact(s.del 1).del 1
theorem r8 (hT:W told)(s:Sat h (X::S))(hX:cq X (cz v l))(J:l.length<9223372036854775808):
  Call ⟨Tryz.prog,told⟩ 178 [v] h fun r h'=>Sat h' (X::S)∧((bW l=true∧r=.aI [.agg [v],.int .i64 0])∨(bW l=false∧r=.aI [.agg [.aO],.int .i64 4])):=by
 have hv:=s.aD (k:=0) rfl hX
 refine Call.of_wp (hT.free _ rfl) Tryz.func178 rfl rfl (zg rfl ?_)
 refine aq.bG s rfl rfl rfl (bM iT) (fun p2 h s => ?_)
 refine zk 6 rfl (zc rfl (Jc hT (s.ae [1]) hX J) ?_)
 rintro r h' ⟨rfl,s⟩
 cases hg:bW l with
 |true =>
  have I:1≤l.length:=by
   have:l.length=512:=by simp only[bW,bC,gn] at hg;exact hg.1
   omega
  obtain⟨pi,po,pc,rfl⟩:=gL hv I
  refine zo rfl (dB rfl rfl) (zk 6 rfl (zo rfl (b_ rfl (by rw[yH];rfl)) ?_))
  refine zS rfl (s.fh (j:=1) rfl bB rfl rfl) (fun h s => ?_)
  refine zk 2 rfl ?_
  refine WP.ret ⟨aa,_,EN rfl (s.cy (k:=1) rfl bV bB) rfl,?_⟩
  exact⟨s.del 1,.inl ⟨rfl,rfl⟩⟩
 |false =>
  refine zo rfl (dB rfl rfl) (zk 4 rfl (zo rfl (b_ rfl (by rw[yH];rfl)) ?_))
  refine zS rfl (s.fh (j:=1) rfl bB rfl rfl) (fun h s => ?_)
  refine zk 2 rfl ?_
  refine WP.ret ⟨aa,_,EN rfl (s.cy (k:=1) rfl bV bB) rfl,?_⟩
  exact⟨s.del 1,.inr ⟨rfl,rfl⟩⟩
theorem fW (I:bW l=true): l.length=512:=by simp only[bW,bC,gn] at I;exact I.1
theorem sV (hT:W told)(s:Sat h (X::S))(J:cq X (cz v l))(gA:l.length<9223372036854775808):
  Call ⟨Tryz.prog,told⟩ 192 [v] h fun r h'=>(bW l=true∧∃u,r=.aI [.agg [u],.int .i64 0]∧Sat h' (aW u l::X::S))∨(bW l=false∧r=.aI [.agg [.aO],.int .i64 4]∧Sat h' (X::S)):=by
 have hv:=s.aD (k:=0) rfl J
 refine Call.of_wp (hT.free _ rfl) Tryz.func192 rfl rfl (zg rfl ?_)
 refine aq.bG s rfl rfl rfl (bM iT) (fun p2 h s => ?_)
 refine zk 5 rfl (zc rfl (r8 hT (s.ae [1]) J gA) ?_)
 rintro r h' ⟨s,(⟨I,rfl⟩|⟨I,rfl⟩)⟩
 ·have Z_:=fW I
  obtain⟨pi,po,pc,rfl⟩:=gL hv (by omega)
  refine zk 3 rfl ?_
  refine aq.bG s rfl rfl rfl (bM iT) (fun p4 h s => ?_)
  refine zS rfl (s.fh (j:=0) rfl bB rfl rfl) (fun h s => ?_)
  refine zk 6 rfl (zC rfl aA (rfl) (zk 4 rfl ?_))
  have s0:=s
  refine WP.drawn [af,af,af,af,some (0,2),some (0,2),af,af,af,af] rfl (by kernel_rfl) (by kernel_rfl) ?_
  refine zF rfl (fV _ _) (zL rfl (s.ld (k:=0) rfl bX rfl) (zO rfl (aQ rfl rfl rfl (o9 rfl aM)) (az.any rfl rfl rfl rfl (OpR.rZ rfl s rfl rfl rfl rfl (by omega)) ?_)))
  intro u h s
  have s:=s.ae [1,1,1,0]
  have s1:=s
  refine zF rfl (fV _ _) (zL rfl (s.ld (k:=0) rfl bX rfl) (az.any rfl rfl rfl rfl (OpR.rY rfl (s.ae [3,1]) J rfl rfl rfl rfl (by simp;omega)) ?_))
  intro u2 h s
  rw[d_] at s
  obtain⟨kD,_,cap,_,rfl,_⟩:=s.eZ (by omega)
  have s2:=s
  refine zO rfl (b_ rfl (by rw[yH];rfl)) ?_
  refine az.iR rfl rfl rfl (OpR.uC rfl rfl rfl (s.fh (j:=3) rfl bB rfl rfl)) ?_
  rintro w h ⟨rfl,s⟩
  have s3:=s
  refine zA rfl ?_
  refine az.nil ⟨⟨aa,aa,aa,aa,fun _ _=>.inr ⟨rfl,⟨_,jr rfl (fV _ _)⟩,aN _ rfl⟩,dW (.inr ⟨rfl,⟨_,aP rfl (s0.ld (k:=0) rfl bX rfl)⟩,aN _ rfl⟩) (.inr ⟨rfl,⟨_,aP rfl (s1.ld (k:=0) rfl bX rfl)⟩,aN _ rfl⟩),aa,aa,aa,aa,aa⟩,?_⟩
  refine WP.ret ⟨aa,_,EN rfl (s.cy (k:=3) rfl bV bB) rfl,?_⟩
  exact .inl ⟨I,_,rfl,(s.del 2).del 2⟩
 ·skip
  refine zk 3 rfl ?_
  refine aq.bG s rfl rfl rfl (bM iT) (fun p4 h s => ?_)
  refine zS rfl (s.fh (j:=0) rfl bB rfl rfl) (fun h s => ?_)
  refine zk 6 rfl (zB rfl aA (rfl) (zk 4 rfl (zo rfl (b_ rfl (by rw[yH];rfl)) ?_)))
  refine zm rfl ?_
  refine zS rfl (s.fh (j:=2) rfl bB rfl rfl) (fun h s => ?_)
  refine zk 2 rfl ?_
  refine WP.ret ⟨aa,_,EN rfl (s.cy (k:=2) rfl bV bB) rfl,?_⟩
  exact .inr ⟨I,rfl,(s.del 2).del 0⟩
def m8 (l:List Nat)(n:Nat): List Nat:=bx l 4 (le 8 n)
def cS (l:List Nat)(n:Nat): List Nat:=bx (m8 l n) 0 (le 4 (BE 0 ((m8 l n).drop 4)))
theorem vu (I:l.length=512): (m8 l n).length=512:=by rw[m8,cQ (by rw[cF];omega),I]
theorem Tj (I:W told)(s:Sat h (X::S))(hX:cq X (cz v l))(gA:l.length<9223372036854775808):
  Call ⟨Tryz.prog,told⟩ 131 [v,.int .u64 (n:Int)] h fun r h'=>(bW l=true∧∃u,r=.aI [u,.int .i64 0]∧Sat h' (aW u (cS l n)::X::S))∨(bW l=false∧r=.aI [.aO,.int .i64 4]∧Sat h' (X::S)):=by
 refine Call.of_wp (I.free _ rfl) Tryz.func131 rfl rfl (zK 8 rfl (zc rfl (sV I s hX gA) ?_))
 rintro r h' (⟨hg,u,rfl,s⟩|⟨hg,rfl,s⟩)
 ·have J:=fW hg
  have uN:(m8 l n).length=512:=vu J
  obtain⟨kD,_,cap,_,rfl,_⟩:=s.eZ (by omega)
  refine zk 3 rfl ?_
  refine aq.bG s rfl rfl rfl (bM iT) (fun p6 h s => ?_)
  refine zS rfl (s.fh (j:=0) rfl bB rfl rfl) (fun h s => ?_)
  refine zk 6 rfl (zC rfl aA (rfl) (zk 5 rfl (zl rfl (s.cy (k:=0) rfl bV bB) (zm rfl (zc rfl (ox (a:=4) (z:=8) I (s.ae [1]) (by decide) (by decide) (by omega) (by omega)) ?_)))))
  rintro r h' ⟨rfl,s⟩
  have s:=s.ae [1,0]
  have s:Sat _ (_::aW _ (m8 l n)::_):=s
  refine zk 2 rfl ?_
  have s0:=s
  have F6:=(s.buf (k:=1) rfl).view.1
  have ec:(m8 l n).length=l.length:=by omega
  rw[←ec] at *
  refine WP.drawn [some (0,2),af,af,af,af,af,af] rfl (by kernel_rfl) (by kernel_rfl) ?_
  refine zL rfl (s.cy (k:=0) rfl bV bB) (zF rfl (fV _ _) (zL rfl (s.ld (k:=0) rfl bX rfl) (zO rfl (cf (p:=some (.int .i64 4)) (q:=none) (m:=none) (p':=some 4) (q':=none) (m':=none) rfl rfl rfl rfl rfl rfl rfl (gE (s.buf (k:=1) rfl).view (a:=4) (by omega)).1) ?_)))
  refine az.any rfl rfl rfl rfl (OpR.call rfl rfl rfl rfl (R3 I s (k:=1) rfl (uI (aU _ _) (a:=4) (by omega)) (by simp;omega))) ?_
  rintro r h' ⟨rfl,rfl⟩
  have s1:=s
  have hc:=Ar (s:=0) (l:=(m8 l n).drop 4) (by decide) (fun x hx=>F6 x (l7 hx))
  refine az.op rfl rfl rfl (by simp only[isEff,bN]) (bJ rfl (by exact gC Tryz.underlying285 bN (eV (by omega) (by omega)))) ?_
  refine az.any rfl rfl rfl rfl (OpR.call rfl rfl rfl rfl (ox (a:=0) (z:=4) I (s.ae [1]) (by decide) (by decide) (by omega) (by omega))) ?_
  rintro r h ⟨rfl,s⟩
  have s:=s.ae [1,0]
  refine az.nil ⟨⟨dW (.inr ⟨rfl,⟨_,aP rfl (s0.cy (k:=0) rfl bV bB)⟩,aN _ rfl⟩) (.inr ⟨rfl,⟨_,aP rfl (s1.cy (k:=0) rfl bV bB)⟩,aN _ rfl⟩),aa,aa,aa,aa,aa,aa,aa⟩,?_⟩
  exact zg rfl (zY s 0 fV bX rfl (zk 3 rfl (WP.ret ⟨aa,_,rfl,.inl ⟨hg,_,rfl,s.drop⟩⟩)))
 ·skip
  refine zk 3 rfl ?_
  refine aq.bG s rfl rfl rfl (bM iT) (fun p6 h s => ?_)
  refine zS rfl (s.fh (j:=0) rfl bB rfl rfl) (fun h s => ?_)
  exact zk 6 rfl (zB rfl aA (rfl) (zk 8 rfl (WP.ret ⟨aa,_,rfl,.inr ⟨hg,rfl,s.drop⟩⟩)))
theorem aaa {d:TypeId}{x:Operand}{r:V}(I:aT E x=some v)(J:arrPtrV P d v=some r): opE P E h (.sliceToArrayPointer d x)=some (r,h):=by simp only[opE,iB,I,J,bk]
theorem Tk {cap:Cap}(I:View h (.sl id off n cap) l)(J:isAggT P t=some true)(hs:bj P t=some l.length): loadV P h t (.ptr id off)=some (.agg (ofBytes l)):=by
 have:=I.rdN
 obtain⟨rfl,h2⟩:=this
 simp only[loadV,J,hs,h2,l8]
theorem Ey : ∀(l m:List Nat),l.length=m.length→intsBeq .u8 (ofBytes l) (ofBytes m)=some (decide (l=m)):=by
 intro l
 induction l with
 |nil=>intro m hm;cases m with
  |nil=>rfl
  |cons x m=>simp at hm
 |cons x l J=>intro m hm;cases m with
  |nil=>simp at hm
  |cons y m =>
   have hi:=J m (by simpa using hm)
   simp only[ofBytes,ey] at hi ⊢
   simp only[intsBeq,ikBeq,iy,ai,hi,mq]
   by_cases I:x=y
   ·subst I;simp
   ·have:¬ ((x:Int)=(y:Int)):=by omega
    simp[this,I]
theorem PU : buildV Tryz.prog 281 []=some (.agg (ofBytes (List.replicate 512 0))):=by kernel_rfl
theorem R4 {x:Operand}{m:List Nat}(hu:P.underlying t=some (.array n e))(he:P.underlying e=some (.int .u8))(hs:bj P e=some 1)(I:l.length=n)(hm:m.length=n):
  binV P h .eql t x y (.agg (ofBytes l)) (.agg (ofBytes m))=some (.bool (decide (l=m))):=by
 simp only[binV,eqArr,hu,he,hs,c_,I,hm,eW,iy,ai]
 rw[Ey l m (by omega)]
 rfl
def gH (l:List Nat): Int:=if l=List.replicate 512 0 then 0 else if bW l=false then 4 else if cU l 0 4≠BE 0 (l.drop 4) then 8 else 0
theorem F7 (hT:W told)(s:Sat h (X::S))(J:cq X (cz v l))(gA:l.length<9223372036854775808):
  Call ⟨Tryz.prog,told⟩ 110 [v] h fun r h'=>r=.int .i64 (gH l)∧Sat h' (X::S):=by
 have hv:=s.aD (k:=0) rfl J
 have hz:(List.replicate 512 0).length=512:=gi
 -- what follows when the page is no page of noughts
 refine Call.of_wp (hT.free _ rfl) Tryz.func110 rfl rfl (zK 8 rfl (zo rfl (aQ rfl rfl rfl (bh aM (s.aD (k:=0) rfl J))) ?_))
 refine zd rfl (ak rfl rfl c4) ?_ ?_
 ·intro hq
  have hq:l.length=512:=by simp at hq;omega
  obtain⟨pi,po,pc,rfl⟩:=gL hv (by omega)
  refine zk 2 rfl (zo rfl (aaa (r:=.ptr pi po) rfl (by simp only[arrPtrV,FR];rw[hq];rfl)) ?_)
  refine zl rfl (Tk hv XK (by rw[hq];exact XJ)) ?_
  refine zo rfl (b_ rfl PU) ?_
  by_cases hn:l=List.replicate 512 0
  ·skip
   exact zB rfl (R4 FR Tryz.underlying5 YR hq hz) (decide_eq_true hn) (zk 7 rfl (WP.ret ⟨aa,_,rfl,by rw[gH,aF hn],s⟩))
  ·skip
   refine zC rfl (R4 FR Tryz.underlying5 YR hq hz) (decide_eq_false hn) (zk 7 rfl (zc rfl (r8 hT s J gA) ?_))
   rintro r h' ⟨s,(⟨hg,rfl⟩|⟨hg,rfl⟩)⟩
   ·refine aq.op rfl rfl rfl (bf rfl) ?_
    refine zk 2 rfl ?_
    refine aq.bG s rfl rfl rfl (bM iT) (fun p3 h s => ?_)
    dsimp only[V.cells,List.length_cons,List.length_nil,Nat.reduceAdd] at s
    refine zS rfl (s.fh (j:=0) rfl bB rfl rfl) (fun h s => ?_)
    dsimp only[setA] at s
    refine zk 3 rfl (WP.block (zK 3 rfl (zC rfl aA (rfl) (zk 4 rfl ?_))))
    have s0:=s
    refine WP.drawn [none,none,some (0,2),some (0,2),af,af,af,af] rfl (by kernel_rfl) (by kernel_rfl) ?_
    refine zL rfl (s.cy (k:=0) rfl bV bB) (az.any rfl rfl rfl rfl (OpR.call rfl rfl rfl rfl (r7 hT s (k:=1) rfl J (by decide) (by decide) (by decide) (by omega) (by omega))) ?_)
    rintro r h' ⟨rfl,s⟩
    have s1:=s
    refine zM rfl (zO rfl (cf (p:=some (.int .i64 4)) (q:=none) (m:=none) (p':=some 4) (q':=none) (m':=none) rfl rfl rfl rfl rfl rfl rfl (gE (s.aD (k:=1) rfl J) (a:=4) (by omega)).1) ?_)
    refine az.any rfl rfl rfl rfl (OpR.call rfl rfl rfl rfl (R3 hT s (k:=1) rfl (uI J (a:=4) (by omega)) (by simp;omega))) ?_
    rintro r h' ⟨rfl,rfl⟩
    have hc:=Ar (s:=0) (l:=l.drop 4) (by decide) (fun x hx=>hv.1 x (l7 hx))
    have hs:∃q c,slR (V.sl pi po l.length pc) 4 l.length=.sl pi q (l.length-4) c:=by
     cases pc with
     |exact c=>exact⟨_,_,rfl⟩
     |rest e alt=>exact⟨_,_,rfl⟩
    obtain⟨q,c,hs⟩:=hs
    have DZ:(slR (V.sl pi po l.length pc) 4 l.length).beq (slR (V.sl pi po l.length pc) 4 l.length)=true:=by rw[hs];exact EM _ _ _ _
    refine az.op rfl rfl rfl (by simp only[isEff,bz]) (bJ rfl (by exact gC Tryz.underlying285 bz (ax (by omega) (by omega)))) ?_
    by_cases I:cU l 0 4=BE 0 (l.drop 4)
    ·skip
     refine az.lG rfl rfl rfl rfl (ak rfl rfl aA) (by simp;exact_mod_cast I) ?_
     refine zA rfl ?_
     refine az.nil ⟨⟨aa,aa,fun _ _=>.inr ⟨rfl,⟨_,bf rfl⟩,aN _ rfl⟩,dW (.inr ⟨rfl,⟨_,cf (p:=some (.int .i64 4)) (q:=none) (m:=none) (p':=some 4) (q':=none) (m':=none) rfl rfl rfl rfl rfl rfl rfl (gE (s0.aD (k:=1) rfl J) (a:=4) (by omega)).1⟩,DZ⟩) (.inr ⟨rfl,⟨_,cf (p:=some (.int .i64 4)) (q:=none) (m:=none) (p':=some 4) (q':=none) (m':=none) rfl rfl rfl rfl rfl rfl rfl (gE (s1.aD (k:=1) rfl J) (a:=4) (by omega)).1⟩,DZ⟩),aa,aa,aa,aa,aa⟩,?_⟩
     refine zj rfl (WP.skip (zg rfl (za rfl (zv ?_))))
     refine WP.ret ⟨aa,_,rfl,?_⟩
     exact⟨by rw[gH,ay hn,ay (by rw[hg];decide),ay (by simpa using I)],s.drop⟩
    ·skip
     refine az.w6 rfl rfl rfl rfl (ak rfl rfl aA) (by simp;exact_mod_cast I) ?_
     refine zA rfl ?_
     refine az.nil ⟨⟨aa,aa,fun _ _=>.inr ⟨rfl,⟨_,bf rfl⟩,aN _ rfl⟩,dW (.inr ⟨rfl,⟨_,cf (p:=some (.int .i64 4)) (q:=none) (m:=none) (p':=some 4) (q':=none) (m':=none) rfl rfl rfl rfl rfl rfl rfl (gE (s0.aD (k:=1) rfl J) (a:=4) (by omega)).1⟩,DZ⟩) (.inr ⟨rfl,⟨_,cf (p:=some (.int .i64 4)) (q:=none) (m:=none) (p':=some 4) (q':=none) (m':=none) rfl rfl rfl rfl rfl rfl rfl (gE (s1.aD (k:=1) rfl J) (a:=4) (by omega)).1⟩,DZ⟩),aa,aa,aa,aa,aa⟩,?_⟩
     exact zK 5 rfl (WP.ret ⟨aa,_,rfl,by rw[gH,ay hn,ay (by rw[hg];decide),aF I],s.drop⟩)
   ·skip
    refine zk 3 rfl ?_
    refine aq.bG s rfl rfl rfl (bM iT) (fun p3 h s => ?_)
    refine zS rfl (s.fh (j:=0) rfl bB rfl rfl) (fun h s => ?_)
    exact zk 3 rfl (WP.block (zK 3 rfl (zB rfl aA (rfl) (zk 8 rfl (WP.ret ⟨aa,_,rfl,by rw[gH,ay hn,aF hg],s.drop⟩)))))
 ·intro hq
  have hq:l.length≠512:=by simp at hq;omega
  have hn:l≠List.replicate 512 0:=fun e=>hq (by rw[e,hz])
  have hg:bW l=false:=by rw[bW,fg hq,ju]
  refine zk 13 rfl (zc rfl (r8 hT s J gA) ?_)
  rintro r h' ⟨s,(⟨FI,rfl⟩|⟨_,rfl⟩)⟩
  ·rw[hg] at FI;cases FI
  ·refine aq.op rfl rfl rfl (bf rfl) ?_
   refine zk 2 rfl ?_
   refine aq.bG s rfl rfl rfl (bM iT) (fun p3 h s => ?_)
   refine zS rfl (s.fh (j:=0) rfl bB rfl rfl) (fun h s => ?_)
   exact zk 3 rfl (WP.block (zK 3 rfl (zB rfl aA (rfl) (zk 8 rfl (WP.ret ⟨aa,_,rfl,by rw[gH,ay hn,aF hg],s.drop⟩)))))
theorem p9 {b:Nat}(hv:View h v l)(hb:l[i]?=some b)(he:indexAddrV Tryz.prog 23 v (.int .i64 (i:Int))=some (.ptr id off)): loadV Tryz.prog h 5 (.ptr id off)=some (.int .u8 (b:Int)):=by
 obtain⟨I,off',J,e2⟩:=er hv hb
 rw[he] at J
 have e3:V.ptr id off=V.ptr I off':=cx J
 rw[e3]
 exact e2
theorem Jd (hT:W told)(s:Sat h (X::S))(I:cq X (cz v l))(gA:l.length<9223372036854775808):
  Call ⟨Tryz.prog,told⟩ 149 [v] h fun r h'=>Sat h' (X::S)∧((bW l=true∧r=.aI [.int .i64 (l.getD 12 0:Nat),.int .u64 (cU l 4 8),.int .i64 (cU l 18 4),.int .i64 (cU l 22 4),.int .i64 0]) ∨
   (bW l=false∧r=.aI [.int .i64 0,.int .u64 0,.int .i64 0,.int .i64 0,.int .i64 4])):=by
 have hv:=s.aD (k:=0) rfl I
 refine Call.of_wp (hT.free _ rfl) Tryz.func149 rfl rfl (zK 11 rfl (zc rfl (r8 hT s I gA) ?_))
 rintro r h' ⟨s,(⟨hg,rfl⟩|⟨hg,rfl⟩)⟩
 ·have hq:=fW hg
  obtain⟨pi,po,pc,rfl⟩:=gL hv (by omega)
  have J:l[12]?=some (l[12]'(by omega)):=bp _
  generalize RF:(l[12]'(by omega))=b at J
  have Fe:b<256:=hv.1 b (bI J)
  have zX:l.getD 12 0=b:=by rw[tO,J];rfl
  rw[zX]
  refine zk 3 rfl ?_
  refine aq.bG s rfl rfl rfl (bM iT) (fun p7 h s => ?_)
  refine zS rfl (s.fh (j:=0) rfl bB rfl rfl) (fun h s => ?_)
  refine zk 6 rfl (zC rfl aA (rfl) (zk 4 rfl ?_))
  have s0:=s
  obtain⟨id,off,e1,e2⟩:=er (s.aD (k:=1) rfl I) J
  refine WP.drawn [some (0,4),some (0,4),some (0,4),some (0,4),af,af,af,some (0,2),none,some (0,3),af,af,af,af,af,af] rfl (by kernel_rfl) (by kernel_rfl) ?_
  refine zM rfl (zO rfl (cu (r:=.ptr id off) rfl rfl e1) (zL rfl (p9 (s.aD (k:=1) rfl I) J e1) (az.op rfl rfl rfl (by simp only[isEff,bz]) (bJ rfl (by exact gC Tryz.underlying5 bz (ax (by omega) (by omega)))) ?_)))
  refine zM rfl (zO rfl (cf (p:=some (.int .i64 4)) (q:=some (.int .i64 12)) (m:=none) (p':=some 4) (q':=some 12) (m':=none) rfl rfl rfl rfl rfl rfl rfl (cH (s.aD (k:=1) rfl I) (a:=4) (b:=12) (by omega) (by omega)).1) ?_)
  refine az.any rfl rfl rfl rfl (OpR.call rfl rfl rfl rfl (nO hT s (k:=1) rfl (jh I (a:=4) (b:=12) (by omega) (by omega)) (by simp;omega))) ?_
  rintro r h' ⟨rfl,rfl⟩
  have s1:=s
  refine zL rfl (s.cy (k:=0) rfl bV bB) (az.any rfl rfl rfl rfl (OpR.call rfl rfl rfl rfl (r7 hT s (k:=1) rfl I (by decide) (by decide) (by decide) (by omega) (by omega))) ?_)
  rintro r h' ⟨rfl,s⟩
  have s2:=s
  refine zL rfl (s.cy (k:=0) rfl bV bB) (az.any rfl rfl rfl rfl (OpR.call rfl rfl rfl rfl (r7 hT s (k:=1) rfl I (by decide) (by decide) (by decide) (by omega) (by omega))) ?_)
  rintro r h' ⟨rfl,s⟩
  refine zA rfl (zA rfl (zA rfl (zA rfl (zA rfl ?_))))
  refine az.nil ⟨⟨fun _ _=>.inr ⟨rfl,⟨_,bf rfl⟩,aN _ rfl⟩,fun _ _=>.inr ⟨rfl,⟨_,cu (r:=.ptr id off) rfl rfl e1⟩,aN _ rfl⟩,Vl (.inr ⟨rfl,⟨_,aP rfl (p9 (s0.aD (k:=1) rfl I) J e1)⟩,aN _ rfl⟩) (.inr ⟨rfl,⟨_,aP rfl (p9 (s1.aD (k:=1) rfl I) J e1)⟩,aN _ rfl⟩) (.inr ⟨rfl,⟨_,aP rfl (p9 (s2.aD (k:=1) rfl I) J e1)⟩,aN _ rfl⟩) (.inr ⟨rfl,⟨_,aP rfl (p9 (s.aD (k:=1) rfl I) J e1)⟩,aN _ rfl⟩),fun _ _=>.inr ⟨rfl,⟨_,bJ rfl (by exact gC Tryz.underlying5 bz (ax (by omega) (by omega)))⟩,aN _ rfl⟩,aa,aa,aa,dW (.inr ⟨rfl,⟨_,aP rfl (s0.cy (k:=0) rfl bV bB)⟩,aN _ rfl⟩) (.inr ⟨rfl,⟨_,aP rfl (s1.cy (k:=0) rfl bV bB)⟩,aN _ rfl⟩),aa,rQ (.inr ⟨rfl,⟨_,aP rfl (s0.cy (k:=0) rfl bV bB)⟩,aN _ rfl⟩) (.inr ⟨rfl,⟨_,aP rfl (s1.cy (k:=0) rfl bV bB)⟩,aN _ rfl⟩) (.inr ⟨rfl,⟨_,aP rfl (s2.cy (k:=0) rfl bV bB)⟩,aN _ rfl⟩),aa,aa,aa,aa,aa,aa,aa⟩,?_⟩
  refine WP.ret ⟨aa,_,rfl,?_⟩
  exact⟨s.drop,.inl ⟨hg,rfl⟩⟩
 ·skip
  refine zk 3 rfl ?_
  refine aq.bG s rfl rfl rfl (bM iT) (fun p7 h s => ?_)
  refine zS rfl (s.fh (j:=0) rfl bB rfl rfl) (fun h s => ?_)
  exact zk 6 rfl (zB rfl aA (rfl) (zk 11 rfl (WP.ret ⟨aa,_,rfl,s.drop,.inr ⟨hg,rfl⟩⟩)))
end
structure Lg where
 base:Nat
 b:List Nat
 bU:List Nat
 forced:Nat
 check:Nat
variable {μ:Lg}
def mX (l:List Nat): List V:=l.map fun(n:Nat)=>V.int .i64 (n:Int)
theorem xp (l:List Nat): (mX l).length=l.length:=by simp[mX]
def R5 (p base:Nat)(bv I:V)(forced check:Nat): List V:=[.ptr p 0,.int .u64 (base:Int),bv,I,.int .i64 (forced:Int),.int .u64 (check:Int)]
def bQ (q p:Nat)(μ:Lg): aE:=xs fun bv:V=>xs fun I:V=>star [pt q (.cells 6 (R5 p μ.base bv I μ.forced μ.check) false),aW bv μ.b,.arr 1 I (mX μ.bU)]
structure Lg.Ok (μ:Lg): Prop where
 size:μ.base+μ.b.length≤1099511627776
 many:μ.bU.length≤16777216
 low:∀s∈μ.bU,s<μ.b.length
 C9:μ.bU.Pairwise (· < ·)
 forced:μ.forced≤μ.b.length
 len:μ.b.length≤16777216
 check:μ.check≤1099511627776
theorem XW {x:Operand}{b:Nat}(I:a+b<4611686018427387904): binV P h .quo t x y (.int .i64 ((a:Int)+(b:Int))) (.int .i64 2)=some (.int .i64 (((a+b)/2:Nat):Int)):=by
 simp only[binV,ikBeq,ai,intV]
 rw[show intBeq 2 0=false from rfl,aK,Int.tdiv_eq_ediv_of_nonneg (by omega),ax (by omega) (by omega)]
 congr 2
section
variable {told:cE} {p:Nat} {v:V}
theorem fB : Sat h (bQ q p μ::S)↔∃bv I,Sat h (pt q (.cells 6 (R5 p μ.base bv I μ.forced μ.check) false)::aW bv μ.b::.arr 1 I (mX μ.bU)::S):=by
 simp only[bQ,gT,aZ,gW,d_]
theorem k_ {c:V}(s:Sat h S)(hk:getA S k=some (.arr 1 v cs))(hi:cs[i]?=some c)(hu:P.underlying t=some (.slice e))(I:bj P e=some 1):
  ∃id off,indexAddrV P t v (.int .i64 (i:Int))=some (.ptr id off)∧∀t',isAggT P t'=some false→loadV P h t' (.ptr id off)=some c:=by
 have J:i<cs.length:=(List.getElem?_eq_some_iff.1 hi).1
 obtain⟨m,r,h1,h2,h3⟩:=s.at hk
 rcases h3.2 with⟨_,rfl⟩|⟨id,n,cap,N,rest,rfl,hg,e1,e2,_⟩
 ·simp at hi
 ·refine⟨id,i,?_,fun t' ht=>RK ht (h1 _ _ hg) ?_⟩
  ·simp only[indexAddrV,hu,I,b8]
   rw[show(decide ((0:Int)≤(i:Int))&&decide ((i:Int)<(n:Int)))=true by simp;omega,ai]
   simp
  ·rw[gu,xU J,hi]
theorem xq (I:W told)(s:Sat h (bQ q p μ::S)): Call ⟨Tryz.prog,told⟩ 52 [.ptr q 0] h fun v h'=>v=.int .u64 (μ.base:Int)∧h'=h:=by
 obtain⟨bv,J,s⟩:=fB.1 s
 exact Call.of_wp (I.free _ rfl) Tryz.func52 rfl rfl (zK 8 rfl (zY s 0 nJ dD rfl (zk 2 rfl (WP.ret ⟨aa,_,rfl,rfl,rfl⟩))))
theorem HZ (I:W told)(s:Sat h (bQ q p μ::S)): Call ⟨Tryz.prog,told⟩ 65 [.ptr q 0] h fun v h'=>v=.int .u64 (μ.check:Int)∧h'=h:=by
 obtain⟨bv,J,s⟩:=fB.1 s
 exact Call.of_wp (I.free _ rfl) Tryz.func65 rfl rfl (zK 8 rfl (zY s 0 S0 dD rfl (zk 2 rfl (WP.ret ⟨aa,_,rfl,rfl,rfl⟩))))
theorem uO (I:W told)(s:Sat h (bQ q p μ::S))(J:μ.base+μ.b.length≤1099511627776): Call ⟨Tryz.prog,told⟩ 43 [.ptr q 0] h fun v h'=>v=.int .u64 ((μ.base:Int)+(μ.b.length:Int))∧h'=h:=by
 obtain⟨bv,sv,s⟩:=fB.1 s
 refine Call.of_wp (I.free _ rfl) Tryz.func43 rfl rfl (zK 5 rfl (WP.drawn [af,af,af,af,af,af,af,af,af,af,af,af] rfl (by kernel_rfl) (by kernel_rfl) ?_))
 refine zM rfl (zN rfl (zF rfl (nJ _ _) (zL rfl (s.ld (k:=0) rfl dD rfl) (zM rfl (zN rfl (zF rfl (jy _ _) (zL rfl (s.ld (k:=0) rfl bX rfl) (zO rfl (aQ rfl rfl rfl (bh aM (s.aD (k:=1) rfl (aU _ _)))) (az.op rfl rfl rfl (by simp only[isEff,bN]) (bJ rfl (by exact gC bz bN (eV (by omega) (by omega)))) ?_)))))))))
 refine zO rfl (ak rfl rfl (by exact aR (eV (by omega) (by omega)))) ?_
 refine zA rfl ?_
 refine az.nil ⟨⟨aa,aa,aa,aa,aa,aa,aa,aa,aa,aa,aa,aa,aa⟩,?_⟩
 refine WP.ret ⟨aa,_,rfl,?_⟩
 exact⟨rfl,rfl⟩
theorem KV (I:W told)(s:Sat h (bQ q p μ::S))(J:μ.base+μ.b.length≤1099511627776)(hf:μ.forced≤μ.b.length): Call ⟨Tryz.prog,told⟩ 16 [.ptr q 0] h fun v h'=>v=.int .u64 ((μ.base:Int)+(μ.forced:Int))∧h'=h:=by
 obtain⟨bv,sv,s⟩:=fB.1 s
 refine Call.of_wp (I.free _ rfl) Tryz.func16 rfl rfl (zK 5 rfl (WP.drawn [af,af,af,af,af,af,af,af,af,af,af] rfl (by kernel_rfl) (by kernel_rfl) ?_))
 refine zM rfl (zN rfl (zF rfl (nJ _ _) (zL rfl (s.ld (k:=0) rfl dD rfl) (zM rfl (zN rfl (zF rfl (C0 _ _) (zL rfl (s.ld (k:=0) rfl ep rfl) (az.op rfl rfl rfl (by simp only[isEff,bN]) (bJ rfl (by exact gC bz bN (eV (by omega) (by omega)))) ?_))))))))
 refine zO rfl (ak rfl rfl (by exact aR (eV (by omega) (by omega)))) ?_
 refine zA rfl ?_
 refine az.nil ⟨⟨aa,aa,aa,aa,aa,aa,aa,aa,aa,aa,aa,aa⟩,?_⟩
 refine WP.ret ⟨aa,_,rfl,?_⟩
 exact⟨rfl,rfl⟩
def Split (μ:Lg)(n i:Nat): Prop:=i≤μ.bU.length∧(∀(j s:Nat),j<i→μ.bU[j]?=some s→μ.base+s<n)∧(∀(j s:Nat),i≤j→μ.bU[j]?=some s→n≤μ.base+s)
theorem C_ (J:l.Pairwise (· < ·)){b:Nat}(I:i<j)(ha:l[i]?=some a)(hb:l[j]?=some b): a<b:=by
 obtain⟨h1,rfl⟩:=List.getElem?_eq_some_iff.1 ha
 obtain⟨h2,rfl⟩:=List.getElem?_eq_some_iff.1 hb
 exact List.pairwise_iff_getElem.1 J _ _ h1 h2 I
noncomputable def lfL : Code:=c6 [1,1,0,0,0] ((Tryz.f184.body).getD .skip)
theorem Nb {sv:V}(hn:n<18446744073709551616)(I:μ.Ok)(s:Sat h (pt q (.cells 6 (R5 p μ.base bv sv μ.forced μ.check) false)::aW bv μ.b::.arr 1 sv (mX μ.bU)::S)): ∀(fuel lo hi:Nat) (E:List (Nat×V)) (Q:Ex→List (Nat×V)→H→Prop),hi-lo≤fuel→lo≤hi→hi≤μ.bU.length →
  (∀(j s:Nat),j<lo→μ.bU[j]?=some s→μ.base+s<n)→(∀(j s:Nat),hi≤j→μ.bU[j]?=some s→n≤μ.base+s) →
  Has E [(0,.ptr q 0),(1,.int .u64 (n:Int)),(5,.int .i64 (lo:Int)),(6,.int .i64 (hi:Int))]→(∀E' i,Split μ n i→look E' 5=some (.int .i64 (i:Int))→Q (.exit 0) E' h)→WP ⟨Tryz.prog,told⟩ 39 (.loop lfL) E h Q:=by
 have KW:=I.many
 have KX:=I.size
 intro fuel
 induction fuel with
 |zero =>
  intro lo hi E Q hf h1 h2 h3 h4 hE hq
  refine WP.loop (WP.has hE (zK 5 rfl (zC rfl aJ (by simp;omega) ?_)))
  refine zk 2 rfl (WP.exit ?_)
  have e:lo=hi:=by omega
  exact hq _ lo ⟨by omega,h3,by rw[e];exact h4⟩ rfl
 |succ fuel ih =>
  intro lo hi E Q hf h1 h2 h3 h4 hE hq
  by_cases cA:lo<hi
  ·skip
   refine WP.loop (WP.has hE (zK 5 rfl (zB rfl aJ (by simp;omega) ?_)))
   refine zk 3 rfl (WP.block (zK 4 rfl (zb rfl (by exact aR (ax (by omega) (by omega))) ?_)))
   refine zb rfl (XW (by omega)) ?_
   refine zk 3 rfl ?_
   generalize hm:(lo+hi)/2=m
   have rV:lo≤m:=by omega
   have sM:m<hi:=by omega
   obtain⟨st,J⟩:∃st,μ.bU[m]?=some st:=⟨_,bp (by omega)⟩
   have Vv:=I.low st (bI J)
   have hlen:=I.len
   have hc:(mX μ.bU)[m]?=some (.int .i64 (st:Int)):=by simp[mX,J]
   obtain⟨id,off,e1,e2⟩:=k_ (P:=Tryz.prog) s (k:=2) rfl hc gU nE
   refine WP.drawn [af,af,af,af,af,af,af,af,af,af,af,af,af,af,af] rfl (by kernel_rfl) (by kernel_rfl) ?_
   refine zM rfl (zN rfl (zF rfl (nJ _ _) (zL rfl (s.ld (k:=0) rfl dD rfl) (zM rfl (zN rfl (zF rfl (oW _ _) (zL rfl (s.ld (k:=0) rfl vp rfl) (zM rfl (zO rfl (cu (r:=.ptr id off) rfl rfl e1) (zL rfl (e2 _ ep) (az.op rfl rfl rfl (by simp only[isEff,bN]) (bJ rfl (by exact gC bz bN (eV (by omega) (by omega)))) ?_)))))))))))
   refine zO rfl (ak rfl rfl (by exact aR (eV (by omega) (by omega)))) ?_
   refine zM rfl ?_
   by_cases zE:μ.base+st<n
   ·skip
    refine az.w6 rfl rfl rfl rfl (ak rfl rfl aJ) (by simp;omega) ?_
    refine az.nil ⟨⟨aa,aa,aa,aa,aa,aa,aa,aa,aa,aa,aa,aa,aa,aa,aa,aa⟩,?_⟩
    refine zK 3 rfl (zb rfl (by exact aR (ax (by omega) (by omega))) ?_)
    refine za rfl (zv ?_)
    refine ih (m+1) hi _ Q (by omega) (by omega) h2 (fun j s hj hs => ?_) h4 ⟨rfl,rfl,rfl,rfl,aa⟩ hq
    by_cases VF:j=m
    ·subst VF;rw[J] at hs;injection hs with hs;omega
    ·have:=C_ I.C9 (show j<m by omega) hs J;omega
   ·skip
    refine az.lG rfl rfl rfl rfl (ak rfl rfl aJ) (by simp;omega) ?_
    refine az.nil ⟨⟨aa,aa,aa,aa,aa,aa,aa,aa,aa,aa,aa,aa,aa,aa,aa,aa⟩,?_⟩
    refine zj rfl (zr rfl (zk 2 rfl (zv ?_)))
    refine ih lo m _ Q (by omega) rV (by omega) h3 (fun j s hj hs => ?_) ⟨rfl,rfl,rfl,rfl,aa⟩ hq
    by_cases VF:j=m
    ·subst VF;rw[J] at hs;injection hs with hs;omega
    ·have:=C_ I.C9 (show m<j by omega) J hs;omega
  ·skip
   refine WP.loop (WP.has hE (zK 5 rfl (zC rfl aJ (by simp;omega) ?_)))
   refine zk 2 rfl (WP.exit ?_)
   have e:lo=hi:=by omega
   exact hq _ lo ⟨by omega,h3,by rw[e];exact h4⟩ rfl
theorem Tl (hT:W told)(s:Sat h (bQ q p μ::S))(I:μ.Ok)(hn:n<18446744073709551616): Call ⟨Tryz.prog,told⟩ 184 [.ptr q 0,.int .u64 (n:Int)] h fun v h'=>h'=h∧∃i,Split μ n i∧v=.int .i64 (i:Int):=by
 obtain⟨bv,sv,s⟩:=fB.1 s
 refine Call.of_wp (hT.free _ rfl) Tryz.func184 rfl rfl (zK 5 rfl (WP.drawn [af,af,af,af,af,af,af] rfl (by kernel_rfl) (by kernel_rfl) ?_))
 refine zM rfl (zN rfl (zF rfl (oW _ _) (zL rfl (s.ld (k:=0) rfl vp rfl) (zO rfl (aQ rfl rfl rfl (s.gF (n:=μ.bU.length) (j:=2) rfl (by rw[xp,iz]) (by decide) gU)) ?_))))
 refine zA rfl (zA rfl ?_)
 refine az.nil ⟨⟨aa,aa,aa,aa,aa,aa,aa,aa⟩,?_⟩
 refine zw (WP.block ?_)
 refine Nb hn I s μ.bU.length 0 μ.bU.length _ _ (by omega) (by omega) (by omega) (fun j s hj _=>by omega) (fun j s hj hs => ?_) ⟨rfl,rfl,rfl,rfl,aa⟩ (fun E' i hi J => ?_)
 ·rw[List.getElem?_eq_none (by omega)] at hs;cases hs
 ·skip
  exact WP.has (F:=[(5,.int .i64 (i:Int))]) ⟨J,aa⟩ (zK 5 rfl (WP.ret ⟨aa,_,rfl,rfl,i,hi,rfl⟩))
def Lg.hasB (μ:Lg)(n:Nat): Bool:=μ.bU.any fun s=>decide (μ.base+s=n)
theorem Split.has (hs:Split μ n i)(hr:μ.bU.Pairwise (· < ·)): μ.hasB n=true↔∃s,μ.bU[i]?=some s∧μ.base+s=n:=by
 rw[Lg.hasB,List.any_eq_true]
 constructor
 ·rintro⟨s,h1,I⟩
  have I:μ.base+s=n:=by simpa using I
  obtain⟨j,J⟩:=xW h1
  have vS:i≤j:=by
   rcases qR j i with h|h
   ·have:=hs.2.1 j s h J;omega
   ·exact h
  by_cases he:i=j
  ·subst he;exact⟨s,J,I⟩
  ·have hjl:=(List.getElem?_eq_some_iff.1 J).1
   have hi:μ.bU[i]?=some (μ.bU[i]'(by omega)):=bp _
   have h3:=hs.2.2 i _ (aS _) hi
   have h4:=C_ hr (show i<j by omega) hi J
   omega
 ·rintro⟨s,h1,I⟩
  exact⟨s,bI h1,by simpa using I⟩
theorem Nc {st:Nat}(I:μ.bU[i]?=some st): (mX μ.bU)[i]?=some (.int .i64 (st:Int)):=by simp[mX,I]
theorem Je (hT:W told)(s:Sat h (bQ q p μ::S))(I:μ.Ok)(hn:n<18446744073709551616): Call ⟨Tryz.prog,told⟩ 129 [.ptr q 0,.int .u64 (n:Int)] h fun v h'=>h'=h∧v=.bool (μ.hasB n):=by
 have s0:=s
 obtain⟨bv,sv,s⟩:=fB.1 s
 have KW:=I.many
 have KX:=I.size
 refine Call.of_wp (hT.free _ rfl) Tryz.func129 rfl rfl (zK 8 rfl (zc rfl (Tl hT s0 I hn) ?_))
 rintro v h' ⟨rfl,i,hi,rfl⟩
 have hh:=hi.has I.C9
 refine zk 3 rfl (WP.drawn [af,af,af,af,af,af,af,af,af,af,af,af,af,af,af,af,af,af,af,af,af,af,af,af,af] rfl (by kernel_rfl) (by kernel_rfl) ?_)
 refine zM rfl (zM rfl (zN rfl (zF rfl (oW _ _) (zL rfl (s.ld (k:=0) rfl vp rfl) (zO rfl (aQ rfl rfl rfl (s.gF (n:=μ.bU.length) (j:=2) rfl (by rw[xp,iz]) (by decide) gU)) ?_)))))
 by_cases Mw:i<μ.bU.length
 ·skip
  refine az.w6 rfl rfl rfl rfl (ak rfl rfl aJ) (by simp;omega) ?_
  obtain⟨st,J⟩:∃st,μ.bU[i]?=some st:=⟨_,bp Mw⟩
  have Vv:=I.low st (bI J)
  obtain⟨id,off,e1,e2⟩:=k_ (P:=Tryz.prog) s (k:=2) rfl (Nc J) gU nE
  refine zM rfl (zM rfl (zN rfl (zF rfl (nJ _ _) (zL rfl (s.ld (k:=0) rfl dD rfl) (zM rfl (zN rfl (zF rfl (oW _ _) (zL rfl (s.ld (k:=0) rfl vp rfl) (zM rfl (zO rfl (cu (r:=.ptr id off) rfl rfl e1) (zL rfl (e2 _ ep) (az.op rfl rfl rfl (by simp only[isEff,bN]) (bJ rfl (by exact gC bz bN (eV (by omega) (by omega)))) ?_))))))))))))
  refine zO rfl (ak rfl rfl (by exact aR (eV (by omega) (by omega)))) ?_
  refine zM rfl ?_
  by_cases he:μ.base+st=n
  ·skip
   refine az.w6 rfl rfl rfl rfl (ak rfl rfl c4) (by simp;omega) ?_
   refine zO rfl (oV rfl rfl) (zA rfl ?_)
   refine az.nil ⟨⟨aa,aa,aa,aa,aa,aa,aa,aa,aa,aa,aa,aa,aa,aa,aa,aa,aa,aa,aa,aa,aa,aa,aa,aa,aa,aa⟩,?_⟩
   refine WP.ret ⟨aa,_,rfl,?_⟩
   exact⟨rfl,by rw[hh.2 ⟨st,J,he⟩]⟩
  ·skip
   refine az.lG rfl rfl rfl rfl (ak rfl rfl c4) (by simp;omega) ?_
   refine zO rfl (oV rfl rfl) (zA rfl ?_)
   refine az.nil ⟨⟨aa,aa,aa,aa,aa,aa,aa,aa,aa,aa,aa,aa,aa,aa,aa,aa,aa,aa,aa,aa,aa,aa,aa,aa,aa,aa⟩,?_⟩
   refine WP.ret ⟨aa,_,rfl,?_⟩
   refine⟨rfl,?_⟩
   cases hb:μ.hasB n with
   |false=>rfl
   |true =>
    obtain⟨s',h1,h2⟩:=hh.1 hb
    rw[J] at h1;have:=cx h1;omega
 ·skip
  refine az.lG rfl rfl rfl rfl (ak rfl rfl aJ) (by simp;omega) ?_
  refine zM rfl (az.no (e:=false) rfl rfl rfl rfl (az.no (e:=false) rfl rfl rfl rfl (az.no (e:=false) rfl rfl rfl rfl (az.no (e:=false) rfl rfl rfl rfl (az.no (e:=false) rfl rfl rfl rfl (az.no (e:=false) rfl rfl rfl rfl (az.no (e:=false) rfl rfl rfl rfl (az.no (e:=false) rfl rfl rfl rfl (az.no (e:=false) rfl rfl rfl rfl (az.no (e:=false) rfl rfl rfl rfl (az.no (e:=false) rfl rfl rfl rfl (az.no (e:=false) rfl rfl rfl (by simp only[isEff,bN]) ?_))))))))))))
  refine az.no (e:=false) rfl rfl rfl rfl (az.no (e:=false) rfl rfl rfl rfl (az.no (e:=false) rfl rfl rfl rfl (zO rfl (q_ rfl rfl) (zA rfl ?_))))
  refine az.nil ⟨⟨aa,aa,aa,aa,aa,aa,aa,aa,aa,aa,aa,aa,aa,aa,aa,aa,aa,aa,aa,aa,aa,aa,aa,aa,aa,aa⟩,?_⟩
  refine WP.ret ⟨aa,_,rfl,?_⟩
  refine⟨rfl,?_⟩
  cases hb:μ.hasB n with
  |false=>rfl
  |true =>
   obtain⟨s',h1,h2⟩:=hh.1 hb
   have:=(List.getElem?_eq_some_iff.1 h1).1
   omega
theorem Nd (J:W told)(s:Sat h (bQ q p μ::bw p δ::S))(I:μ.Ok)(hf:δ.bH<4294967296): Call ⟨Tryz.prog,told⟩ 93 [.ptr q 0,.int .u64 (n:Int)] h fun v h' =>
  (n<μ.base+μ.forced∧v=.int .i64 0∧Sat h' (bQ q p μ::bw p δ::S)) ∨
  (μ.base+μ.forced≤n∧δ.dead=true∧v=.int .i64 9∧Sat h' (bQ q p μ::bw p δ::S)) ∨
  (μ.base+μ.forced≤n∧δ.dead=false∧δ.bH=0∧v=.int .i64 9∧Sat h' (bQ q p μ::bw p δ.die::S)) ∨
  (μ.base+μ.forced≤n∧δ.dead=false∧δ.bH≠0∧v=.int .i64 0∧Sat h' (bQ q p { μ with forced:=μ.b.length }::bw p { δ.gQ with eA:=δ.log.length }::S)):=by
 have KX:=I.size
 have hfo:=I.forced
 have s0:=s
 obtain⟨bv,sv,s⟩:=fB.1 s
 refine Call.of_wp (J.free _ rfl) Tryz.func93 rfl rfl (zK 9 rfl (zc rfl (KV J s0 I.size I.forced) ?_))
 rintro v h' ⟨rfl,rfl⟩
 by_cases cA:n<μ.base+μ.forced
 ·skip
  refine zB rfl aJ (by simp;omega) ?_
  exact zk 6 rfl (WP.ret ⟨aa,_,rfl,.inl ⟨cA,rfl,s0⟩⟩)
 ·have hle:μ.base+μ.forced≤n:=by omega
  refine zC rfl aJ (by simp;omega) ?_
  refine zk 8 rfl (zY s 0 I4 rT rfl (zc rfl (M5 J (s0.ae [1]) hf) ?_))
  rintro v h (⟨hd,rfl,s⟩|⟨hd,h0,rfl,s⟩|⟨hd,h0,rfl,s⟩)
  ·refine aq.op rfl rfl rfl (dZ rfl) ?_
   exact zk 4 rfl (zB rfl aA (rfl) (zk 7 rfl (WP.ret ⟨aa,_,rfl,.inr (.inl ⟨hle,hd,rfl,s.ae [1]⟩)⟩)))
  ·skip
   exact zk 5 rfl (zB rfl aA (rfl) (zk 7 rfl (WP.ret ⟨aa,_,rfl,.inr (.inr (.inl ⟨hle,hd,h0,rfl,s.ae [1]⟩))⟩)))
  ·skip
   obtain⟨bv,sv,s⟩:=fB.1 (s.ae [1])
   refine zk 5 rfl (zC rfl aA (rfl) (zk 8 rfl (zY s 0 jy bX rfl (zo rfl (aQ rfl rfl rfl (bh aM (s.aD (k:=1) rfl (aU _ _)))) (zn rfl (zf rfl (C0 _ _) ?_))))))
   refine zS rfl (by exact s.dL (k:=0) rfl nE rfl (by decide) rfl rfl) (fun h s => ?_)
   exact zk 5 rfl (WP.ret ⟨aa,_,rfl,.inr (.inr (.inr ⟨hle,hd,h0,rfl,fB.2 ⟨bv,sv,s⟩⟩))⟩)
end
structure cr where
 aY:Int
 pos:Int
 whole:Bool
 b:List Nat
variable {aV:List cr}
def cr.Ok (c:cr): Prop:=0≤c.aY∧c.aY<65536∧0≤c.pos∧c.pos≤512∧(c.b.length:Int)≤512-c.pos∧(c.whole=true→c.pos=0∧c.b.length=512)
instance (c:cr):Decidable c.Ok:=by unfold cr.Ok;infer_instance
def dg (kind:Int)(aV:List cr): Bool:=decide (1≤kind∧kind≤9)&&aV.all fun c=>decide c.Ok
def c5 (kd:Int)(tx pv nx:Nat)(dt ch:V): List V:=[.int .i64 kd,.int .u64 (tx:Int),.int .u64 (pv:Int),.int .u64 (nx:Int),dt,ch]
theorem kq {kd:Int}{ch:V}(hd:storable dt=true)(I:storable ch=true): (c5 kd tx pv nx dt ch).all storable=true:=by
 simp only[c5,jv,j7,hd,I]
 rfl
def cG : List V→List cr→aE
 |[],[]=>.pu True
 |p::a::w::v::l,x::m=>.an (.an (.pu (p=.int .i64 x.aY∧a=.int .i64 x.pos∧w=.bool x.whole)) (.cL v x.b)) (cG l m)
 |_,_=>.pu False
theorem aX.mO : ∀(m:List cr) (l:List V),aX (cG l m):=by
 intro m
 induction m with
 |nil=>intro l;rcases l with _|⟨a,_|⟨b,_|⟨c,_|⟨d,l⟩⟩⟩⟩<;>exact aX.pu _
 |cons x m I=>intro l;rcases l with _|⟨a,_|⟨b,_|⟨c,_|⟨d,l⟩⟩⟩⟩<;>first|exact aX.pu _|exact aX.an (aX.an (aX.pu _) (aX.cL _ _)) (I l)
theorem lS {a b:PM}: ∀ {m:List cr} {l:List V},(cG l m).p a b→l.length=m.length*4:=by
 intro m
 induction m with
 |nil=>intro l h;rcases l with _|⟨x,_|⟨y,_|⟨z,_|⟨d,l⟩⟩⟩⟩<;>first|rfl|exact h.elim
 |cons x m I =>
  intro l h
  rcases l with _|⟨x,_|⟨y,_|⟨z,_|⟨d,l⟩⟩⟩⟩<;>first|exact h.elim|skip
  have:=I h.2
  simp only[bq]
  omega
theorem vx {a b:PM}: ∀ {m m':List cr} {l I:List V},(cG l m).p a b→(cG I m').p a b→(cG (l++I) (m++m')).p a b:=by
 intro m
 induction m with
 |nil=>intro m' l I h h';rcases l with _|⟨x,_|⟨y,_|⟨z,_|⟨d,l⟩⟩⟩⟩<;>first|exact h'|exact h.elim
 |cons x m J =>
  intro m' l I h h'
  rcases l with _|⟨x,_|⟨y,_|⟨z,_|⟨d,l⟩⟩⟩⟩<;>first|exact h.elim|exact⟨h.1,J h.2 h'⟩
theorem F8 {a b:PM}: ∀ {m:List cr} {l:List V} {i:Nat} {c:cr},(cG l m).p a b→m[i]?=some c→∃u,(l.drop (i*4)).take 4=[.int .i64 c.aY,.int .i64 c.pos,.bool c.whole,u]∧(aE.cL u c.b).p a b:=by
 intro m
 induction m with
 |nil=>intro l i c h I;simp at I
 |cons x m J =>
  intro l i c h I
  rcases l with _|⟨p,_|⟨q,_|⟨w,_|⟨v,l⟩⟩⟩⟩<;>first|exact h.elim|skip
  obtain⟨⟨⟨h1,h2,h3⟩,h4⟩,h5⟩:=h
  cases i with
  |zero=>simp at I;subst I;exact⟨v,by rw[h1,h2,h3];rfl,h4⟩
  |succ i =>
   simp at I
   obtain⟨u,e1,e2⟩:=J h5 I
   refine⟨u,?_,e2⟩
   rw[←e1,show(i+1)*4=i*4+4 by omega]
   rfl
section
variable {told:cE} {p:Nat} {v:V}
theorem F9 {ch:V}{m:List cr}{c:cr}(s:Sat h (.arr 4 ch cs::cG cs m::S))(hc:m[i]?=some c):
  ∃id off u,indexAddrV Tryz.prog 102 ch (.int .i64 (i:Int))=some (.ptr id off)∧loadV Tryz.prog h 237 (.ptr id off)=some (.agg [.int .i64 c.aY,.int .i64 c.pos,.bool c.whole,u]) ∧
   u.cells=[u]∧storable u=true∧u.beq u=true∧Sat h (.cL u c.b::.arr 4 ch cs::cG cs m::S):=by
 obtain⟨a,b,q1,q2,q3⟩:=s.at (k:=1) rfl
 have Mw:=(List.getElem?_eq_some_iff.1 hc).1
 have hl:=lS q3
 obtain⟨u,e1,e2⟩:=F8 q3 hc
 obtain⟨id,off,g1,J⟩:=Vw (P:=Tryz.prog) (i:=i) s (j:=0) rfl (by omega) (by decide) gG oo
 have J:=J KD
 rw[e1] at J
 have s2:Sat h (cG cs m::.arr 4 ch cs::S):=s.ae [1]
 have s3:=(s2.dup (aX.mO _ _)).gO (B:=.cL u c.b) fun a b h=>by
  obtain⟨u',I,p_⟩:=F8 h hc
  rw[e1] at I
  injection I with _ I
  injection I with _ I
  injection I with _ I
  injection I with I _
  subst I
  exact p_
 have hu:=(s3.aD (k:=0) rfl (eC _ _))
 exact⟨id,off,u,g1,J,hu.cells.1,hu.cells.2,eN hu,s3.ae [0,1,0]⟩
theorem Jf {ch:V}{m:List cr}(s:Sat h S)(I:getA S j1=some (.arr 4 ch cs))(J:getA S j2=some (cG cs m))(hu:P.underlying t=some (.slice e)): lenV P h t ch=some (.int .i64 m.length):=by
 obtain⟨a,b,q1,q2,q3⟩:=s.at J
 exact s.gF I (lS q3) (by decide) hu
theorem Sat.xu {ch:V}{m:List cr}(s:Sat h S)(I:getA S j1=some (.arr 4 ch cs))(J:getA S j2=some (cG cs m))(hu:P.underlying t=some (.slice e)): lenV P h t ch=some (.int .i64 m.length):=Jf s I J hu
noncomputable def YW : Code:=c6 [1,1,0,1,0,0] ((Tryz.f211.body).getD .skip)
theorem KY {ch:V}{m:List cr}: ∀(j i:Nat) (h:H) (E:List (Nat×V)) (Q:Ex→List (Nat×V)→H→Prop),i+j=m.length→m.length<4294967296→(∀c∈m,c.b.length<9223372036854775808) →
  (∀c∈m, -4294967296≤c.pos∧c.pos≤4294967296)→Sat h (.arr 4 ch cs::cG cs m::S)→Has E [(1,.ptr p1 0),(14,ch),(15,.int .i64 m.length),(16,.int .i64 i)] →
  ((m.drop i).all (fun c=>decide c.Ok)=false→∀E' h',look E' 2=some (.bool false)→Sat h' (.arr 4 ch cs::cG cs m::S)→Q .ret E' h') →
  ((m.drop i).all (fun c=>decide c.Ok)=true→∀E' h',Sat h' (.arr 4 ch cs::cG cs m::S)→Q (.exit 0) E' h')→WP ⟨Tryz.prog,told⟩ 61 (.loop YW) E h Q:=by
 intro j
 induction j with
 |zero =>
  intro i h E Q hi hm hb J s hE hr hx
  refine WP.loop (WP.has hE (zg rfl (zC rfl aJ (by simp;omega) ?_)))
  exact zk 3 rfl (WP.exit (hx (by rw[kV (by omega)];rfl) _ _ s))
 |succ j ih =>
  intro i h E Q hi hm hb J s hE hr hx
  have hc:m[i]?=some (m[i]'(by omega)):=bp _
  generalize (m[i]'(by omega))=c at hc
  have Nf:=bI hc
  have YX:=hb c Nf
  have hcp:=J c Nf
  have qK:m.drop i=c::m.drop (i+1):=by
   have:=List.getElem?_eq_some_iff.1 hc
   obtain⟨h1,rfl⟩:=this
   exact qM h1
  rw[qK,jv] at hr hx
  obtain⟨id,off,u,e1,e2,u1,u2,u3,s⟩:=F9 s hc
  refine WP.loop (WP.has hE (zg rfl (zB rfl aJ (by simp;omega) ?_)))
  refine zk 5 rfl (WP.block (zg rfl (zo rfl (cu (r:=.ptr id off) rfl rfl e1) (zl rfl e2 ?_))))
  refine aq.bG s rfl rfl rfl (bM mo) (fun p4 h s => ?_)
  dsimp only[V.cells,List.length_cons,List.length_nil,Nat.reduceAdd] at s
  refine zS rfl (s.fh (j:=0) rfl oo rfl (by simp only[jv,j7,u2];rfl)) ?_
  intro h s
  dsimp only[setA] at s
  refine zk 4 rfl (zY s 0 yN ep rfl ?_)
  refine zd rfl (ak rfl rfl aJ) ?_ ?_
  ·intro vU
   have vU:c.aY<0:=by simp at vU;omega
   exact zk 30 rfl (WP.ret (hr (by rw[fg (fun q:c.Ok=>by have:=q.1;omega),ju]) _ _ rfl s.drop.drop))
  ·intro vU
   have vU:¬ (c.aY<0):=by simp at vU;omega
   refine zm rfl (zY s 0 yN ep rfl ?_)
   refine zd rfl (ak rfl rfl jQ) ?_ ?_
   ·intro F_
    have F_:65536≤c.aY:=by simp at F_;omega
    exact zk 26 rfl (WP.ret (hr (by rw[fg (fun q:c.Ok=>by have:=q.2.1;omega),ju]) _ _ rfl s.drop.drop))
   ·intro F_
    have F_:¬ (65536≤c.aY):=by simp at F_;omega
    refine zk 2 rfl (zY s 0 o8 ep rfl ?_)
    refine zd rfl (ak rfl rfl aJ) ?_ ?_
    ·intro jl
     have jl:c.pos<0:=by simp at jl;omega
     exact zk 21 rfl (WP.ret (hr (by rw[fg (fun q:c.Ok=>by have:=q.2.2.1;omega),ju]) _ _ rfl s.drop.drop))
    ·intro jl
     have jl:¬ (c.pos<0):=by simp at jl;omega
     refine zk 2 rfl (zY s 0 o8 ep rfl ?_)
     refine zd rfl (ak rfl rfl fI) ?_ ?_
     ·intro Ng
      have Ng:512<c.pos:=by simp at Ng;omega
      exact zk 16 rfl (WP.ret (hr (by rw[fg (fun q:c.Ok=>by have:=q.2.2.2.1;omega),ju]) _ _ rfl s.drop.drop))
     ·intro Ng
      have Ng:¬ (512<c.pos):=by simp at Ng;omega
      refine zk 2 rfl (zY s 0 nM bX rfl (zo rfl (aQ rfl rfl rfl (bh aM (s.aD (k:=1) rfl (eC _ _)))) (zY s 0 o8 ep rfl (zb rfl (by exact jP (ax (by omega) (by omega))) ?_))))
      refine zd rfl (ak rfl rfl fI) ?_ ?_
      ·intro nN
       have nN:512-c.pos<(c.b.length:Int):=by simp at nN;omega
       exact zk 7 rfl (WP.ret (hr (by rw[fg (fun q:c.Ok=>by have:=q.2.2.2.2.1;omega),ju]) _ _ rfl s.drop.drop))
      ·intro nN
       have nN:¬ (512-c.pos<(c.b.length:Int)):=by simp at nN;omega
       refine zk 6 rfl (zf rfl (yO _ _) ?_)
       have sG:∀(h:H) (E:List (Nat×V)),c.Ok→Sat h (.arr 4 ch cs::cG cs m::S)→Has E [(1,.ptr p1 0),(14,ch),(15,.int .i64 m.length),(16,.int .i64 ((i:Int)+1))]→WP ⟨Tryz.prog,told⟩ 61 (.loop YW) E h Q:=by
        intro h E g_ s hE
        rw[ew g_,Bool.true_and] at hr hx
        exact ih (i+1) h E Q (by omega) hm hb J s hE hr hx
       have Fc:c.whole=false∨c.whole=true:=by cases c.whole<;>simp
       rcases Fc with hw|hw
       ·skip
        refine zh rfl (aP rfl (by exact s.ld (k:=0) rfl nF rfl)) (hw) ?_
        refine zk 11 rfl (zv (zj rfl (WP.skip (zr rfl (zb rfl (by exact aR (ax (by omega) (by omega))) ?_)))))
        refine zm rfl (zv ?_)
        refine sG _ _ ?_ ?_ ?_
        ·exact⟨by omega,by omega,by omega,by omega,by omega,fun e=>by rw[hw] at e;cases e⟩
        ·exact s.drop.drop
        ·exact⟨rfl,rfl,rfl,rfl,aa⟩
       ·skip
        refine zt rfl (aP rfl (s.ld (k:=0) rfl nF rfl)) (hw) (zm rfl (zY s 0 o8 ep rfl ?_))
        refine zd rfl (ak rfl rfl aA) ?_ ?_
        ·intro hp
         have hp:c.pos≠0:=by simp at hp;omega
         exact zk 13 rfl (WP.ret (hr (by rw[fg (fun q:c.Ok=>hp (q.2.2.2.2.2 hw).1),ju]) _ _ rfl s.drop.drop))
        ·intro hp
         have hp:c.pos=0:=by simp at hp;omega
         refine zm rfl (zY s 0 nM bX rfl (zo rfl (aQ rfl rfl rfl (bh aM (s.aD (k:=1) rfl (eC _ _)))) ?_))
         refine zd rfl (ak rfl rfl aA) ?_ ?_
         ·intro I
          have I:c.b.length≠512:=by simp at I;omega
          exact zk 8 rfl (WP.ret (hr (by rw[fg (fun q:c.Ok=>I (q.2.2.2.2.2 hw).2),ju]) _ _ rfl s.drop.drop))
         ·intro I
          have I:c.b.length=512:=by simp at I;omega
          refine zk 2 rfl (zv (zj rfl (WP.skip (zr rfl (zb rfl (by exact aR (ax (by omega) (by omega))) ?_)))))
          refine zm rfl (zv ?_)
          refine sG _ _ ?_ ?_ ?_
          ·exact⟨by omega,by omega,by omega,by omega,by omega,fun _=>⟨hp,I⟩⟩
          ·exact s.drop.drop
          ·exact⟨rfl,rfl,rfl,rfl,aa⟩
def xw (m:List cr): Prop:=m.length<4294967296∧(∀c∈m,c.b.length<4294967296)∧(∀c∈m, -4294967296≤c.pos∧c.pos≤4294967296)
theorem Ga (hT:W told){kd:Int}{ch:V}{m:List cr}(s:Sat h (.arr 4 ch cs::cG cs m::S))(hd:storable dt=true)(hm:xw m):
  Call ⟨Tryz.prog,told⟩ 211 [.agg (c5 kd tx pv nx dt ch)] h fun r h'=>r=.bool (dg kd m)∧Sat h' (.arr 4 ch cs::cG cs m::S):=by
 have mP:=s.iU (j:=0) rfl
 have gB:=kq (kd:=kd) (tx:=tx) (pv:=pv) (nx:=nx) hd mP.2.1
 refine Call.of_wp (hT.free _ rfl) Tryz.func211 rfl rfl (zg rfl (aq.bG s rfl rfl rfl (dc rfl gB) ?_))
 intro p1 h s
 refine zk 5 rfl (zY s 0 nG ep rfl ?_)
 refine zd rfl (ak rfl rfl aJ) ?_ ?_
 ·intro J
  have J:kd<1:=by simpa using J
  exact zk 11 rfl (WP.ret ⟨aa,_,rfl,by rw[dg,fg (by omega),ju],s.drop⟩)
 ·intro J
  have J:1≤kd:=by simpa using J
  refine zm rfl (zY s 0 nG ep rfl ?_)
  refine zd rfl (ak rfl rfl fI) ?_ ?_
  ·intro I
   have I:9<kd:=by simpa using I
   exact zk 7 rfl (WP.ret ⟨aa,_,rfl,by rw[dg,fg (by omega),ju],s.drop⟩)
  ·intro I
   have I:kd≤9:=by simpa using I
   refine zk 7 rfl (zY s 0 iC og rfl (zo rfl (aQ rfl rfl rfl (Jf s (j1:=1) (j2:=2) rfl rfl gG)) (zk 2 rfl (WP.block ?_))))
   have hg:dg kd m=m.all (fun c=>decide c.Ok):=by rw[dg,ew ⟨J,I⟩,Bool.true_and]
   refine KY m.length 0 _ _ _ (by omega) hm.1 (fun c hc=>by have:=hm.2.1 c hc;omega) hm.2.2 s.drop ⟨rfl,rfl,rfl,rfl,aa⟩ (fun hf E' h' h2 s' => ?_) (fun hf E' h' s' => ?_)
   ·rw[hg]
    rw[gX] at hf
    rw[hf]
    exact⟨aa,_,ql h2,rfl,s'⟩
   ·rw[hg]
    rw[gX] at hf
    rw[hf]
    exact WP.has (F:=[]) aa (zK 4 rfl (WP.ret ⟨aa,_,rfl,rfl,s'⟩))
end
def iH (c:cr): List Nat:=digits 9 c.aY.toNat++digits 9 c.pos.toNat++[if c.whole then 1 else 0]++(digits 9 c.b.length++c.b)
def cI (kd:Int)(tx pv nx:Nat)(data:List Nat)(aV:List cr): List Nat :=
 [kd.toNat]++digits 9 tx++digits 9 pv++digits 9 nx++(digits 9 data.length++data)++digits 9 aV.length++aV.flatMap iH
section
variable {told:cE} {p:Nat} {v w:V} {m:List Nat}
theorem nP (I:W told)(s:Sat h (aW v l::S))(hn:n<18446744073709551616)(hl:l.length≤140737488355000):
  Call ⟨Tryz.prog,told⟩ 235 [v,.int .u64 (n:Int)] h fun r h'=>Sat h' (aW r (l++digits 9 n)::S) :=
 (DX I.RZ (k:=9) s.wf (s.buf (k:=0) rfl) (by omega) (by omega) (by omega)).mono fun _ _ ⟨J,h2,h3⟩=>s.yz h2 J h3
theorem Da (hT:W told)(s:Sat h (aW v l::X::S))(I:cq X (cz w m))(hl:l.length+m.length≤140737488355000):
  Call ⟨Tryz.prog,told⟩ 236 [v,w] h fun r h'=>Sat h' (aW r (l++(digits 9 m.length++m))::X::S) :=
 (S_ hT.RZ (k:=9) s.wf (s.buf (k:=0) rfl) (s.aD (k:=1) rfl I) (s.Vx I) (by omega) (by omega) (by omega)).mono fun _ _ ⟨J,h2,h3⟩=>by
  rw[cX] at J
  exact s.yz h2 J h3
noncomputable def YY : Code:=c6 [1,1,1,1,0,1,0,0] ((Tryz.f212.body).getD .skip)
theorem Nh (hT:W told){ch:V}(g_:∀c∈aV,c.Ok)(J:xw aV): ∀(j i:Nat) (sv:V) (l:List Nat) (h:H) (E:List (Nat×V)) (Q:Ex→List (Nat×V)→H→Prop),i+j=aV.length →
  l.length+((aV.drop i).flatMap iH).length≤140737488355000 →
  Sat h (aW sv l::.arr 4 ch cs::cG cs aV::S)→Has E [(1,.ptr p1 0),(3,sv),(37,ch),(38,.int .i64 aV.length),(39,.int .i64 i)] →
  (∀E' h' I,look E' 3=some I→Sat h' (aW I (l++(aV.drop i).flatMap iH)::.arr 4 ch cs::cG cs aV::S)→Q (.exit 2) E' h')→WP ⟨Tryz.prog,told⟩ 63 (.loop YY) E h Q:=by
 intro j
 induction j with
 |zero =>
  intro i sv l h E Q hi hlen s hE hx
  have hm:=J.1
  refine WP.loop (WP.has hE (zg rfl (zC rfl aJ (by simp;omega) ?_)))
  refine zk 3 rfl (WP.exit (hx _ _ sv rfl ?_))
  rw[kV (by omega)]
  simpa using s
 |succ j ih =>
  intro i sv l h E Q hi hlen s hE hx
  have hm:=J.1
  have hc:aV[i]?=some (aV[i]'(by omega)):=bp _
  generalize (aV[i]'(by omega))=c at hc
  have Nf:=bI hc
  have aab:=g_ c Nf
  have YX:=J.2.1 c Nf
  have qK:aV.drop i=c::aV.drop (i+1):=by
   obtain⟨h1,rfl⟩:=List.getElem?_eq_some_iff.1 hc
   exact qM h1
  rw[qK,nj] at hlen hx
  obtain⟨pg,ps,wh,bb⟩:=c
  obtain⟨q1,q2,q3,q4,_⟩:=aab
  dsimp only at q1 q2 q3 q4 YX
  obtain⟨pg,rfl⟩:∃n:Nat,pg=n:=⟨pg.toNat,by omega⟩
  obtain⟨ps,rfl⟩:∃n:Nat,ps=n:=⟨ps.toNat,by omega⟩
  have PV:iH ⟨pg,ps,wh,bb⟩=digits 9 pg++digits 9 ps++[if wh then 1 else 0]++(digits 9 bb.length++bb):=by simp[iH]
  have Ml:(iH ⟨pg,ps,wh,bb⟩).length=(digits 9 pg).length+(digits 9 ps).length+1+(digits 9 bb.length).length+bb.length:=by rw[PV];simp;omega
  rw[bP,Ml] at hlen
  obtain⟨id,off,u,e1,e2,u1,u2,u3,s⟩:=F9 (s.ae [1,1]) hc
  dsimp only at e2
  have s:=s.ae [3,0,0,0]
  dsimp only[aC,bringA,getA] at s
  refine WP.loop (WP.has hE (zg rfl (zB rfl aJ (by simp;omega) ?_)))
  refine zk 5 rfl (WP.block (zg rfl (zo rfl (cu (r:=.ptr id off) rfl rfl e1) (zl rfl e2 ?_))))
  refine aq.bG s rfl rfl rfl (bM mo) (fun p7 h s => ?_)
  dsimp only[V.cells,List.length_cons,List.length_nil,Nat.reduceAdd] at s
  refine zS rfl (s.fh (j:=0) rfl oo rfl (by simp only[jv,j7,u2];rfl)) ?_
  intro h s
  dsimp only[setA] at s
  refine zk 2 rfl ?_
  have s:=s.ae [1,0]
  dsimp only[bringA,getA,aC] at s
  have s0:=s
  refine WP.drawn [af,af,af,af,af,some (0,2),some (0,2),some (0,2),none,none] rfl (by kernel_rfl) (by kernel_rfl) ?_
  refine zM rfl (zF rfl (yN _ _) (zL rfl (s.ld (k:=1) rfl ep rfl) (az.op rfl rfl rfl (by simp only[isEff,bN]) (bJ rfl (by exact gC bz bN (eV (by omega) (by omega)))) ?_)))
  refine az.any rfl rfl rfl rfl (OpR.call rfl rfl rfl rfl (nP hT s (by omega) (by omega))) ?_
  intro v1 h s
  have s1:=s
  refine zF rfl (o8 _ _) (zL rfl (s.ld (k:=1) rfl ep rfl) (az.op rfl rfl rfl (by simp only[isEff,bN]) (bJ rfl (by exact gC bz bN (eV (by omega) (by omega)))) ?_))
  refine az.any rfl rfl rfl rfl (OpR.call rfl rfl rfl rfl (nP hT s (by omega) (by simp;omega))) ?_
  intro v2 h s
  refine zA rfl ?_
  refine az.nil ⟨⟨aa,aa,aa,aa,aa,fun _ _=>.inr ⟨rfl,⟨_,jr rfl (o8 _ _)⟩,aN _ rfl⟩,dW (.inr ⟨rfl,⟨_,aP rfl (s0.ld (k:=1) rfl ep rfl)⟩,aN _ rfl⟩) (.inr ⟨rfl,⟨_,aP rfl (s1.ld (k:=1) rfl ep rfl)⟩,aN _ rfl⟩),fun _ _=>.inr ⟨rfl,⟨_,bJ rfl (by exact gC bz bN (eV (by omega) (by omega)))⟩,aN _ rfl⟩,aa,aa,aa⟩,?_⟩
  have Au:∀(h:H) (E:List (Nat×V)) (I:V),Sat h (aW I (l++iH ⟨pg,ps,wh,bb⟩)::.arr 4 ch cs::cG cs aV::S)→Has E [(1,.ptr p1 0),(3,I),(37,ch),(38,.int .i64 aV.length),(39,.int .i64 ((i:Int)+1))]→WP ⟨Tryz.prog,told⟩ 63 (.loop YY) E h Q:=by
   intro h E I s hE
   refine ih (i+1) I _ h E Q (by omega) (by rw[bP,Ml];omega) s hE (fun E' h' sv2 wJ s'=>hx E' h' sv2 wJ ?_)
   rw[cX] at s'
   exact s'
  have hlp:=fJ 9 pg
  have hlq:=fJ 9 ps
  refine zK 7 rfl (zf rfl (yO _ _) ?_)
  have Fc:wh=false∨wh=true:=by cases wh<;>simp
  rcases Fc with hw|hw
  ·skip
   refine zh rfl (aP rfl (s.ld (k:=1) rfl nF rfl)) (hw) (zk 3 rfl ?_)
   have s0:=s
   have sU:=eN (s.buf (k:=0) rfl).view
   refine WP.drawn [some (0,2),af,af,af,some (0,3),some (0,3),none,none] rfl (by kernel_rfl) (by kernel_rfl) ?_
   refine zM rfl (zM rfl (az.any rfl rfl rfl rfl (OpR.ER (n:=0) rfl s rfl rfl rfl (by decide)) ?_))
   intro v3 h s
   have s:=s.ae [1,1,0]
   dsimp only[bringA,getA,aC] at s
   have s1:=s
   refine az.any rfl rfl rfl rfl (OpR.rY rfl (s.ae [0,1]) (aU _ _) rfl rfl rfl rfl (by simp;omega)) ?_
   intro v4 h s
   have s:=s.del 1
   dsimp only[aC,bringA] at s
   have s2:=s
   refine zF rfl (nM _ _) (zL rfl (s.ld (k:=1) rfl bX rfl) (az.any rfl rfl rfl rfl (OpR.call rfl rfl rfl rfl (Da hT (s.ae [0,1]) (eC _ _) (by simp;omega))) ?_))
   intro v5 h s
   dsimp only[aC,bringA] at s
   refine zA rfl ?_
   refine az.nil ⟨⟨fun _ _=>.inr ⟨rfl,⟨_,bf rfl⟩,sU⟩,aa,aa,aa,fun _ _=>.inr ⟨rfl,⟨_,jr rfl (nM _ _)⟩,aN _ rfl⟩,rQ (.inr ⟨rfl,⟨_,aP rfl (s0.ld (k:=1) rfl bX rfl)⟩,u3⟩) (.inr ⟨rfl,⟨_,aP rfl (s1.ld (k:=1) rfl bX rfl)⟩,u3⟩) (.inr ⟨rfl,⟨_,aP rfl (s2.ld (k:=1) rfl bX rfl)⟩,u3⟩),aa,aa,aa⟩,?_⟩
   refine zr rfl (zb rfl (by exact aR (ax (by omega) (by omega))) ?_)
   refine zm rfl (zv ?_)
   refine Au _ _ v5 ?_ ?_
   ·rw[PV,hw]
    have s:=(s.del 1).del 1
    dsimp only[aC] at s
    simpa[cX] using s
   ·exact⟨rfl,rfl,rfl,rfl,rfl,aa⟩
  ·skip
   refine zt rfl (aP rfl (s.ld (k:=1) rfl nF rfl)) (hw) (zk 5 rfl ?_)
   have s0:=s
   have sU:=eN (s.buf (k:=0) rfl).view
   refine WP.drawn [some (0,2),af,af,af,some (0,3),some (0,3),none,none] rfl (by kernel_rfl) (by kernel_rfl) ?_
   refine zM rfl (zM rfl (az.any rfl rfl rfl rfl (OpR.ER (n:=1) rfl s rfl rfl rfl (by decide)) ?_))
   intro v3 h s
   have s:=s.ae [1,1,0]
   dsimp only[bringA,getA,aC] at s
   have s1:=s
   refine az.any rfl rfl rfl rfl (OpR.rY rfl (s.ae [0,1]) (aU _ _) rfl rfl rfl rfl (by simp;omega)) ?_
   intro v4 h s
   have s:=s.del 1
   dsimp only[aC,bringA] at s
   have s2:=s
   refine zF rfl (nM _ _) (zL rfl (s.ld (k:=1) rfl bX rfl) (az.any rfl rfl rfl rfl (OpR.call rfl rfl rfl rfl (Da hT (s.ae [0,1]) (eC _ _) (by simp;omega))) ?_))
   intro v5 h s
   dsimp only[aC,bringA] at s
   refine zA rfl ?_
   refine az.nil ⟨⟨fun _ _=>.inr ⟨rfl,⟨_,bf rfl⟩,sU⟩,aa,aa,aa,fun _ _=>.inr ⟨rfl,⟨_,jr rfl (nM _ _)⟩,aN _ rfl⟩,rQ (.inr ⟨rfl,⟨_,aP rfl (s0.ld (k:=1) rfl bX rfl)⟩,u3⟩) (.inr ⟨rfl,⟨_,aP rfl (s1.ld (k:=1) rfl bX rfl)⟩,u3⟩) (.inr ⟨rfl,⟨_,aP rfl (s2.ld (k:=1) rfl bX rfl)⟩,u3⟩),aa,aa,aa⟩,?_⟩
   refine zr rfl (zb rfl (by exact aR (ax (by omega) (by omega))) ?_)
   refine zm rfl (zv ?_)
   refine Au _ _ v5 ?_ ?_
   ·rw[PV,hw]
    have s:=(s.del 1).del 1
    dsimp only[aC] at s
    simpa[cX] using s
   ·exact⟨rfl,rfl,rfl,rfl,rfl,aa⟩
theorem PW (J:W told){kd:Nat}{ch:V}(s:Sat h (X::.arr 4 ch cs::cG cs aV::S))(hX:cq X (cz dt data))(hg:dg kd aV=true)(I:xw aV)
 (oK:tx<18446744073709551616)(qw:pv<18446744073709551616)(qx:nx<18446744073709551616)(hlen:data.length+(aV.flatMap iH).length≤70368744177664):
  Call ⟨Tryz.prog,told⟩ 212 [.agg (c5 kd tx pv nx dt ch)] h fun r h'=>Sat h' (aW r (cI kd tx pv nx data aV)::X::.arr 4 ch cs::cG cs aV::S):=by
 have mP:=s.iU (j:=1) rfl
 have ji:=s.aD (k:=0) rfl hX
 have rS:=eN ji
 have gB:=kq (kd:=kd) (tx:=tx) (pv:=pv) (nx:=nx) ji.cells.2 mP.2.1
 have hk:1≤kd∧kd≤9:=by simp[dg] at hg;omega
 have g_:∀c∈aV,c.Ok:=by
  simp only[dg,bC,tX,gn] at hg
  exact hg.2
 have hm:=I.1
 have h1:=fJ 9 tx
 have h2:=fJ 9 pv
 have h3:=fJ 9 nx
 have h4:=fJ 9 data.length
 have h5:=fJ 9 aV.length
 refine Call.of_wp (J.free _ rfl) Tryz.func212 rfl rfl (zg rfl (aq.bG s rfl rfl rfl (dc rfl gB) ?_))
 intro p1 h s
 dsimp only[V.cells] at s
 refine zk 4 rfl (zY s 0 nG ep rfl (zo rfl (bJ rfl (by exact gC bz Tryz.underlying5 (uD (by omega) (by omega)))) ?_))
 refine aq.any rfl rfl rfl (OpR.ER (n:=kd) rfl s rfl rfl rfl (by omega)) ?_
 intro v3 h s
 refine zk 5 rfl (zY s 1 CW dD rfl (zY s 1 CX dD rfl (zY s 1 IZ dD rfl (zo rfl (b_ rfl (by rw[XM];rfl)) ?_))))
 refine zk 2 rfl (WP.block (WP.loop (zg rfl (zB rfl aJ (by decide) ?_))))
 refine zk 5 rfl (WP.block (zg rfl (zo rfl (wX rfl rfl (r:=.int .u64 (tx:Int)) (by simp only[indexV,FU,od,mV,dD];rfl)) ?_)))
 refine zk 5 rfl (zc rfl (nP J s (by omega) (by simp only[bP,bq,cD];omega)) ?_)
 intro v3 h s
 refine za rfl (zv (zr rfl (zb rfl (by exact aR (ax (by omega) (by omega))) ?_)))
 refine zm rfl (zv (WP.loop (zg rfl (zt rfl (ak rfl rfl aJ) (by decide) ?_))))
 refine zk 5 rfl (WP.block (zg rfl (zo rfl (wX rfl rfl (r:=.int .u64 (pv:Int)) (by simp only[indexV,FU,od,mV,dD];rfl)) ?_)))
 refine zk 5 rfl (zc rfl (nP J s (by omega) (by simp only[bP,bq,cD];omega)) ?_)
 intro v3 h s
 refine za rfl (zv (zr rfl (zb rfl (by exact aR (ax (by omega) (by omega))) ?_)))
 refine zm rfl (zv (WP.loop (zg rfl (zt rfl (ak rfl rfl aJ) (by decide) ?_))))
 refine zk 5 rfl (WP.block (zg rfl (zo rfl (wX rfl rfl (r:=.int .u64 (nx:Int)) (by simp only[indexV,FU,od,mV,dD];rfl)) ?_)))
 refine zk 5 rfl (zc rfl (nP J s (by omega) (by simp only[bP,bq,cD];omega)) ?_)
 intro v3 h s
 refine za rfl (zv (zr rfl (zb rfl (by exact aR (ax (by omega) (by omega))) ?_)))
 refine zm rfl (zv (WP.loop (zg rfl (zh rfl (ak rfl rfl aJ) (by decide) ?_))))
 refine zk 3 rfl (WP.exit (zw ?_))
 have s0:=s
 have sH:=eN (s.buf (k:=0) rfl).view
 refine WP.drawn [af,af,af,af,some (0,2),some (0,2),some (0,2),some (0,2),none,none] rfl (by kernel_rfl) (by kernel_rfl) ?_
 refine zM rfl (zF rfl (yB _ _) (zL rfl (s.ld (k:=1) rfl bX rfl) (az.any rfl rfl rfl rfl (OpR.call rfl rfl rfl rfl (Da J (s.ae [0,1]) hX (by simp only[bP,bq,cD];omega))) ?_)))
 intro v4 h s
 have s:=s.ae [0,1,0]
 have s1:=s
 refine zF rfl (iC _ _) (zL rfl (s.ld (k:=1) rfl og rfl) (zO rfl (aQ rfl rfl rfl (s.xu (j1:=3) (j2:=4) rfl rfl gG)) (az.op rfl rfl rfl (by simp only[isEff,bN]) (bJ rfl (by exact gC bz bN (eV (by omega) (by omega)))) ?_)))
 refine az.any rfl rfl rfl rfl (OpR.call rfl rfl rfl rfl (nP J s (by omega) (by simp only[bP,bq,cD];omega))) ?_
 intro v5 h s
 refine zA rfl ?_
 refine az.nil ⟨⟨aa,aa,aa,aa,fun _ _=>.inr ⟨rfl,⟨_,jr rfl (iC _ _)⟩,aN _ rfl⟩,dW (.inr ⟨rfl,⟨_,aP rfl (s0.ld (k:=1) rfl og rfl)⟩,mP.2.2⟩) (.inr ⟨rfl,⟨_,aP rfl (s1.ld (k:=1) rfl og rfl)⟩,mP.2.2⟩),dW (.inr ⟨rfl,⟨_,aQ rfl rfl rfl (s0.xu (j1:=3) (j2:=4) rfl rfl gG)⟩,aN _ rfl⟩) (.inr ⟨rfl,⟨_,aQ rfl rfl rfl (s1.xu (j1:=3) (j2:=4) rfl rfl gG)⟩,aN _ rfl⟩),fun _ _=>.inr ⟨rfl,⟨_,bJ rfl (by exact gC bz bN (eV (by omega) (by omega)))⟩,aN _ rfl⟩,aa,aa,aa⟩,?_⟩
 refine zK 3 rfl (zY s 1 iC og rfl (zo rfl (aQ rfl rfl rfl (s.xu (j1:=3) (j2:=4) rfl rfl gG)) (zk 2 rfl (WP.block ?_))))
 have s:=s.ae [0,2,2,1]
 refine Nh J g_ I aV.length 0 v5 _ _ _ _ (by omega) (by rw[gX];simp only[bP,bq,cD];omega) s ⟨rfl,rfl,rfl,rfl,rfl,aa⟩ (fun E' h' VG eF s' => ?_)
 refine WP.has (F:=[(3,VG)]) ⟨eF,aa⟩ (zK 5 rfl (WP.ret ⟨aa,_,rfl,?_⟩))
 have YZ:=(s'.ae [0,2,0,0]).del 4
 dsimp only[List.cons_append,List.nil_append,List.drop,aC,bringA,getA] at YZ
 simpa[cI,cX] using YZ
end
def jU (aB:Nat)(b:List Nat): List Nat:=le 4 b.length++le 4 (qJ aB b)++b
theorem kK (aB:Nat)(b:List Nat): (jU aB b).length=8+b.length:=by simp[jU,cF];omega
theorem PX : ∃i,Tryz.prog.info? 3=some i∧i.size=1∧i.bytes=8 :=
 ⟨_,(show Tryz.prog.info? 3=some ((Tryz.prog.info? 3).getD default) by kernel_rfl),by kernel_rfl,by kernel_rfl⟩
section
variable {told:cE} {p:Nat} {v w:V} {m:List Nat}
theorem D1 (I:W told)(s:Sat h S)(J:getA S k=some X)(hX:cq X (cz v l))(hl:l.length≤4611686018427387904):
  Call ⟨Tryz.prog,told⟩ 190 [.int .u64 (n:Int),v] h fun r h'=>r=.int .u32 (qJ n l:Nat)∧Sat h' S :=
 (M1 I.RZ s.wf (s.aD J hX) hl).mono fun _ _ ⟨h1,h2⟩=>⟨h1,s.iO h2⟩
structure BH (tx pv nx:Nat)(data:List Nat)(aV:List cr): Prop where
 fit:xw aV
 tx:tx<18446744073709551616
 pv:pv<18446744073709551616
 nx:nx<18446744073709551616
 len:data.length+(aV.flatMap iH).length≤70368744177664
theorem D2 (J:W told){kd:Int}{ch:V}(s:Sat h (X::.arr 4 ch cs::cG cs aV::S))(hX:cq X (cz dt data))(I:BH tx pv nx data aV):
  Call ⟨Tryz.prog,told⟩ 163 [.agg (c5 kd tx pv nx dt ch),.int .u64 (aB:Int)] h fun r h' =>
  (dg kd aV=false∧r=.aI [.aO,.int .i64 1]∧Sat h' (X::.arr 4 ch cs::cG cs aV::S)) ∨
  (dg kd aV=true∧1048576<(cI kd tx pv nx data aV).length∧r=.aI [.aO,.int .i64 2]∧Sat h' (X::.arr 4 ch cs::cG cs aV::S)) ∨
  (dg kd aV=true∧(cI kd tx pv nx data aV).length≤1048576∧∃u,r=.aI [u,.int .i64 0]∧Sat h' (aW u (jU aB (cI kd tx pv nx data aV))::X::.arr 4 ch cs::cG cs aV::S)):=by
 have mP:=s.iU (j:=1) rfl
 have ji:=s.aD (k:=0) rfl hX
 have gB:=kq (kd:=kd) (tx:=tx) (pv:=pv) (nx:=nx) ji.cells.2 mP.2.1
 refine Call.of_wp (J.free _ rfl) Tryz.func163 rfl rfl (zg rfl (aq.bG s rfl rfl rfl (dc rfl gB) ?_))
 intro p1 h s
 dsimp only[V.cells] at s
 refine zk 6 rfl (zl rfl (s.cy (k:=0) rfl iS eD) (zc rfl (Ga J (s.ae [2,2]) ji.cells.2 I.fit) ?_))
 rintro r h' ⟨rfl,s⟩
 cases hg:dg kd aV with
 |false =>
  exact zo rfl (dB rfl rfl) (zk 7 rfl (WP.ret ⟨aa,_,rfl,.inl ⟨rfl,rfl,(s.ae [3,0,0]).del 3⟩⟩))
 |true =>
  refine zo rfl (dB rfl rfl) (zk 5 rfl (zl rfl (s.cy (k:=2) rfl iS eD) ?_))
  have hk:∃n:Nat,kd=n:=⟨kd.toNat,by simp[dg] at hg;omega⟩
  obtain⟨kd,rfl⟩:=hk
  refine zc rfl (PW J (s.ae [3,0,0]) hX hg I.fit I.tx I.pv I.nx I.len) ?_
  intro u h s
  dsimp only[bringA,getA,aC] at s
  have xo:(cI kd tx pv nx data aV).length<9223372036854775808:=by
   have h1:=fJ 9 tx
   have h2:=fJ 9 pv
   have h3:=fJ 9 nx
   have h4:=fJ 9 data.length
   have h5:=fJ 9 aV.length
   have h6:=I.len
   simp only[cI,bP,bq,cD]
   omega
  generalize RF:cI kd tx pv nx data aV=bd at s xo ⊢
  refine zk 6 rfl (zo rfl (aQ rfl rfl rfl (bh aM (s.aD (k:=0) rfl (aU _ _)))) ?_)
  by_cases PY:1048576<bd.length
  ·skip
   refine zB rfl fI (by simp;omega) ?_
   exact zk 7 rfl (WP.ret ⟨aa,_,rfl,.inr (.inl ⟨rfl,PY,rfl,(s.del 4).del 0⟩)⟩)
  ·skip
   refine zC rfl fI (by simp;omega) ?_
   refine zk 6 rfl (zo rfl (aQ rfl rfl rfl (bh aM (s.aD (k:=0) rfl (aU _ _)))) (zb rfl (by exact aR (ax (by omega) (by omega))) ?_))
   refine aq.any rfl rfl rfl (OpR.rZ (c:=8+bd.length) rfl s rfl rfl rfl rfl (by omega)) ?_
   intro v h s
   refine zm rfl (zo rfl (aQ rfl rfl rfl (bh aM (s.aD (k:=1) rfl (aU _ _)))) (zo rfl (bJ rfl (by exact gC bz bN (eV (by omega) (by omega)))) ?_))
   refine zc rfl (uM (z:=4) J s (by decide) (by simp)) ?_
   intro v h s
   have cA:=(s.buf (k:=1) rfl).1
   refine zk 7 rfl (zc rfl (D1 (n:=aB) J s (k:=1) rfl (aU _ _) (by omega)) ?_)
   rintro r h ⟨rfl,s⟩
   have jY:=FY (aB:=aB) cA
   refine zo rfl (bJ rfl (by exact gC Tryz.underlying285 bN (eV (by omega) (by omega)))) ?_
   refine zc rfl (uM (z:=4) J s (by decide) (by simp[cF])) ?_
   intro v h s
   refine zk 6 rfl (aq.any rfl rfl rfl (OpR.rY rfl s (aU _ _) rfl rfl rfl rfl (by simp only[bP,cF,cD];omega)) ?_)
   intro v h s
   refine zk 3 rfl (WP.ret ⟨aa,_,rfl,?_⟩)
   refine .inr (.inr ⟨rfl,by omega,v,rfl,?_⟩)
   have s:=(s.del 5).del 1
   dsimp only[aC] at s
   simpa[jU,cX] using s
def Lg.app (μ:Lg)(b:List Nat): Lg:={ μ with b:=μ.b++b,bU:=μ.bU++[μ.b.length] }
theorem KZ (hT:W told){kd:Int}{ch:V}(s:Sat h (bQ q p μ::bw p δ::X::.arr 4 ch cs::cG cs aV::S))(hX:cq X (cz dt data))(eR:BH tx pv nx data aV)
 (J:μ.Ok)(hf:δ.bH<4294967296)(hl:δ.log.length≤16777216)(hr:δ.room≤16777216):
  Call ⟨Tryz.prog,told⟩ 104 [.ptr q 0,.agg (c5 kd tx pv nx dt ch)] h fun r h' =>
  (∃e:Int,r=.aI [.int .u64 0,.int .i64 e]∧((dg kd aV=false∧e=1)∨(dg kd aV=true∧1048576<(cI kd tx pv nx data aV).length∧e=2)∨(dg kd aV=true∧(cI kd tx pv nx data aV).length≤1048576∧δ.dead=true∧e=9) ∨
    (dg kd aV=true∧(cI kd tx pv nx data aV).length≤1048576∧δ.dead=false∧δ.room<δ.log.length+(jU (μ.base+μ.b.length) (cI kd tx pv nx data aV)).length∧e=7))∧Sat h' (bQ q p μ::bw p δ::X::.arr 4 ch cs::cG cs aV::S)) ∨
  (dg kd aV=true∧(cI kd tx pv nx data aV).length≤1048576∧δ.dead=false∧δ.log.length+(jU (μ.base+μ.b.length) (cI kd tx pv nx data aV)).length≤δ.room∧δ.bH=0∧r=.aI [.int .u64 0,.int .i64 9] ∧
   Sat h' (bQ q p μ::bw p { δ.die with tail:=jU (μ.base+μ.b.length) (cI kd tx pv nx data aV) }::X::.arr 4 ch cs::cG cs aV::S)) ∨
  (dg kd aV=true∧(cI kd tx pv nx data aV).length≤1048576∧δ.dead=false∧δ.log.length+(jU (μ.base+μ.b.length) (cI kd tx pv nx data aV)).length≤δ.room∧δ.bH≠0∧r=.aI [.int .u64 ((μ.base+μ.b.length:Nat):Int),.int .i64 0] ∧
   Sat h' (bQ q p (μ.app (jU (μ.base+μ.b.length) (cI kd tx pv nx data aV)))::bw p { δ.gQ with log:=δ.log++jU (μ.base+μ.b.length) (cI kd tx pv nx data aV) }::X::.arr 4 ch cs::cG cs aV::S)):=by
 have mP:=s.iU (j:=3) rfl
 have ji:=s.aD (k:=2) rfl hX
 have gB:=kq (kd:=kd) (tx:=tx) (pv:=pv) (nx:=nx) ji.cells.2 mP.2.1
 have KX:=J.size
 refine Call.of_wp (hT.free _ rfl) Tryz.func104 rfl rfl (zg rfl (aq.bG s rfl rfl rfl (dc rfl gB) ?_))
 intro p1 h s
 dsimp only[V.cells] at s
 have s:=s.ae [1,0]
 refine zk 6 rfl (zc rfl (uO hT s J.size) ?_)
 rintro v h' ⟨rfl,rfl⟩
 refine zk 4 rfl (zl rfl (s.cy (k:=1) rfl iS eD) (zm rfl (zc rfl (D2 (aB:=μ.base+μ.b.length) hT (s.ae [3,3,3]) hX eR) ?_)))
 generalize hrc:jU (μ.base+μ.b.length) (cI kd tx pv nx data aV)=rc
 have R6:rc.length=8+(cI kd tx pv nx data aV).length:=by rw[←hrc,kK]
 rintro r h' (⟨hg,rfl,s⟩|⟨hg,PY,rfl,s⟩|⟨hg,BI,u,rfl,s⟩)
 ·dsimp only[bringA,getA,aC] at s
  exact zk 10 rfl (zB rfl aA (rfl) (zk 8 rfl (WP.ret ⟨aa,_,rfl,.inl ⟨1,rfl,.inl ⟨hg,rfl⟩,(s.ae [3,4,0,0,0]).del 5⟩⟩)))
 ·dsimp only[bringA,getA,aC] at s
  exact zk 10 rfl (zB rfl aA (rfl) (zk 8 rfl (WP.ret ⟨aa,_,rfl,.inl ⟨2,rfl,.inr (.inl ⟨hg,PY,rfl⟩),(s.ae [3,4,0,0,0]).del 5⟩⟩)))
 ·dsimp only[bringA,getA,aC] at s
  have cA:=(s.buf (k:=0) rfl).1
  obtain⟨kD,_,cap,_,rfl,_⟩:=s.eZ (by omega)
  obtain⟨bv,sv,s⟩:=fB.1 (s.ae [4])
  refine zk 10 rfl (zC rfl aA (rfl) (zk 8 rfl (zY s 0 I4 rT rfl (zm rfl ?_))))
  have s:=s.ae [8,3]
  refine zc rfl (KQ hT s (aU _ _) (by omega) hf (by omega) (by omega)) ?_
  rintro r h (⟨hd,rfl,s⟩|⟨hd,abn,rfl,s⟩|⟨hd,I,h0,rfl,s⟩|⟨hd,I,h0,rfl,s⟩)
  ·refine aq.op rfl rfl rfl (dZ rfl) ?_
   exact zk 4 rfl (zB rfl aA (rfl) (zk 8 rfl (WP.ret ⟨aa,_,rfl,.inl ⟨9,rfl,.inr (.inr (.inl ⟨hg,BI,hd,rfl⟩)),(fB.2 ⟨bv,sv,((s.ae [2,2,2,0,1,1,1]).del 8).del 7⟩)⟩⟩)))
  ·skip
   exact zk 5 rfl (zB rfl aA (rfl) (zk 8 rfl (WP.ret ⟨aa,_,rfl,.inl ⟨7,rfl,.inr (.inr (.inr ⟨hg,BI,hd,by omega,rfl⟩)),(fB.2 ⟨bv,sv,((s.ae [2,2,2,0,1,1,1]).del 8).del 7⟩)⟩⟩)))
  ·skip
   exact zk 5 rfl (zB rfl aA (rfl) (zk 8 rfl (WP.ret ⟨aa,_,rfl,.inr (.inl ⟨hg,BI,hd,I,h0,rfl,(fB.2 ⟨bv,sv,((s.ae [2,2,2,0,1,1,1]).del 8).del 7⟩)⟩)⟩)))
  ·skip
   have s:=s.ae [2,2,2,1,0,0,0,0]
   refine zk 5 rfl (zC rfl aA (rfl) (zk 4 rfl ?_))
   have s0:=s
   have RY:=eN (s.buf (k:=1) rfl).view
   have BJ:=(s.iU (j:=2) rfl).2.2
   refine WP.drawn [some (0,3),some (0,2),some (0,2),some (0,2),some (0,2),af,af,af,af,af,af,af,af,af,af] rfl (by kernel_rfl) (by kernel_rfl) ?_
   refine zM rfl (zM rfl (zN rfl (zF rfl (oW _ _) (zL rfl (s.ld (k:=0) rfl vp rfl) (zM rfl (zN rfl (zF rfl (jy _ _) (zL rfl (s.ld (k:=0) rfl bX rfl) (zO rfl (aQ rfl rfl rfl (bh aM (s.aD (k:=1) rfl (aU _ _)))) ?_)))))))))
   obtain⟨i1,mB,kE,xm⟩:=PX
   obtain⟨iv,h1,e1,s1⟩:=k9 (P:=Tryz.prog) (k:=1) (x:=.int .i64 (μ.b.length:Int)) s gU Vo nE rfl (by decide) (by decide) rfl rfl
   dsimp only[V.cells] at s1
   refine az.any rfl rfl rfl rfl (OpR.of (R:=fun v h'=>v=iv∧h'=h1) (ob rfl e1) ⟨rfl,rfl⟩) ?_
   rintro v h' ⟨rfl,rfl⟩
   have KW:=J.many
   obtain⟨VG,h2,e2,s2⟩:=iV (s1.ae [3,0]) gU mB Vo kE (by omega) rfl (by decide) (by simp only[xp,bq,cD];omega)
   refine az.any rfl rfl rfl rfl (OpR.of (R:=fun v h'=>v=VG∧h'=h2) (pJ rfl rfl e2) ⟨rfl,rfl⟩) ?_
   rintro v h' ⟨rfl,rfl⟩
   have hv:=s2.iU (j:=0) rfl
   refine zN rfl (zF rfl (oW _ _) (az.iR rfl rfl rfl (OpR.uC rfl rfl rfl (s2.dL (k:=2) rfl Xn rfl (by decide) hv.1 hv.2.1)) ?_))
   rintro v h ⟨rfl,s⟩
   refine az.nil ⟨⟨fun _ _=>.inr ⟨rfl,⟨_,bf rfl⟩,aN _ rfl⟩,fun _ _=>.inr ⟨rfl,⟨_,bf rfl⟩,aN _ rfl⟩,fun _ _=>.inr ⟨rfl,⟨_,lF rfl⟩,aN _ rfl⟩,fun _ _=>.inr ⟨rfl,⟨_,jr rfl (oW _ _)⟩,aN _ rfl⟩,dW (.inr ⟨rfl,⟨_,aP rfl (s0.ld (k:=0) rfl vp rfl)⟩,BJ⟩) (.inr ⟨rfl,⟨_,aP rfl (s1.ld (k:=1) rfl vp rfl)⟩,BJ⟩),aa,aa,aa,aa,aa,aa,aa,aa,aa,aa,aa⟩,?_⟩
   refine zK 5 rfl (zY s 2 jy bX rfl (zm rfl (aq.any rfl rfl rfl (OpR.rY rfl (s.ae [3,3]) (aU _ _) rfl rfl rfl rfl (by have:=J.len;omega)) ?_)))
   intro VH h s
   have hv:=(s.buf (k:=0) rfl).view.cells
   refine zn rfl (zf rfl (jy _ _) (zS rfl (s.dL (k:=4) rfl jR rfl (by decide) hv.1 hv.2) ?_))
   intro h s
   refine zk 7 rfl (WP.ret ⟨aa,_,rfl,?_⟩)
   refine .inr (.inr ⟨hg,BI,hd,I,h0,rfl,fB.2 ⟨VH,v,?_⟩⟩)
   have s:=(((s.ae [4,0,1]).del 4).del 3).del 7
   have e:mX (μ.app rc).bU=mX μ.bU++[.int .i64 (μ.b.length:Int)]:=by simp[Lg.app,mX]
   rw[e]
   exact s
end
def Dk.fM (δ:Dk): Int×Dk:=if δ.dead=true then(9,δ) else if δ.bH=0 then(9,δ.die) else(0,{ δ.gQ with eA:=δ.log.length })
def Dk.cV (δ:Dk)(n:Int)(b:List Nat): Int×Dk:=if δ.dead=true then(9,δ) else if ¬(0≤n∧n<δ.bu.length∧b.length=512) then(1,δ) else
 if δ.bH=0 then(9,{ δ.die with r6:=some (n.toNat,b) }) else(0,δ.wr n b)
def Dk.pz (δ:Dk)(b:List Nat): Int×Dk:=if δ.dead=true then(9,δ) else if δ.room<δ.log.length+b.length then(7,δ) else if δ.bH=0 then(9,{ δ.die with tail:=b }) else(0,{ δ.gQ with log:=δ.log++b })
def Dk.pN (δ:Dk)(n:Int): Int:=if δ.dead=true then 9 else if ¬(0≤n∧n<δ.bu.length) then 1 else 0
structure Dk.Ok (δ:Dk): Prop where
 bH:δ.bH<4294967296
 len:δ.log.length≤16777216
 room:δ.room≤16777216
 now:∀e∈δ.now,e.2.length=512
 bu:∀(i:Nat) (b:List Nat),δ.bu[i]?=some (some b)→b.length=512
 eA:δ.eA≤δ.log.length
 many:δ.bu.length≤65536
theorem Dk.Ok.gQ (h:δ.Ok): δ.gQ.Ok:=⟨by have:=h.bH;simp only[Dk.gQ];split<;>omega,h.len,h.room,h.now,h.bu,h.eA,h.many⟩
theorem Dk.Ok.die (h:δ.Ok): δ.die.Ok:=⟨h.bH,h.len,h.room,h.now,h.bu,h.eA,h.many⟩
theorem Dk.Ok.fM (h:δ.Ok): δ.fM.2.Ok:=by
 unfold Dk.fM
 split
 ·exact h
 ·split
  ·exact h.die
  ·exact⟨h.gQ.bH,h.len,h.room,h.now,h.bu,aS _,h.many⟩
theorem kF {n:Int}{x:α}: ∀ {l:List (Int×α)},lookL n l=some x→(n,x)∈l:=by
 intro l
 induction l<;>grind[lookL]
theorem Dk.Ok.at (I:δ.Ok)(n:Int): (δ.at n).length=512:=by
 unfold Dk.at
 cases J:lookL n δ.now with
 |some b=>exact I.now _ (kF J)
 |none =>
  cases h2:δ.bu[n.toNat]? with
  |none=>grind
  |some o =>
   cases o with
   |none=>grind
   |some b=>exact I.bu _ _ h2
section
variable {told:cE} {p:Nat} {v:V}
theorem Tm (I:W told){n:Int}(s:Sat h (bw p δ::X::S))(J:cq X (cz x b))(hb:b.length<1073741824)(hf:δ.bH<4294967296)(hw:δ.waiting.length≤268435456):
  Call ⟨Tryz.prog,told⟩ 133 [.ptr p 0,.int .i64 n,x] h fun v h'=>v=.int .i64 (δ.cV n b).1∧Sat h' (bw p (δ.cV n b).2::X::S):=by
 refine(M6 I s J hb hf hw).mono fun v h' hr => ?_
 grind[Dk.cV]
theorem Ni (J:W told){n:Int}(s:Sat h (bw p δ::S))(I:δ.Ok): Call ⟨Tryz.prog,told⟩ 167 [.ptr p 0,.int .i64 n] h fun v h' =>
  (δ.pN n≠0∧v=.aI [.aO,.int .i64 (δ.pN n)]∧Sat h' (bw p δ::S))∨(δ.pN n=0∧∃u,v=.aI [u,.int .i64 0]∧Sat h' (aW u (δ.at n)::bw p δ::S)):=by
 refine(PN J s (I.at n)).mono fun v h' hr => ?_
 grind[Dk.pN]
end
abbrev LD := Lg×Dk
def bF (x:LD)(n:Nat): Int×LD:=if n<x.1.base+x.1.forced then(0,x) else if x.2.fM.1≠0 then(x.2.fM.1,(x.1,x.2.fM.2)) else(0,({ x.1 with forced:=x.1.b.length },x.2.fM.2))
def eB (μ:Lg)(kd:Int)(tx pv nx:Nat)(data:List Nat)(aV:List cr): List Nat:=jU (μ.base+μ.b.length) (cI kd tx pv nx data aV)
def bg (x:LD)(kd:Int)(tx pv nx:Nat)(data:List Nat)(aV:List cr): (Nat×Int)×LD :=
 if dg kd aV=false then((0,1),x) else if 1048576<(cI kd tx pv nx data aV).length then((0,2),x) else
 if (x.2.pz (eB x.1 kd tx pv nx data aV)).1≠0 then((0,(x.2.pz (eB x.1 kd tx pv nx data aV)).1),(x.1,(x.2.pz (eB x.1 kd tx pv nx data aV)).2)) else
 ((x.1.base+x.1.b.length,0),(x.1.app (eB x.1 kd tx pv nx data aV),(x.2.pz (eB x.1 kd tx pv nx data aV)).2))
theorem H6 : δ.fM.2.waiting=δ.waiting:=by
 unfold Dk.fM
 split
 ·rfl
 ·split<;>rfl
theorem r9 {x:LD}: (bF x n).2.2.waiting=x.2.waiting:=by
 grind[bF,H6]
theorem Dk.Ok.cV {n:Int}(h:δ.Ok): (δ.cV n b).2.Ok:=by
 unfold Dk.cV
 split
 ·exact h
 ·split
  ·exact h
  ·split
   ·exact⟨h.bH,h.len,h.room,h.now,h.bu,h.eA,h.many⟩
   ·refine⟨h.gQ.bH,h.len,h.room,fun e he => ?_,h.bu,h.eA,h.many⟩
    have:∀l:List (Int×List Nat),(∀e∈l,e.2.length=512)→∀e∈cN n b l,e.2.length=512:=by
     intro l
     induction l<;>grind[cN]
    exact this δ.now h.now e he
theorem oz {x:LD}(h:x.2.Ok): (bF x n).2.2.Ok:=by
 unfold bF
 split
 ·exact h
 ·split
  ·exact h.fM
  ·exact h.fM
theorem Lg.Ok.Tn (h:μ.Ok): ({ μ with forced:=μ.b.length }:Lg).Ok:=⟨h.size,h.many,h.low,h.C9,aS _,h.len,h.check⟩
theorem zZ {x:LD}(h:x.1.Ok): (bF x n).2.1.Ok:=by
 unfold bF
 split
 ·exact h
 ·split
  ·exact h
  ·exact h.Tn
section
variable {told:cE} {p:Nat} {v:V}
theorem Jg (J:W told)(s:Sat h (bQ q p μ::bw p δ::S))(I:μ.Ok)(hf:δ.bH<4294967296): Call ⟨Tryz.prog,told⟩ 93 [.ptr q 0,.int .u64 (n:Int)] h fun v h' =>
  v=.int .i64 (bF (μ,δ) n).1∧Sat h' (bQ q p (bF (μ,δ) n).2.1::bw p (bF (μ,δ) n).2.2::S):=by
 refine(Nd J s I hf).mono fun v h' hr => ?_
 grind[bF,Dk.fM]
theorem PZ (hT:W told){kd:Int}{ch:V}(s:Sat h (bQ q p μ::bw p δ::X::.arr 4 ch cs::cG cs aV::S))(hX:cq X (cz dt data))(J:BH tx pv nx data aV)(BK:μ.Ok)(I:δ.Ok):
  Call ⟨Tryz.prog,told⟩ 104 [.ptr q 0,.agg (c5 kd tx pv nx dt ch)] h fun r h' =>
  r=.aI [.int .u64 ((bg (μ,δ) kd tx pv nx data aV).1.1:Nat),.int .i64 (bg (μ,δ) kd tx pv nx data aV).1.2] ∧
  Sat h' (bQ q p (bg (μ,δ) kd tx pv nx data aV).2.1::bw p (bg (μ,δ) kd tx pv nx data aV).2.2::X::.arr 4 ch cs::cG cs aV::S):=by
 refine(KZ hT s hX J BK I.bH I.len I.room).mono fun v h' hr => ?_
 grind[bg,Dk.pz,eB]
end
structure Fm where
 aY:Int
 b:List Nat
 pins:Int
 eS:Bool
 changed:Bool
variable {f:Fm}
structure Pl where
 ag:List Fm
 bD:List (Int×Int)
 cm:List (Int×(Nat×Bool))
 hand:Nat
variable {π bO:Pl}
def fo (f:Fm)(v:V): List V:=[.int .i64 f.aY,v,.int .i64 f.pins,.bool f.eS,.bool f.changed]
def r_ : List V→List Fm→aE
 |[],[]=>.pu True
 |a::v::c::d::e::l,x::m=>.an (.an (.pu (a=.int .i64 x.aY∧c=.int .i64 x.pins∧d=.bool x.eS∧e=.bool x.changed)) (.cL v x.b)) (r_ l m)
 |_,_=>.pu False
theorem aX.fm : ∀(m:List Fm) (l:List V),aX (r_ l m):=by
 intro m
 induction m with
 |nil=>intro l;rcases l with _|⟨a,_|⟨b,_|⟨c,_|⟨d,_|⟨e,l⟩⟩⟩⟩⟩<;>exact aX.pu _
 |cons x m I=>intro l;rcases l with _|⟨a,_|⟨b,_|⟨c,_|⟨d,_|⟨e,l⟩⟩⟩⟩⟩<;>first|exact aX.pu _|exact aX.an (aX.an (aX.pu _) (aX.cL _ _)) (I l)
theorem xx {a b:PM}: ∀ {m:List Fm} {l:List V} {i:Nat} {f:Fm},(r_ l m).p a b→m[i]?=some f→∃pre v post,l=pre++(fo f v++post)∧pre.length=i*5∧(aE.cL v f.b).p a b ∧
  (∀(f':Fm) (v':V) (I J:PM),(aE.cL v' f'.b).p I J→PM.le a I→PM.le b J→(r_ (pre++(fo f' v'++post)) (m.set i f')).p I J):=by
 intro m
 induction m with
 |nil=>intro l i f h hc;simp at hc
 |cons x m ih =>
  intro l i f h hc
  rcases l with _|⟨p,_|⟨q,_|⟨w,_|⟨d,_|⟨e,l⟩⟩⟩⟩⟩<;>first|exact h.elim|skip
  obtain⟨⟨⟨h1,h2,h3,h4⟩,h5⟩,h6⟩:=h
  cases i with
  |zero =>
   simp at hc
   subst hc
   refine⟨[],q,l,?_,rfl,h5,fun f' v' I J hv ha hb=>⟨⟨⟨rfl,rfl,rfl,rfl⟩,hv⟩,(r_ l m).mono _ _ _ _ ha hb h6⟩⟩
   rw[h1,h2,h3,h4];rfl
  |succ i =>
   simp at hc
   obtain⟨pre,v,post,e1,e2,e3,e4⟩:=ih h6 hc
   refine⟨p::q::w::d::e::pre,v,post,?_,?_,e3,fun f' v' I J hv ha hb=>⟨⟨⟨h1,h2,h3,h4⟩,aE.mono _ _ _ _ _ ha hb h5⟩,e4 f' v' I J hv ha hb⟩⟩
   ·rw[e1];rfl
   ·simp only[bq,e2];omega
theorem To {a b:PM}: ∀ {m:List Fm} {l:List V},(r_ l m).p a b→l.length=m.length*5:=by
 intro m
 induction m with
 |nil=>intro l h;rcases l with _|⟨a,_|⟨b,_|⟨c,_|⟨d,_|⟨e,l⟩⟩⟩⟩⟩<;>first|rfl|exact h.elim
 |cons x m I =>
  intro l h
  rcases l with _|⟨a,_|⟨b,_|⟨c,_|⟨d,_|⟨e,l⟩⟩⟩⟩⟩<;>first|exact h.elim|skip
  have:=I h.2
  simp only[bq]
  omega
def dU (cM:Nat)(m:List Fm): aE:=xs fun cs:List V=>star [pt cM (.cells (m.length*5) cs false),r_ cs m]
abbrev Gb (v:V)(m:List (Int×Int)): aE:=pn (fun v x=>.pu (v=.int .i64 x)) v m
abbrev Jh (v:V)(m:List (Int×(Nat×Bool))): aE:=pn (fun v x=>.pu (v=.agg [.int .u64 (x.1:Int),.bool x.2])) v m
def oA (p q cM n:Nat)(wh di:V)(hand:Nat): List V:=[.ptr p 0,.ptr q 0,.sl cM 0 n (.exact n),wh,di,.int .i64 (hand:Int)]
def dM (r p q:Nat)(π:Pl): aE:=xs fun cM:Nat=>xs fun wh:V=>xs fun di:V =>
 star [pt r (.cells 6 (oA p q cM π.ag.length wh di π.hand) false),dU cM π.ag,Gb wh π.bD,Jh di π.cm]
section
variable {p:Nat} {v:V} {m:List Fm}
theorem eT : Sat h (dM r p q π::S)↔∃cM wh di,Sat h (pt r (.cells 6 (oA p q cM π.ag.length wh di π.hand) false)::dU cM π.ag::Gb wh π.bD::Jh di π.cm::S):=by
 simp only[dM,gT,aZ,gW,d_]
theorem ja : Sat h (dU cM m::S)↔∃cs,Sat h (pt cM (.cells (m.length*5) cs false)::r_ cs m::S):=by
 simp only[dU,gT,aZ,gW,d_]
theorem ic (s:Sat h (dU cM m::S))(hf:m[i]?=some f): ∃pre v post,pre.length=i*5∧(pre++(fo f v++post)).length=m.length*5 ∧
  Sat h (pt cM (.cells (m.length*5) (pre++(fo f v++post)) false)::r_ (pre++(fo f v++post)) m::.cL v f.b::S):=by
 obtain⟨cs,s⟩:=ja.1 s
 obtain⟨a,b,q1,q2,q3⟩:=s.at (k:=1) rfl
 obtain⟨pre,v,post,e1,e2,e3,_⟩:=xx q3 hf
 have hl:=To q3
 subst e1
 refine⟨pre,v,post,e2,hl,?_⟩
 have s1:Sat h (r_ (pre++(fo f v++post)) m::pt cM (.cells (m.length*5) (pre++(fo f v++post)) false)::S):=s.ae [1]
 have s2:=(s1.dup (aX.fm _ _)).gO (B:=.cL v f.b) fun a' b' h'=>by
  obtain⟨aac,v',I,J,p_,Y0,_⟩:=xx h' hf
  have:=Cw J (by omega)
  obtain⟨_,h5⟩:=this
  have h6:=iA (fun l=>l[1]?) h5
  simp[fo] at h6
  subst h6
  exact Y0
 exact s2.ae [2,1,0]
theorem fD {f':Fm}{v':V}(s:Sat h (pt cM (.cells n (pre++(fo f' v'++post)) false)::r_ (pre++(fo f v++post)) m::.cL v' f'.b::S))(hn:n=m.length*5)(hf:m[i]?=some f)(hp:pre.length=i*5): Sat h (dU cM (m.set i f')::S):=by
 subst hn
 have s1:Sat h (r_ (pre++(fo f v++post)) m::.cL v' f'.b::pt cM (.cells (m.length*5) (pre++(fo f' v'++post)) false)::S):=s.ae [1,1,0]
 have s2:=s1.two (C:=r_ (pre++(fo f' v'++post)) (m.set i f')) (aX.fm _ _) (aX.cL _ _) fun a b h1 h2=>by
  obtain⟨aac,v0,I,J,p_,Y0,e4'⟩:=xx h1 hf
  obtain⟨h3,h4⟩:=Cw J (by omega)
  subst h3
  have h5:post=I:=by
   have:=Cw h4 (by simp[fo])
   exact this.2
  subst h5
  exact e4' f' v' a b h2 (PM.le_refl _) (PM.le_refl _)
 refine ja.2 ⟨pre++(fo f' v'++post),?_⟩
 rw[cY]
 exact s2.ae [1]
theorem gM {row:List V}(hp:pre.length=a)(I:nth row j=some x): nth (pre++(row++post)) (a+j)=some x:=by
 rw[gu] at I ⊢
 have J:=(List.getElem?_eq_some_iff.1 I).1
 rw[tN (by omega),show a+j-pre.length=j by omega,xU J,I]
theorem Tp {row:List V}(J:pre.length=a)(I:j<row.length): (pre++(row++post)).set (a+j) x=pre++(row.set j x++post):=by
 rw[List.set_append_right _ _ (by omega),show a+j-pre.length=j by omega,List.set_append_left _ _ I]
theorem Sat.stM {row:List V}(s:Sat h S)(hk:getA S k=some (pt id (.cells n (pre++(row++post)) false)))(hs:bj P t=some 1)(hp:pre.length=a)(J:(pre++(row++post)).length=n)(hj:j<row.length)(hv:x.cells=[x])(I:storable x=true):
  ∃h₁,fu P h t (.ptr id (a+j)) x=some h₁∧Sat h₁ (setA S k (pt id (.cells n (pre++(row.set j x++post)) false))):=by
 have:=s.dL (P:=P) (t:=t) (off:=a+j) (v:=x) hk hs J (by rw[←J];simp;omega) hv I
 rwa [Tp hp hj] at this
theorem Sat.Gc {row row':List V}(s:Sat h S)(hk:getA S k=some (pt id (.cells n (pre++(row++post)) false)))(hs:bj P t=some row'.length)(hp:pre.length=a)(J:(pre++(row++post)).length=n)(hr:row'.length=row.length)(I:row'.all storable=true):
  ∃h₁,fu P h t (.ptr id a) (.agg row')=some h₁∧Sat h₁ (setA S k (pt id (.cells n (pre++(row'++post)) false))):=by
 have:=s.stN (P:=P) (t:=t) (off:=a) (l:=row') hk hs J (by rw[←J];simp;omega) I
 have e:(pre++(row++post)).take a++(row'++(pre++(row++post)).drop (a+row'.length))=pre++(row'++post):=by
  rw[nk hp,yb,kV (by omega),d_,show a+row'.length-pre.length=row.length by omega,yc rfl]
 rwa [e] at this
theorem ldF {row:List V}(s:Sat h S)(J:getA S k=some (pt id (.cells n (pre++(row++post)) false)))(ht:isAggT P t=some true)(hs:bj P t=some row.length)(hp:pre.length=a)(I:(pre++(row++post)).length=n): loadV P h t (.ptr id a)=some (.agg row):=by
 rw[RW ht hs (s.row J) I (by rw[←I];simp;omega),yc hp,nk rfl]
end
abbrev bA := Pl×LD
variable {ε ah:bA}
def nQ (π:Pl)(n:Int): Nat:=match lookL n π.cm with
 |some x=>x.1
 |none=>0
def outF (ε:bA)(i:Nat): Int×bA:=match ε.1.ag[i]? with
 |none=>(0,ε)
 |some f=>if f.aY<0∨f.changed=false then(0,ε) else if bW f.b=false then(4,ε) else
  if (bF ε.2 (cU f.b 4 8)).1≠0 then((bF ε.2 (cU f.b 4 8)).1,(ε.1,(bF ε.2 (cU f.b 4 8)).2)) else
  if ((bF ε.2 (cU f.b 4 8)).2.2.cV f.aY f.b).1≠0 then(((bF ε.2 (cU f.b 4 8)).2.2.cV f.aY f.b).1,(ε.1,((bF ε.2 (cU f.b 4 8)).2.1,((bF ε.2 (cU f.b 4 8)).2.2.cV f.aY f.b).2))) else
  (0,({ ε.1 with ag:=ε.1.ag.set i { f with changed:=false },cm:=cN f.aY (nQ ε.1 f.aY,false) ε.1.cm },((bF ε.2 (cU f.b 4 8)).2.1,((bF ε.2 (cU f.b 4 8)).2.2.cV f.aY f.b).2)))
section
variable {told:cE} {p:Nat} {v:V}
theorem VI (hT:W told)(s:Sat h (pt r (.cells 6 (oA p q cM π.ag.length wh di π.hand) false)::dU cM π.ag::Gb wh π.bD::Jh di π.cm::bQ q p μ::bw p δ::S))(hi:π.ag[i]?=some f)(BK:μ.Ok)(P0:δ.Ok)(RC:f.b.length<1073741824)(hw:δ.waiting.length≤268435456):
  Call ⟨Tryz.prog,told⟩ 166 [.ptr r 0,.ptr cM (i*5)] h fun v h'=>v=.int .i64 (outF (π,μ,δ) i).1 ∧
   Sat h' (pt r (.cells 6 (oA p q cM (outF (π,μ,δ) i).2.1.ag.length wh di (outF (π,μ,δ) i).2.1.hand) false)::dU cM (outF (π,μ,δ) i).2.1.ag::Gb wh (outF (π,μ,δ) i).2.1.bD::Jh di (outF (π,μ,δ) i).2.1.cm::bQ q p (outF (π,μ,δ) i).2.2.1::bw p (outF (π,μ,δ) i).2.2.2::S):=by
 have Y1:=s
 obtain⟨pre,fv,post,I,hlen,s⟩:=ic (s.ae [1]) hi
 have YN:=(s.aD (k:=2) rfl (eC _ _))
 refine Call.of_wp (hT.free _ rfl) Tryz.func166 rfl rfl (zK 9 rfl (zf rfl (nL _ _) (zl rfl (s.ld (k:=0) rfl ep (gM I rfl)) ?_)))
 refine zd rfl (ak rfl rfl aJ) ?_ ?_
 ·intro hq
  have hq:f.aY<0:=by simpa using hq
  have he:outF (π,μ,δ) i=(0,(π,μ,δ)):=by simp only[outF,hi];rw[aF (.inl hq)]
  rw[he]
  exact zk 13 rfl (WP.ret ⟨aa,_,rfl,rfl,Y1⟩)
 ·intro hq
  have hq:¬ f.aY<0:=by simpa using hq
  refine zk 3 rfl (zf rfl (C6 _ _) (zl rfl (s.ld (k:=0) rfl nF (gM I rfl)) ?_))
  have MR:f.changed=false∨f.changed=true:=by cases f.changed<;>simp
  rcases MR with hc|hc
  ·have he:outF (π,μ,δ) i=(0,(π,μ,δ)):=by simp only[outF,hi];rw[aF (.inr hc)]
   rw[he]
   refine zt rfl (dB rfl rfl) (by rw[hc];rfl) ?_
   exact zk 7 rfl (WP.ret ⟨aa,_,rfl,rfl,Y1⟩)
  ·have he:outF (π,μ,δ) i=(if bW f.b=false then(4,(π,μ,δ)) else
    if (bF (μ,δ) (cU f.b 4 8)).1≠0 then((bF (μ,δ) (cU f.b 4 8)).1,(π,(bF (μ,δ) (cU f.b 4 8)).2)) else
    if ((bF (μ,δ) (cU f.b 4 8)).2.2.cV f.aY f.b).1≠0 then(((bF (μ,δ) (cU f.b 4 8)).2.2.cV f.aY f.b).1,(π,((bF (μ,δ) (cU f.b 4 8)).2.1,((bF (μ,δ) (cU f.b 4 8)).2.2.cV f.aY f.b).2))) else
    (0,({ π with ag:=π.ag.set i { f with changed:=false },cm:=cN f.aY (nQ π f.aY,false) π.cm },((bF (μ,δ) (cU f.b 4 8)).2.1,((bF (μ,δ) (cU f.b 4 8)).2.2.cV f.aY f.b).2)))):=by
    simp only[outF,hi];rw[ay (by rw[hc];simp;omega)]
   rw[he]
   refine zh rfl (dB rfl rfl) (by rw[hc];rfl) ?_
   refine zk 8 rfl (zf rfl (yM _ _) (zl rfl (s.ld (k:=0) rfl bX (gM I rfl)) (zc rfl (Jd hT (s.ae [2]) (eC _ _) (by omega)) ?_)))
   rintro w h ⟨s,(⟨hg,rfl⟩|⟨hg,rfl⟩)⟩
   ·dsimp only[bringA,getA,aC] at s
    rw[ay (by rw[hg];decide)]
    have P3:(bF (μ,δ) (cU f.b 4 8)).2.2.Ok:=oz P0
    have VJ:(bF (μ,δ) (cU f.b 4 8)).2.2.waiting.length≤268435456:=by rw[r9];exact hw
    have J:=Jg (n:=cU f.b 4 8) hT (s.ae [6,6]) BK P0.bH
    generalize bF (μ,δ) (cU f.b 4 8)=x at J P3 VJ ⊢
    obtain⟨xe,xl,xd⟩:=x
    dsimp only at J P3 VJ ⊢
    refine zk 16 rfl (zC rfl aA (rfl) (zk 8 rfl (zY s 3 S5 qn rfl (zm rfl (zc rfl (J) ?_)))))
    rintro w h ⟨rfl,s⟩
    refine zk 5 rfl ?_
    by_cases hx:xe=0
    ·subst hx
     rw[ay (by decide)]
     refine zC rfl aA (rfl) ?_
     have FJ:=fun(s:Sat h (bw p xd::.cL fv f.b::bQ q p xl::pt cM (.cells (π.ag.length*5) (pre++(fo f fv++post)) false)::r_ (pre++(fo f fv++post)) π.ag::pt r (.cells 6 (oA p q cM π.ag.length wh di π.hand) false)::Gb wh π.bD::Jh di π.cm::S))=>Tm (n:=f.aY) hT s (eC fv f.b) RC P3.bH VJ
     generalize xd.cV f.aY f.b=y at FJ ⊢
     obtain⟨ye,yd⟩:=y
     dsimp only at FJ ⊢
     have s:=s.ae [1,1,0]
     refine zk 5 rfl (WP.drawn [af,af,af,af,af,af,af,af,af,af,af,af,af,af] rfl (by kernel_rfl) (by kernel_rfl) ?_)
     refine zM rfl (zN rfl (zF rfl (yJ _ _) (zL rfl (s.ld (k:=5) rfl rT rfl) (zM rfl (zN rfl (zF rfl (nL _ _) (zL rfl (s.ld (k:=3) rfl ep (gM I rfl)) (zM rfl (zN rfl (zF rfl (yM _ _) (zL rfl (s.ld (k:=3) rfl bX (gM I rfl)) (az.any rfl rfl rfl rfl (OpR.call rfl rfl rfl rfl (FJ s)) ?_))))))))))))
     rintro w h ⟨rfl,s⟩
     refine zA rfl ?_
     refine az.nil ⟨⟨aa,aa,aa,aa,aa,aa,aa,aa,aa,aa,aa,aa,aa,aa,aa⟩,?_⟩
     refine zK 3 rfl ?_
     by_cases hy:ye=0
     ·subst hy
      rw[ay (by decide)]
      refine zC rfl aA (rfl) (zk 7 rfl (zf rfl (C6 _ _) (zS rfl (s.stM (k:=3) (j:=4) rfl vZ I hlen (by simp[fo]) rfl rfl) ?_)))
      intro h s
      have e5:(fo f fv).set 4 (.bool false)=fo { f with changed:=false } fv:=rfl
      rw[e5] at s
      have s:=s.ae [7,3,4]
      refine zk 2 rfl (WP.drawn [af,af,af,af,af,af,af,af,af,af,af,af,af,af,af,af,af,af,af,af] rfl (by kernel_rfl) (by kernel_rfl) ?_)
      refine zM rfl (zN rfl (zF rfl (ru _ _) (zL rfl (s.ld (k:=2) rfl yI rfl) (zM rfl (zN rfl (zF rfl (nL _ _) (zL rfl (s.ld (k:=1) rfl ep (gM I rfl)) (zM rfl (zN rfl (zF rfl (ru _ _) (zL rfl (s.ld (k:=2) rfl yI rfl) (zM rfl (zN rfl (zF rfl (nL _ _) (zL rfl (s.ld (k:=1) rfl ep (gM I rfl)) ?_)))))))))))))))
      have K0:∃b,dK Tryz.prog h 215 di (.int .i64 f.aY) false=some (.agg [.int .u64 (nQ π f.aY:Nat),.bool b]):=by
       rcases jI (f:=fun v (x:Nat×Bool)=>.pu (v=.agg [.int .u64 (x.1:Int),.bool x.2])) (n:=f.aY) (fun _ _=>aX.pu _) s xb bz yL with⟨g1,_,g3⟩|⟨u,x,g1,_,g3,s'⟩
       ·exact⟨false,by rw[g3];simp only[nQ,g1];rfl⟩
       ·obtain⟨rfl,_⟩:=mL.1 s'
        exact⟨x.2,by rw[g3];simp only[nQ,g1]⟩
      obtain⟨lb,K0⟩:=K0
      refine zO rfl (gx rfl rfl K0) (zO rfl (Xf rfl (Xh (S6 _) rfl)) (zO rfl (b_ rfl (by rw[XF];rfl)) ?_))
      refine az.iR rfl rfl rfl (OpR.mapUpdate rfl rfl rfl rfl (kJ (f:=fun v (x:Nat×Bool)=>.pu (v=.agg [.int .u64 (x.1:Int),.bool x.2])) (x:=(nQ π f.aY,false)) (fun _ _=>aX.pu _) (s.fH rfl) xb bz)) ?_
      intro w h s
      refine az.nil ⟨⟨aa,aa,aa,aa,aa,aa,aa,aa,aa,aa,aa,aa,aa,aa,aa,aa,aa,aa,aa,aa,aa⟩,?_⟩
      refine zK 4 rfl (WP.ret ⟨aa,_,rfl,?_⟩)
      refine⟨rfl,?_⟩
      have s:=fD (i:=i) (f':={ f with changed:=false }) (s.ae [1,5,3]) rfl hi I
      have e6:(π.ag.set i { f with changed:=false }).length=π.ag.length:=cY
      rw[e6]
      exact s.ae [2,0,3,0,1,0]
     ·rw[aF hy]
      refine zB rfl aA (by simp;exact hy) ?_
      refine zk 7 rfl (WP.ret ⟨aa,_,rfl,?_⟩)
      refine⟨rfl,?_⟩
      have s:=ja.2 ⟨_,s.ae [3,3]⟩
      exact(s.del 2).ae [3,0,2,2,1,0]
    ·rw[aF hx]
     refine zB rfl aA (by simp;exact hx) ?_
     refine zk 7 rfl (WP.ret ⟨aa,_,rfl,?_⟩)
     refine⟨rfl,?_⟩
     have s:=ja.2 ⟨_,s.ae [3,3]⟩
     exact(s.del 3).ae [3,0,2,2,0,0]
   ·dsimp only[bringA,getA,aC] at s
    rw[aF hg]
    refine zk 16 rfl (zB rfl aA (rfl) (zk 7 rfl (WP.ret ⟨aa,_,rfl,?_⟩)))
    refine⟨rfl,?_⟩
    have s:=ja.2 ⟨_,s.ae [1,1]⟩
    exact(s.del 1).ae [1,0]
end
structure fb (π bO:Pl): Prop where
 bD:bO.bD=π.bD
 cm:bO.cm=π.cm
 len:bO.ag.length=π.ag.length
 get:∀(i:Nat) (f:Fm),π.ag[i]?=some f→∃t,bO.ag[i]?=some { f with eS:=t }
theorem fb.refl (π:Pl): fb π π:=⟨rfl,rfl,rfl,fun _ f h=>⟨f.eS,h⟩⟩
theorem fb.trans {I:Pl}(a:fb π bO)(b:fb bO I): fb π I:=by
 refine⟨b.bD.trans a.bD,b.cm.trans a.cm,b.len.trans a.len,fun i f h => ?_⟩
 obtain⟨t,ht⟩:=a.get i f h
 obtain⟨t',J⟩:=b.get i _ ht
 exact⟨t',J⟩
theorem fb.hand : fb π { π with hand:=n }:=⟨rfl,rfl,rfl,fun _ f h=>⟨f.eS,h⟩⟩
theorem fb.Tq (hi:π.ag[i]?=some f): fb π { π with ag:=π.ag.set i { f with eS:=false } }:=by
 refine⟨rfl,rfl,cY,fun j g I => ?_⟩
 by_cases h:i=j
 ·subst h
  rw[hi] at I
  have:=cx I
  subst this
  have J:=(List.getElem?_eq_some_iff.1 hi).1
  exact⟨false,by simp[Cq,J]⟩
 ·exact⟨g.eS,by simp only[Cq,ay h];exact I⟩
theorem P4 {x:Operand}{b:Nat}(I:0<b): binV P h .rem t x y (.int .i64 (a:Int)) (.int .i64 (b:Int))=some (.int .i64 ((a%b:Nat):Int)):=by
 simp only[binV,ikBeq,ai,intV]
 have:intBeq (b:Int) 0=false:=by rw[mq];simp;omega
 rw[this,aK,Int.tmod_eq_emod_of_nonneg (by omega)]
 rfl
section
variable {told:cE} {p:Nat} {v:V} {m:List Fm}
theorem lT (hi:i<n): indexAddrV Tryz.prog 214 (.sl cM 0 n (.exact n)) (.int .i64 (i:Int))=some (.ptr cM (i*5)):=by
 rw[XD,show(decide ((0:Int)≤(i:Int))&&decide ((i:Int)<(n:Int)))=true by simp;omega,ai]
 simp
theorem H7 (I:W told)(s:Sat h S)(J:storable v=true): Call ⟨Tryz.prog,told⟩ 214 [.agg (fo f v)] h fun w h'=>w=.bool (decide (f.pins=0))∧Sat h' S:=by
 refine Call.of_wp (I.free _ rfl) Tryz.func214 rfl rfl (zg rfl (aq.bG s rfl rfl rfl (dc rfl (by simp only[V.cells,fo,jv,j7,J];rfl)) ?_))
 intro p1 h s
 dsimp only[V.cells,fo] at s
 exact zk 4 rfl (zY s 0 o7 ep rfl (zb rfl c4 (zk 2 rfl (WP.ret ⟨aa,_,rfl,rfl,s.drop⟩))))
theorem P5 (hT:W told)(s:Sat h (dU cM m::S))(h0:m[0]?=some f)(hp:f.pins=0): Call ⟨Tryz.prog,told⟩ 237 [.sl cM 0 m.length (.exact m.length),.fn (.func 214) [] []] h fun w h'=>w=.int .i64 0∧Sat h' (dU cM m::S):=by
 have hl:=(List.getElem?_eq_some_iff.1 h0).1
 obtain⟨pre,fv,post,I,hlen,s⟩:=ic s h0
 have J:=(s.aD (k:=2) rfl (eC _ _)).cells.2
 refine Call.of_wp (hT.free _ rfl) Tryz.func237 rfl rfl (zK 8 rfl (zo rfl (aQ rfl rfl rfl (o9 rfl xh)) (zk 2 rfl (WP.block (WP.loop (zg rfl (zB rfl aJ (by simp;omega) ?_)))))))
 refine zk 5 rfl (WP.block (zK 10 rfl (zo rfl (cu rfl rfl (lT (i:=0) hl)) (zl rfl (ldF s (k:=0) rfl XG Bv I hlen) (zc rfl (H7 hT s J) ?_)))))
 rintro w h ⟨rfl,s⟩
 rw[ew hp]
 exact zk 7 rfl (WP.ret ⟨aa,_,rfl,rfl,(ja.2 ⟨_,s⟩).del 1⟩)
theorem H8 (I:W told)(s:Sat h (dU cM m::S))(J:m[0]?=some f)(hp:f.pins=0): Call ⟨Tryz.prog,told⟩ 213 [.sl cM 0 m.length (.exact m.length),.fn (.func 214) [] []] h fun w h'=>w=.bool true∧Sat h' (dU cM m::S):=by
 refine Call.of_wp (I.free _ rfl) Tryz.func213 rfl rfl (zK 8 rfl (zc rfl (P5 I s J hp) ?_))
 rintro w h ⟨rfl,s⟩
 refine zB rfl jQ (by decide) ?_
 exact zk 2 rfl (WP.ret ⟨aa,_,rfl,rfl,s⟩)
noncomputable def fdA : Code:=c6 [1,0,0,1,0,0] ((Tryz.f165.body).getD .skip)
noncomputable def VK : Code:=c6 [1,0,1,1,1,0,0] ((Tryz.f165.body).getD .skip)
theorem H9 {hand:Nat}: ∀(j i:Nat) (h:H) (E:List (Nat×V)) (Q:Ex→List (Nat×V)→H→Prop),i+j=m.length→m.length<4294967296 →
  Sat h (pt r (.cells 6 (oA p q cM m.length wh di hand) false)::dU cM m::S)→Has E [(0,.ptr r 0),(10,.int .i64 m.length),(11,.int .i64 i)] →
  (∀E' (i:Nat) (f:Fm),m[i]?=some f→f.aY<0→look E' 2=some (.int .i64 (i:Int))→Q .ret E' h) →
  (∀E',Has E' [(0,.ptr r 0)]→Q (.exit 0) E' h)→WP ⟨Tryz.prog,told⟩ 70 (.loop fdA) E h Q:=by
 intro j
 induction j with
 |zero =>
  intro i h E Q hi hm s hE hr hx
  refine WP.loop (WP.has hE (zg rfl (zC rfl aJ (by simp;omega) ?_)))
  exact zk 3 rfl (WP.exit (hx _ ⟨rfl,aa⟩))
 |succ j ih =>
  intro i h E Q hi hm s hE hr hx
  have hc:m[i]?=some (m[i]'(by omega)):=bp _
  generalize (m[i]'(by omega))=f at hc
  obtain⟨pre,fv,post,I,hlen,s'⟩:=ic (s.ae [1]) hc
  refine WP.loop (WP.has hE (zg rfl (zB rfl aJ (by simp;omega) ?_)))
  refine zk 5 rfl (WP.block (zK 9 rfl (zY s 0 kj om rfl (zm rfl (zo rfl (cu rfl rfl (lT (i:=i) (by omega))) ?_)))))
  refine zf rfl (nL _ _) (zl rfl (s'.ld (k:=0) rfl ep (gM I rfl)) ?_)
  refine zd rfl (ak rfl rfl aJ) ?_ ?_
  ·intro J
   have J:f.aY<0:=by simpa using J
   exact zk 7 rfl (WP.ret (hr _ i f hc J rfl))
  ·intro J
   refine zv (zj rfl (WP.skip (zr rfl (zb rfl (by exact aR (ax (by omega) (by omega))) ?_))))
   refine zm rfl (zv ?_)
   exact ih (i+1) h _ Q (by omega) hm s ⟨rfl,rfl,rfl,aa⟩ hr hx
def pE (m:List Fm): Nat:=(m.filter fun f=>f.eS).length
theorem z6 : ∀ {m:List Fm} {i:Nat},m[i]?=some f→f.eS=true→pE (m.set i { f with eS:=false })+1=pE m:=by
 intro m
 induction m with
 |nil=>intro i h;simp at h
 |cons g m J =>
  intro i h I
  cases i with
  |zero=>simp at h;subst h;simp[pE,I]
  |succ i =>
   rw[lZ] at h
   have:=J h I
   simp only[pE,List.set_cons_succ,List.filter_cons] at this ⊢
   split<;>(try simp only[bq])<;>omega
theorem BL (hf:π.ag[π.hand]?=some f)(hm:π.ag.length<4294967296)(hp:f.pins=0)
 (s:Sat h (pt r (.cells 6 (oA p q cM π.ag.length wh di π.hand) false)::dU cM π.ag::S))(hE:Has E [(0,.ptr r 0)])
 (hr:f.eS=false→∀E' h',look E' 2=some (.int .i64 (π.hand:Int))→Sat h' (pt r (.cells 6 (oA p q cM π.ag.length wh di ((π.hand+1)%π.ag.length)) false)::dU cM π.ag::S)→Q .ret E' h')
 (hx:f.eS=true→∀E' h',Has E' [(0,.ptr r 0)]→Sat h' (pt r (.cells 6 (oA p q cM (π.ag.set π.hand { f with eS:=false }).length wh di ((π.hand+1)%π.ag.length)) false)::dU cM (π.ag.set π.hand { f with eS:=false })::S)→WP ⟨Tryz.prog,told⟩ 70 (.loop VK) E' h' Q):
  WP ⟨Tryz.prog,told⟩ 70 (.loop VK) E h Q:=by
 have hl:=(List.getElem?_eq_some_iff.1 hf).1
 refine WP.loop (WP.has hE (WP.block (zK 4 rfl (zY s 0 C3 ep rfl (zk 6 rfl (zY s 0 kj om rfl (zm rfl (zo rfl (cu rfl rfl (lT (i:=π.hand) hl)) (zk 3 rfl (WP.drawn [af,af,af,af,af,af,af,af,af,af,af,af,af,af,af] rfl (by kernel_rfl) (by kernel_rfl) ?_))))))))))
 refine zM rfl (zM rfl (zN rfl (zF rfl (C3 _ _) (zL rfl (s.ld (k:=0) rfl ep rfl) (zO rfl (ak rfl rfl (by exact aR (ax (by omega) (by omega)))) ?_)))))
 refine zM rfl (zN rfl (zF rfl (kj _ _) (zL rfl (s.ld (k:=0) rfl om rfl) (zO rfl (aQ rfl rfl rfl (o9 rfl xh)) (zO rfl (ak rfl rfl (P4 (a:=π.hand+1) (by omega))) ?_)))))
 refine zN rfl (zF rfl (C3 _ _) (az.iR rfl rfl rfl (OpR.uC rfl rfl rfl (s.dL (k:=0) rfl nE rfl (by decide) rfl rfl)) ?_))
 rintro v h ⟨rfl,s⟩
 have s:Sat h (pt r (.cells 6 (oA p q cM π.ag.length wh di ((π.hand+1)%π.ag.length)) false)::dU cM π.ag::S):=s
 refine az.nil ⟨⟨aa,aa,aa,aa,aa,aa,aa,aa,aa,aa,aa,aa,aa,aa,aa,aa⟩,?_⟩
 obtain⟨pre,fv,post,I,hlen,s⟩:=ic (s.ae [1]) hf
 refine zw (WP.block (zK 4 rfl (zf rfl (o7 _ _) (zl rfl (s.ld (k:=0) rfl ep (gM I rfl)) (zC rfl fI (by rw[hp];decide) ?_)))))
 refine zk 7 rfl (zf rfl (C5 _ _) (zl rfl (s.ld (k:=0) rfl nF (gM I rfl)) (zk 2 rfl ?_)))
 have Ji:f.eS=false∨f.eS=true:=by cases f.eS<;>simp
 rcases Ji with J|J
 ·refine WP.RN rfl (J) ?_
  refine zK 5 rfl (WP.ret (hr J _ _ rfl ?_))
  have s:=ja.2 ⟨_,s.ae [0,0]⟩
  exact(s.del 1).ae [1,0]
 ·skip
  refine WP.Kw rfl (J) (zK 3 rfl (zf rfl (C5 _ _) (zS rfl (s.stM (k:=0) (j:=3) rfl vZ I hlen (by simp[fo]) rfl rfl) ?_)))
  intro h s
  have e5:(fo f fv).set 3 (.bool false)=fo { f with eS:=false } fv:=rfl
  rw[e5] at s
  refine zv (WP.exit (hx J _ _ ⟨rfl,aa⟩ ?_))
  have s:=fD (i:=π.hand) (f':={ f with eS:=false }) s rfl hf I
  rw[cY]
  exact s.ae [1,0]
theorem H_ : ∀(fuel:Nat) (π:Pl) (h:H) (E:List (Nat×V)) (Q:Ex→List (Nat×V)→H→Prop),pE π.ag≤fuel→π.hand<π.ag.length→π.ag.length<4294967296→(∀f∈π.ag,f.pins=0) →
  Sat h (pt r (.cells 6 (oA p q cM π.ag.length wh di π.hand) false)::dU cM π.ag::S)→Has E [(0,.ptr r 0)] →
  (∀E' h' (i:Nat) (bO:Pl) (f:Fm),fb π bO→bO.ag[i]?=some f→bO.hand<bO.ag.length→look E' 2=some (.int .i64 (i:Int))→Sat h' (pt r (.cells 6 (oA p q cM bO.ag.length wh di bO.hand) false)::dU cM bO.ag::S)→Q .ret E' h') →
  WP ⟨Tryz.prog,told⟩ 70 (.loop VK) E h Q:=by
 intro fuel
 induction fuel with
 |zero =>
  intro π h E Q ht J hm hp s hE hr
  have I:π.ag[π.hand]?=some (π.ag[π.hand]'J):=bp _
  generalize (π.ag[π.hand]'J)=f at I
  refine BL I hm (hp f (bI I)) s hE (fun h1 E' h' h2 s' => ?_) (fun h1 => ?_)
  ·exact hr E' h' π.hand { π with hand:=(π.hand+1)%π.ag.length } f fb.hand I (jw _ (by omega)) h2 s'
  ·have:=z6 I h1
   omega
 |succ fuel ih =>
  intro π h E Q ht J hm hp s hE hr
  have I:π.ag[π.hand]?=some (π.ag[π.hand]'J):=bp _
  generalize (π.ag[π.hand]'J)=f at I
  refine BL I hm (hp f (bI I)) s hE (fun h1 E' h' h2 s' => ?_) (fun h1 E' h' eF s' => ?_)
  ·exact hr E' h' π.hand { π with hand:=(π.hand+1)%π.ag.length } f fb.hand I (jw _ (by omega)) h2 s'
  ·have sL:=z6 I h1
   have hn:fb π { π with ag:=π.ag.set π.hand { f with eS:=false },hand:=(π.hand+1)%π.ag.length }:=(fb.Tq I).trans fb.hand
   refine ih { π with ag:=π.ag.set π.hand { f with eS:=false },hand:=(π.hand+1)%π.ag.length } h' E' Q (by show pE (π.ag.set π.hand { f with eS:=false })≤fuel;omega) ?_ (by simp only[cY];exact hm) (fun g hg => ?_) s' eF (fun E2 h2 i bO g Uk hg VL hl s2=>hr E2 h2 i bO g (hn.trans Uk) hg VL hl s2)
   ·simp only[cY];exact jw _ (by omega)
   ·rcases nh hg with hg|rfl
    ·exact hp g hg
    ·exact hp f (bI I)
theorem P6 (hT:W told)(s:Sat h (pt r (.cells 6 (oA p q cM π.ag.length wh di π.hand) false)::dU cM π.ag::S))(hh:π.hand<π.ag.length)(hm:π.ag.length<4294967296)(hp:∀f∈π.ag,f.pins=0):
  Call ⟨Tryz.prog,told⟩ 165 [.ptr r 0] h fun v h'=>∃(i:Nat) (bO:Pl) (f:Fm),v=.int .i64 (i:Int)∧fb π bO∧bO.ag[i]?=some f∧bO.hand<bO.ag.length ∧
   Sat h' (pt r (.cells 6 (oA p q cM bO.ag.length wh di bO.hand) false)::dU cM bO.ag::S):=by
 have I:π.ag[0]?=some (π.ag[0]'(by omega)):=bp _
 generalize (π.ag[0]'(by omega))=f0 at I
 have s0:=s
 refine Call.of_wp (hT.free _ rfl) Tryz.func165 rfl rfl (zK 4 rfl (WP.scope (zK 5 rfl (zY s 0 kj om rfl (zo rfl (aQ rfl rfl rfl (o9 rfl xh)) (zk 2 rfl (WP.block ?_)))))))
 refine H9 π.ag.length 0 _ _ _ (by omega) hm s ⟨rfl,rfl,rfl,aa⟩ (fun E' i f J _ h2 => ?_) (fun E' eF => ?_)
 ·exact⟨aa,_,ql h2,i,π,f,rfl,fb.refl π,J,hh,s⟩
 ·skip
  refine WP.has eF (zK 5 rfl (zY s 0 kj om rfl (zc rfl (H8 hT (s.ae [1]) I (hp f0 (bI I))) ?_)))
  rintro w h ⟨rfl,s⟩
  refine zo rfl (dB rfl rfl) (zk 4 rfl (WP.label (WP.block ?_)))
  refine H_ (pE π.ag) π _ _ _ (aS _) hh hm hp (s.ae [1,0]) ⟨rfl,aa⟩ (fun E' h' i bO f hn J VL h2 s' => ?_)
  exact⟨aa,_,ql h2,i,bO,f,rfl,hn,J,VL,s'⟩
end
structure Pl.Ok (π:Pl): Prop where
 hand:π.hand<π.ag.length
 many:π.ag.length≤1024
 bD:∀e∈π.bD,0≤e.2∧e.2<π.ag.length
 len:∀f∈π.ag,f.b.length≤512
 pins:∀f∈π.ag,0≤f.pins∧f.pins≤4294967296
theorem Pl.Ok.at (h:π.Ok){n i:Int}(I:lookL n π.bD=some i): ∃(k:Nat) (f:Fm),i=k∧π.ag[k]?=some f:=by
 have J:=h.bD _ (kF I)
 exact⟨i.toNat,π.ag[i.toNat]'(by omega),by omega,bp _⟩
def heldI (π:Pl)(n:Int): Option Nat:=match lookL n π.bD with
 |none=>none
 |some i=>match π.ag[i.toNat]? with
  |none=>none
  |some f=>if f.pins=0 then none else some i.toNat
def unpinF (π:Pl)(n:Int): Int×Pl:=match heldI π n with
 |none=>(18,π)
 |some i=>match π.ag[i]? with
  |none=>(18,π)
  |some f=>(0,{ π with ag:=π.ag.set i { f with pins:=f.pins-1 } })
def kr (π:Pl)(n:Int)(aB:Nat): Nat:=match lookL n π.cm with
 |some x=>x.1
 |none=>aB
def jV (π:Pl)(n:Int)(b:List Nat)(aB:Nat): Int×Pl:=match heldI π n with
 |none=>(18,π)
 |some i=>match π.ag[i]? with
  |none=>(18,π)
  |some f=>if bW b=false then(4,π) else(0,{ π with ag:=π.ag.set i { f with b:=cS b aB,changed:=true },cm:=cN n (kr π n aB,true) π.cm })
section
variable {told:cE} {p:Nat} {v:V} {m:List Fm}
theorem Jj {n:Int}{j:Nat}(s:Sat h (Gb wh π.bD::S)): (lookL n π.bD=none∧dK Tryz.prog h 213 wh (.int .i64 n) true=some (.aI [.int .i64 0,.bool false])) ∨
  ∃i,lookL n π.bD=some i∧dK Tryz.prog h 213 wh (.int .i64 n) true=some (.aI [.int .i64 i,.bool true]):=by
 grind[jI,aX.pu,Tryz.underlying213,Tryz.underlying3,Vo,mL]
theorem Jk {n:Int}(s:Sat h (Jh di π.cm::S)): (lookL n π.cm=none∧dK Tryz.prog h 215 di (.int .i64 n) true=some (.aI [.agg [.int .u64 0,.bool false],.bool false])∧dK Tryz.prog h 215 di (.int .i64 n) false=some (.agg [.int .u64 0,.bool false])) ∨
  ∃x,lookL n π.cm=some x∧dK Tryz.prog h 215 di (.int .i64 n) true=some (.aI [.agg [.int .u64 (x.1:Int),.bool x.2],.bool true])∧dK Tryz.prog h 215 di (.int .i64 n) false=some (.agg [.int .u64 (x.1:Int),.bool x.2]):=by
 grind[jI,aX.pu,Tryz.underlying215,Tryz.underlying3,yL,mL]
theorem Jl (hT:W told){n:Int}(s:Sat h (pt r (.cells 6 (oA p q cM π.ag.length wh di π.hand) false)::dU cM π.ag::Gb wh π.bD::S))(J:π.Ok):
  Call ⟨Tryz.prog,told⟩ 168 [.ptr r 0,.int .i64 n] h fun v h'=>h'=h∧((heldI π n=none∧v=.aI [.a_,.int .i64 18])∨∃(i:Nat) (f:Fm),heldI π n=some i∧π.ag[i]?=some f∧v=.aI [.ptr cM (i*5),.int .i64 0]):=by
 refine Call.of_wp (hT.free _ rfl) Tryz.func168 rfl rfl (zK 9 rfl (zY s 0 uH Bu rfl (zm rfl ?_)))
 rcases Jj (n:=n) (j:=0) (s.ae [2]) with⟨g1,g2⟩|⟨i,g1,g2⟩
 ·refine aq.op rfl rfl rfl (gx rfl rfl g2) ?_
  exact zk 10 rfl (zt rfl (dB rfl rfl) (rfl) (zk 18 rfl (WP.ret ⟨aa,_,rfl,rfl,.inl ⟨by simp only[heldI,g1],rfl⟩⟩)))
 ·obtain⟨i,f,rfl,hf⟩:=J.at g1
  have hl:=(List.getElem?_eq_some_iff.1 hf).1
  have hh:heldI π n=if f.pins=0 then none else some i:=by grind[heldI]
  obtain⟨pre,fv,post,I,hlen,s'⟩:=ic (s.ae [1]) hf
  refine zo rfl (gx rfl rfl g2) (zk 10 rfl (zh rfl (dB rfl rfl) (rfl) (zk 3 rfl (zY s 0 kj om rfl (zm rfl (zo rfl (cu rfl rfl (lT (i:=i) hl)) (zf rfl (o7 _ _) (zl rfl (s'.ld (k:=0) rfl ep (gM I rfl)) ?_))))))))
  refine zd rfl (ak rfl rfl c4) ?_ ?_
  ·intro hq
   have hq:f.pins=0:=by grind
   exact zk 8 rfl (WP.ret ⟨aa,_,rfl,rfl,.inl ⟨by grind,rfl⟩⟩)
  ·intro hq
   have hq:f.pins≠0:=by grind
   exact zk 8 rfl (zY s 0 kj om rfl (zm rfl (zo rfl (cu rfl rfl (lT (i:=i) hl)) (zk 3 rfl (WP.ret ⟨aa,_,rfl,rfl,.inr ⟨i,f,by grind,hf,rfl⟩⟩)))))
theorem Gd (hT:W told){n:Int}(s:Sat h (dM r p q π::S))(J:π.Ok):
  Call ⟨Tryz.prog,told⟩ 95 [.ptr r 0,.int .i64 n] h fun v h'=>v=.int .i64 (unpinF π n).1∧Sat h' (dM r p q (unpinF π n).2::S):=by
 have s0:=s
 obtain⟨cM,wh,di,s⟩:=eT.1 s
 refine Call.of_wp (hT.free _ rfl) Tryz.func95 rfl rfl (zK 8 rfl (zc rfl (Jl (n:=n) hT s J) ?_))
 rintro v h' ⟨rfl,(⟨hh,rfl⟩|⟨i,f,hh,hf,rfl⟩)⟩
 ·have he:unpinF π n=(18,π):=by simp only[unpinF,hh]
  rw[he]
  exact zk 10 rfl (zB rfl aA (rfl) (zk 7 rfl (WP.ret ⟨aa,_,rfl,rfl,s0⟩)))
 ·have he:unpinF π n=(0,{ π with ag:=π.ag.set i { f with pins:=f.pins-1 } }):=by simp only[unpinF,hh,hf]
  rw[he]
  obtain⟨pre,fv,post,I,hlen,s⟩:=ic (s.ae [1]) hf
  have P7:=J.pins f (bI hf)
  refine zk 10 rfl (zC rfl aA (rfl) (zk 7 rfl (zf rfl (o7 _ _) (zl rfl (s.ld (k:=0) rfl ep (gM I rfl)) (zb rfl (by exact jP (ax (by omega) (by omega))) ?_)))))
  refine zn rfl (zf rfl (o7 _ _) (zS rfl (s.stM (k:=0) (j:=2) rfl nE I hlen (by simp[fo]) rfl rfl) ?_))
  intro h s
  have e5:(fo f fv).set 2 (.int .i64 (f.pins-1))=fo { f with pins:=f.pins-1 } fv:=rfl
  rw[e5] at s
  refine zk 5 rfl (WP.ret ⟨aa,_,rfl,?_⟩)
  refine⟨rfl,eT.2 ⟨cM,wh,di,?_⟩⟩
  have s:=fD (i:=i) (f':={ f with pins:=f.pins-1 }) s rfl hf I
  rw[cY]
  exact s.ae [1,0]
theorem Tr (J:W told){n:Int}(s:Sat h (dM r p q π::X::S))(hX:cq X (cz bv b))(P8:π.Ok)(hb:b.length<9223372036854775808):
  Call ⟨Tryz.prog,told⟩ 108 [.ptr r 0,.int .i64 n,bv,.int .u64 (aB:Int)] h fun v h'=>v=.int .i64 (jV π n b aB).1∧Sat h' (dM r p q (jV π n b aB).2::X::S):=by
 have s0:=s
 obtain⟨cM,wh,di,s⟩:=eT.1 s
 refine Call.of_wp (J.free _ rfl) Tryz.func108 rfl rfl (zK 8 rfl (zc rfl (Jl (n:=n) J s P8) ?_))
 rintro v h' ⟨rfl,(⟨hh,rfl⟩|⟨i,f,hh,hf,rfl⟩)⟩
 ·have he:jV π n b aB=(18,π):=by simp only[jV,hh]
  rw[he]
  exact zk 10 rfl (zB rfl aA (rfl) (zk 7 rfl (WP.ret ⟨aa,_,rfl,rfl,s0⟩)))
 ·have he:jV π n b aB=(if bW b=false then(4,π) else(0,{ π with ag:=π.ag.set i { f with b:=cS b aB,changed:=true },cm:=cN n (kr π n aB,true) π.cm })):=by simp only[jV,hh,hf]
  rw[he]
  refine zk 10 rfl (zC rfl aA (rfl) (zk 7 rfl (zc rfl (Tj (n:=aB) J (s.ae [4]) hX hb) ?_)))
  rintro v h (⟨hg,u,rfl,s⟩|⟨hg,rfl,s⟩)
  ·rw[ay (by grind)]
   have hul:(cS b aB).length=512:=by
    grind[vu,fW,cS,cQ,cF]
   obtain⟨kD,_,cap,_,rfl,_⟩:=s.eZ (by omega)
   have s:=s.gP
   obtain⟨pre,fv,post,I,hlen,s⟩:=ic (s.ae [3]) hf
   refine zk 10 rfl (zC rfl aA (rfl) (zk 9 rfl (zf rfl (yM _ _) (zS rfl (s.stM (k:=0) (j:=1) rfl jR I hlen (by simp[fo]) rfl rfl) ?_))))
   intro h s
   refine zn rfl (zf rfl (C6 _ _) (zS rfl (s.stM (k:=0) (j:=4) rfl vZ I (by grind) (by simp[fo]) rfl rfl) ?_))
   intro h s
   have e5:((fo f fv).set 1 (.sl kD 0 (cS b aB).length cap)).set 4 (.bool true)=fo { f with b:=cS b aB,changed:=true } (.sl kD 0 (cS b aB).length cap):=rfl
   rw[e5] at s
   have s:=fD (i:=i) (f':={ f with b:=cS b aB,changed:=true }) (s.ae [0,0,1]) rfl hf I
   have s:=s.ae [3,4,0]
   refine zk 5 rfl (zY s 0 ru yI rfl (zm rfl ?_))
   rcases Jk (n:=n) (s.ae [1]) with⟨g1,g2,_⟩|⟨x,g1,g2,_⟩
   ·refine aq.op rfl rfl rfl (gx rfl rfl g2) ?_
    refine zk 3 rfl ?_
    refine aq.bG s rfl rfl rfl (bM yL) (fun p12 h s => ?_)
    refine zS rfl (s.fh (j:=0) rfl yK rfl rfl) (fun h s => ?_)
    refine zk 6 rfl (zo rfl (dB rfl rfl) (zk 4 rfl (zf rfl (C4 _ _) ?_)))
    refine zS rfl (by exact s.dL (k:=0) rfl od rfl (by decide) rfl rfl) (fun h s => ?_)
    refine zk 3 rfl (zf rfl (I7 _ _) ?_)
    refine zS rfl (by exact s.dL (k:=0) rfl vZ rfl (by decide) rfl rfl) (fun h s => ?_)
    refine zk 2 rfl (WP.drawn [af,af,af,af,af,af,af] rfl (by kernel_rfl) (by kernel_rfl) ?_)
    refine zM rfl (zN rfl (zF rfl (ru _ _) (zL rfl (s.ld (k:=1) rfl yI rfl) (zM rfl (zL rfl (s.cy (k:=0) rfl RS yK) (az.iR rfl rfl rfl (OpR.mapUpdate rfl rfl rfl rfl (kJ (f:=fun v (x:Nat×Bool)=>.pu (v=.agg [.int .u64 (x.1:Int),.bool x.2])) (x:=(aB,true)) (fun _ _=>aX.pu _) ((s.ae [2]).fH rfl) xb bz)) ?_))))))
    intro w h s
    refine az.nil ⟨⟨aa,aa,aa,aa,aa,aa,aa,aa⟩,?_⟩
    refine zK 4 rfl (WP.ret ⟨aa,_,rfl,?_⟩)
    have ed:kr π n aB=aB:=by simp only[kr,g1]
    rw[ed]
    refine⟨rfl,eT.2 ⟨cM,wh,di,?_⟩⟩
    have e6:(π.ag.set i { f with b:=cS b aB,changed:=true }).length=π.ag.length:=cY
    show Sat h (pt r (.cells 6 (oA p q cM (π.ag.set i { f with b:=cS b aB,changed:=true }).length wh di π.hand) false)::_)
    rw[e6]
    exact((s.ae [2,2,4,0,2]).del 6).del 5
   ·skip
    refine zo rfl (gx rfl rfl g2) (zk 3 rfl ?_)
    refine aq.bG s rfl rfl rfl (bM yL) (fun p12 h s => ?_)
    refine zS rfl (s.fh (j:=0) rfl yK rfl rfl) (fun h s => ?_)
    refine zk 6 rfl (zo rfl (dB rfl rfl) (zk 5 rfl (zf rfl (I7 _ _) ?_)))
    refine zS rfl (by exact s.dL (k:=0) rfl vZ rfl (by decide) rfl rfl) (fun h s => ?_)
    refine zk 2 rfl (WP.drawn [af,af,af,af,af,af,af] rfl (by kernel_rfl) (by kernel_rfl) ?_)
    refine zM rfl (zN rfl (zF rfl (ru _ _) (zL rfl (s.ld (k:=1) rfl yI rfl) (zM rfl (zL rfl (s.cy (k:=0) rfl RS yK) (az.iR rfl rfl rfl (OpR.mapUpdate rfl rfl rfl rfl (kJ (f:=fun v (x:Nat×Bool)=>.pu (v=.agg [.int .u64 (x.1:Int),.bool x.2])) (x:=(x.1,true)) (fun _ _=>aX.pu _) ((s.ae [2]).fH rfl) xb bz)) ?_))))))
    intro w h s
    refine az.nil ⟨⟨aa,aa,aa,aa,aa,aa,aa,aa⟩,?_⟩
    refine zK 4 rfl (WP.ret ⟨aa,_,rfl,?_⟩)
    have ed:kr π n aB=x.1:=by simp only[kr,g1]
    rw[ed]
    refine⟨rfl,eT.2 ⟨cM,wh,di,?_⟩⟩
    have e6:(π.ag.set i { f with b:=cS b aB,changed:=true }).length=π.ag.length:=cY
    show Sat h (pt r (.cells 6 (oA p q cM (π.ag.set i { f with b:=cS b aB,changed:=true }).length wh di π.hand) false)::_)
    rw[e6]
    exact((s.ae [2,2,4,0,2]).del 6).del 5
  ·rw[aF hg]
   exact zk 10 rfl (zB rfl aA (rfl) (zk 7 rfl (WP.ret ⟨aa,_,rfl,rfl,eT.2 ⟨cM,wh,di,s.ae [1,1,1,1,0]⟩⟩)))
theorem VM (hT:W told){n:Int}(s:Sat h (dM r p q π::S)): Call ⟨Tryz.prog,told⟩ 172 [.ptr r 0,.int .i64 n] h fun v h'=>v=.aI [.int .u64 (kr π n 0:Nat),.bool (lookL n π.cm).isSome]∧Sat h' (dM r p q π::S):=by
 obtain⟨cM,wh,di,s⟩:=eT.1 s
 refine Call.of_wp (hT.free _ rfl) Tryz.func172 rfl rfl (zK 9 rfl (zY s 0 ru yI rfl (zm rfl ?_)))
 rcases Jk (n:=n) (s.ae [3]) with⟨I,J,_⟩|⟨x,I,J,_⟩
 ·refine aq.op rfl rfl rfl (gx rfl rfl J) ?_
  refine zk 3 rfl ?_
  refine aq.bG s rfl rfl rfl (bM yL) (fun p6 h s => ?_)
  refine zS rfl (s.fh (j:=0) rfl yK rfl rfl) (fun h s => ?_)
  exact zk 4 rfl (zY s 0 C4 dD rfl (zk 4 rfl (WP.ret ⟨aa,_,rfl,by simp only[kr,I];rfl,eT.2 ⟨cM,wh,di,s.drop⟩⟩)))
 ·skip
  refine zo rfl (gx rfl rfl J) (zk 3 rfl ?_)
  refine aq.bG s rfl rfl rfl (bM yL) (fun p6 h s => ?_)
  refine zS rfl (s.fh (j:=0) rfl yK rfl rfl) (fun h s => ?_)
  exact zk 4 rfl (zY s 0 C4 dD rfl (zk 4 rfl (WP.ret ⟨aa,_,rfl,by simp only[kr,I];rfl,eT.2 ⟨cM,wh,di,s.drop⟩⟩)))
def dX : Fm:=⟨-1,[],0,false,false⟩
def cW (π:Pl)(i:Nat)(f:Fm): Pl:={ π with ag:=π.ag.set i dX,bD:=if f.aY<0 then π.bD else ko f.aY π.bD }
def ir (π:Pl)(i:Nat)(n:Int)(b:List Nat): Pl:={ π with ag:=π.ag.set i ⟨n,b,1,true,false⟩,bD:=cN n (i:Int) π.bD }
inductive fc (ε:bA)(n:Int): Int→List Nat→bA→Prop where
 |arg (h:¬(0≤n∧n<ε.2.2.bu.length)):fc ε n 1 [] ε
 |BM (i:Nat) (f:Fm) (h1:0≤n) (h2:n<ε.2.2.bu.length) (hl:lookL n ε.1.bD=some (i:Int)) (hf:ε.1.ag[i]?=some f):fc ε n 0 f.b ({ ε.1 with ag:=ε.1.ag.set i { f with eS:=true,pins:=f.pins+1 } },ε.2)
 |out (bO:Pl) (i:Nat) (f:Fm) (h1:0≤n) (h2:n<ε.2.2.bu.length) (hl:lookL n ε.1.bD=none) (hn:fb ε.1 bO) (hf:bO.ag[i]?=some f) (hh:bO.hand<bO.ag.length) (he:(outF (bO,ε.2) i).1≠0):fc ε n (outF (bO,ε.2) i).1 [] (outF (bO,ε.2) i).2
 |read (bO:Pl) (i:Nat) (f:Fm) (h1:0≤n) (h2:n<ε.2.2.bu.length) (hl:lookL n ε.1.bD=none) (hn:fb ε.1 bO) (hf:bO.ag[i]?=some f) (hh:bO.hand<bO.ag.length) (he:(outF (bO,ε.2) i).1=0)
   (hr:(outF (bO,ε.2) i).2.2.2.pN n≠0):fc ε n ((outF (bO,ε.2) i).2.2.2.pN n) [] (cW (outF (bO,ε.2) i).2.1 i f,(outF (bO,ε.2) i).2.2)
 |bad (bO:Pl) (i:Nat) (f:Fm) (h1:0≤n) (h2:n<ε.2.2.bu.length) (hl:lookL n ε.1.bD=none) (hn:fb ε.1 bO) (hf:bO.ag[i]?=some f) (hh:bO.hand<bO.ag.length) (he:(outF (bO,ε.2) i).1=0)
   (hr:(outF (bO,ε.2) i).2.2.2.pN n=0) (hc:gH ((outF (bO,ε.2) i).2.2.2.at n)≠0):fc ε n (gH ((outF (bO,ε.2) i).2.2.2.at n)) [] (cW (outF (bO,ε.2) i).2.1 i f,(outF (bO,ε.2) i).2.2)
 |load (bO:Pl) (i:Nat) (f:Fm) (h1:0≤n) (h2:n<ε.2.2.bu.length) (hl:lookL n ε.1.bD=none) (hn:fb ε.1 bO) (hf:bO.ag[i]?=some f) (hh:bO.hand<bO.ag.length) (he:(outF (bO,ε.2) i).1=0)
   (hr:(outF (bO,ε.2) i).2.2.2.pN n=0) (hc:gH ((outF (bO,ε.2) i).2.2.2.at n)=0):fc ε n 0 ((outF (bO,ε.2) i).2.2.2.at n) (ir (cW (outF (bO,ε.2) i).2.1 i f) i n ((outF (bO,ε.2) i).2.2.2.at n),(outF (bO,ε.2) i).2.2)
theorem Av (h:ε.2.2.Ok): (outF ε i).2.2.2.Ok:=by
 unfold outF
 split
 ·exact h
 ·split
  ·exact h
  ·split
   ·exact h
   ·split
    ·exact oz h
    ·split
     ·exact(oz h).cV
     ·exact(oz h).cV
theorem P9 (h:ε.2.1.Ok): (outF ε i).2.2.1.Ok:=by
 grind[outF,zZ]
theorem mw {ε:bA}{i:Nat}{f:Fm}(I:ε.1.ag[i]?=some f): ∃c,(outF ε i).2.1.ag[i]?=some { f with changed:=c }:=by
 have J:=(List.getElem?_eq_some_iff.1 I).1
 unfold outF
 rw[I]
 dsimp only
 split
 ·exact⟨f.changed,I⟩
 ·split
  ·exact⟨f.changed,I⟩
  ·split
   ·exact⟨f.changed,I⟩
   ·split
    ·exact⟨f.changed,I⟩
    simp_all
theorem Nj (hT:W told){n:Int}(s:Sat h (dM r p q π::bQ q p μ::bw p δ::S))(P8:π.Ok)(P7:∀f∈π.ag,f.pins=0)(BK:μ.Ok)(P0:δ.Ok)(hw:δ.waiting.length≤268435456):
  Call ⟨Tryz.prog,told⟩ 94 [.ptr r 0,.int .i64 n] h fun v h'=>∃(e:Int) (b:List Nat) (ε:bA),fc (π,μ,δ) n e b ε ∧
   ((e≠0∧v=.aI [.aO,.int .i64 e]∧Sat h' (dM r p q ε.1::bQ q p ε.2.1::bw p ε.2.2::S))∨(e=0∧∃u,v=.aI [u,.int .i64 0]∧Sat h' (aW u b::dM r p q ε.1::bQ q p ε.2.1::bw p ε.2.2::S))):=by
 have s0:=s
 obtain⟨cM,wh,di,s⟩:=eT.1 s
 refine Call.of_wp (hT.free _ rfl) Tryz.func94 rfl rfl (zK 9 rfl ?_)
 refine zd rfl (ak rfl rfl aJ) ?_ ?_
 ·intro hq
  have hq:n<0:=by grind
  exact zk 16 rfl (WP.ret ⟨aa,_,rfl,1,[],(π,μ,δ),.arg (fun q=>by omega),.inl ⟨by decide,rfl,s0⟩⟩)
 ·intro hq
  have hq:0≤n:=by grind
  refine zk 4 rfl (zY s 0 yJ rT rfl (zc rfl (As hT (s.ae [5])) ?_))
  rintro v h' ⟨rfl,rfl⟩
  refine zd rfl (ak rfl rfl jQ) ?_ ?_
  ·intro jl
   have jl:¬ n<δ.bu.length:=by grind
   exact zk 8 rfl (WP.ret ⟨aa,_,rfl,1,[],(π,μ,δ),.arg (fun q=>jl q.2),.inl ⟨by decide,rfl,s0⟩⟩)
  ·intro jl
   have jl:n<δ.bu.length:=by grind
   refine zk 9 rfl (zY s 0 uH Bu rfl (zm rfl ?_))
   rcases Jj (n:=n) (j:=0) (s.ae [2]) with⟨g1,g2⟩|⟨i,g1,g2⟩
   ·refine aq.op rfl rfl rfl (gx rfl rfl g2) ?_
    refine zk 15 rfl (zc rfl (P6 hT s P8.hand (by have:=P8.many;omega) P7) ?_)
    rintro v h ⟨i,bO,f,rfl,oB,hf,hh,s⟩
    have hl:=(List.getElem?_eq_some_iff.1 hf).1
    rw[←oB.bD,←oB.cm] at s
    have hfb:f.b.length≤512:=by
     have h1:π.ag[i]?=some (π.ag[i]'(by have:=oB.len;omega)):=bp _
     generalize (π.ag[i]'(by grind))=f0 at h1
     obtain⟨t,ht⟩:=oB.get i f0 h1
     rw[hf] at ht
     have:=cx ht
     rw[this]
     exact P8.len f0 (bI h1)
    refine zk 6 rfl (zC rfl aJ (by rfl) ?_)
    refine zk 7 rfl (zY s 0 kj om rfl (zm rfl (zo rfl (cu rfl rfl (lT (i:=i) hl)) (zk 7 rfl (zc rfl (VI (π:=bO) hT s hf BK P0 (by omega) hw) ?_)))))
    rintro v h ⟨rfl,s⟩
    obtain⟨c,BN⟩:=mw (ε:=(bO,μ,δ)) hf
    have Db:=Av (ε:=(bO,μ,δ)) (i:=i) P0
    refine zk 5 rfl ?_
    by_cases he:(outF (bO,μ,δ) i).1=0
    ·generalize ho:outF (bO,μ,δ) i=o at he s BN Db ⊢
     obtain⟨oe,I,μ1,xy⟩:=o
     dsimp only at he s BN Db ⊢
     subst he
     have Jm:(outF (bO,μ,δ) i).1=0:=by rw[ho]
     have D3:(outF (bO,μ,δ) i).2=(I,μ1,xy):=by rw[ho]
     refine zC rfl aA (by decide) ?_
     obtain⟨pre,fv,post,J,hlen,s⟩:=ic (s.ae [1]) BN
     refine zk 8 rfl (zf rfl (nL _ _) (zl rfl (s.ld (k:=0) rfl ep (gM J rfl)) ?_))
     refine zd rfl (ak rfl rfl jQ) ?_ ?_
     ·intro gd
      have gd:¬ f.aY<0:=by grind
      refine zk 2 rfl (WP.drawn [af,af,af,af,af,af,af,af,af] rfl (by kernel_rfl) (by kernel_rfl) ?_)
      refine zM rfl (zN rfl (zF rfl (uH _ _) (zL rfl (s.ld (k:=3) rfl Bu rfl) (zM rfl (zN rfl (zF rfl (nL _ _) (zL rfl (s.ld (k:=0) rfl ep (gM J rfl)) (az.iR rfl rfl rfl (OpR.delete rfl rfl rfl rfl (Ap (s.ae [4]) By bz)) ?_))))))))
      intro v h s
      have s:=s.ae [1,1,1,1,0]
      refine az.nil ⟨⟨aa,aa,aa,aa,aa,aa,aa,aa,aa,aa⟩,?_⟩
      refine zK 3 rfl (zo rfl (b_ rfl (by rw[EP];rfl)) ?_)
      refine zn rfl (zS rfl (s.Gc (k:=0) (row':=fo dX .aO) rfl Bv J hlen (by rfl) rfl) ?_)
      intro h s
      have BO:(pre++(fo dX .aO++post)).length=I.ag.length*5:=by simpa[fo] using hlen
      have rP:(cW I i f).bD=ko f.aY I.bD:=by grind[cW]
      refine zk 5 rfl (zY s 3 yJ rT rfl (zm rfl (zc rfl (Ni (n:=n) hT (s.ae [7]) Db) ?_)))
      rintro v h (⟨hr,rfl,s⟩|⟨hr,u,rfl,s⟩)
      ·dsimp only[bringA,getA,aC] at s
       refine zk 10 rfl (zB rfl aA (by grind) ?_)
       refine zk 8 rfl (WP.ret ⟨aa,_,rfl,?_⟩)
       have s:=fD (i:=i) (f':=dX) (v':=.aO) (s.qH.ae [2,2,0]) rfl BN J
       have e6:(I.ag.set i dX).length=I.ag.length:=cY
       rw[←e6,←rP] at s
       have s:=(eT (π:=cW I i f)).2 ⟨cM,wh,di,s.ae [3,0,2,2]⟩
       have hR:=fc.read (ε:=(π,μ,δ)) bO i f hq jl g1 oB hf hh Jm (by grind)
       rw[D3] at hR
       exact⟨_,[],_,hR,.inl ⟨hr,rfl,(s.del 2).ae [0,1,0]⟩⟩
      ·have XX:=Db.at n
       obtain⟨kD,_,cap,_,rfl,_⟩:=s.eZ (by omega)
       refine zk 10 rfl (zC rfl aA (rfl) (zk 7 rfl (zc rfl (F7 hT s (aU _ _) (by omega)) ?_)))
       rintro v h ⟨rfl,s⟩
       refine zk 5 rfl ?_
       by_cases hc:gH (xy.at n)=0
       ·skip
        refine zC rfl aA (by grind) ?_
        have s:=s.gP.ae [2,2,0,2,2,2,2,0,0]
        refine zk 8 rfl (zo rfl (b_ rfl (by rw[EP];rfl)) ?_)
        refine zn rfl (zS rfl (s.Gc (k:=0) (row':=fo ⟨n,xy.at n,1,true,false⟩ (.sl kD 0 (xy.at n).length cap)) rfl Bv J BO (by rfl) rfl) ?_)
        intro h s
        refine zk 5 rfl (zY s 3 uH Bu rfl (zk 2 rfl (aq.iR rfl rfl (OpR.mapUpdate rfl rfl rfl rfl (kJ (f:=fun v (x:Int)=>.pu (v=.int .i64 x)) (x:=(i:Int)) (fun _ _=>aX.pu _) ((s.ae [4]).fH rfl) By bz)) ?_)))
        intro w h s
        refine zk 4 rfl (zc rfl (vt hT (s.ae [3]) (eC _ _) (by omega)) ?_)
        intro u h s
        refine zk 3 rfl (WP.ret ⟨aa,_,rfl,?_⟩)
        have s:=fD (i:=i) (f':=⟨n,xy.at n,1,true,false⟩) (s.ae [3,3,1]) rfl BN J
        have e6:(I.ag.set i ⟨n,xy.at n,1,true,false⟩).length=I.ag.length:=cY
        have e7:(ir (cW I i f) i n (xy.at n)).ag=I.ag.set i ⟨n,xy.at n,1,true,false⟩:=by simp[ir,cW]
        rw[←e6,←e7,←rP] at s
        have s:=(eT (π:=ir (cW I i f) i n (xy.at n))).2 ⟨cM,wh,di,s.ae [3,0,1,1]⟩
        have hR:=fc.load (ε:=(π,μ,δ)) bO i f hq jl g1 oB hf hh Jm (by grind) (by grind)
        rw[D3] at hR
        exact⟨_,_,_,hR,.inr ⟨rfl,u,rfl,(s.del 4).ae [1,0]⟩⟩
       ·skip
        refine zB rfl aA (by grind) ?_
        refine zk 8 rfl (WP.ret ⟨aa,_,rfl,?_⟩)
        have s:=s.drop
        have s:=fD (i:=i) (f':=dX) (v':=.aO) (s.qH.ae [2,2,0]) rfl BN J
        dsimp only[bringA,getA,aC] at s
        have e6:(I.ag.set i dX).length=I.ag.length:=cY
        rw[←e6,←rP] at s
        have s:=(eT (π:=cW I i f)).2 ⟨cM,wh,di,s.ae [3,0,2,2]⟩
        dsimp only[bringA,getA,aC] at s
        have hR:=fc.bad (ε:=(π,μ,δ)) bO i f hq jl g1 oB hf hh Jm (by grind) (by grind)
        rw[D3] at hR
        exact⟨_,[],_,hR,.inl ⟨hc,rfl,(s.del 2).ae [0,1,0]⟩⟩
     ·intro gd
      have gd:f.aY<0:=by grind
      refine zk 6 rfl (zo rfl (b_ rfl (by rw[EP];rfl)) ?_)
      refine zn rfl (zS rfl (s.Gc (k:=0) (row':=fo dX .aO) rfl Bv J hlen (by rfl) rfl) ?_)
      intro h s
      dsimp only[setA] at s
      have BO:(pre++(fo dX .aO++post)).length=I.ag.length*5:=by simpa[fo] using hlen
      have rP:(cW I i f).bD=I.bD:=by grind[cW]
      refine zk 5 rfl (zY s 3 yJ rT rfl (zm rfl (zc rfl (Ni (n:=n) hT (s.ae [7]) Db) ?_)))
      rintro v h (⟨hr,rfl,s⟩|⟨hr,u,rfl,s⟩)
      ·dsimp only[bringA,getA,aC] at s
       refine zk 10 rfl (zB rfl aA (by grind) ?_)
       refine zk 8 rfl (WP.ret ⟨aa,_,rfl,?_⟩)
       have s:=fD (i:=i) (f':=dX) (v':=.aO) (s.qH.ae [2,2,0]) rfl BN J
       dsimp only[bringA,getA,aC] at s
       have e6:(I.ag.set i dX).length=I.ag.length:=cY
       rw[←e6,←rP] at s
       have s:=(eT (π:=cW I i f)).2 ⟨cM,wh,di,s.ae [3,0,2,2]⟩
       dsimp only[bringA,getA,aC] at s
       have hR:=fc.read (ε:=(π,μ,δ)) bO i f hq jl g1 oB hf hh Jm (by grind)
       rw[D3] at hR
       exact⟨_,[],_,hR,.inl ⟨hr,rfl,(s.del 2).ae [0,1,0]⟩⟩
      ·have XX:=Db.at n
       obtain⟨kD,_,cap,_,rfl,_⟩:=s.eZ (by omega)
       refine zk 10 rfl (zC rfl aA (rfl) (zk 7 rfl (zc rfl (F7 hT s (aU _ _) (by omega)) ?_)))
       rintro v h ⟨rfl,s⟩
       refine zk 5 rfl ?_
       by_cases hc:gH (xy.at n)=0
       ·skip
        refine zC rfl aA (by grind) ?_
        have s:=s.gP.ae [2,2,0,2,2,2,2,0,0]
        dsimp only[bringA,getA,aC] at s
        refine zk 8 rfl (zo rfl (b_ rfl (by rw[EP];rfl)) ?_)
        refine zn rfl (zS rfl (s.Gc (k:=0) (row':=fo ⟨n,xy.at n,1,true,false⟩ (.sl kD 0 (xy.at n).length cap)) rfl Bv J BO (by rfl) rfl) ?_)
        intro h s
        dsimp only[setA] at s
        refine zk 5 rfl (zY s 3 uH Bu rfl (zk 2 rfl (aq.iR rfl rfl (OpR.mapUpdate rfl rfl rfl rfl (kJ (f:=fun v (x:Int)=>.pu (v=.int .i64 x)) (x:=(i:Int)) (fun _ _=>aX.pu _) ((s.ae [4]).fH rfl) By bz)) ?_)))
        intro w h s
        dsimp only[bringA,getA,aC] at s
        refine zk 4 rfl (zc rfl (vt hT (s.ae [3]) (eC _ _) (by omega)) ?_)
        intro u h s
        dsimp only[bringA,getA,aC] at s
        refine zk 3 rfl (WP.ret ⟨aa,_,rfl,?_⟩)
        have s:=fD (i:=i) (f':=⟨n,xy.at n,1,true,false⟩) (s.ae [3,3,1]) rfl BN J
        dsimp only[bringA,getA,aC] at s
        have e6:(I.ag.set i ⟨n,xy.at n,1,true,false⟩).length=I.ag.length:=cY
        have e7:(ir (cW I i f) i n (xy.at n)).ag=I.ag.set i ⟨n,xy.at n,1,true,false⟩:=by simp[ir,cW]
        rw[←e6,←e7,←rP] at s
        have s:=(eT (π:=ir (cW I i f) i n (xy.at n))).2 ⟨cM,wh,di,s.ae [3,0,1,1]⟩
        dsimp only[bringA,getA,aC] at s
        have hR:=fc.load (ε:=(π,μ,δ)) bO i f hq jl g1 oB hf hh Jm (by grind) (by grind)
        rw[D3] at hR
        exact⟨_,_,_,hR,.inr ⟨rfl,u,rfl,(s.del 4).ae [1,0]⟩⟩
       ·skip
        refine zB rfl aA (by grind) ?_
        refine zk 8 rfl (WP.ret ⟨aa,_,rfl,?_⟩)
        have s:=s.drop
        have s:=fD (i:=i) (f':=dX) (v':=.aO) (s.qH.ae [2,2,0]) rfl BN J
        dsimp only[bringA,getA,aC] at s
        have e6:(I.ag.set i dX).length=I.ag.length:=cY
        rw[←e6,←rP] at s
        have s:=(eT (π:=cW I i f)).2 ⟨cM,wh,di,s.ae [3,0,2,2]⟩
        dsimp only[bringA,getA,aC] at s
        have hR:=fc.bad (ε:=(π,μ,δ)) bO i f hq jl g1 oB hf hh Jm (by grind) (by grind)
        rw[D3] at hR
        exact⟨_,[],_,hR,.inl ⟨hc,rfl,(s.del 2).ae [0,1,0]⟩⟩
    ·skip
     refine zB rfl aA (by grind) ?_
     exact zk 8 rfl (WP.ret ⟨aa,_,rfl,_,[],_,.out bO i f hq jl g1 oB hf hh he,.inl ⟨he,rfl,eT.2 ⟨cM,wh,di,s⟩⟩⟩)
   ·obtain⟨i,f,rfl,hf⟩:=P8.at g1
    have hl:=(List.getElem?_eq_some_iff.1 hf).1
    obtain⟨pre,fv,post,J,hlen,s⟩:=ic (s.ae [1]) hf
    have oJ:=P7 f (bI hf)
    have RC:=P8.len f (bI hf)
    refine zo rfl (gx rfl rfl g2) (zk 15 rfl (zY s 3 kj om rfl (zm rfl (zo rfl (cu rfl rfl (lT (i:=i) hl)) (zk 6 rfl (zf rfl (C5 _ _) (zS rfl (s.stM (k:=0) (j:=3) rfl vZ J hlen (by simp[fo]) rfl rfl) ?_)))))))
    intro h s
    dsimp only[setA] at s
    refine zk 5 rfl (zf rfl (o7 _ _) (zl rfl (s.ld (k:=0) rfl ep (gM J rfl)) (zb rfl (by exact aR (ax (by omega) (by omega))) ?_)))
    refine zn rfl (zf rfl (o7 _ _) (zS rfl (s.stM (k:=0) (j:=2) rfl nE J (by grind) (by simp[fo]) rfl rfl) ?_))
    intro h s
    have e5:((fo f fv).set 3 (.bool true)).set 2 (.int .i64 (f.pins+1))=fo { f with eS:=true,pins:=f.pins+1 } fv:=rfl
    rw[e5] at s
    refine zk 5 rfl (zf rfl (yM _ _) (zl rfl (s.ld (k:=0) rfl bX (gM J rfl)) (zc rfl (vt hT (s.ae [2]) (eC _ _) (by omega)) ?_)))
    intro u h s
    refine zk 3 rfl (WP.ret ⟨aa,_,rfl,?_⟩)
    have s:=fD (i:=i) (f':={ f with eS:=true,pins:=f.pins+1 }) (s.ae [2,2,1]) rfl hf J
    refine⟨0,f.b,_,.BM i f hq jl g1 hf,.inr ⟨rfl,u,rfl,?_⟩⟩
    have e6:(π.ag.set i { f with eS:=true,pins:=f.pins+1 }).length=π.ag.length:=cY
    rw[←e6] at s
    exact((eT (π:={ π with ag:=π.ag.set i { f with eS:=true,pins:=f.pins+1 } })).2 ⟨cM,wh,di,s.ae [2,0,1,1]⟩).ae [1,0]
end
def BP : Fm:=⟨0,[],0,false,false⟩
def Pl.fresh (n:Nat): Pl:=⟨List.replicate n dX,[],[],0⟩
theorem Ts : ∃i,Tryz.prog.info? 230=some i∧i.size=5∧i.bytes=48 :=
 ⟨_,(show Tryz.prog.info? 230=some ((Tryz.prog.info? 230).getD default) by kernel_rfl),by kernel_rfl,by kernel_rfl⟩
theorem P_ {a b:PM}: ∀n:Nat,(r_ (repeatL [.int .i64 0,.aO,.int .i64 0,.bool false,.bool false] n) (List.replicate n BP)).p a b:=by
 intro n
 induction n with
 |zero=>trivial
 |succ n I=>exact⟨⟨⟨rfl,rfl,rfl,rfl⟩,⟨(by intro b J;cases J),.inl ⟨.inl rfl,rfl⟩⟩⟩,I⟩
section
variable {told:cE} {p:Nat} {v:V} {m:List Fm}
noncomputable def pnL : Code:=c6 [1,1,1,0,1,0,0] ((Tryz.f64.body).getD .skip)
theorem Nk (hn:n<4294967296): ∀(j i:Nat) (m:List Fm) (h:H) (E:List (Nat×V)) (Q:Ex→List (Nat×V)→H→Prop),i+j=n→m=List.replicate i dX++List.replicate j BP →
  Sat h (pt r (.cells 6 (oA p q cM n wh di 0) false)::dU cM m::S)→Has E [(8,.ptr r 0),(28,.int .i64 n),(29,.int .i64 i)] →
  (∀E' h',Has E' [(8,.ptr r 0)]→Sat h' (pt r (.cells 6 (oA p q cM n wh di 0) false)::dU cM (List.replicate n dX)::S)→Q (.exit 0) E' h')→WP ⟨Tryz.prog,told⟩ 41 (.loop pnL) E h Q:=by
 intro j
 induction j with
 |zero =>
  intro i m h E Q hi hm s J hx
  refine WP.loop (WP.has J (zg rfl (zC rfl aJ (by simp<;>omega) ?_)))
  refine zk 3 rfl (WP.exit (hx _ _ ⟨rfl,aa⟩ ?_))
  rw[hm] at s
  have:i=n:=by omega
  subst this
  simpa using s
 |succ j ih =>
  intro i m h E Q hi hm s J hx
  have R7:m.length=n:=by rw[hm];simp;omega
  have hf:m[i]?=some BP:=by rw[hm,tN (by simp)];simp[Ck]
  obtain⟨pre,fv,post,I,hlen,s⟩:=ic (s.ae [1]) hf
  dsimp only[bringA,getA,aC] at s
  refine WP.loop (WP.has J (zg rfl (zB rfl aJ (by simp<;>omega) ?_)))
  refine zk 5 rfl (WP.block (zK 8 rfl (zY s 3 kj om rfl (zm rfl (zo rfl (cu rfl rfl (lT (i:=i) (by omega))) ?_)))))
  refine zf rfl (nL _ _) (zS rfl (s.stM (k:=0) (j:=0) rfl nE I hlen (by simp[fo]) rfl rfl) ?_)
  intro h s
  dsimp only[setA] at s
  have e5:(fo BP fv).set 0 (.int .i64 (-1))=fo dX fv:=rfl
  rw[e5] at s
  refine zv (zr rfl (zb rfl (by exact aR (ax (by omega) (by omega))) ?_))
  refine zm rfl (zv ?_)
  have s:=fD (i:=i) (f':=dX) s rfl hf I
  refine ih (i+1) (m.set i dX) h _ Q (by omega) ?_ (s.ae [1,0]) ⟨rfl,rfl,rfl,aa⟩ hx
  rw[hm,List.set_append_right _ _ (by simp),gi,yg,Ck,List.set_cons_zero,List.replicate_succ',cX]
  rfl
theorem Tt (hT:W told){n:Int}(s:Sat h S): Call ⟨Tryz.prog,told⟩ 64 [.ptr p 0,.ptr q 0,.int .i64 n] h fun v h' =>
  (¬(1≤n∧n≤1024)∧v=.aI [.a_,.int .i64 1]∧Sat h' S)∨(1≤n∧n≤1024∧∃r,v=.aI [.ptr r 0,.int .i64 0]∧Sat h' (dM r p q (Pl.fresh n.toNat)::S)):=by
 refine Call.of_wp (hT.free _ rfl) Tryz.func64 rfl rfl (zK 9 rfl ?_)
 refine zd rfl (ak rfl rfl aJ) ?_ ?_
 ·intro J
  have J:n<1:=by simpa using J
  exact zk 11 rfl (WP.ret ⟨aa,_,rfl,.inl ⟨fun q=>by omega,rfl,s⟩⟩)
 ·intro J
  have J:1≤n:=by simp at J;omega
  refine zk 2 rfl ?_
  refine zd rfl (ak rfl rfl fI) ?_ ?_
  ·intro I
   have I:1024<n:=by simpa using I
   exact zk 8 rfl (WP.ret ⟨aa,_,rfl,.inl ⟨fun q=>by omega,rfl,s⟩⟩)
  ·intro I
   have I:n≤1024:=by simp at I;omega
   obtain⟨n,rfl⟩:∃k:Nat,n=k:=⟨n.toNat,by omega⟩
   refine zk 9 rfl ?_
   obtain⟨i1,mB,kE,xm⟩:=Ts
   obtain⟨id,h1,e1,s1⟩:=DT (P:=Tryz.prog) s xh mB XH kE (by omega) rfl (by decide) (n:=n) (by omega)
   refine aq.any rfl rfl rfl (OpR.of (R:=fun v h'=>v=.sl id 0 n (.exact n)∧h'=h1) (yy rfl rfl e1) ⟨rfl,rfl⟩) ?_
   rintro v h ⟨rfl,rfl⟩
   have s:Sat h (dU id (List.replicate n BP)::S):=ja.2 ⟨_,by rw[gi];exact((s1.fH (φ:=True) aa).gO fun a b _=>P_ n).ae [1]⟩
   refine aq.w8 s rfl rfl rfl rfl (fun p20 h s => ?_)
   refine aq.w8 s rfl rfl rfl rfl (fun Y2 h s => ?_)
   refine zo rfl (b_ rfl (by rw[XE];rfl)) ?_
   refine aq.bG s rfl rfl rfl (dc rfl rfl) (fun p23 h s => ?_)
   refine zk 7 rfl (zY s 0 kj om rfl (zo rfl (aQ rfl rfl rfl (o9 rfl xh)) (zk 2 rfl (WP.block ?_))))
   have s:=pq (f:=fun v (x:Nat×Bool)=>.pu (v=.agg [.int .u64 (x.1:Int),.bool x.2])) (s.ae [1])
   have s:=pq (f:=fun v (x:Int)=>.pu (v=.int .i64 x)) (s.ae [2])
   have s:=s.ae [2,2,0,0]
   refine Nk (n:=n) (by omega) n 0 _ _ _ _ (by omega) rfl s ⟨rfl,rfl,rfl,aa⟩ (fun E' h' eF s' => ?_)
   refine WP.has eF (zK 6 rfl (WP.ret ⟨aa,_,rfl,?_⟩))
   refine .inr ⟨J,I,_,rfl,(eT (π:=Pl.fresh n)).2 ⟨id,.map p20,.map Y2,?_⟩⟩
   have e6:(Pl.fresh n).ag.length=n:=by simp[Pl.fresh]
   rw[e6]
   exact s'
end
theorem Nl : ∀ {l:dP} {b:Nat},iD c b l→bornUp c b (l.map MS)=true:=by
 intro l
 induction l with
 |nil=>intro b _;rfl
 |cons e l I =>
  intro b h
  obtain⟨J,h2,h3⟩:=h
  simp only[ey,MS,i_,bornUp]
  rw[show(Nat.ble b e.2.2&&Nat.blt e.2.2 c)=true by rw[bC,aG];exact⟨J,by rw[Nat.blt];exact aG.2 h2⟩,ai]
  exact I h3
theorem K1 : ∀ {l:dP},(∀e∈l,(Lit.int .i64 e.1).wf=true)→keyInts (l.map MS)=some (l.map (·.1)):=by
 intro l
 induction l with
 |nil=>intro _;rfl
 |cons e l I =>
  intro h
  simp only[ey,MS,i_,keyInts]
  rw[h e dJ,ai]
  have:=I (fun e he=>h e (dh _ he))
  rw[this]
theorem Ia {x:Int}: ∀ {l:List Int},l.Pairwise (· < ·)→x∉l→(insI x l).Pairwise (· < ·):=by
 intro l
 induction l with
 |nil=>intro _ _;simp[insI]
 |cons y l ih =>
  intro h hx
  simp only[tV,gY,not_or] at h hx
  simp only[insI]
  by_cases J:x≤y
  ·rw[ew J,ai]
   have:x<y:=by omega
   simp only[tV,gY]
   refine⟨fun z I => ?_,h⟩
   rcases I with rfl|I
   ·exact this
   ·have:=h.1 z I;omega
  ·rw[fg J,aK]
   simp only[tV]
   refine⟨fun z I => ?_,ih h.2 hx.2⟩
   have:=(wU x l).mem_iff.1 I
   rcases List.mem_cons.1 this with rfl|I
   ·omega
   ·exact h.1 z I
theorem Ib : ∀ {l:List Int},l.Nodup→(lz l).Pairwise (· < ·):=by
 intro l
 induction l with
 |nil=>intro _;exact List.Pairwise.nil
 |cons x l I =>
  intro h
  simp only[Cx] at h
  exact Ia (I h.2) (fun J=>h.1 ((e_ l).mem_iff.1 J))
theorem Qa : ∀ {l:List Int},l.Pairwise (· < ·)→pU l=true:=by
 intro l
 induction l with
 |nil=>intro _;rfl
 |cons x l I =>
  intro h
  simp only[tV] at h
  simp only[pU,bC,tX,gn]
  exact⟨h.1,I h.2⟩
section
variable {f:V→α→aE} {told:cE} {mv:V} {m:List (Int×α)} {b:Nat}
def c9 (m:List (Int×α)): List Int:=lz (m.map (·.1))
theorem jJ {n:Int}: n∈c9 m↔n∈m.map (·.1):=(e_ _).mem_iff
theorem Qb (l:List Int): (dO l).all storable=true:=by simp[dO,storable]
theorem xz (hT:W told)(s:Sat h (pt b (.cells 1 [mv] false)::pn f mv m::S))(hg:uZ yP g=true)(hm:m.length≤1048576)(hk:∀n∈m.map (·.1),(Lit.int .i64 n).wf=true):
  Call ⟨Tryz.prog,told⟩ 106 [.fn (.func g) [] [.ptr b 0]] h fun v h'=>Sat h' (.arr 1 v (dO (c9 m))::pt b (.cells 1 [mv] false)::pn f mv m::S):=by
 obtain⟨id,l,c,rfl,hb,hn,s1⟩:=pX.1 (s.ae [1])
 have s1:Sat h (FL id l c::f_ f l m::pt b (.cells 1 [.map id] false)::S):=s1
 obtain⟨q1,q2,q3,q4,q5⟩:=s1.at (k:=1) rfl
 have I:=vr q5
 have hlen:l.length=m.length:=by have:=iA List.length I;simpa using this
 have An:=s1.row (k:=0) rfl
 have aad:=s1.row (k:=2) rfl
 have kB:∀e∈l,(Lit.int .i64 e.1).wf=true:=fun e he=>hk e.1 (by rw[←I];exact Cl he)
 have hri:pU (lz (l.map (·.1)))=true:=Qa (Ib (by rw[I];exact hn))
 have J:∃v h',toldSorted yP [.fn (.func g) [] [.ptr b 0]] h=some (v,h')∧Sat h' (.arr 1 v (dO (c9 m))::pt b (.cells 1 [.map id] false)::pn f (.map id) m::S):=by
  simp only[toldSorted,aad,An,fE,hg,Nl hb,K1 kB,hri]
  rw[show(Nat.beq 1 1&&true&&true&&Nat.ble l.length 1048576)=true by rw[aG.2 (by omega)];rfl,ai]
  simp only[ai]
  cases hl:l.map (·.1) with
  |nil =>
   refine⟨_,_,rfl,?_⟩
   have:c9 m=[]:=by rw[c9,←I,hl];rfl
   rw[this]
   exact s.ot
  |cons x xs =>
   refine⟨_,_,rfl,?_⟩
   have e1:c9 m=lz (x::xs):=by rw[c9,←I,hl]
   have e2:(lz (x::xs)).length=(x::xs).length:=(e_ _).length_eq
   have e3:(x::xs).length=l.length:=by rw[←hl,fE]
   rw[e1,←e3]
   refine(s.new (.cells (dO (lz (x::xs))).length (dO (lz (x::xs))) false)).gO fun a r DF=>⟨Qb _,.inr ⟨h.next,(x::xs).length,.rest 1 0,(dO (lz (x::xs))).length,[],rfl,?_,?_,by simp,rfl,rfl,rfl,rfl,by simp⟩⟩
   ·rw[iw];exact DF
   ·simp only[dO,fE,e2,iz]
 obtain⟨v,h',e1,e2⟩:=J
 exact⟨v,h',gD.told hT.sorted Tryz.func106 rfl e1,e2⟩
end
structure xA (ε:bA): Prop where
 pl:ε.1.Ok
 lg:ε.2.1.Ok
 dk:ε.2.2.Ok
theorem Qc (h:ε.1.Ok): (outF ε i).2.1.Ok:=by
 unfold outF
 split
 ·exact h
 ·rename_i f J
  have hm:=bI J
  split
  ·exact h
  ·split
   ·exact h
   ·split
    ·exact h
    ·split
     ·exact h
     ·refine⟨by simp only[cY];exact h.hand,by simp only[cY];exact h.many,fun e he=>by simp only[cY];exact h.bD e he,fun g I => ?_,fun g I => ?_⟩
      ·rcases nh I with I|rfl
       ·exact h.len g I
       ·exact h.len f hm
      ·rcases nh I with I|rfl
       ·exact h.pins g I
       ·exact h.pins f hm
theorem vy (h:xA ε): xA (outF ε i).2:=⟨Qc h.pl,P9 h.lg,Av h.dk⟩
theorem Ic {n:Int}: (δ.cV n b).2.waiting.length≤δ.waiting.length+1:=by
 unfold Dk.cV
 split
 ·exact qT _
 ·split
  ·exact qT _
  ·split
   ·exact qT _
   ·exact Nat.le_of_eq (by simp[Dk.wr])
def Ge (aj:Nat)(Q:Ex→List (Nat×V)→H→Prop)(c:Ctx)(a:Act)(w:World)(e:Exit)(J:Act)(w':World): Prop :=
 ∃ex I h' E',e=exOf ex∧gS I E'∧Q ex E' h'∧J.defers=a.defers∧∃c',Rel c' h' w'∧cO c' I aj J∧bT c w c' w'
def WPO (C:dR)(aj:Nat)(code:Code)(E:List (Nat×V))(h:H)(Q:Ex→List (Nat×V)→H→Prop): Prop :=
 ∀(c:Ctx) (a:Act) (w:World) (env:Env),gS env E→Rel c h w→cO c env aj a→code.wpIn (Fr none) 0 C.P (Ge aj Q c a w) a w
section
variable {aj:Nat} {Q':Ex→List (Nat×V)→H→Prop} {a b:Code}
theorem Ge.trans {c c₁:Ctx}{A I a':Act}{w J w':World}{e:Exit}(hd:I.defers=A.defers)(hs:bT c w c₁ J)(ho:Ge aj Q c₁ I J e a' w'): Ge aj Q c A w e a' w':=by
 obtain⟨ex,K2,h',E',h1,h2,h3,h4,c',h5,h6,h7⟩:=ho
 exact⟨ex,K2,h',E',h1,h2,h3,h4.trans hd,c',h5,h6,hs.trans h7⟩
theorem WPO.of (hm:C.P.follows .mixedOrders=true)(J:dA C)(hw:WP C aj a E h Q): WPO C aj a E h Q:=by
 intro c A w env hE hr he
 obtain⟨N,ex,I,h',E',h1,h2,h3⟩:=hw env hE
 refine wpIn_mono ((wQ hm J N).1 _ _ _ _ h1 none c A w hr he) ?_
 rintro e a' w' ⟨rfl,h4,c',h5,h6,h7⟩
 exact⟨ex,I,h',E',rfl,h2,h3,h4,c',h5,h6,h7⟩
theorem WPO.mono (hw:WPO C aj a E h Q)(J:∀ex E' h',Q ex E' h'→Q' ex E' h'): WPO C aj a E h Q':=by
 intro c A w env hE hr he
 refine wpIn_mono (hw c A w env hE hr he) ?_
 rintro e a' w' ⟨ex,I,h',E',h1,h2,h3,h4⟩
 exact⟨ex,I,h',E',h1,h2,J _ _ _ h3,h4⟩
theorem WPO.seq (hw:WPO C aj a E h fun ex E' h'=>match ex with
  |.normal=>WPO C aj b E' h' Q
  |ex=>Q ex E' h'): WPO C aj (.seq a b) E h Q:=by
 intro c A w env hE hr he
 refine wpIn_seq (wpIn_mono (hw c A w env hE hr he) ?_)
 rintro e J pS ⟨ex,I,h',E',rfl,h2,h3,h4,c₁,h5,h6,h7⟩
 cases ex with
 |normal=>exact wpIn_mono (h3 c₁ J pS I h2 h5 h6) fun e a' w' ho=>ho.trans h4 h7
 |exit i=>exact⟨_,I,h',E',rfl,h2,h3,h4,c₁,h5,h6,h7⟩
 |ret=>exact⟨_,I,h',E',rfl,h2,h3,h4,c₁,h5,h6,h7⟩
theorem WPO.cond {x:Operand}{t:Bool}(J:aT E x=some (.bool t))(hw:WPO C aj (_root_.cond t a b) E h Q): WPO C aj (.cond x a b) E h Q:=by
 intro c A w env I hr he
 obtain⟨e1,_⟩:=uj he (bE I J)
 refine wpIn_cond (t:=t) (by rw[e1];rfl) ?_
 have:=hw c A w env I hr he
 cases t<;>simpa using this
theorem WPO.block (hw:WPO C aj b E h fun ex E' h'=>match ex with
  |.exit j=>_root_.cond (Nat.beq j i) (Q .normal E' h') (Q (.exit j) E' h')
  |ex=>Q ex E' h'): WPO C aj (.block i b) E h Q:=by
 intro c A w env hE hr he
 refine wpIn_block (wpIn_mono (hw c A w env hE hr he) ?_)
 rintro e y7 pS ⟨ex,I,h',E',rfl,h2,J,h4,c₁,h5,h6,h7⟩
 cases ex with
 |normal=>simp only[exOf,Exit.inBlock];exact⟨.normal,I,h',E',rfl,h2,J,h4,c₁,h5,h6,h7⟩
 |exit j =>
  by_cases hj:j=i
  ·simp only[qi hj,ai] at J
   simp only[exOf,Exit.inBlock,hj,b7]
   exact⟨.normal,I,h',E',rfl,h2,J,h4,c₁,h5,h6,h7⟩
  ·simp only[eO hj,aK] at J
   simp only[exOf,Exit.inBlock,hj,eM]
   exact⟨.exit j,I,h',E',rfl,h2,J,h4,c₁,h5,h6,h7⟩
 |ret=>simp only[exOf,Exit.inBlock];exact⟨.ret,I,h',E',rfl,h2,J,h4,c₁,h5,h6,h7⟩
theorem WPO.loop (J:Nat→List (Nat×V)→H→Prop)(hJ:∀j E h,J j E h→WPO C aj b E h fun ex E' h'=>match ex with
  |.normal=>∃i,i<j∧J i E' h'
  |ex=>Q ex E' h')(h0:J j E h): WPO C aj (.loop b) E h Q:=by
 have key:∀m j E h,j<m→J j E h→∀(c:Ctx) (A:Act) (w:World) (env:Env) (R:Exit→Act→World→Prop),gS env E→Rel c h w→cO c env aj A →
   (∀e a' w',Ge aj Q c A w e a' w'→R e a' w')→Code.roundsIn (Fr none) 0 C.P b R m A w:=by
  intro m
  induction m with
  |zero=>intro j E h hj;omega
  |succ m ih =>
   intro j E h hj hJj c A w env R hE hr he hR
   rw[roundsIn_succ]
   refine wpIn_mono (hJ j E h hJj c A w env hE hr he) ?_
   rintro e y7 pS ⟨ex,I,h',E',rfl,h2,h3,h4,c₁,h5,h6,h7⟩
   cases ex with
   |normal =>
    obtain⟨i,hi,h3⟩:=h3
    exact ih i E' h' (by omega) h3 c₁ y7 pS I R h2 h5 h6 fun e a' w' ho=>hR _ _ _ (ho.trans h4 h7)
   |exit i=>exact hR _ _ _ ⟨_,I,h',E',rfl,h2,h3,h4,c₁,h5,h6,h7⟩
   |ret=>exact hR _ _ _ ⟨_,I,h',E',rfl,h2,h3,h4,c₁,h5,h6,h7⟩
 intro c A w env hE hr he
 exact wpIn_loop_rounds (j+1) (key (j+1) j E h (by omega) h0 c A w env _ hE hr he fun _ _ _ ho=>ho)
theorem Nm {β:Type}{f:α→Option (List β)}{p:β→Prop}: ∀ {L:List α},(∀q∈L,∃s,f q=some [s]∧p s)→∃R,flatM f L=some R∧∀s∈R,p s:=by
 intro L
 induction L with
 |nil=>intro _;exact⟨[],rfl,fun s hs=>by cases hs⟩
 |cons q L ih =>
  intro J
  obtain⟨R,h1,h2⟩:=ih fun q I=>J q (dh _ I)
  obtain⟨s,e1,e2⟩:=J q dJ
  refine⟨s::R,?_,fun s' hs => ?_⟩
  ·simp only[flatM,e1,h1,gW,d_]
  ·rcases List.mem_cons.1 hs with rfl|hs
   ·exact e2
   ·exact h2 s' hs
theorem WPO.next {I J:Oper}{x:Operand}{lP CR:Nat}(hm:C.P.follows .mixedOrders=true)(hT:dA C)(aae:I.guard=none)(aaf:J.guard=none)(aag:I.op=.next x false)(abD:I.dst=some lP)
 (VN:J.op=.extract y 0)(hy:y=.tmp lP)(abE:J.dst=some CR)(WZ:Nat.blt lP aj=true)(Ud:Nat.blt CR aj=true)(hx:aT E x=some (.ptr r 0))(hL:nextAll h r=some L)
 (hq:∀q∈L,∃t l,q.1=.aI (t::l)∧Q .normal ((CR,t)::(lP,q.1)::E) q.2): WPO C aj (.region id #[I,J] false) E h Q:=by
 intro c A w env hE hr he
 subst hy
 have hS:=(wQ (C:=C) hm hT 0).1
 refine wpIn_region ?_
 rw[Ci,←xY]
 have mG:∃R,opsAll C (ev C 0) (#[I,J]:Array Oper).toList (#[I,J]:Array Oper).toList ⟨env,aj,h⟩=some R∧∀s∈R,∃E',gS s.env E'∧s.aj=aj∧Q .normal E' s.h:=by
  have e1:∀rK:Env,wantedV [I,J] rK I=true:=fun rK=>by simp only[wantedV,aae]
  have e2:∀rK:Env,wantedV [I,J] rK J=true:=fun rK=>by simp only[wantedV,aaf]
  have mA:=bE hE hx
  simp only[opsAll,e1,e2,ai,opAll,aag,mA,eW,hL]
  refine Nm fun q y_ => ?_
  obtain⟨t,l,k1,k2⟩:=hq q y_
  refine⟨⟨(env.set lP (some q.1)).set CR (some t),aj,q.2⟩,?_,_,(hE.set lP q.1).set CR t,rfl,k2⟩
  have hg:evO (T.set env lP (some (V.aI (t::l)))) (.tmp lP)=some (.aI (t::l)):=by simp only[evO,Env.v,aL,b7]
  simp only[St.put,abD,WZ,ai,VN,evOp,k1,hg,nth,eW,bk,abE,Ud,flatM,iw]
 obtain⟨R,mG,h2⟩:=mG
 refine MB hS hT _ 0 ⟨env,aj,h⟩ R c A w (fun j=>by rw[fF,j4]) mG hr he ?_
 intro s' nC c' a' w' r1 r2 r3 r4
 obtain⟨E',e1,e2,e3⟩:=h2 s' nC
 exact⟨.normal,s'.env,s'.h,E',rfl,e1,e3,r4,c',r1,by rw[e2] at r2;exact r2,r3⟩
theorem eE.VO {f:FuncId}{fn:Func}{code:Code}{v:V}{cJ:H}(hf:C.P.funcs[f]?=some fn)(hb:fn.body=some code)(hn:args.length≤fn.ntmps)
 (hw:WPO C fn.ntmps code (argE args 0) h fun ex E' h'=>(match ex with|.exit _=>False|_=>True)∧resLE C.P E' h' fn.results.toList=some v∧cJ.next=h'.next∧∀id o,T.get cJ.tr id=some o→T.get h'.tr id=some o){c:Ctx}{w:World}(hr:Rel c h w)(ha:∀x∈args,wf c x): eE C.P f args c w v cJ:=by
 have rJ:=ij (c:=c) hn ha
 have L2:=hw c _ w _ (qZ args) hr rJ
 unfold eE
 refine calls_of_wp hf hb (wpIn_wide.1 (wpIn_mono L2 ?_))
 rintro e a' w' ⟨ex,K2,h',E',rfl,eF,⟨hx,I,qx,hle⟩,hd,c',r1,r2,r3⟩
 have fin:a'.defers=[]∧∃x,(results fn a'.tmps).run C.P w'=.ok x w'∧∃qu,Ending.returned x=.returned (conc qu v)∧wf qu v∧Rel qu cJ w'∧bT c w qu w':=by
  refine⟨hd,?_⟩
  unfold resLE at I
  cases A5:mapO (resE C.P E' h') fn.results.toList with
  |none=>simp[A5] at I
  |some vs =>
   rw[A5] at I
   have DF:=ux (P:=C.P) (s:=⟨K2,fn.ntmps,h'⟩) eF A5
   obtain⟨t1,t2⟩:=me (s:=⟨K2,fn.ntmps,h'⟩) r1 r2 DF
   refine⟨_,t1,c',?_⟩
   have J:=r1.Xe qx hle
   match vs,I with
   |[],I =>
    simp at I
    subst I
    refine⟨?_,by simp[wf,fe],J,r3⟩
    simp[conc,concL]
   |[x],I =>
    simp at I
    subst I
    exact⟨by simp,t2 _ (by simp),J,r3⟩
   |x::y::l,I =>
    simp at I
    subst I
    refine⟨?_,by simp only[wf,gv];exact t2,J,r3⟩
    rw[dif_neg (by simp)]
    simp[conc,eP,concL]
 cases ex with
 |normal=>simpa[bodyPost,exOf] using fin
 |exit i=>exact hx.elim
 |ret=>simpa[bodyPost,exOf] using fin
end
end Go.Proofs.YtiojppeahfoiaaaGreat.Am
namespace Go.Proofs.YtiojppeahfoiaaaGreat.Am
open Go
variable {X:aE} {C:dR} {δ:Dk} {ε ah:bA} {Q:Ex→List (Nat×V)→H→Prop} {f:Fm} {h:H} {κ:IntKind} {μ:Lg} {now:List (Int×List Nat)} {E:List (Nat×V)} {L:List (V×H)} {S:List aE} {aV:List cr} {l b data seen:List Nat} {cs pre post args:List V} {g n k s i size aB a d z p6 r id off q j tx pv nx j1 j2 p1 cM c aH:Nat} {o:Oper} {y:Operand} {π bO:Pl} {P:Program} {α:Type} {t e:TypeId} {x u bv dt wh di:V}
theorem ry (l:List Nat)(b x:Nat): inL (l++[b]) x=(inL l x||Nat.beq b x):=by
 induction l with
 |nil=>simp only[d_,inL,yf];cases Nat.beq b x<;>rfl
 |cons y l I=>simp only[gW,inL,I];cases Nat.beq y x<;>simp
theorem Nn : ∀ {l:List (V×V×Nat)} {e:V×V×Nat},e∈leftV seen l→e∈l∧inL seen e.2.2=false:=by
 intro l
 induction l with
 |nil=>intro e h;cases h
 |cons y l I =>
  intro e h
  simp only[leftV] at h
  cases J:inL seen y.2.2 with
  |true=>rw[J,ai] at h;exact⟨dh _ (I h).1,(I h).2⟩
  |false =>
   rw[J,aK] at h
   rcases List.mem_cons.1 h with rfl|h
   ·exact⟨dJ,J⟩
   ·exact⟨dh _ (I h).1,(I h).2⟩
theorem No : ∀ {l:List (V×V×Nat)},leftV seen l=[]→∀e∈l,inL seen e.2.2=true:=by
 intro l
 induction l with
 |nil=>intro _ e he;cases he
 |cons y l J =>
  intro h e he
  simp only[leftV] at h
  cases I:inL seen y.2.2 with
  |false=>rw[I,aK] at h;cases h
  |true =>
   rw[I,ai] at h
   rcases List.mem_cons.1 he with rfl|he
   ·exact I
   ·exact J h e he
theorem Gf {b:Nat}: ∀ {l:List (V×V×Nat)},(leftV (seen++[b]) l).length≤(leftV seen l).length:=by
 intro l
 induction l with
 |nil=>exact aS _
 |cons y l I =>
  simp only[leftV,ry]
  cases inL seen y.2.2<;>cases Nat.beq b y.2.2<;>simp<;>omega
theorem Qd : ∀ {l:List (V×V×Nat)} {e:V×V×Nat},e∈leftV seen l→(leftV (seen++[e.2.2]) l).length<(leftV seen l).length:=by
 intro l
 induction l with
 |nil=>intro e h;cases h
 |cons y l J =>
  intro e h
  simp only[leftV] at h
  cases I:inL seen y.2.2 with
  |true =>
   rw[I,ai] at h
   simp only[leftV,ry,I,Bool.true_or,ai]
   exact J h
  |false =>
   rw[I,aK] at h
   simp only[leftV,ry,I,yf,aK]
   rcases List.mem_cons.1 h with rfl|h
   ·rw[eW,ai]
    have:=Gf (seen:=seen) (b:=e.2.2) (l:=l)
    simp;omega
   ·cases Nat.beq e.2.2 y.2.2
    ·simp only[aK,bq];have:=J h;omega
    ·simp only[ai,bq];have:=Gf (seen:=seen) (b:=e.2.2) (l:=l);omega
theorem Np : ∀ {l:dP} {b:Nat},iD c b l→pP c (l.map (i_ κ))=true:=by
 intro l
 induction l with
 |nil=>intro b _;rfl
 |cons e l I =>
  intro b h
  simp only[ey,i_,pP]
  rw[fT.2 h.2.1,ai]
  exact I h.2.2
theorem Ie : ∀ {l:dP} {b:Nat},iD c b l→bornRise b (l.map (i_ κ))=true:=by
 intro l
 induction l with
 |nil=>intro b _;rfl
 |cons e l I =>
  intro b h
  simp only[ey,i_,bornRise]
  rw[aG.2 h.1,ai]
  exact I h.2.2
theorem Aw : ∀ {l:dP} {b:Nat},iD c b l→∀e∈l,b≤e.2.2:=by
 intro l
 induction l with
 |nil=>intro b _ e he;cases he
 |cons y l I =>
  intro b h e he
  rcases List.mem_cons.1 he with rfl|he
  ·exact h.1
  ·have:=I h.2.2 e he;have:=h.1;omega
theorem K3 : ∀ {l:dP} {b:Nat} {e:Int×V×Nat},iD c b l→e∈l→qU e.2.2 (l.map (i_ κ))=some (i_ κ e):=by
 intro l
 induction l with
 |nil=>intro b e _ he;cases he
 |cons y l I =>
  intro b e h he
  simp only[ey,i_,qU]
  rcases List.mem_cons.1 he with rfl|he
  ·show cond (Nat.beq e.2.2 e.2.2) _ _=_
   rw[eW,ai]
  ·have:=Aw h.2.2 e he
   show cond (Nat.beq y.2.2 e.2.2) _ _=_
   rw[eO (by omega),aK]
   exact I h.2.2 he
theorem Nq : ∀(l:List Nat) (b:Nat),lastN (l++[b])=some b:=by
 intro l b
 induction l with
 |nil=>rfl
 |cons x l I =>
  cases l with
  |nil=>rfl
  |cons y l=>simpa[lastN] using I
section
variable {cR since clock b:Nat} {es:dP}
theorem Qe {e:Int×V×Nat}(J:T.get h.tr r=some (.iter cR since clock (seen++[e.2.2])))(hm:T.get h.tr cR=some (.map (es.map (i_ κ)) clock))(I:iD clock 0 es)(he:e∈es):
  uf h (.ptr r 0)=some (.aI [.int κ e.1,e.2.1]):=by
 simp only[uf,eW,ai,J,hm,Ie I,iy,Nq,K3 I he]
 rfl
theorem next_at (I:T.get h.tr r=some (.iter cR since clock seen))(hs:since≤clock)(hm:T.get h.tr cR=some (.map (es.map (i_ κ)) clock))(J:iD since 0 es):
  nextAll h r=some (match leftV seen (es.map (i_ κ)) with
   |[]=>[(.aI [.bool false],h)]
   |l=>l.map fun e=>(.aI [.bool true,e.1,e.2.1],h.put r (some (.iter cR since clock (seen++[e.2.2]))))):=by
 simp only[nextAll,I,hm,Np J,aG.2 hs,iy,ai]
 cases leftV seen (es.map (i_ κ))<;>rfl
theorem Qf (hg:T.get h.tr r=some (.iter cR since clock seen))(hs:since≤clock)(hm:T.get h.tr cR=some (.map (es.map (i_ κ)) clock))(hb:iD since 0 es)(hL:nextAll h r=some L):
  ∀q∈L,(q=(.aI [.bool false],h)∧∀e∈es,inL seen e.2.2=true) ∨
   ∃e∈es,inL seen e.2.2=false∧(leftV (seen++[e.2.2]) (es.map (i_ κ))).length<(leftV seen (es.map (i_ κ))).length∧q=(.aI [.bool true,.int κ e.1,e.2.1],h.put r (some (.iter cR since clock (seen++[e.2.2])))):=by
 rw[next_at hg hs hm hb] at hL
 simp only[au] at hL
 subst hL
 intro q hq
 cases J:leftV seen (es.map (i_ κ)) with
 |nil =>
  rw[J] at hq
  refine .inl ⟨List.mem_singleton.1 hq,fun e he => ?_⟩
  exact No J (i_ κ e) (Cl he)
 |cons y l =>
  rw[J] at hq
  obtain⟨e',I,rfl⟩:=List.mem_map.1 hq
  rw[←J] at I
  obtain⟨h1,h2⟩:=Nn I
  obtain⟨e,he,rfl⟩:=List.mem_map.1 h1
  have h3:=Qd I
  rw[J] at h3
  exact .inr ⟨e,he,h2,h3,rfl⟩
end
open Classical in
noncomputable def iN (P:Program)(f:FuncId)(jb:List V→H→V×H→Prop)(args:List V)(h:H): Option (V×H) :=
 if I:∃r,jb args h r∧∀(c:Ctx) (w:World),Rel c h w→(∀x∈args,wf c x)→eE P f args c w r.1 r.2 then some I.choose else none
theorem Nr {f : FuncId} {jb : List V → H → V × H → Prop} (J : ∃ fn, P.funcs[f]? = some fn ∧ fn.body.isSome = true ∧ (fn.name == "runtime.NumGoroutine") = false) : IG P f (iN P f jb) := by
 refine .inl ⟨J, fun args σ v cJ I c w h hw => ?_⟩
 unfold iN at I
 split at I
 ·rename_i hx
  have := hx.choose_spec.2 c w h hw
  injection I with I
  rw [I] at this
  exact this
 ·cases I
theorem qc {f:FuncId}{jb:List V→H→V×H→Prop}{r:V×H}(J:jb args h r)(h2:∀(c:Ctx) (w:World),Rel c h w→(∀x∈args,wf c x)→eE P f args c w r.1 r.2):
  ∃r,iN P f jb args h=some r∧jb args h r:=by
 have I:∃r,jb args h r∧∀(c:Ctx) (w:World),Rel c h w→(∀x∈args,wf c x)→eE P f args c w r.1 r.2:=⟨r,J,h2⟩
 refine⟨I.choose,?_,I.choose_spec.1⟩
 unfold iN
 rw[dif_pos I]
noncomputable def mY (f:Nat): Option (List V→H→Option (V×H)) :=
 cond (Nat.beq f 106) (some (toldSorted yP)) (cond (Nat.beq f 217) (some toldMore) none)
noncomputable abbrev CB : dR:=⟨Tryz.prog,mY⟩
theorem jK : Tryz.prog.follows .mixedOrders=true:=by kernel_rfl
theorem iI : dA CB:=by
 intro f g I
 simp only[CB,mY] at I ⊢
 by_cases h1:f=106
 ·subst h1
  rw[qi rfl,ai] at I
  simp only[au] at I
  subst I
  exact .inl ⟨⟨_,Tryz.func106,rfl,by decide⟩,fun args σ v cJ J c w h _=>Ev bz MX J h⟩
 ·rw[eO h1,aK] at I
  by_cases h2:f=217
  ·subst h2
   rw[qi rfl,ai] at I
   simp only[au] at I
   subst I
   exact .inl ⟨⟨_,A_,rfl,by decide⟩,fun args σ v cJ J c w h hw=>HU (C:=CB) rfl jK J h hw⟩
  ·rw[eO h2,aK] at I
   cases I
theorem W.base : W mY:=by
 refine⟨fun f I => ?_,rfl,rfl⟩
 have J:f≠106:=fun e=>by subst e;revert I;decide
 have h2:f≠217:=fun e=>by subst e;revert I;decide
 simp only[mY,eO J,eO h2,aK]
theorem OpR.entry {x:Operand}{v r:V}(I:o.op=.entry x)(J:aT E x=some v)(hf:uf h v=some r): OpR C E h o fun w h'=>w=r∧h'=h :=
 ⟨r,h,⟨rfl,rfl⟩,fun env hE=>⟨0,by simp only[evOp,I,bE hE J,hf,bk]⟩⟩
theorem OpR.range {x:Operand}{v r:V}{h₁:H}(I:o.op=.range t x)(J:aT E x=some v)(hf:rangeV C.P h t v=some (r,h₁)): OpR C E h o fun w h'=>w=r∧h'=h₁ :=
 ⟨r,h₁,⟨rfl,rfl⟩,fun env hE=>⟨0,by simp only[evOp,I,bE hE J,hf]⟩⟩
section
variable {told:cE} {p:Nat} {v:V} {m:List Fm}
theorem XY {l:List V}(J:T.get h.tr id=some (.cells n cs false))(hs:bj P t=some l.length)(hl:cs.length=n)(hn:l.length=n)(I:l.all storable=true):
  fu P h t (.ptr id 0) (.agg l)=some (h.put id (some (.cells n l false))):=by
 grind[fu,V.cells,Nat.beq_refl,wrN,aG]
end
section
variable {told:cE} {p:Nat} {v:V} {m:List (Int×(Nat×Bool))}
theorem Gg {a b:Obj}(J:T.get h.tr id=some a)(I:T.get h.tr id=some b): a=b:=by rw[J] at I;exact cx I
end
theorem fb.ag (I:fb π bO): ∀g∈bO.ag,∃f∈π.ag,∃t,g={ f with eS:=t }:=by
 intro g hg
 obtain⟨i,hi,rfl⟩:=List.mem_iff_getElem.1 hg
 have hf:π.ag[i]?=some (π.ag[i]'(by rw[←I.len];exact hi)):=bp _
 obtain⟨t,J⟩:=I.get i _ hf
 rw[bp hi] at J
 exact⟨_,tY _,t,cx J⟩
theorem fb.ok (I:fb π bO)(h:π.Ok)(hh:bO.hand<bO.ag.length): bO.Ok:=by
 refine⟨hh,by rw[I.len];exact h.many,by rw[I.bD,I.len];exact h.bD,fun g J => ?_,fun g J => ?_⟩
 ·obtain⟨f,hf,t,rfl⟩:=I.ag g J
  exact h.len f hf
 ·obtain⟨f,hf,t,rfl⟩:=I.ag g J
  exact h.pins f hf
theorem Pl.Ok.set {w:List (Int×Int)}{d:List (Int×(Nat×Bool))}(h:π.Ok)(hw:∀e∈w,0≤e.2∧e.2<π.ag.length)(J:f.b.length≤512)(hp:0≤f.pins∧f.pins≤4294967296): Pl.Ok { π with ag:=π.ag.set i f,bD:=w,cm:=d }:=by
 refine⟨by simp only[cY];exact h.hand,by simp only[cY];exact h.many,fun e he=>by simp only[cY];exact hw e he,fun g I => ?_,fun g I => ?_⟩
 ·rcases nh I with I|rfl
  ·exact h.len g I
  ·exact J
 ·rcases nh I with I|rfl
  ·exact h.pins g I
  ·exact hp
theorem Tu {n:Int}: ∀ {l:List (Int×α)} {e:Int×α},e∈ko n l→e∈l:=by
 intro l
 induction l with
 |nil=>intro e h;exact h
 |cons x l I =>
  intro e h
  simp only[ko] at h
  split at h
  ·exact dh _ h
  ·rcases List.mem_cons.1 h with rfl|h
   ·exact dJ
   ·exact dh _ (I h)
theorem Tv {n:Int}{x:α}: ∀ {l:List (Int×α)} {e:Int×α},e∈cN n x l→e=(n,x)∨e∈l:=by
 intro l
 induction l with
 |nil=>intro e h;simp only[cN,List.mem_singleton] at h;exact .inl h
 |cons y l I =>
  intro e h
  simp only[cN] at h
  split at h
  ·rcases List.mem_cons.1 h with rfl|h
   ·exact .inl rfl
   ·exact .inr (dh _ h)
  ·rcases List.mem_cons.1 h with rfl|h
   ·exact .inr dJ
   ·rcases I h with h|h
    ·exact .inl h
    ·exact .inr (dh _ h)
theorem Ax (h:π.Ok): (cW π i f).Ok:=by
 unfold cW
 refine h.set (fun e he => ?_) (by simp[dX]) (by simp[dX])
 split at he
 ·exact h.bD e he
 ·exact h.bD e (Tu he)
theorem fc.ok {n e:Int}(hr:fc ε n e b ah)(h:xA ε)(hp:∀f∈ε.1.ag,f.pins=0): xA ah:=by
 cases hr with
 |arg _=>exact h
 |BM i f h1 h2 hl hf =>
  have hm:=bI hf
  exact⟨h.pl.set h.pl.bD (h.pl.len f hm) (by have:=hp f hm;simp only;omega),h.lg,h.dk⟩
 |out bO i f h1 h2 hl I hf J he=>exact vy (ε:=(bO,ε.2)) ⟨I.ok h.pl J,h.lg,h.dk⟩
 |read bO i f h1 h2 hl I hf J he hr =>
  have:=vy (i:=i) (ε:=(bO,ε.2)) ⟨I.ok h.pl J,h.lg,h.dk⟩
  exact⟨Ax this.pl,this.lg,this.dk⟩
 |bad bO i f h1 h2 hl I hf J he hr hc =>
  have:=vy (i:=i) (ε:=(bO,ε.2)) ⟨I.ok h.pl J,h.lg,h.dk⟩
  exact⟨Ax this.pl,this.lg,this.dk⟩
 |load bO i f h1 h2 hl I hf J he hr hc =>
  have:=vy (i:=i) (ε:=(bO,ε.2)) ⟨I.ok h.pl J,h.lg,h.dk⟩
  have h3:=Ax (i:=i) (f:=f) this.pl
  have hlen:i<(cW (outF (bO,ε.2) i).2.1 i f).ag.length:=by
   obtain⟨c,hc⟩:=mw (ε:=(bO,ε.2)) hf
   have:=(List.getElem?_eq_some_iff.1 hc).1
   simpa[cW] using this
  refine⟨h3.set (fun e he => ?_) (by simp only;rw[this.dk.at];omega) (by simp),this.lg,this.dk⟩
  rcases Tv he with rfl|he
  ·simp only;omega
  ·exact h3.bD e he
theorem D4 {n:Int}(h:π.Ok): (unpinF π n).2.Ok:=by
 unfold unpinF
 split
 ·exact h
 ·rename_i i hi
  split
  ·exact h
  ·rename_i f I
   have hm:=bI I
   refine h.set h.bD (h.len f hm) ?_
   have:=h.pins f hm
   have J:f.pins≠0:=by
    unfold heldI at hi
    split at hi
    ·cases hi
    ·split at hi
     ·cases hi
     ·rename_i g hg
      split at hi
      ·cases hi
      ·rename_i hp
       have:=cx hi
       subst this
       rw[hg] at I
       have:=cx I
       subst this
       exact hp
   simp only;omega
inductive lH (ε:bA)(n:Int): Int→List Nat→bA→Prop where
 |dead (h:ε.2.2.dead=true):lH ε n 9 [] ε
 |jb (e:Int) (b:List Nat) (ah:bA) (h:ε.2.2.dead=false) (hr:fc ε n e b ah) (he:e≠0):lH ε n e [] ah
 |vz (b:List Nat) (ah:bA) (h:ε.2.2.dead=false) (hr:fc ε n 0 b ah) (he:(unpinF ah.1 n).1≠0):lH ε n (unpinF ah.1 n).1 [] ((unpinF ah.1 n).2,ah.2)
 |read (b:List Nat) (ah:bA) (h:ε.2.2.dead=false) (hr:fc ε n 0 b ah) (he:(unpinF ah.1 n).1=0):lH ε n 0 b ((unpinF ah.1 n).2,ah.2)
theorem lH.ok {n e:Int}(I:lH ε n e b ah)(h:xA ε)(J:∀f∈ε.1.ag,f.pins=0): xA ah:=by
 cases I with
 |dead _=>exact h
 |jb e b ah hd I he=>exact I.ok h J
 |vz b ah hd I he=>have:=I.ok h J;exact⟨D4 this.pl,this.lg,this.dk⟩
 |read b ah hd I he=>have:=I.ok h J;exact⟨D4 this.pl,this.lg,this.dk⟩
def Jn (a p q r:Nat)(op dv:V)(aH:Nat): List V:=[.ptr p 0,.ptr q 0,.ptr r 0,op,dv,.int .u64 (aH:Int)]
def c8 (a p q r:Nat)(op:V)(data:List Nat)(aH:Nat): aE:=xs fun dv:V=>star [pt a (.cells 6 (Jn a p q r op dv aH) false),.cL dv data]
def dN (g a:Nat)(now:List (Int×List Nat))(bS:Bool): aE:=xs fun I:V=>star [pt g (.cells 3 [.ptr a 0,I,.bool bS] false),pn (fun v b=>.cL v b) I now]
section
variable {told:cE} {p:Nat} {op v:V} {m:List Fm} {bS:Bool}
theorem cg : Sat h (c8 a p q r op data aH::S)↔∃dv,Sat h (pt a (.cells 6 (Jn a p q r op dv aH) false)::.cL dv data::S):=by
 simp only[c8,gT,aZ,gW,d_]
theorem dQ : Sat h (dN g a now bS::S)↔∃I,Sat h (pt g (.cells 3 [.ptr a 0,I,.bool bS] false)::pn (fun v b=>.cL v b) I now::S):=by
 simp only[dN,gT,aZ,gW,d_]
theorem Ay (hT:W told){n:Int}(s:Sat h (c8 a p q r op data aH::dM r p q π::bQ q p μ::bw p δ::S))(I:xA (π,μ,δ))(J:∀f∈π.ag,f.pins=0)(hw:δ.waiting.length≤268435456):
  Call ⟨Tryz.prog,told⟩ 44 [.ptr a 0,.int .i64 n] h fun v h'=>∃(e:Int) (b:List Nat) (ε:bA),lH (π,μ,δ) n e b ε ∧
   ((e≠0∧v=.aI [.aO,.int .i64 e]∧Sat h' (c8 a p q r op data aH::dM r p q ε.1::bQ q p ε.2.1::bw p ε.2.2::S)) ∨
    (e=0∧∃u,v=.aI [u,.int .i64 0]∧Sat h' (aW u b::c8 a p q r op data aH::dM r p q ε.1::bQ q p ε.2.1::bw p ε.2.2::S))):=by
 have s0:=s
 obtain⟨dv,s⟩:=cg.1 s
 refine Call.of_wp (hT.free _ rfl) Tryz.func44 rfl rfl (zK 10 rfl (zY s 0 uF rT rfl (zc rfl (F3 hT (s.ae [4])) ?_)))
 rintro v h ⟨rfl,rfl⟩
 refine zv ?_
 cases hd:δ.dead with
 |true =>
  exact zK 6 rfl (WP.ret ⟨aa,_,rfl,9,[],_,.dead hd,.inl ⟨by decide,rfl,s0⟩⟩)
 |false =>
  refine zK 6 rfl (zY s 0 ri yE rfl (zm rfl (zc rfl (Nj (n:=n) hT (s.ae [2,2,2]) I.pl J I.lg I.dk hw) ?_)))
  rintro v h ⟨e,b,ε,hr,(⟨he,rfl,s⟩|⟨rfl,u,rfl,s⟩)⟩
  ·dsimp only[bringA,getA,aC] at s
   refine zk 10 rfl (zB rfl aA (by simp;exact he) ?_)
   exact zk 8 rfl (WP.ret ⟨aa,_,rfl,e,[],ε,.jb e b ε hd hr he,.inl ⟨he,rfl,cg.2 ⟨dv,s.ae [3,3,0,0,0]⟩⟩⟩)
  ·dsimp only[bringA,getA,aC] at s
   refine zk 10 rfl (zC rfl aA (rfl) ?_)
   have s:=s.ae [4,4,0,0,0,0]
   refine zk 8 rfl (zY s 0 ri yE rfl (zm rfl ?_))
   have g_:=hr.ok I J
   refine zc rfl (Gd (n:=n) hT (s.ae [3]) g_.pl) ?_
   rintro v h ⟨rfl,s⟩
   refine zk 5 rfl ?_
   by_cases he:(unpinF ε.1 n).1=0
   ·skip
    refine zC rfl aA (by simp;exact he) ?_
    exact zk 9 rfl (WP.ret ⟨aa,_,rfl,0,b,_,.read b ε hd hr he,.inr ⟨rfl,u,rfl,(cg.2 ⟨dv,s.ae [1,1,0,1,1,0]⟩).ae [4,0,0,0,0]⟩⟩)
   ·skip
    refine zB rfl aA (by simp;exact he) ?_
    exact zk 8 rfl (WP.ret ⟨aa,_,rfl,_,[],_,.vz b ε hd hr he,.inl ⟨he,rfl,(cg.2 ⟨dv,(s.ae [1,1,0,1,1,0]).del 5⟩)⟩⟩)
end
structure Pl.Full (π:Pl): Prop where
 nodup:(π.bD.map (·.1)).Nodup
 lC:∀n i,lookL n π.bD=some i→0≤n∧∃f,π.ag[i.toNat]?=some f∧f.aY=n∧f.b.length=512
structure gR (ε:bA): Prop where
 ok:xA ε
 pins:∀f∈ε.1.ag,f.pins=0
 full:ε.1.Full
theorem Pl.Full.set {g:Fm}{d:List (Int×(Nat×Bool))}(h:π.Full)(hf:π.ag[i]?=some f)(hp:g.aY=f.aY)(hl:f.b.length=512→g.b.length=512): Pl.Full { π with ag:=π.ag.set i g,cm:=d }:=by
 refine⟨h.nodup,fun n j hj => ?_⟩
 obtain⟨h1,f',J,h3,h4⟩:=h.lC n j hj
 refine⟨h1,?_⟩
 by_cases I:i=j.toNat
 ·subst I
  rw[hf] at J
  have:=cx J
  subst this
  exact⟨g,jt (List.getElem?_eq_some_iff.1 hf).1,hp.trans h3,hl h4⟩
 ·exact⟨f',by simp only[oP I];exact J,h3,h4⟩
theorem fb.full (I:fb π bO)(h:π.Full): bO.Full:=by
 refine⟨by rw[I.bD];exact h.nodup,fun n j J => ?_⟩
 rw[I.bD] at J
 obtain⟨h1,f',h2,h3,h4⟩:=h.lC n j J
 obtain⟨t,ht⟩:=I.get _ _ h2
 exact⟨h1,_,ht,h3,h4⟩
theorem sW (h:ε.1.Full): (outF ε i).2.1.Full:=by
 unfold outF
 split
 ·exact h
 ·rename_i f I
  split
  ·exact h
  ·split
   ·exact h
   ·split
    ·exact h
    ·split
     ·exact h
     ·exact h.set I rfl fun J=>J
theorem vA {g:Fm}(h:π.Full)(hg:π.ag[i]?=some g)(hp:g.aY=f.aY): (cW π i f).Full∧∀n j,lookL n (cW π i f).bD=some j→j.toNat≠i:=by
 have key:∀n j,lookL n (cW π i f).bD=some j→lookL n π.bD=some j∧j.toNat≠i:=by
  intro n j I
  by_cases hf:f.aY<0
  ·have hw:(cW π i f).bD=π.bD:=by simp only[cW,aF hf]
   rw[hw] at I
   refine⟨I,fun hi => ?_⟩
   obtain⟨h1,f',J,h3,_⟩:=h.lC n j I
   rw[hi,hg] at J
   have:=cx J
   subst this
   omega
  ·have hw:(cW π i f).bD=ko f.aY π.bD:=by simp only[cW,ay hf]
   rw[hw,DV h.nodup] at I
   by_cases hn:f.aY=n
   ·rw[aF hn] at I;cases I
   ·rw[ay hn] at I
    refine⟨I,fun hi => ?_⟩
    obtain⟨h1,f',J,h3,_⟩:=h.lC n j I
    rw[hi,hg] at J
    have:=cx J
    subst this
    omega
 refine⟨⟨?_,fun n j I => ?_⟩,fun n j I=>(key n j I).2⟩
 ·unfold cW
  simp only
  split
  ·exact h.nodup
  ·exact vq h.nodup
 ·obtain⟨h1,J⟩:=key n j I
  obtain⟨h3,f',h4,h5,h6⟩:=h.lC n j h1
  exact⟨h3,f',by simp only[cW,oP (jx J)];exact h4,h5,h6⟩
theorem Ig {n:Int}(h:π.Full)(hi:i<π.ag.length)(J:∀n j,lookL n π.bD=some j→j.toNat≠i)(hn:0≤n)(hb:b.length=512): (ir π i n b).Full:=by
 refine⟨kI h.nodup,fun m j I => ?_⟩
 simp only[ir,jH] at I
 by_cases hm:n=m
 ·rw[aF hm] at I
  have:=cx I
  subst this;subst hm
  exact⟨hn,⟨n,b,1,true,false⟩,jt hi,rfl,hb⟩
 ·rw[ay hm] at I
  obtain⟨h3,f',h4,h5,h6⟩:=h.lC m j I
  exact⟨h3,f',by simp only[ir,oP (jx (J m j I))];exact h4,h5,h6⟩
theorem fc.full {n e:Int}(hr:fc ε n e b ah)(hd:ε.2.2.Ok)(h:ε.1.Full): ah.1.Full∧(e=0→b.length=512):=by
 cases hr with
 |arg _=>exact⟨h,fun h=>(by cases h)⟩
 |BM i f h1 h2 hl J =>
  refine⟨h.set J rfl fun hl=>hl,fun _ => ?_⟩
  obtain⟨_,f',h4,_,h6⟩:=h.lC n i hl
  rw[b8,J] at h4
  have:=cx h4
  subst this
  exact h6
 |out bO i f h1 h2 hl hn J hh he=>exact⟨sW (ε:=(bO,ε.2)) (hn.full h),fun h=>absurd h he⟩
 |read bO i f h1 h2 hl hn J hh he hr =>
  obtain⟨c,I⟩:=mw (ε:=(bO,ε.2)) J
  exact⟨(vA (f:=f) (sW (ε:=(bO,ε.2)) (hn.full h)) I rfl).1,fun h=>absurd h hr⟩
 |bad bO i f h1 h2 hl hn J hh he hr hc =>
  obtain⟨c,I⟩:=mw (ε:=(bO,ε.2)) J
  exact⟨(vA (f:=f) (sW (ε:=(bO,ε.2)) (hn.full h)) I rfl).1,fun h=>absurd h hc⟩
 |load bO i f h1 h2 hl hn J hh he hr hc =>
  obtain⟨c,I⟩:=mw (ε:=(bO,ε.2)) J
  have hi:=(List.getElem?_eq_some_iff.1 I).1
  obtain⟨k1,k2⟩:=vA (f:=f) (sW (ε:=(bO,ε.2)) (hn.full h)) I rfl
  have xB:=(Av (ε:=(bO,ε.2)) (i:=i) hd).at n
  exact⟨Ig k1 (by simp only[cW,cY];exact hi) k2 h1 xB,fun _=>xB⟩
theorem z7 {n:Int}(h:π.Full): (unpinF π n).2.Full:=by
 unfold unpinF
 split
 ·exact h
 ·split
  ·exact h
  ·rename_i f I
   exact h.set I rfl fun J=>J
theorem fb.pins (I:fb π bO)(h:∀f∈π.ag,f.pins=0): ∀f∈bO.ag,f.pins=0:=fun g J=>by
 obtain⟨f,hf,t,rfl⟩:=I.ag g J
 exact h f hf
theorem sX {ε:bA}{i:Nat}(h:∀f∈ε.1.ag,f.pins=0): ∀f∈(outF ε i).2.1.ag,f.pins=0:=by
 unfold outF
 split
 ·exact h
 ·rename_i f J
  have hm:=bI J
  split
  ·exact h
  ·split
   ·exact h
   ·split
    ·exact h
    ·split
     ·exact h
     ·intro g I
      rcases nh I with I|rfl
      ·exact h g I
      ·exact h f hm
theorem vB {π:Pl}{i:Nat}{f:Fm}(h:∀f∈π.ag,f.pins=0): ∀f∈(cW π i f).ag,f.pins=0:=by
 intro g I
 rcases nh I with I|rfl
 ·exact h g I
 ·rfl
theorem fc.Jo {ε ah:bA}{n e:Int}{b:List Nat}(J:fc ε n e b ah)(he:e≠0)(hp:∀f∈ε.1.ag,f.pins=0): ∀f∈ah.1.ag,f.pins=0:=by
 cases J with
 |arg _=>exact hp
 |BM i f h1 h2 hl hf=>exact absurd rfl he
 |out bO i f h1 h2 hl I hf hh he=>exact sX (ε:=(bO,ε.2)) (I.pins hp)
 |read bO i f h1 h2 hl I hf hh he J=>exact vB (f:=f) (sX (ε:=(bO,ε.2)) (I.pins hp))
 |bad bO i f h1 h2 hl I hf hh he J hc=>exact vB (f:=f) (sX (ε:=(bO,ε.2)) (I.pins hp))
 |load bO i f h1 h2 hl I hf hh he J hc=>exact absurd rfl he
theorem Gh {m:List Fm}{i:Nat}{f g:Fm}(h:∀f∈m,f.pins=0)(J:g.pins=0): ∀x∈(m.set i f).set i g,x.pins=0:=by
 intro x I
 rw[List.set_set] at I
 rcases nh I with I|rfl
 ·exact h x I
 ·exact J
theorem sg {n:Int}(hl:lookL n π.bD=some (i:Int))(I:π.ag[i]?=some f)(J:f.pins=1): heldI π n=some i∧unpinF π n=(0,{ π with ag:=π.ag.set i { f with pins:=0 } }):=by
 have h1:heldI π n=some i:=by
  simp only[heldI,hl,b8,I,J]
  rfl
 refine⟨h1,?_⟩
 simp only[unpinF,h1,I,J]
 rfl
theorem Qg {α:Type}{n:Int}{x:α}{l:List (Int×α)}: lookL n (cN n x l)=some x:=by rw[jH,aF rfl]
theorem fc.at {ε ah:bA}{n:Int}{b:List Nat}(hr:fc ε n 0 b ah)(hp:∀f∈ε.1.ag,f.pins=0):
  ∃(i:Nat) (f:Fm),lookL n ah.1.bD=some (i:Int)∧ah.1.ag[i]?=some f∧f.pins=1∧f.b=b∧∀g:Fm,g.pins=0→∀x∈ah.1.ag.set i g,x.pins=0:=by
 generalize I:(0:Int)=e at hr
 cases hr with
 |arg _=>cases I
 |BM i f h1 h2 hl J =>
  have hi:=(List.getElem?_eq_some_iff.1 J).1
  refine⟨i,{ f with eS:=true,pins:=f.pins+1 },hl,by simp[hi],by have:=hp f (bI J);show f.pins+1=1;omega,rfl,fun g hg=>Gh hp hg⟩
 |out bO i f h1 h2 hl hn J hh he=>exact absurd I.symm he
 |read bO i f h1 h2 hl hn J hh he hr=>exact absurd I.symm hr
 |bad bO i f h1 h2 hl hn J hh he hr hc=>exact absurd I.symm hc
 |load bO i f h1 h2 hl hn J hh he hr hc =>
  obtain⟨c,YT⟩:=mw (ε:=(bO,ε.2)) J
  have hi:=(List.getElem?_eq_some_iff.1 YT).1
  refine⟨i,⟨n,_,1,true,false⟩,Qg,jt (by show i<(List.set _ i _).length;rw[cY];exact hi),rfl,rfl,fun g hg=>Gh (vB (f:=f) (sX (ε:=(bO,ε.2)) (hn.pins hp))) hg⟩
theorem fc.Az {n:Int}(I:fc ε n 0 b ah)(J:∀f∈ε.1.ag,f.pins=0): (unpinF ah.1 n).1=0∧∀f∈(unpinF ah.1 n).2.ag,f.pins=0:=by
 obtain⟨i,f,h1,h2,h3,h4,h5⟩:=I.at J
 rw[(sg h1 h2 h3).2]
 exact⟨rfl,h5 _ rfl⟩
theorem lH.kS {n e:Int}(I:lH ε n e b ah)(h:gR ε): gR ah:=by
 refine⟨I.ok h.ok h.pins,?_,?_⟩
 ·cases I with
  |dead _=>exact h.pins
  |jb e b ah hd I he=>exact I.Jo he h.pins
  |vz b ah hd I he=>exact(I.Az h.pins).2
  |read b ah hd I he=>exact(I.Az h.pins).2
 ·cases I with
  |dead _=>exact h.full
  |jb e b ah hd I he=>exact(I.full h.ok.dk h.full).1
  |vz b ah hd I he=>exact z7 (I.full h.ok.dk h.full).1
  |read b ah hd I he=>exact z7 (I.full h.ok.dk h.full).1
theorem lH.len {n:Int}(J:lH ε n 0 b ah)(h:gR ε): b.length=512:=by
 generalize I:(0:Int)=e at J
 cases J with
 |dead _=>cases I
 |jb e b ah hd J he=>exact absurd I.symm he
 |vz b ah hd J he=>exact absurd I.symm he
 |read b ah hd J he=>exact(J.full h.ok.dk h.full).2 rfl
inductive GRd (ε:bA)(now:List (Int×List Nat))(bS:Bool)(n:Int): Int→List Nat→bA→Prop where
 |arg (h:¬(0≤n∧n<ε.2.2.bu.length)):GRd ε now bS n 1 [] ε
 |bS (h1:0≤n) (h2:n<ε.2.2.bu.length) (h:bS=true):GRd ε now bS n 18 [] ε
 |own (b:List Nat) (h1:0≤n) (h2:n<ε.2.2.bu.length) (h:bS=false) (hl:lookL n now=some b):GRd ε now bS n 0 b ε
 |read (e:Int) (b:List Nat) (ah:bA) (h1:0≤n) (h2:n<ε.2.2.bu.length) (h:bS=false) (hl:lookL n now=none) (hr:lH ε n e b ah):GRd ε now bS n e b ah
theorem GRd.kS {bS:Bool}{n e:Int}(I:GRd ε now bS n e b ah)(h:gR ε): gR ah:=by
 cases I with
 |arg _=>exact h
 |bS _ _ _=>exact h
 |own _ _ _ _ _=>exact h
 |read e b ah J h2 h3 hl I=>exact I.kS h
theorem OpR.invoke {cl:Go.Call}{x:Operand}{m:String}{k:FuncId}{R:V→H→Prop}(J:o.op=.call cl)(hc:cl.callee=.invoke x m)
 (hx:aT E x=some (.iface t u))(hm:methV C.P t m=some k)(ha:lookArgs E cl.args.toList=some args)(I:Am.Call C k (u::args) h R): OpR C E h o R:=by
 obtain⟨v,h₁,⟨N,hN⟩,hr⟩:=I
 exact⟨v,h₁,hr,fun env hE=>⟨N,by simp only[evOp,J,evCall,kZ hE ha,hc,bE hE hx,hm];exact hN⟩⟩
theorem Dc : methV Tryz.prog 78 "Read" = some 207 := by kernel_rfl
theorem Tw : methV Tryz.prog 26 "Read" = some 44 := by kernel_rfl
theorem XZ {x:Operand}(hu:Tryz.prog.underlying t=some (.pointer e)): binV Tryz.prog h .neq t x y .a_ .a_=some (.bool false):=by simp only[binV,eqV,hu];rfl
theorem sY {x:Operand}{o:Nat}(hu:Tryz.prog.underlying t=some (.pointer e)): binV Tryz.prog h .eql t x y (.ptr i o) .a_=some (.bool false):=by simp only[binV,eqV,hu];rfl
theorem X0 {x:Operand}{o:Nat}(hu:Tryz.prog.underlying t=some (.pointer e)): binV Tryz.prog h .eql t x y .a_ (.ptr i o)=some (.bool false):=by simp only[binV,eqV,hu];rfl
theorem X1 {k:TypeId}{x:Operand}{m:Nat}{ds:List V}(hu:Tryz.prog.underlying t=some (.pointer e))(I:bj Tryz.prog e=some k)(J:1≤k)(hi:T.get h.tr i=some (.cells n cs false))(hj:T.get h.tr j=some (.cells m ds false))(hn:1≤n)(hm:1≤m):
  binV Tryz.prog h .eql t x y (.ptr i 0) (.ptr j 0)=some (.bool (Nat.beq i j)):=by
 simp only[binV,eqV,hu,I,aG.2 J,ai,hi,hj,aG.2 hn,aG.2 hm,iy,eW,Bool.and_true,l8]
section
variable {told:cE} {p:Nat} {op v:V} {m:List Fm} {bS:Bool}
theorem qd (I:W told)(s:Sat h (c8 a p q r .a_ data aH::S)): Call ⟨Tryz.prog,told⟩ 38 [.ptr a 0] h fun v h'=>∃g,v=.aI [.ptr g 0,.int .i64 0]∧Sat h' (dN g a [] false::c8 a p q r (.ptr g 0) data aH::S):=by
 obtain⟨dv,s⟩:=cg.1 s
 refine Call.of_wp (I.free _ rfl) Tryz.func38 rfl rfl (zK 10 rfl (zY s 0 rj Kx rfl (zC rfl (XZ pZ) (rfl) (zk 7 rfl ?_))))
 refine aq.w8 s rfl rfl rfl rfl (fun J h s => ?_)
 refine zo rfl (b_ rfl (by rw[Xz];rfl)) ?_
 refine aq.bG s rfl rfl rfl (dc rfl rfl) (fun p13 h s => ?_)
 refine zn rfl (zf rfl (rj _ _) ?_)
 refine zS rfl (by exact s.dL (k:=2) rfl Vr rfl (by decide) rfl rfl) (fun h s => ?_)
 refine zk 5 rfl (zY s 2 rj Kx rfl (zk 3 rfl (WP.ret ⟨aa,_,rfl,?_⟩)))
 have s1:=pq (f:=fun v (b:List Nat)=>.cL v b) (s.ae [1])
 have s:=dQ.2 ⟨_,s1.ae [1]⟩
 exact⟨_,rfl,(cg.2 ⟨dv,s.ae [1,1,0]⟩).ae [1]⟩
theorem Gi (hT:W told){n:Int}(s:Sat h (dN g a now bS::c8 a p q r op data aH::dM r p q π::bQ q p μ::bw p δ::S))(ku:gR (π,μ,δ))(hw:δ.waiting.length≤268435456)(tF:∀e∈now,e.2.length=512):
  Call ⟨Tryz.prog,told⟩ 207 [.ptr g 0,.int .i64 n] h fun v h'=>∃(e:Int) (b:List Nat) (ε:bA),GRd (π,μ,δ) now bS n e b ε ∧
   ((e≠0∧v=.aI [.aO,.int .i64 e]∧Sat h' (dN g a now bS::c8 a p q r op data aH::dM r p q ε.1::bQ q p ε.2.1::bw p ε.2.2::S)) ∨
    (e=0∧∃u,v=.aI [u,.int .i64 0]∧Sat h' (aW u b::dN g a now bS::c8 a p q r op data aH::dM r p q ε.1::bQ q p ε.2.1::bw p ε.2.2::S))):=by
 have s0:=s
 obtain⟨nv,s⟩:=dQ.1 s
 obtain⟨dv,s⟩:=cg.1 (s.ae [2])
 dsimp only[bringA,getA,aC] at s
 refine Call.of_wp (hT.free _ rfl) Tryz.func207 rfl rfl (zK 6 rfl (WP.block (zK 3 rfl ?_)))
 refine zd rfl (ak rfl rfl aJ) ?_ ?_
 ·intro J
  have J:n<0:=by simpa using J
  exact zk 20 rfl (WP.ret ⟨aa,_,rfl,1,[],_,.arg (by simp only;omega),.inl ⟨by decide,rfl,s0⟩⟩)
 ·intro J
  have J:0≤n:=by simp at J;omega
  refine zk 4 rfl (zY s 2 nK m6 rfl (zn rfl (zY s 0 uF rT rfl (zc rfl (As hT (s.ae [6])) ?_))))
  rintro v h ⟨rfl,rfl⟩
  refine zd rfl (ak rfl rfl jQ) ?_ ?_
  ·intro I
   have I:(δ.bu.length:Int)≤n:=by simpa using I
   exact zk 9 rfl (WP.ret ⟨aa,_,rfl,1,[],_,.arg (by simp only;omega),.inl ⟨by decide,rfl,s0⟩⟩)
  ·intro I
   have I:n<(δ.bu.length:Int):=by simp at I;omega
   refine zk 8 rfl (zf rfl (yG _ _) ?_)
   cases bS with
   |true =>
    exact zt rfl (aP rfl (s.ld (k:=2) rfl nF rfl)) (rfl) (zk 8 rfl (WP.ret ⟨aa,_,rfl,18,[],_,.bS J I rfl,.inl ⟨by decide,rfl,s0⟩⟩))
   |false =>
    refine zh rfl (aP rfl (by exact s.ld (k:=2) rfl nF rfl)) (rfl) ?_
    refine za rfl (zv (zj rfl (WP.skip (zw (zg rfl (zk 2 rfl (zf rfl (o6 _ _) (zl rfl (by exact s.ld (k:=2) rfl mW rfl) ?_))))))))
    refine zm rfl ?_
    rcases jI (n:=n) (fun _ _=>aX.cL _ _) (s.ae [3]) pY bz qm with⟨g1,g2,_⟩|⟨u,b,g1,g2,_,s2⟩
    ·refine aq.op rfl rfl rfl (gx rfl rfl g2) ?_
     refine zk 5 rfl (zv (zg rfl (zm rfl (zv (zj rfl (WP.skip (zg rfl (zk 2 rfl (zf rfl (nK _ _) (zl rfl (by exact s.ld (k:=2) rfl m6 rfl) ?_))))))))))
     refine zm rfl (zc rfl (Ay (n:=n) hT (s0.ae [1,1,1,1]) ku.ok ku.pins hw) ?_)
     rintro v h ⟨e,b,ε,hr,(⟨he,rfl,s⟩|⟨rfl,u,rfl,s⟩)⟩
     ·dsimp only[bringA,getA,aC] at s
      exact zk 5 rfl (WP.ret ⟨aa,_,rfl,e,b,ε,.read e b ε J I rfl g1 hr,.inl ⟨he,rfl,s.ae [4]⟩⟩)
     ·dsimp only[bringA,getA,aC] at s
      exact zk 5 rfl (WP.ret ⟨aa,_,rfl,0,b,ε,.read 0 b ε J I rfl g1 hr,.inr ⟨rfl,u,rfl,s.ae [0,4]⟩⟩)
    ·dsimp only[bringA,getA,aC] at s2
     refine zo rfl (gx rfl rfl g2) (zk 14 rfl ?_)
     have hb:=tF _ (kF g1)
     refine zc rfl (ow hT s2 (eC _ _) (by simp only at hb;omega)) ?_
     intro v h s
     refine zk 3 rfl (WP.ret ⟨aa,_,rfl,?_⟩)
     have s:=cg.2 ⟨dv,s.ae [3,3,0,0,0,0,0,0,0]⟩
     have s:=dQ.2 ⟨nv,s.ae [4,3]⟩
     exact⟨0,b,_,.own b J I rfl g1,.inr ⟨rfl,v,rfl,((s.ae [2,0,0,1,1,1]).del 6)⟩⟩
end
end Go.Proofs.YtiojppeahfoiaaaGreat.Am

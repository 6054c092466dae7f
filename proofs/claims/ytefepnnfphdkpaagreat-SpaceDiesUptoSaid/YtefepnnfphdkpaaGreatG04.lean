/- SpaceDies: a part of its proof; conditions: its statement's. -/
import Derived.Test.YtefepnnfphdkpaaGreatG02
import Derived.Test.YtefepnnfphdkpaaGreatG03
set_option linter.defProp false
namespace Go.Proofs.YtefepnnfphdkpaaGreat.Am
open Go Go.Maps Go.Sort Go.Shelf Go.RowKit
def gG:=@Tryz.underlying145
def je:=@Tryz.underlying46
def zJ:=@Tryz.underlying146
def zP:=@Tryz.underlying185
def zQ:=@Tryz.func139
def HV:=@Tryz.underlying239
def HW:=@Tryz.underlying244
abbrev af {α:Type}:Option α:=none
variable {X:aO} {C:fH} {es:cm} {Q:Ex→List (Nat×V)→H→Prop} {h h₁ h':H} {E:List (Nat×V)} {L:List (V×H)} {S:List aO} {l b data seen:List Nat} {cs post args:List V} {g n k s i aM d z p6 r id off q j tx pv nx j1 j2 p1 c8 c mid clock im N:Nat} {o:Oper} {y:Operand} {a:PM} {P:Program} {α:Type} {t e:TypeId} {x bv dt v' wh di:V}
theorem aak (m:Nat): AnyZI.SortsIn Tryz.prog Tryz.sorted61_ren Fence.wide m :=
 ⟨fun mL off cap ss W hH I J=>callsIn_wide.2 (AnyM.slices_Sort_int Tryz.sort119 mL off cap ss W hH I J),
  fun p cap W=>callsIn_wide.2 (AnyM.slices_Sort_int_none Tryz.sort119 p cap W)⟩
theorem EP (eg:∀args w,(callFunc g args).run Tryz.prog w=.ok (.enter g args) w){Bm:Nat}{D0:DataW Unit}{w:World}(kH:Maps.size D0≤maxLen)(I:Maps.size D0*8≤140737488355328)
 (abg:SeqGives Fence.wide 2 Tryz.prog g #[.pointer (some ⟨Bm,0,none⟩)] encZ (fun J=>J.Perm (intKeys D0)) (Maps.size D0) w):
  Calls Tryz.prog 61 #[.func (.func g) #[] #[.pointer (some ⟨Bm,0,none⟩)]] w fun e w'=>∃(v:Value) (J:List Int),e=.returned v∧J.Perm (intKeys D0) ∧
   w'.ownsRow w.heap.size 3 1 v J.length ((J.mergeSort (fun x y=>decide (x≤y))).map encZ)∧(v=.slice none 0 0↔J=[])∧Below w.heap.size w w' :=
 (callsIn_wide (n:=5)).1 (AnyZI.sorted_in Tryz.sorted61 Fence.wide 5 aa aa aa aa rfl (by omega) (aak _) (enters_of Tryz.func119 (by rfl) rfl) g _ aa eg _ _ kH I _ abg)
def Bc : List Nat:=[120,174,175]
theorem O0 : FC Tryz.prog 61 3 Bc:=by
 intro g hg Bm b nn D0 w hB hm J kH I
 simp only[Bc,m8,nR,tG] at hg
 rcases hg with rfl|rfl|rfl
 ·exact EP (enters_of Tryz.func120 (by rfl) rfl) kH I (AnyZI.keys_gives (ρ:=Tryz.keys62_ren) { Tryz.keys62 with } Fence.wide _ aa rfl (by omega) Bm b nn D0 w hB hm J)
 ·exact EP (enters_of Tryz.func174 (by rfl) rfl) kH I (AnyZI.keys_gives (ρ:=Tryz.keys143_ren) { Tryz.keys143 with } Fence.wide _ aa rfl (by omega) Bm b nn D0 w hB hm J)
 ·exact EP (enters_of Tryz.func175 (by rfl) rfl) kH I (AnyZI.keys_gives (ρ:=Tryz.keys147_ren) { Tryz.keys147 with } Fence.wide _ aa rfl (by omega) Bm b nn D0 w hB hm J)
end Go.Proofs.YtefepnnfphdkpaaGreat.Am
namespace Go.Proofs.YtefepnnfphdkpaaGreat.Am
open Go
variable {X:aO} {C:fH} {es:cm} {Q:Ex→List (Nat×V)→H→Prop} {h h₁ h':H} {E:List (Nat×V)} {L:List (V×H)} {S:List aO} {l b data seen:List Nat} {cs post args:List V} {g n k s i aM d z p6 r id off q j tx pv nx j1 j2 p1 c8 c mid clock im N:Nat} {o:Oper} {y:Operand} {a:PM} {P:Program} {α:Type} {t e:TypeId} {x bv dt v' wh di:V}
def HX : List Nat:=[95,176,177,162,161,171,163,116]
structure Std (told:dc): Prop where
 free:∀f,inL HX f=true→told f=none
 more:told 178=some toldMore
theorem wrap_u64 (h:n<18446744073709551616): IntKind.wrap .u64 (n:Int)=(n:Int):=by
 grind[IntKind.wrap,IntKind.bits,IntKind.signed]
theorem wrap_u8 (n:Nat): IntKind.wrap .u8 (n:Int)=((n%256:Nat):Int):=by
 rfl
def digits : Nat→Nat→List Nat
 |0,n=>[n%128]
 |k+1,n=>if n<128 then[n] else(n%128+128)::digits k (n/128)
set_option maxRecDepth 10000 in
theorem aal (h:n<256): Nat.lor n 128=n%128+128:=by
 have:∀m:Fin 256,Nat.lor m.1 128=m.1%128+128:=by decide
 exact this ⟨n,h⟩
theorem MC (h:n<256): intV .or .u8 (n:Int) 128=some (.int .u8 ((n%128+128:Nat):Int)):=by
 have I:((n:Int)%(2^(IntKind.u8).bits:Int)).toNat=n:=by grind[IntKind.bits]
 have J:((128:Int)%(2^(IntKind.u8).bits:Int)).toNat=128:=by rfl
 grind[intV,bitsV,aal,wrap_u8]
theorem abh : shiftV .shr .u64 (n:Int) 7=some (.int .u64 ((n/128:Nat):Int)):=by
 grind[shiftV,IntKind.bits]
section
variable {told:dc}
noncomputable def vtX : Code:=unloop (unblk (leftC (cP ((Tryz.f176.body).getD .skip))))
theorem rO : convV Tryz.prog h 43 5 (.int .u64 (n:Int))=some (.int .u8 ((n%256:Nat):Int),h):=by
 simp[convV,wrap_u8]
theorem jL (h:n<128): digits k n=[n]:=by
 cases k<;>grind[digits]
theorem Dm (hn:n<128)(I:look E 1=some (.int .u64 (n:Int)))
 (J:Q (.exit 0) ((6,.bool false)::(5,.int .u64 (n:Int))::E) h): WP ⟨Tryz.prog,told⟩ 20 (.loop vtX) E h Q:=by
 refine WP.loop (WP.seq (WP.seq (WP.region rfl ?_)))
 refine zo rfl (bD I) (zo rfl (az (v:=.int .u64 (n:Int)) (u:=.int .u64 128) (r:=.bool false) rfl rfl (by simp only[binV,ikBeq,aj,intV];congr 2;simp;omega)) ?_)
 exact ay.nil (WP.cond (t:=false) rfl (WP.exit J))
theorem JU : ∀(k n:Nat) (l:List Nat) (s:V) (h:H) (E:List (Nat×V)) (Q:Ex→List (Nat×V)→H→Prop),l7 h→jP h s l→n<128^(k+1)→k≤9→l.length+k+1≤140737488355328 →
  look E 0=some s→look E 1=some (.int .u64 (n:Int)) →
  (∀E' h' s' l' (m:Nat),look E' 0=some s'→look E' 1=some (.int .u64 (m:Int))→m<128→l'++[m]=l++digits k n→jP h' s' l'→eM (2*k) (rowIds s) h h'→(∀i∈rowIds s',i∈rowIds s∨h.next≤i)→Q (.exit 0) E' h') →
  WP ⟨Tryz.prog,told⟩ 20 (.loop vtX) E h Q:=by
 intro k
 induction k with
 |zero =>
  intro n l s h E Q hw hs hn _ _ h0 J hq
  have I:n<128:=by omega
  exact Dm I J (hq _ h s l n h0 J I (by rw[jL I]) hs (eM.refl hw _) (fun i hi=>.inl hi))
 |succ k ih =>
  intro n l s h E Q hw hs hn hk hl h0 J hq
  by_cases I:n<128
  ·exact Dm I J (hq _ h s l n h0 J I (by rw[jL I]) hs ((eM.refl hw _).mono (fX _) (fun _ h=>h)) (fun i hi=>.inl hi))
  ·have hd:n/128<128^(k+1):=by
    omega
   refine WP.loop (WP.seq (WP.seq (WP.region rfl ?_)))
   refine zo rfl (bD J) (zo rfl (az (v:=.int .u64 (n:Int)) (u:=.int .u64 128) (r:=.bool true) rfl rfl (by simp only[binV,ikBeq,aj,intV];congr 2;simp;omega)) ?_)
   refine ay.nil (WP.cond (t:=true) rfl (WP.skip ?_))
   refine WP.block (WP.seq (WP.region rfl ?_))
   refine zo rfl (bD h0) (zo rfl (bD J) (zo rfl (b6 (v:=.int .u64 (n:Int)) rfl rO) (zo rfl (az (v:=.int .u8 ((n%256:Nat):Int)) (u:=.int .u8 128) (r:=.int .u8 ((n%256%128+128:Nat):Int)) rfl rfl (by exact MC (by omega))) ?_)))
   refine ay.Mq (b:=n%256%128+128) rfl hw rfl rfl rfl rfl rfl rfl (by omega) (fun v h₁ b1 k1 f1 => ?_)
   have fF:jP h₁ s l:=hs.lU hw k1 (fun i _=>nR)
   refine ay.app (s:=s) (x:=v) rfl k1.wf rfl rfl rfl rfl rfl rfl rfl fF b1.view (by grind) (fun v2 O1 b2 k2 f2 => ?_)
   have O2:eM 2 (rowIds s) h O1:=(k1.mono (aU _) (fun i hi=>by grind)).trans k2 (fun i hi=>.inl hi)
   refine za rfl ?_
   refine ay.nil (WP.region rfl ?_)
   refine zo rfl (bD J) (zo rfl (az (v:=.int .u64 (n:Int)) (u:=.int .u64 7) (r:=.int .u64 ((n/128:Nat):Int)) rfl rfl abh) (zk 2 rfl ?_))
   refine ih (n/128) (l++[n%256%128+128]) v2 O1 _ Q O2.wf b2 hd (by omega) (by grind) rfl rfl (fun E' h' s' l' m q1 q2 q3 q4 q5 q6 q7 => ?_)
   refine hq E' h' s' l' m q1 q2 q3 ?_ q5 ?_ (fun i hi => ?_)
   ·grind[digits]
   ·exact(O2.trans q6 (fun i hi=>(f2 i hi).imp_right (fun h=>bT k1.le h))).mono (by omega) (fun i hi=>hi)
   ·rcases q7 i hi with h3|h3
    ·exact(f2 i h3).imp_right (fun h=>bT k1.le h)
    ·exact .inr (bT O2.le h3)
theorem FP (hT:Std told){s:V}(hw:l7 h)(hs:jP h s l)(hn:n<128^(k+1))(hk:k≤9)(hl:l.length+k+1≤140737488355328):
  Call ⟨Tryz.prog,told⟩ 176 [s,.int .u64 (n:Int)] h fun v h'=>jP h' v (l++digits k n)∧eM (2*k+2) (rowIds s) h h'∧∀i∈rowIds v,i∈rowIds s∨h.next≤i:=by
 refine Call.of_wp (hT.free _ rfl) Tryz.func176 rfl rfl ?_
 refine WP.seq (WP.region rfl (ay.op rfl rfl rfl (fB rfl) (ay.nil ?_)))
 refine WP.seq (WP.block ?_)
 refine JU k n l s h _ _ hw hs hn hk hl rfl rfl (fun E' h' s' l' m q1 q2 q3 q4 q5 I q7 => ?_)
 have wu:l'.length=l.length+(digits k n).length-1:=by
  have:=iO List.length q4
  simp at this
  omega
 have J:∀(k n:Nat),(digits k n).length≤k+1:=by
  intro k
  induction k<;>grind[digits]
 have acO:=J k n
 refine WP.seq (WP.region rfl ?_)
 refine zo rfl (bD q1) (zo rfl (bD q2) (zo rfl (b6 (v:=.int .u64 (m:Int)) rfl rO) ?_))
 refine ay.Mq (b:=m%256) rfl I.wf rfl rfl rfl rfl rfl rfl (by omega) (fun v h₁ b1 k1 f1 => ?_)
 have fF:jP h₁ s' l':=q5.lU I.wf k1 (fun i _=>nR)
 refine ay.app (s:=s') (x:=v) rfl k1.wf rfl rfl rfl rfl rfl rfl rfl fF b1.view (by grind) (fun v2 O1 b2 k2 f2 => ?_)
 refine za rfl ?_
 refine ay.nil (WP.ret ?_)
 refine⟨aa,v2,rfl,?_,?_,fun i hi => ?_⟩
 ·grind
 ·refine((I.trans k1 (fun i hi=>by grind)).trans k2 (fun i hi => ?_)).mono (by omega) (fun i hi=>hi)<;>grind
 ·rcases f2 i hi with h3|h3
  ·grind
  ·exact .inr (by have:=I.le;have:=k1.le;omega)
theorem HY (I:n<18446744073709551616): convV Tryz.prog h 3 43 (.int .i64 (n:Int))=some (.int .u64 (n:Int),h):=by
 simp_all[convV,wrap_u64]
theorem g9 : ∀(k n:Nat),(digits k n).length≤k+1:=by
 intro k
 induction k<;>grind[digits]
theorem VD (I:Std told){s:V}{m:List Nat}(hw:l7 h)(hs:jP h s l)(J:View h x m)(hd:∀i∈rowIds x,i∉rowIds s)(hn:m.length<128^(k+1))(hk:k≤9)(hl:l.length+k+1+m.length≤140737488355328):
  Call ⟨Tryz.prog,told⟩ 177 [s,x] h fun v h'=>jP h' v (l++digits k m.length++m)∧eM (2*k+3) (rowIds s) h h'∧∀i∈rowIds v,i∈rowIds s∨h.next≤i:=by
 refine Call.of_wp (I.free _ rfl) Tryz.func177 rfl rfl ?_
 refine WP.seq (WP.region rfl (ay.op rfl rfl rfl (fB rfl) (ay.nil ?_)))
 refine WP.seq (WP.region rfl ?_)
 refine zk 2 rfl (zo rfl (aP (v:=x) rfl rfl rfl J.len) (zo rfl (b6 (v:=.int .i64 (m.length:Int)) rfl (HY (by omega))) ?_))
 refine ay.call rfl rfl rfl rfl rfl rfl rfl (FP I (k:=k) hw hs hn hk (by omega)) (fun v h₁ ⟨b1,k1,f1⟩ => ?_)
 refine zm rfl ?_
 have Uo:=g9 k m.length
 refine ay.app (s:=v) (x:=x) rfl k1.wf rfl rfl rfl rfl rfl rfl rfl b1 (J.lU hw k1 hd) (by grind) (fun v2 O1 b2 k2 f2 => ?_)
 refine ay.op rfl rfl rfl (fB rfl) (ay.nil (WP.ret ?_))
 refine⟨aa,v2,rfl,b2,(k1.trans k2 f1).mono (by omega) (fun i hi=>hi),fun i hi => ?_⟩
 rcases f2 i hi with h3|h3
 ·grind
 ·exact .inr (bT k1.le h3)
def le : Nat→Nat→List Nat
 |0,_=>[]
 |k+1,n=>(n%256)::le k (n/256)
theorem cR : ∀(k n:Nat),(le k n).length=k:=by
 intro k
 induction k<;>grind[le]
theorem MD : ∀(k n:Nat),∀b∈le k n,b<256:=by
 intro k
 induction k with
 |zero=>intro n b I;cases I
 |succ k J =>
  intro n b I
  rcases List.mem_cons.1 I with rfl|I<;>grind
noncomputable def lyX : Code:=unloop (unblk (cP (leftC (cP ((Tryz.f95.body).getD .skip)))))
theorem Yh (hi:i≤8): shiftV .shr .u64 (n:Int) ((8*i:Nat):Int)=some (.int .u64 ((n/256^i:Nat):Int)):=by
 simp only[shiftV,IntKind.bits,cS]
 rw[show min (8*i) 64=8*i by omega,show decide (((8*i:Nat):Int)<0)=false by rfl,a_]
 rw[Int.fdiv_eq_ediv_of_nonneg _ (Int.pow_nonneg (by omega))]
 rw[show(256:Nat)^i=2^(8*i) by rw[Nat.pow_mul]]
 push_cast
 rfl
theorem RR {size:Nat}(fU:size≤8): ∀(j i:Nat) (l:List Nat) (s:V) (h:H) (E:List (Nat×V)) (Q:Ex→List (Nat×V)→H→Prop),l7 h→jP h s l→i+j=size→l.length+j≤140737488355328 →
  look E 0=some s→look E 2=some (.int .u64 (n:Int))→look E 8=some (.int .i64 (size:Int))→look E 9=some (.int .i64 (i:Int)) →
  (∀E' h' s',look E' 0=some s'→jP h' s' (l++le j (n/256^i))→eM (2*j) (rowIds s) h h'→(∀i∈rowIds s',i∈rowIds s∨h.next≤i)→Q (.exit 0) E' h') →
  WP ⟨Tryz.prog,told⟩ 22 (.loop lyX) E h Q:=by
 intro j
 induction j with
 |zero =>
  intro i l s h E Q hw hs hi _ h0 h2 h8 h9 hq
  refine WP.loop (WP.seq (WP.region rfl ?_))
  refine zo rfl (az (v:=.int .i64 (i:Int)) (u:=.int .i64 (size:Int)) (r:=.bool false) h9 h8 (by simp_all[binV,ikBeq,intV])) ?_
  refine ay.nil (WP.seq (WP.cond (t:=false) rfl (WP.exit ?_)))
  exact hq _ h s h0 (by simpa[le] using hs) (eM.refl hw _) (fun i hi=>.inl hi)
 |succ j ih =>
  intro i l s h E Q hw hs hi hl h0 h2 h8 h9 hq
  refine WP.loop (WP.seq (WP.region rfl ?_))
  refine zo rfl (az (v:=.int .i64 (i:Int)) (u:=.int .i64 (size:Int)) (r:=.bool true) h9 h8 (by simp only[binV,ikBeq,aj,intV];congr 2;simp;omega)) ?_
  refine ay.nil (WP.seq (WP.cond (t:=true) rfl (WP.skip ?_)))
  refine WP.seq (WP.block (WP.seq (WP.region rfl ?_)))
  refine zo rfl (bD h9) ?_
  refine ay.op rfl rfl rfl (fB rfl) (ay.nil (WP.region rfl ?_))
  refine zo rfl (bD h0) (zo rfl (bD h2) (zm rfl ?_))
  refine ay.op rfl rfl rfl (az (v:=.int .i64 8) (u:=.int .i64 (i:Int)) (r:=.int .i64 ((8*i:Nat):Int)) rfl rfl (by
   simp only[binV,ikBeq,aj,intV]
   rw[show(8:Int)*(i:Int)=((8*i:Nat):Int) by rfl,wrap_i64 (by omega)])) ?_
  refine zo rfl (az (v:=.int .u64 (n:Int)) (u:=.int .i64 ((8*i:Nat):Int)) (r:=.int .u64 ((n/256^i:Nat):Int)) rfl rfl (by exact Yh (by omega))) ?_
  refine zo rfl (b6 (v:=.int .u64 ((n/256^i:Nat):Int)) rfl rO) ?_
  refine ay.Mq (b:=n/256^i%256) rfl hw rfl rfl rfl rfl rfl rfl (by omega) (fun v h₁ b1 k1 f1 => ?_)
  have fF:jP h₁ s l:=hs.lU hw k1 (fun i _=>nR)
  refine ay.app (s:=s) (x:=v) rfl k1.wf rfl rfl rfl rfl rfl rfl rfl fF b1.view (by grind) (fun v2 I b2 k2 f2 => ?_)
  have J:eM 2 (rowIds s) h I:=(k1.mono (aU _) (fun i hi=>by grind)).trans k2 (fun i hi=>.inl hi)
  refine ay.op rfl rfl rfl (fB rfl) (ay.nil (WP.region rfl ?_))
  refine zo rfl (az (v:=.int .i64 (i:Int)) (u:=.int .i64 1) h9 rfl (by simp only[binV,ikBeq,aj];exact yU (by omega))) ?_
  refine ay.op rfl rfl rfl (bD rfl) (ay.nil ?_)
  refine ih (i+1) (l++[n/256^i%256]) v2 I _ Q J.wf b2 (by omega) (by grind) rfl h2 h8 rfl (fun E' h' s' q1 q2 q3 q4 => ?_)
  refine hq E' h' s' q1 ?_ ?_ (fun i hi => ?_)
  ·grind[Nat.div_div_eq_div_mul,le]
  ·exact(J.trans q3 (fun i hi=>(f2 i hi).imp_right (fun h=>bT k1.le h))).mono (by omega) (fun i hi=>hi)
  ·rcases q4 i hi with h3|h3
   ·exact(f2 i h3).imp_right (fun h=>bT k1.le h)
   ·exact .inr (bT J.le h3)
theorem O3 (J:Std told){s:V}{size:Nat}(hw:l7 h)(hs:jP h s l)(I:size≤8)(hl:l.length+size≤140737488355328):
  Call ⟨Tryz.prog,told⟩ 95 [s,.int .i64 (size:Int),.int .u64 (n:Int)] h fun v h'=>jP h' v (l++le size n)∧eM (2*size) (rowIds s) h h'∧∀i∈rowIds v,i∈rowIds s∨h.next≤i:=by
 refine Call.of_wp (J.free _ rfl) Tryz.func95 rfl rfl ?_
 refine WP.seq (WP.region rfl (ay.op rfl rfl rfl (fB rfl) (ay.nil ?_)))
 refine WP.seq (WP.seq (WP.region rfl ?_))
 refine zm rfl ?_
 refine ay.op rfl rfl rfl (bD rfl) (ay.nil (WP.block ?_))
 refine RR I size 0 l s h _ _ hw hs (by omega) hl rfl rfl rfl rfl (fun E' h' s' q1 q2 q3 q4 => ?_)
 refine WP.seq (WP.region rfl ?_)
 refine zo rfl (bD q1) ?_
 refine ay.op rfl rfl rfl (fB rfl) (ay.nil (WP.ret ?_))
 exact⟨aa,s',rfl,by grind,q3,q4⟩
theorem ME : ∀(l:List Nat),(∀b∈l,b<256)→bytesIn (ofBytes l)=some l:=by
 intro l
 induction l<;>grind[List.mem_cons_self,bytesIn,ofBytes]
def Cb (s:Nat)(l:List Nat): Nat:=Nat.xor (crcL (Nat.xor s 4294967295) l) 4294967295
theorem ER (hs:s<4294967296)(I:∀b∈l,b<256): Cb s l<4294967296:=oK (EA l _ (oK hs (by omega)) I) (by omega)
theorem K3 (hT:Std told)(J:View h x l)(hl:l.length≤4611686018427387904)(hs:s<4294967296):
  h_ ⟨Tryz.prog,told⟩ 178 [.int .u32 (s:Int),x] h (.int .u32 (Cb s l:Nat)) h:=by
 refine h_.told hT.more CM rfl ?_
 have I:=J
 obtain⟨hb,I⟩:=I
 rcases I with⟨rfl|⟨ea,rfl⟩,rfl⟩|⟨id,off,cap,n,cs,st,rfl,hg,h1,h2,h3,h4⟩
 ·simp only[toldMore]
  rw[show(decide ((0:Int)≤(s:Int))&&decide ((s:Int)<4294967296))=true by grind]
  rfl
 ·simp only[toldMore]
  rw[show(decide ((0:Int)≤(s:Int))&&decide ((s:Int)<4294967296))=true by grind]
  rfl
 ·simp only[toldMore]
  rw[show(decide ((0:Int)≤(s:Int))&&decide ((s:Int)<4294967296)&&Nat.ble l.length 4611686018427387904)=true by simp[bg];omega,aj,(View.rdN J).2]
  simp only[ME l hb]
  rfl
theorem aam (I:Std told)(J:View h x l)(hl:l.length≤4611686018427387904):
  Call ⟨Tryz.prog,told⟩ 171 [x] h fun v h'=>v=.int .u32 (Cb 0 l:Nat)∧h'=h:=by
 refine Call.of_wp (I.free _ rfl) Tryz.func171 rfl rfl ?_
 refine WP.seq (WP.region rfl (ay.op rfl rfl rfl (fB rfl) (ay.nil ?_)))
 refine WP.seq (WP.region rfl ?_)
 refine zm rfl ?_
 refine ay.call (yR:=fun v h'=>v=.int .u32 (Cb 0 l:Nat)∧h'=h) rfl rfl rfl rfl rfl rfl rfl ⟨_,_,K3 (s:=0) I J hl (by omega),rfl,rfl⟩ (fun v h₁ ⟨e1,e2⟩ => ?_)
 subst e1;subst e2
 exact ay.op rfl rfl rfl (fB rfl) (ay.nil (WP.ret ⟨aa,_,rfl,rfl,rfl⟩))
def tg (aM:Nat)(l:List Nat): Nat:=Cb (Cb 0 (le 8 aM)) l
theorem HZ (I:∀b∈l,b<256): tg aM l<4294967296:=ER (ER (by omega) (MD 8 aM)) I
theorem O4 (J:Std told)(hw:l7 h)(hx:View h x l)(hl:l.length≤4611686018427387904):
  Call ⟨Tryz.prog,told⟩ 163 [.int .u64 (aM:Int),x] h fun v h'=>v=.int .u32 (tg aM l:Nat)∧eM 16 [] h h':=by
 refine Call.of_wp (J.free _ rfl) Tryz.func163 rfl rfl ?_
 refine WP.seq (WP.region rfl (ay.op rfl rfl rfl (fB rfl) (ay.nil ?_)))
 refine WP.seq (WP.region rfl ?_)
 refine zm rfl ?_
 refine ay.call rfl rfl rfl rfl rfl rfl rfl (O3 (size:=8) (s:=.bC) (l:=[]) (n:=aM) J hw ⟨by simp,.inl ⟨rfl,rfl⟩⟩ (by omega) (by simp)) (fun v h₁ ⟨b1,k1,f1⟩ => ?_)
 rw[eB] at b1
 refine ay.call rfl rfl rfl rfl rfl rfl rfl (aam J b1.view (by rw[cR];omega)) (fun v2 I ⟨e1,e2⟩ => ?_)
 subst e1;subst e2
 refine zm rfl ?_
 refine ay.call (yR:=fun v h'=>v=.int .u32 (tg aM l:Nat)∧h'=I) rfl rfl rfl rfl rfl rfl rfl
  ⟨_,_,K3 (s:=Cb 0 (le 8 aM)) J (hx.lU hw k1 (fun i _ hi=>by simp[rowIds] at hi)) hl (ER (by omega) (MD 8 aM)),rfl,rfl⟩ (fun v3 OE ⟨e3,e4⟩ => ?_)
 subst e3;subst e4
 exact ay.op rfl rfl rfl (fB rfl) (ay.nil (WP.ret ⟨aa,_,rfl,rfl,k1.mono (aU _) (fun i hi=>by simp[rowIds] at hi)⟩))
end
def O5 : List Nat:=[31,50,178,61,173,139,145]
structure W (told:dc): Prop where
 free:∀f,inL O5 f=false→told f=none
 more:told 178=some toldMore
 sorted:told 61=some (toldSorted Bc)
theorem W.Up {told:dc}(I:W told): Std told:=by
 refine⟨fun f J=>I.free f ?_,I.more⟩
 have:∀f∈HX,inL O5 f=false:=by decide
 grind[Oa]
def k_ (v:V): Option (List Nat)→aO
 |none=>.pu (v=.bC)
 |some b=>.an (.pu (v≠.bC)) (.cg v b)
theorem aY.k_ (v:V)(o:Option (List Nat)): aY (Am.k_ v o):=by
 cases o with
 |none=>exact aY.pu _
 |some b=>exact aY.an (aY.pu _) (aY.cg _ _)
def each {α:Type}(f:V→α→aO): List V→List α→aO
 |[],[]=>.pu True
 |v::l,x::m=>.an (f v x) (each f l m)
 |_,_=>.pu False
theorem aY.each {f:V→α→aO}(I:∀v x,aY (f v x)): ∀(l:List V) (m:List α),aY (Am.each f l m):=by
 intro l
 induction l with
 |nil=>intro m;cases m<;>exact aY.pu _
 |cons v l J=>intro m;cases m with
  |nil=>exact aY.pu _
  |cons x m=>exact aY.an (I _ _) (J m)
section
variable {f:V→α→aO} {b:PM}
theorem ry : ∀ {l:List V} {m:List α},(each f l m).p a b→l.length=m.length:=by
 intro l
 induction l with
 |nil=>intro m h;cases m with
  |nil=>rfl
  |cons x m=>exact h.elim
 |cons v l I=>intro m h;cases m with
  |nil=>exact h.elim
  |cons x m=>simp only[aX,I h.2]
theorem xE : ∀ {l:List V} {m:List α} {i:Nat} {v:V} {x:α},(each f l m).p a b→l[i]?=some v→m[i]?=some x→(f v x).p a b:=by
 intro l
 induction l with
 |nil=>simp
 |cons u l J=>intro m i v x h hv I;cases m with
  |nil=>grind
  |cons y m =>
   cases i with
   |zero=>simp at hv I;subst hv;subst I;exact h.1
   |succ i=>exact J h.2 hv I
theorem Cc : ∀ {l:List V} {m:List α} {i:Nat} {v:V} {x:α},(each f l m).p a b→(f v x).p a b→(each f (l.set i v) (m.set i x)).p a b:=by
 intro l
 induction l with
 |nil=>intro m i v x h hv;cases m with
  |nil=>exact h
  |cons x m=>exact h.elim
 |cons u l I=>intro m i v x h hv;cases m with
  |nil=>exact h.elim
  |cons y m =>
   cases i with
   |zero=>exact⟨hv,h.2⟩
   |succ i=>exact⟨h.1,I h.2 hv⟩
theorem RT : ∀ {l:List V} {m:List α} {I:List V} {m':List α},(each f l m).p a b→(each f I m').p a b→(each f (l++I) (m++m')).p a b:=by
 intro l
 induction l with
 |nil=>intro m I m' h hv;cases m with
  |nil=>exact hv
  |cons x m=>exact h.elim
 |cons u l J=>intro m I m' h hv;cases m with
  |nil=>exact h.elim
  |cons y m=>exact⟨h.1,J h.2 hv⟩
end
abbrev Wr := Nat×List Nat
structure Dk where
 room:Nat
 aq:List (Option (List Nat))
 waiting:List Wr
 now:List (Int×List Nat)
 log:List Nat
 bh:Nat
 mark:List Nat
 aS:Int
 dead:Bool
 dA:Option Wr
 tail:List Nat
variable {δ:Dk}
def wL (room:Nat)(pg wt nw lg:V)(I:Nat)(mk:V)(J ops:Int)(dead:Bool)(tn tl:V): List V :=
 [.int .i64 (room:Int),pg,wt,nw,lg,.int .i64 (I:Int),mk,.int .i64 J,.int .i64 ops,.bool dead,tn,tl]
def ur : List V→List Wr→aO
 |[],[]=>.pu True
 |p::v::l,x::m=>.an (.an (.pu (p=.int .i64 (x.1:Int)∧v≠.bC)) (.cg v x.2)) (ur l m)
 |_,_=>.pu False
theorem aY.wr : ∀(m:List Wr) (l:List V),aY (ur l m):=by
 intro m
 induction m with
 |nil=>intro l;cases l with
  |nil=>exact aY.pu _
  |cons v l=>cases l<;>exact aY.pu _
 |cons x m I=>intro l;cases l with
  |nil=>exact aY.pu _
  |cons v l=>cases l with
   |nil=>exact aY.pu _
   |cons u l=>exact aY.an (aY.an (aY.pu _) (aY.cg _ _)) (I l)
theorem VE {b:PM}: ∀ {m:List Wr} {l:List V} {x:Wr} {v:V},(ur l m).p a b→v≠.bC→(aO.cg v x.2).p a b→(ur (l++[.int .i64 (x.1:Int),v]) (m++[x])).p a b:=by
 intro m
 induction m with
 |nil=>intro l x v h I hv;cases l with
  |nil=>exact⟨⟨⟨rfl,I⟩,hv⟩,aa⟩
  |cons u l=>cases l<;>exact h.elim
 |cons y m J=>intro l x v h I hv;cases l with
  |nil=>exact h.elim
  |cons u l=>cases l with
   |nil=>exact h.elim
   |cons w l=>exact⟨h.1,J h.2 I hv⟩
theorem Bd {b:PM}: ∀ {m:List Wr} {l:List V},(ur l m).p a b→l.length=m.length*2:=by
 intro m
 induction m with
 |nil=>intro l h;cases l with
  |nil=>rfl
  |cons u l=>cases l<;>exact h.elim
 |cons y m I=>intro l h;cases l with
  |nil=>exact h.elim
  |cons u l=>cases l with
   |nil=>exact h.elim
   |cons w l=>have:=I h.2;simp only[aX];omega
def oP (v:V)(m:List (Option (List Nat))): aO:=xs fun id:Nat=>xs fun cs:List V=>star [.pu (v=.sl id 0 m.length (.exact m.length)),pt id (.cells m.length cs false),each k_ cs m]
def Be (v:V)(m:List Wr): aO:=xs fun cs:List V=>star [.arr 2 v cs,ur cs m]
def Bf (v:V): Option Wr→aO
 |none=>.pu (v=.cy)
 |some x=>xs fun id:Nat=>xs fun u:V=>star [.pu (v=.ptr id 0),pt id (.cells 2 [.int .i64 (x.1:Int),u] false),.cg u x.2]
def aR (p:Nat)(δ:Dk): aO:=xs fun pg:V=>xs fun wt:V=>xs fun nw:V=>xs fun lg:V=>xs fun mk:V=>xs fun I:V=>xs fun J:V=>xs fun ops:Int =>
 star [pt p (.cells 12 (wL δ.room pg wt nw lg δ.bh mk δ.aS ops δ.dead I J) false),oP pg δ.aq,Be wt δ.waiting,ju (fun v b=>.cg v b) nw δ.now,aV lg δ.log,BK mk δ.mark,Bf I δ.dA,BK J δ.tail]
section
variable {p:Nat}
theorem bE : Sat h (aR p δ::S)↔∃pg wt nw lg mk I J ops,Sat h (pt p (.cells 12 (wL δ.room pg wt nw lg δ.bh mk δ.aS ops δ.dead I J) false)::oP pg δ.aq::Be wt δ.waiting::ju (fun v b=>.cg v b) nw δ.now::aV lg δ.log::BK mk δ.mark::Bf I δ.dA::BK J δ.tail::S):=by
 simp[aR,ic,br]
theorem gH {v:V}{m:List (Option (List Nat))}: Sat h (oP v m::S)↔∃id cs,v=.sl id 0 m.length (.exact m.length)∧Sat h (pt id (.cells m.length cs false)::each k_ cs m::S):=by
 simp[oP,ic,br,eR]
theorem mD {v:V}{m:List Wr}: Sat h (Be v m::S)↔∃cs,Sat h (.arr 2 v cs::ur cs m::S):=by
 grind[Be,ic,br]
end
section
variable {told:dc} {v:V}
def Dn (s:Nat)(l:List Nat): Nat:=Nat.xor (crcL (Nat.xor s 4294967295) l) 4294967295
theorem Cd (hs:s<4294967296)(I:∀b∈l,b<256): Dn s l<4294967296:=oK (EA _ _ (oK hs (by omega)) I) (by omega)
theorem VF (hT:W told)(sa:Sat h S)(hk:getA S k=some X)(hX:cQ X (cW v l))(hs:s<4294967296)(hl:l.length≤4611686018427387904):
  Call ⟨Tryz.prog,told⟩ 178 [.int .u32 (s:Int),v] h fun r h'=>r=.int .u32 (Dn s l:Nat)∧h'=h:=by
 have hv:=sa.aH hk hX
 refine⟨_,_,h_.told hT.more CM rfl ?_,rfl,rfl⟩
 have I:wB (s:Int) l=.int .u32 (Dn s l:Nat):=by rfl
 have J:=hv
 rcases J.2 with⟨rfl|⟨ea,rfl⟩,rfl⟩|⟨id,off,cap,n,cs,st,rfl,_⟩
 ·grind[toldMore]
 ·grind[toldMore]
 ·simp only[toldMore]
  rw[show(decide ((0:Int)≤(s:Int))&&decide ((s:Int)<4294967296)&&Nat.ble l.length 4611686018427387904)=true by simp;omega,aj,hv.rdN.2]
  simp only
  have:∀l:List Nat,(∀b∈l,b<256)→bytesIn (ofBytes l)=some l:=by
   intro l
   induction l with
   |nil=>intro _;rfl
   |cons b l ih =>
    intro hb
    grind[ofBytes,bytesIn,List.mem_cons_self]
  rw[this l hv.1]
  simp only[I]
end
section
variable {told:dc} {p:Nat}
theorem jE (J:W told)(s:Sat h (X::S))(I:cQ X (cW x l))(hl:l.length<1073741824):
  Call ⟨Tryz.prog,told⟩ 90 [x] h fun v h'=>Sat h' (aV v l::X::S):=by
 refine Call.of_wp (J.free _ rfl) Tryz.func90 rfl rfl (zK 7 rfl (zo rfl (aP rfl rfl rfl (bj aT (s.aH (k:=0) rfl I))) (ay.any rfl rfl rfl (OpR.um rfl s rfl rfl rfl rfl hl) ?_)))
 intro v h s
 refine zm rfl (ay.any rfl rfl rfl (OpR.qy rfl s I rfl rfl rfl rfl (by simp;omega)) ?_)
 intro v h s
 exact zk 2 rfl (WP.ret ⟨aa,_,rfl,s⟩)
theorem xF (J:W told)(s:Sat h (X::S))(I:cQ X (cW x l))(hl:l.length<1073741824):
  Call ⟨Tryz.prog,told⟩ 121 [x] h fun v h'=>Sat h' (aV v l::X::S):=by
 refine Call.of_wp (J.free _ rfl) Tryz.func121 rfl rfl (zK 7 rfl (zo rfl (aP rfl rfl rfl (bj aT (s.aH (k:=0) rfl I))) (ay.any rfl rfl rfl (OpR.um rfl s rfl rfl rfl rfl hl) ?_)))
 intro v h s
 refine zm rfl (ay.any rfl rfl rfl (OpR.qy rfl s I rfl rfl rfl rfl (by simp;omega)) ?_)
 intro v h s
 exact zk 2 rfl (WP.ret ⟨aa,_,rfl,s⟩)
theorem mH (J:W told)(s:Sat h (X::S))(I:cQ X (cW x l))(hl:l.length<1073741824):
  Call ⟨Tryz.prog,told⟩ 85 [x] h fun v h'=>Sat h' (aV v l::X::S):=by
 refine Call.of_wp (J.free _ rfl) Tryz.func85 rfl rfl (zK 7 rfl (zo rfl (aP rfl rfl rfl (bj aT (s.aH (k:=0) rfl I))) (ay.any rfl rfl rfl (OpR.um rfl s rfl rfl rfl rfl hl) ?_)))
 intro v h s
 refine zm rfl (ay.any rfl rfl rfl (OpR.qy rfl s I rfl rfl rfl rfl (by simp;omega)) ?_)
 intro v h s
 exact zk 2 rfl (WP.ret ⟨aa,_,rfl,s⟩)
theorem xG (I:W told)(s:Sat h (aR p δ::S)): Call ⟨Tryz.prog,told⟩ 72 [.ptr p 0] h fun v h'=>v=.int .i64 (δ.aq.length:Int)∧h'=h:=by
 obtain⟨pg,wt,nw,lg,mk,J,tl,ops,s⟩:=bE.1 s
 obtain⟨id,cs,rfl,s'⟩:=gH.1 (s.ae [1])
 exact Call.of_wp (I.free _ rfl) Tryz.func72 rfl rfl (zK 8 rfl (zY s 0 ng rM rfl (zo rfl (aP rfl rfl rfl (p_ rfl gG)) (zk 2 rfl (WP.ret ⟨aa,_,rfl,rfl,rfl⟩)))))
theorem O6 (hT:W told){n:Int}(s:Sat h (aR p δ::S)): Call ⟨Tryz.prog,told⟩ 170 [.ptr p 0,.int .i64 n] h fun v h'=>h'=h∧((0≤n∧n<δ.aq.length∧v=.bool true)∨(¬(0≤n∧n<δ.aq.length)∧v=.bool false)):=by
 obtain⟨pg,wt,nw,lg,mk,tn,tl,ops,s⟩:=bE.1 s
 obtain⟨id,cs,rfl,s'⟩:=gH.1 (s.ae [1])
 refine Call.of_wp (hT.free _ rfl) Tryz.func170 rfl rfl (zK 7 rfl ?_)
 refine zd rfl (az rfl rfl jJ) ?_ ?_
 ·intro J
  have J:0≤n:=by simpa using J
  refine zk 4 rfl (zY s 0 ng rM rfl (zo rfl (aP rfl rfl rfl (p_ rfl gG)) ?_))
  refine zd rfl (az rfl rfl aN) ?_ ?_
  ·intro I
   have I:n<δ.aq.length:=by simpa using I
   exact zk 3 rfl (WP.ret ⟨aa,_,rfl,rfl,.inl ⟨J,I,rfl⟩⟩)
  ·intro I
   have I:¬ n<δ.aq.length:=by simpa using I
   exact zk 3 rfl (WP.ret ⟨aa,_,rfl,rfl,.inr ⟨fun h=>I h.2,rfl⟩⟩)
 ·intro J
  have J:¬ 0≤n:=by simpa using J
  exact zk 11 rfl (WP.ret ⟨aa,_,rfl,rfl,.inr ⟨fun h=>J h.1,rfl⟩⟩)
def Dk.xH (δ:Dk): Nat:=δ.bh
def Dk.cY (δ:Dk): Dk:={ δ with aS:=if 0<δ.aS then δ.aS-1 else δ.aS }
def Dk.die (δ:Dk): Dk:={ δ with dead:=true }
theorem qb (hT:W told)(s:Sat h (aR p δ::S))(hf:δ.aS<4294967296):
  Call ⟨Tryz.prog,told⟩ 164 [.ptr p 0] h fun v h'=>(δ.aS=0∧v=.bool false∧Sat h' (aR p δ.die::S))∨(δ.aS≠0∧v=.bool true∧Sat h' (aR p δ.cY::S)):=by
 obtain⟨pg,wt,nw,lg,mk,tn,tl,ops,s⟩:=bE.1 s
 refine Call.of_wp (hT.free _ rfl) Tryz.func164 rfl rfl (zK 9 rfl (zY s 0 wH cL rfl ?_))
 refine zd rfl (az rfl rfl dG) ?_ ?_
 ·intro J
  refine zk 6 rfl (zf rfl (ko _ _) ?_)
  refine zS rfl (by exact s.eX (k:=0) rfl ox rfl (by decide) rfl rfl) (fun h s => ?_)
  refine zk 5 rfl (WP.ret ⟨aa,_,rfl,?_⟩)
  have J:δ.aS=0:=by simpa using J
  exact .inl ⟨J,rfl,bE.2 ⟨pg,wt,nw,lg,mk,tn,tl,ops,s⟩⟩
 ·intro J
  have J:δ.aS≠0:=by simpa using J
  refine zk 8 rfl (zY s 0 wH cL rfl ?_)
  refine zd rfl (az rfl rfl gT) ?_ ?_
  ·intro I
   have I:0<δ.aS:=by simpa using I
   refine zk 5 rfl (zY s 0 wH cL rfl (zb rfl (by exact iX (aA (by omega) (by omega))) ?_))
   refine zn rfl (zf rfl (wH _ _) ?_)
   refine zS rfl (by exact s.eX (k:=0) rfl ke rfl (by decide) rfl rfl) (fun h s => ?_)
   refine zk 5 rfl (zY s 0 A9 cL rfl (zb rfl (by rfl) ?_))
   refine zn rfl (zf rfl (A9 _ _) ?_)
   refine zS rfl (by exact s.eX (k:=0) rfl ke rfl (by decide) rfl rfl) (fun h s => ?_)
   exact zk 5 rfl (WP.ret ⟨aa,_,rfl,.inr ⟨J,rfl,bE.2 ⟨pg,wt,nw,lg,mk,tn,tl,_,by simp only[Dk.cY,aJ I];exact s⟩⟩⟩)
  ·intro I
   have I:¬ 0<δ.aS:=by simpa using I
   refine zk 7 rfl (zY s 0 A9 cL rfl (zb rfl (by rfl) ?_))
   refine zn rfl (zf rfl (A9 _ _) ?_)
   refine zS rfl (by exact s.eX (k:=0) rfl ke rfl (by decide) rfl rfl) (fun h s => ?_)
   exact zk 5 rfl (WP.ret ⟨aa,_,rfl,.inr ⟨J,rfl,bE.2 ⟨pg,wt,nw,lg,mk,tn,tl,_,by simp only[Dk.cY,ak I];exact s⟩⟩⟩)
def Dk.at (δ:Dk)(n:Int): List Nat:=match lookL n δ.now with
 |some b=>b
 |none=>match δ.aq[n.toNat]? with
  |some (some b)=>b
  |_=>List.replicate 512 0
theorem MF {v:V}{m:List (Option (List Nat))}(s:Sat h (oP v m::S))(hi:i<m.length):
  ∃id u,v=.sl id 0 m.length (.exact m.length)∧(∀(P:Program) (t:TypeId),isAggT P t=some false→loadV P h t (.ptr id i)=some u)∧Sat h (k_ u m[i]::oP v m::S):=by
 obtain⟨id,cs,rfl,s1⟩:=gH.1 s
 obtain⟨a,b,q1,q2,I⟩:=s1.at (k:=1) rfl
 have hl:=ry I
 have hu:cs[i]?=some (cs[i]'(by omega)):=bA _
 have s2:Sat h (each k_ cs m::pt id (.cells m.length cs false)::S):=s1.ae [1]
 have J:=s2.dup (aY.each aY.k_ cs m)
 have s4:Sat h (k_ (cs[i]'(by omega)) m[i]::each k_ cs m::pt id (.cells m.length cs false)::S):=J.gX fun a b h=>xE h hu (bA hi)
 refine⟨id,cs[i]'(by omega),rfl,fun P t ht=>OI ht (s1.row (k:=0) rfl) (by rw[gP,hu]),?_⟩
 have s5:Sat h (pt id (.cells m.length cs false)::each k_ cs m::k_ (cs[i]'(by omega)) m[i]::S):=s4.ae [2,1]
 exact(gH.2 ⟨id,cs,rfl,s5⟩:Sat h (oP _ m::k_ (cs[i]'(by omega)) m[i]::S)).ae [1]
theorem RU (hT:W told){n:Int}(s:Sat h (aR p δ::S))(hl:(δ.at n).length=512): Call ⟨Tryz.prog,told⟩ 124 [.ptr p 0,.int .i64 n] h fun v h' =>
  (δ.dead=true∧v=.bf [.bC,.int .i64 9]∧Sat h' (aR p δ::S)) ∨
  (δ.dead=false∧¬(0≤n∧n<δ.aq.length)∧v=.bf [.bC,.int .i64 1]∧Sat h' (aR p δ::S)) ∨
  (δ.dead=false∧0≤n∧n<δ.aq.length∧∃b,v=.bf [b,.int .i64 0]∧Sat h' (aV b (δ.at n)::aR p δ::S)):=by
 have s0:=s
 obtain⟨pg,wt,nw,lg,mk,tn,tl,ops,s⟩:=bE.1 s
 refine Call.of_wp (hT.free _ rfl) Tryz.func124 rfl rfl (zK 6 rfl (WP.block (zK 4 rfl (zY s 0 ko jK rfl (zk 2 rfl ?_)))))
 refine WP.split rfl ?_ ?_
 ·intro hd
  exact zK 5 rfl (WP.ret ⟨aa,_,rfl,.inl ⟨hd,rfl,s0⟩⟩)
 ·intro hd
  refine zK 4 rfl (zc rfl (O6 hT s0) ?_)
  rintro v h' ⟨rfl,(⟨J,qd,rfl⟩|⟨hn,rfl⟩)⟩
  ·skip
   refine zo rfl (dQ rfl rfl) (za rfl (zv (zj rfl (WP.skip (zg rfl (zk 2 rfl (zf rfl (A8 _ _) (zl rfl (by exact s.ld (k:=0) rfl jQ rfl) ?_))))))))
   refine zm rfl ?_
   have s1:Sat h' (ju (fun v b=>.cg v b) nw δ.now::pt p (.cells 12 (wL δ.room pg wt nw lg δ.bh mk δ.aS ops δ.dead tn tl) false)::oP pg δ.aq::Be wt δ.waiting::aV lg δ.log::BK mk δ.mark::Bf tn δ.dA::BK tl δ.tail::S):=s.ae [3]
   rcases mC (n:=n) (fun _ _=>aY.cg _ _) s1 kZ bF o8 with⟨g1,g2,_⟩|⟨u,b,g1,g2,_,s2⟩
   ·refine ay.op rfl rfl rfl (iC rfl rfl g2) ?_
    refine zk 10 rfl (zo rfl (dQ rfl rfl) (zk 5 rfl (zY s 0 ng rM rfl (zm rfl ?_))))
    have hi:n.toNat<δ.aq.length:=by omega
    obtain⟨id,u,rfl,g3,s3⟩:=MF (s.ae [1]) hi
    refine zo rfl (cj (r:=.ptr id n.toNat) rfl rfl (by rw[Ub,show(decide (0≤n)&&decide (n<((δ.aq.length:Nat):Int)))=true by simp;omega,aj];simp)) ?_
    refine zl rfl (g3 _ _ bP) (zk 6 rfl ?_)
    have I:δ.at n=match δ.aq[n.toNat] with|some b=>b|none=>List.replicate 512 0:=by
     simp only[Dk.at,g1,bA hi]
     cases δ.aq[n.toNat]<;>rfl
    cases hp:δ.aq[n.toNat] with
    |none =>
     rw[hp] at s3 I
     have I:δ.at n=List.replicate 512 0:=I
     obtain⟨rfl,_⟩:=eR.1 s3
     refine zt rfl ((by exact az rfl rfl (by simp only[binV,eqV,aT];rfl))) (rfl) ?_
     refine zk 4 rfl (ay.any rfl rfl rfl (OpR.gN rfl s0 rfl rfl rfl rfl (by decide)) ?_)
     intro v h s
     exact zk 3 rfl (WP.ret ⟨aa,_,rfl,.inr (.inr ⟨hd,J,qd,v,rfl,by rw[I];exact s⟩)⟩)
    |some b =>
     rw[hp] at s3 I
     have I:δ.at n=b:=I
     have s4:Sat h' (aO.an (.pu (u≠.bC)) (.cg u b)::oP _ δ.aq::_):=s3
     have hu:u≠.bC:=by
      obtain⟨a,b,q1,q2,q3⟩:=s4.at (k:=0) rfl
      exact q3.1
     have s5:Sat h' (.cg u b::aR p δ::S):=by
      have s6:=s4.gX (B:=.cg u b) fun a b h=>h.2
      exact(bE.2 ⟨_,wt,nw,lg,mk,tn,tl,ops,s6.ae [2,1,1,1,1,1,1,1]⟩:Sat h' (aR p δ::.cg u b::S)).ae [1]
     have sK:∃a b c d,u=.sl a b c d:=by
      rcases (s5.aH (k:=0) rfl (dF _ _)).2 with⟨_,e⟩|⟨a,b,c,_,_,_,e,_⟩
      ·rw[I,e] at hl;simp at hl
      ·exact⟨_,_,_,_,e⟩
     obtain⟨a,b',c,d,rfl⟩:=sK
     refine zh rfl ((by exact az rfl rfl (by simp only[binV,eqV,aT];rfl))) (rfl) ?_
     refine zk 6 rfl (zc rfl (jE hT s5 (dF _ _) (by rw[←I,hl];decide)) ?_)
     intro v h s
     exact zk 3 rfl (WP.ret ⟨aa,_,rfl,.inr (.inr ⟨hd,J,qd,v,rfl,by rw[I];exact s.del 1⟩)⟩)
   ·skip
    refine zo rfl (iC rfl rfl g2) (zk 10 rfl (zo rfl (dQ rfl rfl) (zk 7 rfl ?_)))
    have I:δ.at n=b:=by simp only[Dk.at,g1]
    have sK:∃a b c d,u=.sl a b c d:=by
     rcases (s2.aH (k:=0) rfl (dF _ _)).2 with⟨_,e⟩|⟨a,b,c,_,_,_,e,_⟩
     ·rw[I,e] at hl;simp at hl
     ·exact⟨_,_,_,_,e⟩
    obtain⟨a,b',c,d,rfl⟩:=sK
    refine zh rfl ((by exact az rfl rfl (by simp only[binV,eqV,aT];rfl))) (rfl) ?_
    refine zk 6 rfl (zc rfl (jE hT s2 (dF _ _) (by rw[←I,hl];decide)) ?_)
    intro v h s
    refine zk 3 rfl (WP.ret ⟨aa,_,rfl,?_⟩)
    have s:=bE.2 ⟨pg,wt,nw,lg,mk,tn,tl,ops,s.ae [3,3,3,2,2,2,2,2]⟩
    exact .inr (.inr ⟨hd,J,qd,v,rfl,by rw[I];exact(s.del 2).ae [1,0]⟩)
  ·skip
   exact zo rfl (dQ rfl rfl) (zk 8 rfl (WP.ret ⟨aa,_,rfl,.inr (.inl ⟨hd,hn,rfl,s0⟩)⟩))
theorem BM (I:W told)(s:Sat h (aR p δ::S)): Call ⟨Tryz.prog,told⟩ 135 [.ptr p 0] h fun v h'=>v=.int .i64 (δ.xH:Int)∧h'=h:=by
 obtain⟨pg,wt,nw,lg,mk,J,tl,ops,s⟩:=bE.1 s
 exact Call.of_wp (I.free _ rfl) Tryz.func135 rfl rfl (zK 8 rfl (zY s 0 tN cL rfl (zk 2 rfl (WP.ret ⟨aa,_,rfl,rfl,rfl⟩))))
theorem rz (I:W told)(s:Sat h (aR p δ::S)): Call ⟨Tryz.prog,told⟩ 41 [.ptr p 0] h fun v h'=>v=.bool δ.dead∧h'=h:=by
 obtain⟨pg,wt,nw,lg,mk,J,tl,ops,s⟩:=bE.1 s
 exact Call.of_wp (I.free _ rfl) Tryz.func41 rfl rfl (zK 8 rfl (zY s 0 ko jK rfl (zk 2 rfl (WP.ret ⟨aa,_,rfl,rfl,rfl⟩))))
def Dk.zR (δ:Dk)(n:Int): Dk:={ δ with aS:=max (-1) n }
theorem RV (I:W told){n:Int}(s:Sat h (aR p δ::S)): Call ⟨Tryz.prog,told⟩ 40 [.ptr p 0,.int .i64 n] h fun v h'=>v=.bf []∧Sat h' (aR p (δ.zR n)::S):=by
 obtain⟨pg,wt,nw,lg,mk,J,tl,ops,s⟩:=bE.1 s
 refine Call.of_wp (I.free _ rfl) Tryz.func40 rfl rfl (zK 3 rfl (zo rfl (RN rfl rfl abe) (zn rfl (zf rfl (wH _ _) ?_))))
 refine zS rfl (by exact s.eX (k:=0) rfl ke rfl (by decide) rfl rfl) (fun h s => ?_)
 exact zv (⟨aa,_,rfl,rfl,bE.2 ⟨pg,wt,nw,lg,mk,J,tl,ops,s⟩⟩)
theorem FQ (hT:W told)(s:Sat h (aR p δ::S))(hf:δ.aS<4294967296): Call ⟨Tryz.prog,told⟩ 130 [.ptr p 0] h fun v h' =>
  (δ.dead=true∧v=.int .i64 9∧Sat h' (aR p δ::S))∨(δ.dead=false∧δ.aS=0∧v=.int .i64 9∧Sat h' (aR p δ.die::S)) ∨
  (δ.dead=false∧δ.aS≠0∧v=.int .i64 0∧Sat h' (aR p { δ.cY with bh:=δ.log.length }::S)):=by
 have s0:=s
 obtain⟨pg,wt,nw,lg,mk,tn,tl,ops,s⟩:=bE.1 s
 refine Call.of_wp (hT.free _ rfl) Tryz.func130 rfl rfl (zK 9 rfl (zf rfl (ko _ _) ?_))
 refine zd rfl (aW rfl (s.ld (k:=0) rfl jK rfl)) ?_ ?_
 ·intro I
  exact zk 11 rfl (WP.ret ⟨aa,_,rfl,.inl ⟨I,rfl,s0⟩⟩)
 ·intro I
  refine zk 2 rfl (zc rfl (qb hT s0 hf) ?_)
  rintro v h (⟨J,rfl,s⟩|⟨J,rfl,s⟩)
  ·skip
   exact zo rfl (dQ rfl rfl) (zk 7 rfl (WP.ret ⟨aa,_,rfl,.inr (.inl ⟨I,J,rfl,s⟩)⟩))
  ·skip
   obtain⟨pg,wt,nw,lg,mk,tn,tl,ops,s⟩:=bE.1 s
   dsimp only[Dk.cY] at s
   refine zo rfl (dQ rfl rfl) (zk 9 rfl (zY s 0 kn bP rfl (zo rfl (aP rfl rfl rfl (bj aT (s.aH (k:=4) rfl (bu _ _)))) (zn rfl (zf rfl (tN _ _) ?_)))))
   refine zS rfl (by exact s.eX (k:=0) rfl ke rfl (by decide) rfl rfl) (fun h s => ?_)
   exact zk 5 rfl (WP.ret ⟨aa,_,rfl,.inr (.inr ⟨I,J,rfl,bE.2 ⟨pg,wt,nw,lg,mk,tn,tl,ops,s⟩⟩)⟩)
theorem MG (hT:W told)(s:Sat h (aR p δ::X::S))(hX:cQ X (cW x b))(hb:b.length<1073741824)(hf:δ.aS<4294967296)(hl:δ.log.length≤4294967296)(hr:δ.room≤4294967296):
  Call ⟨Tryz.prog,told⟩ 117 [.ptr p 0,x] h fun v h' =>
  (δ.dead=true∧v=.int .i64 9∧Sat h' (aR p δ::X::S))∨(δ.dead=false∧δ.room<δ.log.length+b.length∧v=.int .i64 7∧Sat h' (aR p δ::X::S)) ∨
  (δ.dead=false∧δ.log.length+b.length≤δ.room∧δ.aS=0∧v=.int .i64 9∧Sat h' (aR p { δ.die with tail:=b }::X::S)) ∨
  (δ.dead=false∧δ.log.length+b.length≤δ.room∧δ.aS≠0∧v=.int .i64 0∧Sat h' (aR p { δ.cY with log:=δ.log++b }::X::S)):=by
 have s0:=s
 obtain⟨pg,wt,nw,lg,mk,tn,tl,ops,s⟩:=bE.1 s
 refine Call.of_wp (hT.free _ rfl) Tryz.func117 rfl rfl (zK 5 rfl (WP.block (zK 4 rfl (zf rfl (ko _ _) ?_))))
 refine zd rfl (aW rfl (s.ld (k:=0) rfl jK rfl)) ?_ ?_
 ·intro J
  exact zk 7 rfl (WP.ret ⟨aa,_,rfl,.inl ⟨J,rfl,s0⟩⟩)
 ·intro J
  refine zk 4 rfl (WP.drawn [af,af,af,af,af,af,af,af,af,af,af,af,af,af] rfl (by kernel_rfl) (by kernel_rfl) ?_)
  refine zM rfl (zO rfl (aP rfl rfl rfl (bj aT (s.aH (k:=8) rfl hX))) (zM rfl (zN rfl (zF rfl (KX _ _) (zL rfl (s.ld (k:=0) rfl cL rfl) (zM rfl (zN rfl (zF rfl (kn _ _) (zL rfl (s.ld (k:=0) rfl bP rfl) (zO rfl (aP rfl rfl rfl (bj aT (s.aH (k:=4) rfl (bu _ _)))) (zO rfl (az rfl rfl (by exact iX (aA (by omega) (by omega)))) ?_)))))))))))
  refine ax.X4 rfl rfl rfl rfl (az rfl rfl gT) ?_ ?_
  ·intro I
   have I:δ.room<δ.log.length+b.length:=by simp at I;omega
   refine zA rfl ?_
   refine ax.nil ⟨⟨aa,aa,aa,aa,aa,aa,aa,aa,aa,aa,aa,aa,aa,aa,aa⟩,?_⟩
   exact zK 5 rfl (WP.ret ⟨aa,_,rfl,.inr (.inl ⟨J,I,rfl,s0⟩)⟩)
  ·intro I
   have I:δ.log.length+b.length≤δ.room:=by simp at I;omega
   refine zA rfl ?_
   refine ax.nil ⟨⟨aa,aa,aa,aa,aa,aa,aa,aa,aa,aa,aa,aa,aa,aa,aa⟩,?_⟩
   refine zK 4 rfl (zc rfl (qb hT s0 hf) ?_)
   rintro v h (⟨h0,rfl,s⟩|⟨h0,rfl,s⟩)
   ·skip
    refine zo rfl (dQ rfl rfl) (zk 7 rfl (zc rfl (jE hT (s.ae [1]) hX hb) ?_))
    intro v h s
    have s:=(s.gC).ae [2,0,0]
    obtain⟨pg,wt,nw,lg,mk,tn,tl,ops,s⟩:=bE.1 s
    have hv:=(s.aH (k:=8) rfl (dF _ _)).cells
    refine zn rfl (zf rfl (B_ _ _) (zS rfl (s.eX (k:=0) rfl ij rfl (by decide) hv.1 hv.2) ?_))
    intro h s
    exact zk 5 rfl (WP.ret ⟨aa,_,rfl,.inr (.inr (.inl ⟨J,I,h0,rfl,bE.2 ⟨pg,wt,nw,lg,mk,tn,v,ops,s.del 7⟩⟩))⟩)
   ·skip
    obtain⟨pg,wt,nw,lg,mk,tn,tl,ops,s⟩:=bE.1 s
    dsimp only[Dk.cY] at s
    refine zo rfl (dQ rfl rfl) (za rfl (zv (zj rfl (WP.skip (zg rfl (zk 3 rfl (zf rfl (kn _ _) (zl rfl (by exact s.ld (k:=0) rfl bP rfl) ?_))))))))
    refine zm rfl (ay.any rfl rfl rfl (OpR.qy rfl (s.ae [4,7]) hX rfl rfl rfl rfl (by show δ.log.length+_≤_;omega)) ?_)
    intro v h s
    have hv:=(s.buf (k:=0) rfl).view.cells
    refine zn rfl (zf rfl (kn _ _) (zS rfl (s.eX (k:=2) rfl ij rfl (by decide) hv.1 hv.2) ?_))
    intro h s
    exact zk 5 rfl (WP.ret ⟨aa,_,rfl,.inr (.inr (.inr ⟨J,I,h0,rfl,bE.2 ⟨pg,wt,nw,v,mk,tn,tl,ops,s.ae [2,2,2,2,0,1,1,1]⟩⟩))⟩)
end
section
variable {told:dc} {p:Nat}
def Dk.wr (δ:Dk)(n:Int)(b:List Nat): Dk:={ δ.cY with waiting:=δ.waiting++[(n.toNat,b)],now:=cG n b δ.now }
theorem VG : ∃i,Tryz.prog.info? 151=some i∧i.size=2∧i.bytes=32 :=
 ⟨_,(show Tryz.prog.info? 151=some ((Tryz.prog.info? 151).getD default) by kernel_rfl),by kernel_rfl,by kernel_rfl⟩
theorem Sat.Yi {m:List Wr}{u:V}{x:Wr}(s:Sat h (.cg u x.2::ur cs m::S))(hu:u≠.bC): Sat h (ur (cs++[.int .i64 (x.1:Int),u]) (m++[x])::S) :=
 s.two (aY.cg _ _) (aY.wr _ _) fun _ _ I J=>VE J hu I
theorem O7 (hT:W told){n:Int}(s:Sat h (aR p δ::X::S))(hX:cQ X (cW x b))(hb:b.length<1073741824)(hf:δ.aS<4294967296)(hw:δ.waiting.length≤268435456):
  Call ⟨Tryz.prog,told⟩ 138 [.ptr p 0,.int .i64 n,x] h fun v h' =>
  (δ.dead=true∧v=.int .i64 9∧Sat h' (aR p δ::X::S)) ∨
  (δ.dead=false∧¬(0≤n∧n<δ.aq.length∧b.length=512)∧v=.int .i64 1∧Sat h' (aR p δ::X::S)) ∨
  (δ.dead=false∧0≤n∧n<δ.aq.length∧b.length=512∧δ.aS=0∧v=.int .i64 9∧Sat h' (aR p { δ.die with dA:=some (n.toNat,b) }::X::S)) ∨
  (δ.dead=false∧0≤n∧n<δ.aq.length∧b.length=512∧δ.aS≠0∧v=.int .i64 0∧Sat h' (aR p (δ.wr n b)::X::S)):=by
 have J:=s
 obtain⟨pg,wt,nw,lg,mk,tn,tl,ops,s⟩:=bE.1 s
 refine Call.of_wp (hT.free _ rfl) Tryz.func138 rfl rfl (zK 5 rfl (WP.block (zK 4 rfl (zf rfl (ko _ _) ?_))))
 refine zd rfl (aW rfl (s.ld (k:=0) rfl jK rfl)) ?_ ?_
 ·intro hd
  exact zk 7 rfl (WP.ret ⟨aa,_,rfl,.inl ⟨hd,rfl,J⟩⟩)
 ·intro hd
  refine zk 7 rfl (zc rfl (O6 hT J) ?_)
  rintro v h' ⟨rfl,(⟨oz,qd,rfl⟩|⟨hn,rfl⟩)⟩
  ·skip
   refine zo rfl (dQ rfl rfl) (zk 2 rfl (zo rfl (aP rfl rfl rfl (bj aT (s.aH (k:=8) rfl hX))) ?_))
   refine zd rfl (az rfl rfl aD) ?_ ?_
   ·intro I
    have I:b.length≠512:=by simp at I;omega
    exact zk 8 rfl (WP.ret ⟨aa,_,rfl,.inr (.inl ⟨hd,fun q=>I q.2.2,rfl,J⟩)⟩)
   ·intro I
    have I:b.length=512:=by simp at I;omega
    refine zk 2 rfl (zv (zj rfl (WP.skip (zg rfl (zk 2 rfl (zc rfl (jE hT (J.ae [1]) hX hb) ?_))))))
    intro u h s
    obtain⟨qM,_,cap,_,rfl,_⟩:=s.fZ (by omega)
    have s:=s.gC
    have hnc:((n.toNat:Nat):Int)=n:=by omega
    refine zo rfl (dn rfl (by rw[Z8];rfl)) ?_
    refine ay.b8 s rfl rfl rfl (bU GS) (fun p7 h s => ?_)
    refine zS rfl (s.ep (j:=0) rfl Da rfl rfl) (fun h s => ?_)
    refine zk 5 rfl (zc rfl (qb hT (s.ae [3]) hf) ?_)
    rintro v h (⟨h0,rfl,s⟩|⟨h0,rfl,s⟩)
    ·skip
     obtain⟨pg,wt,nw,lg,mk,tn,tl,ops,s⟩:=bE.1 s
     refine zo rfl (dQ rfl rfl) (zk 6 rfl (zf rfl (uj _ _) ?_))
     refine zS rfl (by exact s.eX (k:=0) rfl Z6 rfl (by decide) rfl rfl) (fun h s => ?_)
     dsimp only[wL,V.cells,List.length_cons,List.length_nil,Nat.reduceAdd,aL,bringA,List.take,List.drop,List.cons_append,List.nil_append,setA,List.set] at s
     refine zk 5 rfl (WP.ret ⟨aa,_,rfl,?_⟩)
     have s1:=s.ae [8,8,8]
     have s2:Sat h (Bf _ (some (n.toNat,b))::_):=ic.2 ⟨_,ic.2 ⟨_,br.2 (eR.2 ⟨rfl,by rw[hnc];exact s1⟩)⟩⟩
     have s3:=(s2.del 8).ae [2,2,2,2,2,2,0,1,0]
     exact .inr (.inr (.inl ⟨hd,oz,qd,I,h0,rfl,bE.2 ⟨_,_,_,_,_,_,_,_,s3⟩⟩))
    ·skip
     obtain⟨pg,wt,nw,lg,mk,tn,tl,ops,s⟩:=bE.1 s
     dsimp only[Dk.cY] at s
     obtain⟨cs,sw⟩:=mD.1 (s.ae [2])
     have s:=sw.ae [2,8,0,0]
     dsimp only[wL,V.cells,List.length_cons,List.length_nil,Nat.reduceAdd,aL,bringA,List.take,List.drop,List.cons_append,List.nil_append,setA,getA] at s
     have J:=s
     have H6:=(s.iY (j:=2) rfl).2.2
     refine zo rfl (dQ rfl rfl) (zk 4 rfl (WP.drawn [some (0,3),some (0,2),some (0,2),some (0,2),some (0,2),af,af,af,af,af,af] rfl (by kernel_rfl) (by kernel_rfl) ?_))
     refine zM rfl (zM rfl (zN rfl (zF rfl (tM _ _) (zL rfl (s.ld (k:=0) rfl C_ rfl) (zL rfl (s.bZ (k:=1) rfl Ud Da) ?_)))))
     obtain⟨i1,jZ,jv,u_⟩:=VG
     obtain⟨sv,h1,e1,s1⟩:=kq (P:=Tryz.prog) (x:=.agg [.int .i64 n,.sl qM 0 b.length cap]) s zJ GS Da rfl (by decide) (by decide) rfl rfl
     dsimp only[V.cells] at s1
     refine ax.any rfl rfl rfl rfl (OpR.of (R:=fun v h'=>v=sv∧h'=h1) (nk rfl e1) ⟨rfl,rfl⟩) ?_
     rintro v h' ⟨rfl,rfl⟩
     have kz:cs.length=δ.waiting.length*2:=by
      obtain⟨a,b,q1,q2,q3⟩:=s.at (k:=3) rfl
      exact Bd q3
     obtain⟨wt',h2,e2,s2⟩:=iG (s1.ae [3,0]) zJ jZ GS jv (by omega) rfl (by decide) (by simp only[V.cells,aX,cI];omega)
     dsimp only[aL,bringA] at s2
     refine ax.any rfl rfl rfl rfl (OpR.of (R:=fun v h'=>v=wt'∧h'=h2) (lP rfl rfl e2) ⟨rfl,rfl⟩) ?_
     rintro v h' ⟨rfl,rfl⟩
     have hv:=s2.iY (j:=0) rfl
     refine zN rfl (zF rfl (tM _ _) (ax.iB rfl rfl rfl (OpR.eu rfl rfl rfl (s2.eX (k:=2) rfl Uc rfl (by decide) hv.1 hv.2.1)) ?_))
     rintro v h ⟨rfl,s⟩
     dsimp only[Nat.reduceAdd,List.set,setA] at s
     refine ax.nil ⟨⟨fun _ _=>.inr ⟨rfl,⟨_,bD rfl⟩,bn _ rfl⟩,fun _ _=>.inr ⟨rfl,⟨_,bD rfl⟩,bn _ rfl⟩,fun _ _=>.inr ⟨rfl,⟨_,oU rfl⟩,bn _ rfl⟩,fun _ _=>.inr ⟨rfl,⟨_,jS rfl (tM _ _)⟩,bn _ rfl⟩,dw (.inr ⟨rfl,⟨_,aW rfl (J.ld (k:=0) rfl C_ rfl)⟩,H6⟩) (.inr ⟨rfl,⟨_,aW rfl (s1.ld (k:=1) rfl C_ rfl)⟩,H6⟩),aa,aa,aa,aa,aa,aa,aa⟩,?_⟩
     refine zw (WP.drawn [af,af,af,af,af,af,af,af] rfl (by kernel_rfl) (by kernel_rfl) ?_)
     refine zM rfl (zN rfl (zF rfl (A8 _ _) (zL rfl (s.ld (k:=2) rfl jQ rfl) (zM rfl (zF rfl (EH _ _) (zL rfl (s.ld (k:=3) rfl bP rfl) (ax.iB rfl rfl rfl (OpR.mapUpdate rfl rfl rfl rfl (pn (f:=fun v b=>aO.cg v b) (x:=b) (fun _ _=>aY.cg _ _) (((s.ae [11]).dup (aY.cg _ _)).ae [0,7]) kZ bF)) ?_)))))))
     intro v h s
     dsimp only[aL,bringA] at s
     refine ax.nil ⟨⟨aa,aa,aa,aa,aa,aa,aa,aa,aa⟩,?_⟩
     refine zK 4 rfl (WP.ret ⟨aa,_,rfl,?_⟩)
     have s1:=(s.ae [1,5]).Yi (x:=(n.toNat,b)) (by simp)
     rw[hnc] at s1
     have s2:=((mD.2 ⟨_,s1.ae [2,0]⟩).del 4).del 2
     exact .inr (.inr (.inr ⟨hd,oz,qd,I,h0,rfl,bE.2 ⟨_,_,_,_,_,_,_,_,s2.ae [2,2,0,0,0,0,0,0,0]⟩⟩))
  ·skip
   exact zo rfl (dQ rfl rfl) (zk 12 rfl (WP.ret ⟨aa,_,rfl,.inr (.inl ⟨hd,fun q=>hn ⟨q.1,q.2.1⟩,rfl,J⟩)⟩))
theorem VH (J:W told)(s:Sat h (aR p δ::S))(hl:δ.log.length<1073741824): Call ⟨Tryz.prog,told⟩ 132 [.ptr p 0] h fun v h' =>
  (δ.dead=true∧v=.bf [.bC,.int .i64 9]∧Sat h' (aR p δ::S))∨(δ.dead=false∧∃b,v=.bf [b,.int .i64 0]∧Sat h' (aV b δ.log::aR p δ::S)):=by
 have s0:=s
 obtain⟨pg,wt,nw,lg,mk,tn,tl,ops,s⟩:=bE.1 s
 refine Call.of_wp (J.free _ rfl) Tryz.func132 rfl rfl (zK 10 rfl (zf rfl (ko _ _) ?_))
 refine zd rfl (aW rfl (s.ld (k:=0) rfl jK rfl)) ?_ ?_
 ·intro I
  exact zk 7 rfl (WP.ret ⟨aa,_,rfl,.inl ⟨I,rfl,s0⟩⟩)
 ·intro I
  refine zk 7 rfl (zY s 0 kn bP rfl (zc rfl (jE J (s.ae [4]) (bu _ _) hl) ?_))
  intro v h s
  exact zk 3 rfl (WP.ret ⟨aa,_,rfl,.inr ⟨I,v,rfl,(bE.2 ⟨pg,wt,nw,lg,mk,tn,tl,ops,s.ae [2,2,2,2,1,1,1,1,0]⟩).ae [1]⟩⟩)
theorem Dp (J:W told)(s:Sat h (aR p δ::S))(hl:δ.mark.length≤64): Call ⟨Tryz.prog,told⟩ 131 [.ptr p 0] h fun v h' =>
  (δ.dead=true∧v=.bf [.bC,.int .i64 9]∧Sat h' (aR p δ::S))∨(δ.dead=false∧∃b,v=.bf [b,.int .i64 0]∧Sat h' (aV b δ.mark::aR p δ::S)):=by
 have s0:=s
 obtain⟨pg,wt,nw,lg,mk,tn,tl,ops,s⟩:=bE.1 s
 refine Call.of_wp (J.free _ rfl) Tryz.func131 rfl rfl (zK 10 rfl (zf rfl (ko _ _) ?_))
 refine zd rfl (aW rfl (s.ld (k:=0) rfl jK rfl)) ?_ ?_
 ·intro I
  exact zk 7 rfl (WP.ret ⟨aa,_,rfl,.inl ⟨I,rfl,s0⟩⟩)
 ·intro I
  refine zk 7 rfl (zY s 0 EF bP rfl (zc rfl (jE J (s.ae [5]) (dF _ _) (by omega)) ?_))
  intro v h s
  exact zk 3 rfl (WP.ret ⟨aa,_,rfl,.inr ⟨I,v,rfl,(bE.2 ⟨pg,wt,nw,lg,mk,tn,tl,ops,s.ae [2,2,2,2,2,1,1,1,0]⟩).ae [1]⟩⟩)
theorem RW (hT:W told){n:Int}(s:Sat h (aR p δ::S))(hf:δ.aS<4294967296)(hl:δ.log.length<1073741824):
  Call ⟨Tryz.prog,told⟩ 134 [.ptr p 0,.int .i64 n] h fun v h' =>
  (δ.dead=true∧v=.int .i64 9∧Sat h' (aR p δ::S))∨(δ.dead=false∧¬(0≤n∧n≤δ.log.length)∧v=.int .i64 1∧Sat h' (aR p δ::S)) ∨
  (δ.dead=false∧0≤n∧n≤δ.log.length∧δ.aS=0∧v=.int .i64 9∧Sat h' (aR p δ.die::S)) ∨
  (δ.dead=false∧0≤n∧n≤δ.log.length∧δ.aS≠0∧v=.int .i64 0∧Sat h' (aR p { δ.cY with log:=δ.log.take n.toNat,bh:=n.toNat }::S)):=by
 have s0:=s
 obtain⟨pg,wt,nw,lg,mk,tn,tl,ops,s⟩:=bE.1 s
 refine Call.of_wp (hT.free _ rfl) Tryz.func134 rfl rfl (zK 5 rfl (WP.block (zK 4 rfl (zf rfl (ko _ _) ?_))))
 refine zd rfl (aW rfl (s.ld (k:=0) rfl jK rfl)) ?_ ?_
 ·intro hd
  exact zk 7 rfl (WP.ret ⟨aa,_,rfl,.inl ⟨hd,rfl,s0⟩⟩)
 ·intro hd
  refine zk 6 rfl ?_
  refine zd rfl (az rfl rfl aN) ?_ ?_
  ·intro J
   have J:n<0:=by simpa using J
   exact zk 16 rfl (WP.ret ⟨aa,_,rfl,.inr (.inl ⟨hd,fun q=>by omega,rfl,s0⟩)⟩)
  ·intro J
   have J:0≤n:=by simpa using J
   refine zk 4 rfl (zY s 0 kn bP rfl (zo rfl (aP rfl rfl rfl (bj aT (s.aH (k:=4) rfl (bu _ _)))) ?_))
   refine zd rfl (az rfl rfl gT) ?_ ?_
   ·intro I
    have I:(δ.log.length:Int)<n:=by simpa using I
    exact zk 8 rfl (WP.ret ⟨aa,_,rfl,.inr (.inl ⟨hd,fun q=>by omega,rfl,s0⟩)⟩)
   ·intro I
    have I:n≤δ.log.length:=by simpa using I
    refine zk 7 rfl (zc rfl (qb hT s0 hf) ?_)
    rintro v h (⟨h0,rfl,s⟩|⟨h0,rfl,s⟩)
    ·skip
     exact zo rfl (dQ rfl rfl) (zk 7 rfl (WP.ret ⟨aa,_,rfl,.inr (.inr (.inl ⟨hd,J,I,h0,rfl,s⟩))⟩))
    ·skip
     obtain⟨pg,wt,nw,lg,mk,tn,tl,ops,s⟩:=bE.1 s
     dsimp only[Dk.cY] at s
     obtain⟨k,rfl⟩:∃k:Nat,n=k:=⟨n.toNat,by omega⟩
     refine zo rfl (dQ rfl rfl) (za rfl (zv (zj rfl (WP.skip (zg rfl (zk 3 rfl (zf rfl (kn _ _) (zl rfl (by exact s.ld (k:=0) rfl bP rfl) ?_))))))))
     refine zm rfl (zo rfl (bV (p:=none) (q:=some (.int .i64 (k:Int))) (m:=none) (p':=none) (q':=some k) (m':=none) rfl rfl rfl rfl rfl (by simp[iW,bndV]) rfl (iK (s.buf (k:=4) rfl).view (b:=k) (by omega)).1) ?_)
     refine zc rfl (jE hT (s.ae [4]) (xC (bu _ _) (b:=k) (by omega)) (by simp;omega)) ?_
     intro v h s
     have hv:=(s.buf (k:=0) rfl).view.cells
     refine zn rfl (zf rfl (kn _ _) (zS rfl (s.eX (k:=2) rfl ij rfl (by decide) hv.1 hv.2) ?_))
     intro h s
     refine zk 6 rfl (zf rfl (tN _ _) ?_)
     refine zS rfl (by exact s.eX (k:=2) rfl ke rfl (by decide) rfl rfl) (fun h s => ?_)
     refine zk 5 rfl (WP.ret ⟨aa,_,rfl,?_⟩)
     have s:=(s.del 1).ae [1,1,1,1,0,0,0,0]
     exact .inr (.inr (.inr ⟨hd,J,I,h0,rfl,bE.2 ⟨pg,wt,nw,v,mk,tn,tl,ops,s⟩⟩))
def Dk.fresh (aq room:Nat): Dk:={ room:=room,aq:=List.replicate aq none,waiting:=[],now:=[],log:=[],bh:=0,mark:=[],aS := -1,dead:=false,dA:=none,tail:=[] }
theorem VI : ∃i,Tryz.prog.info? 28=some i∧i.size=1∧i.bytes=24 :=
 ⟨_,(show Tryz.prog.info? 28=some ((Tryz.prog.info? 28).getD default) by kernel_rfl),by kernel_rfl,by kernel_rfl⟩
theorem JV (v:V): ∀n:Nat,repeatL [v] n=List.replicate n v:=by
 intro n
 induction n with
 |zero=>rfl
 |succ n I=>simp only[repeatL,I,AB,jk,eB]
theorem O8 {b:PM}: ∀n:Nat,(each k_ (List.replicate n .bC) (List.replicate n none)).p a b:=by
 intro n
 induction n with
 |zero=>trivial
 |succ n I=>exact⟨rfl,I⟩
theorem H7 (hT:W told){m:Nat}(s:Sat h S)(hn:n<1073741824): Call ⟨Tryz.prog,told⟩ 88 [.int .i64 (n:Int),.int .i64 (m:Int)] h fun v h'=>∃p,v=.ptr p 0∧Sat h' (aR p (Dk.fresh n m)::S):=by
 refine Call.of_wp (hT.free _ rfl) Tryz.func88 rfl rfl (zK 8 rfl ?_)
 obtain⟨i1,I,J,u_⟩:=VI
 obtain⟨id,h1,e1,s1⟩:=FK (P:=Tryz.prog) s gG I o8 J (by omega) rfl (by decide) hn
 refine ay.any rfl rfl rfl (OpR.of (R:=fun v h'=>v=.sl id 0 n (.exact n)∧h'=h1) (s_ rfl rfl e1) ⟨rfl,rfl⟩) ?_
 rintro v h ⟨rfl,rfl⟩
 have s:=s1
 dsimp only[V.cells] at s
 rw[c_,JV] at s
 refine ay.y8 s rfl rfl rfl rfl (fun p8 h s => ?_)
 refine zo rfl (dn rfl (by rw[Z7];rfl)) ?_
 refine ay.b8 s rfl rfl rfl (fg rfl rfl) (fun p10 h s => ?_)
 refine zk 2 rfl (WP.ret ⟨aa,_,rfl,?_⟩)
 have s:=(uo (f:=fun v b=>aO.cg v b) (s.ae [1]))
 have s:=s.rN.rN.Df
 have s:Sat _ (Be .bC []::_):=mD.2 ⟨[],(s.gM (φ:=True) aa).oO⟩
 have s:Sat _ (Bf .cy none::_):=s.gM rfl
 have s:=s.ae [6,6]
 have hp:Sat _ (oP (.sl id 0 n (.exact n)) (List.replicate n none)::_):=gH.2 ⟨id,List.replicate n .bC,by rw[dx],by
  rw[dx]
  exact(((s.ae [1]).gM (φ:=True) aa).gX fun a b _=>O8 n).ae [1]⟩
 dsimp only[V.cells,List.take,List.length_cons,List.length_nil,Nat.reduceAdd,List.drop,List.cons_append,List.nil_append,aL,bringA,getA] at hp
 exact⟨_,rfl,bE.2 ⟨_,_,_,_,_,_,_,_,hp.ae [1,0,1,4,1,1,0,0]⟩⟩
theorem VJ (hT:W told){n m:Int}(s:Sat h S): Call ⟨Tryz.prog,told⟩ 70 [.int .i64 n,.int .i64 m] h fun v h' =>
  (¬(1≤n∧n≤65536∧0≤m∧m≤16777216)∧v=.bf [.cy,.int .i64 1]∧Sat h' S) ∨
  (1≤n∧n≤65536∧0≤m∧m≤16777216∧∃p,v=.bf [.ptr p 0,.int .i64 0]∧Sat h' (aR p (Dk.fresh n.toNat m.toNat)::S)):=by
 refine Call.of_wp (hT.free _ rfl) Tryz.func70 rfl rfl (zK 9 rfl ?_)
 refine zd rfl (az rfl rfl aN) ?_ ?_
 ·intro hq
  have hq:n<1:=by simpa using hq
  exact zk 19 rfl (WP.ret ⟨aa,_,rfl,.inl ⟨fun q=>by omega,rfl,s⟩⟩)
 ·intro hq
  have hq:1≤n:=by simpa using hq
  refine zk 2 rfl ?_
  refine zd rfl (az rfl rfl gT) ?_ ?_
  ·intro I
   have I:65536<n:=by simpa using I
   exact zk 16 rfl (WP.ret ⟨aa,_,rfl,.inl ⟨fun q=>by omega,rfl,s⟩⟩)
  ·intro I
   have I:n≤65536:=by simpa using I
   refine zk 3 rfl ?_
   refine zd rfl (az rfl rfl aN) ?_ ?_
   ·intro J
    have J:m<0:=by simpa using J
    exact zk 12 rfl (WP.ret ⟨aa,_,rfl,.inl ⟨fun q=>by omega,rfl,s⟩⟩)
   ·intro J
    have J:0≤m:=by simpa using J
    refine zk 3 rfl ?_
    refine zd rfl (az rfl rfl gT) ?_ ?_
    ·intro qf
     have qf:16777216<m:=by simpa using qf
     exact zk 8 rfl (WP.ret ⟨aa,_,rfl,.inl ⟨fun q=>by omega,rfl,s⟩⟩)
    ·intro qf
     have qf:m≤16777216:=by simpa using qf
     refine zk 8 rfl ?_
     obtain⟨n,rfl⟩:∃k:Nat,n=k:=⟨n.toNat,by omega⟩
     obtain⟨m,rfl⟩:∃k:Nat,m=k:=⟨m.toNat,by omega⟩
     refine zc rfl (H7 hT s (by omega)) ?_
     rintro v h ⟨p,rfl,s⟩
     exact zk 3 rfl (WP.ret ⟨aa,_,rfl,.inr ⟨hq,I,J,qf,p,rfl,s⟩⟩)
end
def leN : List Nat→Nat
 |[]=>0
 |b::l=>b+256*leN l
theorem RX : ∀(l:List Nat) (b:Nat),leN (l++[b])=leN l+b*256^l.length:=by
 intro l
 induction l with
 |nil=>intro b;simp[leN]
 |cons x l I=>intro b;simp only[jk,leN,I,aX,tE,Nat.mul_add];rw[←nT,tF (256^l.length) 256,←Nat.mul_assoc b,tF b 256,Nat.mul_assoc 256 b]
theorem Dq : ∀(l:List Nat),(∀b∈l,b<256)→leN l<256^l.length:=by
 intro l
 induction l with
 |nil=>intro _;simp[leN]
 |cons x l I =>
  intro h
  have h1:=I (fun b J=>h b (b5 _ J))
  have h2:=h x b7
  simp only[leN,aX,tE]
  omega
theorem H8 (i:Nat): (256:Nat)^i=2^(8*i):=by rw[Nat.pow_mul]
theorem abi {x:Operand}(hd:d<256)(hi:i≤7): binV P h .shl t x y (.int .u64 (d:Int)) (.int .i64 (8*(i:Int)))=some (.int .u64 ((d*256^i:Nat):Int)):=by
 have J:(256:Nat)^i≤256^7:=tw (by omega) hi
 have I:d*256^i<18446744073709551616:=by
  have:d*256^i≤255*256^7:=tC (by omega) J
  omega
 simp only[binV,shiftV,IntKind.bits]
 have e:(8*(i:Int)).toNat=8*i:=by omega
 rw[e,show min (8*i) 64=8*i by omega,show decide (8*(i:Int)<0)=false by simp;omega,a_]
 have:(d:Int)*2^(8*i)=((d*256^i:Nat):Int):=by rw[H8];push_cast;rfl
 simp only[this,wrap_u64 I]
theorem or8 {x:Operand}{a:Nat}(I:a<256^i)(hd:d<256)(hi:i≤7): binV P h .or t x y (.int .u64 (a:Int)) (.int .u64 ((d*256^i:Nat):Int))=some (.int .u64 ((a+d*256^i:Nat):Int)):=by
 have J:(256:Nat)^i≤256^7:=tw (by omega) hi
 have hm:d*256^i≤255*256^7:=tC (by omega) J
 have h1:((a:Int)%(2^(IntKind.u64).bits:Int)).toNat=a:=by simp only[IntKind.bits];omega
 have h2:(((d*256^i:Nat):Int)%(2^(IntKind.u64).bits:Int)).toNat=d*256^i:=by simp only[IntKind.bits];omega
 have h3:Nat.lor a (d*256^i)=a+d*256^i:=by
  have e:d*256^i=2^(8*i)*d:=by rw[←H8,tF]
  have:=KE (i:=8*i) (b:=a) (by rw[←H8];exact I) d
  rw[←e] at this
  rw[Nat.add_comm a,this]
  exact Nat.or_comm _ _
 simp only[binV,ikBeq,aj,intV,bitsV,h1,h2,h3]
 rw[wrap_u64 (by omega)]
section
variable {told:dc} {v:V}
noncomputable def wdL : Code:=cD [1,1,0,1,0,0] ((Tryz.f86.body).getD .skip)
theorem O9 (hv:View h v l)(hl:l.length≤8): ∀(j i:Nat) (E:List (Nat×V)) (Q:Ex→List (Nat×V)→H→Prop),i+j=l.length →
  Has E [(3,.int .u64 (leN (l.take i))),(6,v),(7,.int .i64 l.length),(8,.int .i64 i)]→(∀E',look E' 3=some (.int .u64 (leN l))→Q (.exit 0) E' h)→WP ⟨Tryz.prog,told⟩ 22 (.loop wdL) E h Q:=by
 intro j
 induction j with
 |zero =>
  intro i E Q hi hE hq
  refine WP.loop (WP.has hE (zg rfl (zC rfl aN (by simp;omega) ?_)))
  refine zk 3 rfl (WP.exit (hq _ ?_))
  rw[eW (by omega)]
  rfl
 |succ j ih =>
  intro i E Q hi hE hq
  have J:l[i]?=some (l[i]'(by omega)):=bA _
  generalize T0:(l[i]'(by omega))=b at J
  have I:b<256:=hv.1 b (bI J)
  obtain⟨id,off,e1,e2⟩:=eo hv J
  have ht:l.take (i+1)=l.take i++[b]:=by rw[vU,J];rfl
  have cE:leN (l.take i)<256^i:=by
   have:=Dq (l.take i) (fun x hx=>hv.1 x (mZ hx))
   rwa [gI,AK (by omega)] at this
  refine WP.loop (WP.has hE (zg rfl (zB rfl aN (by simp;omega) ?_)))
  refine zk 5 rfl (WP.block (zK 3 rfl (zo rfl (cj (r:=.ptr id off) rfl rfl e1) (zl rfl e2 (zk 6 rfl (zo rfl (b6 rfl (by exact ja Tryz.underlying5 cM (fK (by omega) (by omega)))) ?_))))))
  refine zm rfl (zb rfl (by exact jT (aA (by omega) (by omega))) ?_)
  refine zb rfl (abi I (by omega)) ?_
  refine zb rfl (or8 cE I (by omega)) ?_
  refine za rfl (zv (zr rfl (zb rfl (by exact bx (aA (by omega) (by omega))) ?_)))
  refine zm rfl (zv ?_)
  refine ih (i+1) _ _ (by omega) ?_ hq
  rw[ht,RX,gI,AK (by omega)]
  exact⟨rfl,rfl,rfl,rfl,aa⟩
theorem n4 (J:W told)(s:Sat h S)(hk:getA S k=some X)(hX:cQ X (cW v l))(hl:l.length≤8): Call ⟨Tryz.prog,told⟩ 86 [v] h fun r h'=>r=.int .u64 (leN l)∧h'=h:=by
 have hv:=s.aH hk hX
 refine Call.of_wp (J.free _ rfl) Tryz.func86 rfl rfl (zK 12 rfl (zo rfl (aP rfl rfl rfl (bj aT hv)) (zk 2 rfl (WP.block ?_))))
 refine O9 hv hl l.length 0 _ _ (by omega) ⟨rfl,rfl,rfl,rfl,aa⟩ (fun E' I => ?_)
 exact WP.has (F:=[(3,.int .u64 (leN l))]) ⟨I,aa⟩ (zK 5 rfl (WP.ret ⟨aa,_,rfl,rfl,rfl⟩))
theorem Uq (I:W told)(s:Sat h S)(J:getA S k=some X)(hX:cQ X (cW v l))(hl:l.length≤4611686018427387904): Call ⟨Tryz.prog,told⟩ 171 [v] h fun r h'=>r=.int .u32 (Dn 0 l:Nat)∧h'=h:=by
 refine Call.of_wp (I.free _ rfl) Tryz.func171 rfl rfl (zK 7 rfl (zc rfl (VF (s:=0) I s J hX (by decide) hl) ?_))
 rintro v h' ⟨rfl,rfl⟩
 exact zk 2 rfl (WP.ret ⟨aa,_,rfl,rfl,rfl⟩)
def cO (l:List Nat)(a z:Nat): Nat:=leN ((l.take (a+z)).drop a)
theorem uu (hT:W told){a z:Int}(s:Sat h S)(J:getA S k=some X)(hX:cQ X (cW v l))(ha:0≤a)(hz:1≤z)(Ur:z≤7)(hl:a+z≤l.length)(js:l.length≤65536):
  Call ⟨Tryz.prog,told⟩ 154 [.agg [v],.int .i64 a,.int .i64 z] h fun r h'=>r=.int .i64 (cO l a.toNat z.toNat)∧Sat h' S:=by
 have hv:=s.aH J hX
 obtain⟨pi,po,pc,rfl⟩:=iS hv (by omega)
 refine Call.of_wp (hT.free _ rfl) Tryz.func154 rfl rfl (zg rfl ?_)
 refine ay.b8 s rfl rfl rfl (fg rfl rfl) (fun p3 h s => ?_)
 refine zk 4 rfl (zY s 0 iy bP rfl (zk 3 rfl (zb rfl (by exact bx (aA (by omega) (by omega))) ?_)))
 refine zk 2 rfl (zb rfl (by exact bx (aA (by omega) (by omega))) ?_)
 have j_:=BL (s.aH (nf J) hX) (a:=a.toNat) (b:=(a+z).toNat) (c:=(a+z).toNat) (by omega) (by omega) (by omega) (by omega)
 refine zo rfl (bV (p:=some (.int .i64 a)) (q:=some (.int .i64 (a+z))) (m:=some (.int .i64 (a+z))) rfl rfl rfl rfl (ey ha) (ey (by omega)) (ey (by omega)) j_) ?_
 have hlen:((l.take (a+z).toNat).drop a.toNat).length=z.toNat:=by simp;omega
 refine zc rfl (n4 hT s (nf J) (FL hX (a:=a.toNat) (b:=(a+z).toNat) (c:=(a+z).toNat) (by omega) (by omega) (by omega) (by omega)) (by omega)) ?_
 rintro r h' ⟨rfl,rfl⟩
 have I:=Dq ((l.take (a+z).toNat).drop a.toNat) (fun x hx=>hv.1 x (mZ (qR hx)))
 have hp:256^z.toNat≤256^7:=tw (by omega) (by omega)
 rw[hlen] at I
 have e:(a+z).toNat=a.toNat+z.toNat:=by omega
 rw[e] at I ⊢
 refine zo rfl (b6 rfl (by exact ja cM bF (aA (by omega) (by omega)))) ?_
 exact zk 2 rfl (WP.ret ⟨aa,_,rfl,rfl,s.drop⟩)
theorem zT {a:Nat}(I:∀b∈l,b<256): cO l a z<256^z:=by
 have:=Dq ((l.take (a+z)).drop a) (fun x J=>I x (mZ (qR J)))
 have h2:((l.take (a+z)).drop a).length≤z:=by simp;omega
 exact iN this (tw (by omega) h2)
def lF (l:List Nat): Nat:=cO l 14 2
def jz (l:List Nat): Nat:=cO l 16 2
def dU (l:List Nat)(i:Nat): Nat:=cO l (26+4*i) 2
def jF (l:List Nat)(i:Nat): Nat:=cO l (26+4*i+2) 2
theorem lG (I:W told)(s:Sat h S)(J:getA S k=some X)(hX:cQ X (cW v l))(hl:l.length=512):
  Call ⟨Tryz.prog,told⟩ 101 [.agg [v]] h fun r h'=>r=.int .i64 (lF l)∧Sat h' S:=by
 have hv:=s.aH J hX
 obtain⟨pi,po,pc,rfl⟩:=iS hv (by omega)
 refine Call.of_wp (I.free _ rfl) Tryz.func101 rfl rfl (zg rfl ?_)
 refine ay.b8 s rfl rfl rfl (fg rfl rfl) (fun p1 h s => ?_)
 refine zk 4 rfl (zl rfl (s.bZ (k:=0) rfl cH bQ) (zc rfl (uu I s (nf J) hX (by decide) (by decide) (by decide) (by omega) (by omega)) ?_))
 rintro r h' ⟨rfl,s⟩
 exact zk 2 rfl (WP.ret ⟨aa,_,rfl,rfl,s.drop⟩)
theorem H9 (I:W told)(s:Sat h S)(J:getA S k=some X)(hX:cQ X (cW v l))(hl:l.length=512):
  Call ⟨Tryz.prog,told⟩ 156 [.agg [v]] h fun r h'=>r=.int .i64 (jz l)∧Sat h' S:=by
 have hv:=s.aH J hX
 obtain⟨pi,po,pc,rfl⟩:=iS hv (by omega)
 refine Call.of_wp (I.free _ rfl) Tryz.func156 rfl rfl (zg rfl ?_)
 refine ay.b8 s rfl rfl rfl (fg rfl rfl) (fun p1 h s => ?_)
 refine zk 4 rfl (zl rfl (s.bZ (k:=0) rfl cH bQ) (zc rfl (uu I s (nf J) hX (by decide) (by decide) (by decide) (by omega) (by omega)) ?_))
 rintro r h' ⟨rfl,s⟩
 exact zk 2 rfl (WP.ret ⟨aa,_,rfl,rfl,s.drop⟩)
end
def eL (t:List Bool): List V:=t.map V.bool
theorem tO (t:List Bool)(k:Nat)(b:Bool): (eL t).set k (.bool b)=eL (t.set k b):=by simp[eL,List.map_set]
theorem K4 {t:List Bool}(I:k<t.length): nth (eL t) k=some (.bool (t.getD k false)):=by
 rw[gP];simp[eL,bA I]
theorem RY : zeroT Tryz.prog 227=some (.agg (eL (List.replicate 512 false))):=by kernel_rfl
def markL : Nat→Nat→List Bool→Option (List Bool)
 |0,_,t=>some t
 |n+1,k,t=>if t.getD k false then none else markL n (k+1) (t.set k true)
def cellsL (l:List Nat)(low:Nat): Nat→Nat→List Bool→Bool
 |0,_,_=>true
 |n+1,i,t=>if dU l i<low∨512<dU l i+jF l i then false else match markL (jF l i) (dU l i) t with
  |none=>false
  |some t'=>cellsL l low n (i+1) t'
def bW (l:List Nat): Bool:=decide (l.length=512)&&(decide (l.getD 13 0=0)&&(decide (26+4*lF l≤jz l∧jz l≤512)&&cellsL l (jz l) (lF l) 0 (List.replicate 512 false)))
theorem O_ : ∀(n k:Nat) (t t':List Bool),markL n k t=some t'→t'.length=t.length:=by
 intro n
 induction n with
 |zero=>intro k t t' h;simp only[markL] at h;injection h with h;subst h;rfl
 |succ n I =>
  intro k t t' h
  simp only[markL] at h
  split at h
  ·cases h
  ·have:=I _ _ _ h;simpa using this
section
variable {told:dc} {v:V}
theorem Bg (I:W told)(s:Sat h S)(J:getA S k=some X)(hX:cQ X (cW v l))(hl:l.length=512)(hi:30+4*i≤512):
  Call ⟨Tryz.prog,told⟩ 155 [.agg [v],.int .i64 (i:Int)] h fun r h'=>r=.bf [.int .i64 (dU l i),.int .i64 (jF l i)]∧Sat h' S:=by
 have hv:=s.aH J hX
 obtain⟨pi,po,pc,rfl⟩:=iS hv (by omega)
 have e1:(26+4*(i:Int)).toNat=26+4*i:=by omega
 have e2:(26+4*(i:Int)+2).toNat=26+4*i+2:=by omega
 refine Call.of_wp (I.free _ rfl) Tryz.func155 rfl rfl (zg rfl ?_)
 refine ay.b8 s rfl rfl rfl (fg rfl rfl) (fun p2 h s => ?_)
 refine zk 6 rfl (zb rfl (by exact jT (aA (by omega) (by omega))) ?_)
 refine zb rfl (by exact bx (aA (by omega) (by omega))) ?_
 refine zk 3 rfl ?_
 have s0:=s
 refine WP.drawn [af,af,af,some (0,2),some (0,2),some (0,2),af,af,af] rfl (by kernel_rfl) (by kernel_rfl) ?_
 refine zL rfl (s.bZ (k:=0) rfl cH bQ) (zM rfl (ax.any rfl rfl rfl rfl (OpR.call rfl rfl rfl rfl (uu I s (nf J) hX (by omega) (by decide) (by decide) (by omega) (by omega))) ?_))
 rintro r h' ⟨rfl,s⟩
 rw[e1]
 have s1:=s
 refine zL rfl (s.bZ (k:=0) rfl cH bQ) (zM rfl (zO rfl (az rfl rfl (by exact bx (aA (by omega) (by omega)))) ?_))
 refine ax.any rfl rfl rfl rfl (OpR.call rfl rfl rfl rfl (uu I s (nf J) hX (by omega) (by decide) (by decide) (by omega) (by omega))) ?_
 rintro r h' ⟨rfl,s⟩
 rw[e2]
 refine zA rfl (zA rfl ?_)
 refine ax.nil ⟨⟨aa,aa,aa,dw (.inr ⟨rfl,⟨_,aW rfl (s0.bZ (k:=0) rfl cH bQ)⟩,bn _ rfl⟩) (.inr ⟨rfl,⟨_,aW rfl (s1.bZ (k:=0) rfl cH bQ)⟩,bn _ rfl⟩),fun _ _=>.inr ⟨rfl,⟨_,bD rfl⟩,bn _ rfl⟩,fun _ _=>.inr ⟨rfl,⟨_,az rfl rfl (by exact bx (aA (by omega) (by omega)))⟩,bn _ rfl⟩,aa,aa,aa,aa⟩,?_⟩
 refine WP.ret ⟨aa,_,rfl,?_⟩
 exact⟨rfl,s.drop⟩
noncomputable def gdO : Code:=cD [1,1,1,1,1,1,0,1,0,0] ((Tryz.f107.body).getD .skip)
noncomputable def gdI : Code:=cD [1,1,1,1,1,1,0,1,0,0,1,1,0,0,1,1,1,1,0,0] ((Tryz.f107.body).getD .skip)
theorem MH {a:Nat}{v3 v4 v5 v35 v36:V}(haz:a+z≤512): ∀(m q:Nat) (t:List Bool) (h:H) (E:List (Nat×V)) (Q:Ex→List (Nat×V)→H→Prop),q+m=a+z→t.length=512 →
  Sat h (pt p6 (.cells 512 (eL t) false)::S)→Has E [(3,v3),(4,v4),(5,v5),(6,.ptr p6 0),(8,.int .i64 (a:Int)),(9,.int .i64 (z:Int)),(10,.int .i64 (q:Int)),(35,v35),(36,v36)] →
  (markL m q t=none→∀E' h',look E' 2=some (.bool false)→Sat h' S→Q .ret E' h') →
  (∀t' E' h',markL m q t=some t'→Has E' [(3,v3),(4,v4),(5,v5),(6,.ptr p6 0),(35,v35),(36,v36)]→Sat h' (pt p6 (.cells 512 (eL t') false)::S)→Q (.exit 2) E' h') →
  WP ⟨Tryz.prog,told⟩ 68 (.loop gdI) E h Q:=by
 intro m
 induction m with
 |zero =>
  intro q t h E Q hq ht s hE J hx
  refine WP.loop (WP.has hE (zK 6 rfl (zb rfl (by exact bx (aA (by omega) (by omega))) ?_)))
  refine zC rfl aN (by simp;omega) ?_
  exact zk 2 rfl (WP.exit (hx t _ _ rfl ⟨rfl,rfl,rfl,rfl,rfl,rfl,aa⟩ s))
 |succ m ih =>
  intro q t h E Q hq ht s hE J hx
  have I:q<t.length:=by omega
  refine WP.loop (WP.has hE (zK 6 rfl (zb rfl (by exact bx (aA (by omega) (by omega))) ?_)))
  refine zB rfl aN (by simp;omega) ?_
  refine zk 4 rfl (WP.block (zK 4 rfl (zo rfl (cj (r:=.ptr p6 q) rfl rfl (by rw[Uh,show(decide ((0:Int)≤(q:Int))&&decide ((q:Int)<((512:Nat):Int)))=true by simp;omega,aj];simp)) ?_)))
  cases hm:t.getD q false with
  |true =>
   refine zt rfl (aW rfl (s.ld (k:=0) rfl jK (K4 I))) (hm) (zk 6 rfl (WP.ret ?_))
   refine J ?_ _ _ rfl s.drop
   rw[markL,aJ hm]
  |false =>
   refine zh rfl (aW rfl (s.ld (k:=0) rfl jK (K4 I))) (hm) (zk 5 rfl (zo rfl (cj (r:=.ptr p6 q) rfl rfl (by rw[Uh,show(decide ((0:Int)≤(q:Int))&&decide ((q:Int)<((512:Nat):Int)))=true by simp;omega,aj];simp)) ?_))
   refine zS rfl (s.eX (k:=0) rfl ox (by simp[eL,ht]) (by omega) rfl rfl) ?_
   intro h s
   dsimp only[setA] at s
   rw[tO] at s
   refine zv (zr rfl (zm rfl (zb rfl (by exact bx (aA (by omega) (by omega))) ?_)))
   refine za rfl (zv ?_)
   have e:markL (m+1) q t=markL m (q+1) (t.set q true):=by rw[markL,ak (by rw[hm];decide)]
   rw[e] at J hx
   exact ih (q+1) (t.set q true) h _ Q (by omega) (by simp[ht]) s ⟨rfl,rfl,rfl,rfl,rfl,rfl,rfl,rfl,rfl,aa⟩ J hx
theorem MI (hT:W told){p3:Nat}{low:Nat}(hX:cQ X (cW x l))(hl:l.length=512)(cE:∀b∈l,b<256)(CT:x.cells=[x])(hx2:storable x=true)(hn:n=lF l)(zU:26+4*n≤low)(acv:low≤512): ∀(m i:Nat) (t:List Bool) (h:H) (E:List (Nat×V)) (Q:Ex→List (Nat×V)→H→Prop),i+m=n→t.length=512 →
  Sat h (pt p6 (.cells 512 (eL t) false)::pt p3 (.cells 1 [x] false)::X::S)→Has E [(3,.ptr p3 0),(4,.int .i64 (n:Int)),(5,.int .i64 (low:Int)),(6,.ptr p6 0),(35,.int .i64 (n:Int)),(36,.int .i64 (i:Int))] →
  (cellsL l low m i t=false→∀E' h',look E' 2=some (.bool false)→Sat h' (X::S)→Q .ret E' h') →
  (cellsL l low m i t=true→∀E' h',Sat h' (X::S)→Q (.exit 0) E' h') →
  WP ⟨Tryz.prog,told⟩ 68 (.loop gdO) E h Q:=by
 intro m
 induction m with
 |zero =>
  intro i t h E Q hi ht s hE J hx
  refine WP.loop (WP.has hE (zg rfl (zC rfl aN (by simp;omega) ?_)))
  exact zk 3 rfl (WP.exit (hx rfl _ _ s.drop.drop))
 |succ m ih =>
  intro i t h E Q hi ht s hE J hx
  have hf:=zT (l:=l) (a:=26+4*i) (z:=2) cE
  have hz:=zT (l:=l) (a:=26+4*i+2) (z:=2) cE
  have ef:dU l i=cO l (26+4*i) 2:=rfl
  have ez:jF l i=cO l (26+4*i+2) 2:=rfl
  refine WP.loop (WP.has hE (zg rfl (zB rfl aN (by simp;omega) ?_)))
  refine zk 5 rfl (WP.block (zK 7 rfl (zl rfl (s.bZ (k:=1) rfl cH bQ) (zm rfl (zc rfl (Bg (i:=i) hT s (k:=2) rfl hX hl (by omega)) ?_)))))
  rintro r h' ⟨rfl,s⟩
  refine zk 11 rfl ?_
  refine zd rfl (az rfl rfl aN) ?_ ?_
  ·intro hq
   have hq:dU l i<low:=by simp at hq;omega
   refine zk 12 rfl (WP.ret ?_)
   refine J ?_ _ _ rfl s.drop.drop
   rw[cellsL,aJ (.inl hq)]
  ·intro hq
   have hq:low≤dU l i:=by simp at hq;omega
   refine zk 3 rfl (zb rfl (by exact bx (aA (by omega) (by omega))) ?_)
   refine zd rfl (az rfl rfl gT) ?_ ?_
   ·intro I
    have I:512<dU l i+jF l i:=by simp at I;omega
    refine zk 7 rfl (WP.ret ?_)
    refine J ?_ _ _ rfl s.drop.drop
    rw[cellsL,aJ (.inr I)]
   ·intro I
    have I:dU l i+jF l i≤512:=by simp at I;omega
    refine zk 9 rfl (WP.block ?_)
    have e:cellsL l low (m+1) i t=(match markL (jF l i) (dU l i) t with|none=>false|some t'=>cellsL l low m (i+1) t'):=by rw[cellsL,ak (by omega)]
    rw[e] at J hx
    refine MH I (jF l i) (dU l i) t _ _ _ rfl ht s ⟨rfl,rfl,rfl,rfl,rfl,rfl,rfl,rfl,rfl,aa⟩ (fun hm E' h' h2 s' => ?_) (fun t' E' h' hm jf s' => ?_)
    ·rw[hm] at J
     exact J rfl _ _ h2 s'.drop
    ·rw[hm] at J hx
     refine WP.has jf (zr rfl (zb rfl (by exact bx (aA (by omega) (by omega))) ?_))
     refine zm rfl (zv ?_)
     exact ih (i+1) t' h' _ Q (by omega) (by rw[O_ _ _ _ _ hm,ht]) s' ⟨rfl,rfl,rfl,rfl,rfl,rfl,aa⟩ J hx
theorem K5 (hT:W told)(s:Sat h (X::S))(hX:cQ X (cW v l))(js:l.length<9223372036854775808):
  Call ⟨Tryz.prog,told⟩ 107 [v] h fun r h'=>r=.bool (bW l)∧Sat h' (X::S):=by
 have hv:=s.aH (k:=0) rfl hX
 refine Call.of_wp (hT.free _ rfl) Tryz.func107 rfl rfl (zK 8 rfl (zo rfl (aP rfl rfl rfl (bj aT (s.aH (k:=0) rfl hX))) ?_))
 refine zd rfl (az rfl rfl aD) ?_ ?_
 ·intro hq
  have hq:l.length≠512:=by simp at hq;omega
  exact zk 12 rfl (WP.ret ⟨aa,_,rfl,by rw[bW,fE hq,kN],s⟩)
 ·intro hq
  have hq:l.length=512:=by simp at hq;omega
  have hb:l[13]?=some (l[13]'(by omega)):=bA _
  generalize T0:(l[13]'(by omega))=b at hb
  have nH:l.getD 13 0=b:=by rw[gY,hb];rfl
  obtain⟨id,off,e1,e2⟩:=eo hv hb
  refine zk 2 rfl (zo rfl (cj (r:=.ptr id off) rfl rfl e1) (zl rfl e2 ?_))
  refine zd rfl (az rfl rfl aD) ?_ ?_
  ·intro I
   have I:b≠0:=by simp at I;omega
   exact zk 7 rfl (WP.ret ⟨aa,_,rfl,by rw[bW,fL hq,nH,fE I,kN,Bool.and_false],s⟩)
  ·intro I
   have I:b=0:=by simp at I;omega
   obtain⟨pi,po,pc,rfl⟩:=iS hv (by omega)
   refine zk 7 rfl (zo rfl (dn rfl (by rw[A_];rfl)) ?_)
   refine ay.b8 s rfl rfl rfl (bU j7) (fun p3 h s => ?_)
   refine zS rfl (s.ep (j:=0) rfl bQ rfl rfl) (fun h s => ?_)
   refine zk 2 rfl ?_
   have s0:=s
   refine WP.drawn [none,none,some (0,2),af,af,af] rfl (by kernel_rfl) (by kernel_rfl) ?_
   refine zL rfl (s.bZ (k:=0) rfl cH bQ) (ax.any rfl rfl rfl rfl (OpR.call rfl rfl rfl rfl (lG hT s (k:=1) rfl hX hq)) ?_)
   rintro r h' ⟨rfl,s⟩
   have s1:=s
   refine zL rfl (s.bZ (k:=0) rfl cH bQ) (ax.any rfl rfl rfl rfl (OpR.call rfl rfl rfl rfl (H9 hT s (k:=1) rfl hX hq)) ?_)
   rintro r h' ⟨rfl,s⟩
   refine zA rfl (zA rfl ?_)
   refine ax.nil ⟨⟨aa,aa,dw (.inr ⟨rfl,⟨_,aW rfl (s0.bZ (k:=0) rfl cH bQ)⟩,bn _ rfl⟩) (.inr ⟨rfl,⟨_,aW rfl (s1.bZ (k:=0) rfl cH bQ)⟩,bn _ rfl⟩),aa,aa,aa,aa⟩,?_⟩
   have yL:=zT (l:=l) (a:=14) (z:=2) hv.1
   have wo:=zT (l:=l) (a:=16) (z:=2) hv.1
   have ec:lF l=cO l 14 2:=rfl
   have el:jz l=cO l 16 2:=rfl
   refine zK 4 rfl (zb rfl (by exact jT (aA (by omega) (by omega))) ?_)
   refine zb rfl (by exact bx (aA (by omega) (by omega))) ?_
   refine zm rfl ?_
   refine zd rfl (az rfl rfl gT) ?_ ?_
   ·intro J
    have J:jz l<26+4*lF l:=by simp at J;omega
    exact zk 10 rfl (WP.ret ⟨aa,_,rfl,by rw[bW,fL hq,nH,fL I,fE (by omega:¬(26+4*lF l≤jz l∧jz l≤512))];rfl,s.drop⟩)
   ·intro J
    have J:26+4*lF l≤jz l:=by simp at J;omega
    refine zk 2 rfl ?_
    refine zd rfl (az rfl rfl gT) ?_ ?_
    ·intro qf
     have qf:512<jz l:=by simp at qf;omega
     exact zk 7 rfl (WP.ret ⟨aa,_,rfl,by rw[bW,fL hq,nH,fL I,fE (by omega:¬(26+4*lF l≤jz l∧jz l≤512))];rfl,s.drop⟩)
    ·intro qf
     have qf:jz l≤512:=by simp at qf;omega
     refine zk 6 rfl (ay.b8 s rfl rfl rfl (bU RY) ?_)
     intro p6 h s
     have va:(eL (List.replicate 512 false)).length=512:=by rw[eL,jw,dx]
     dsimp only[V.cells] at s
     rw[va] at s
     refine zk 7 rfl (WP.block ?_)
     have hg:bW l=cellsL l (jz l) (lF l) 0 (List.replicate 512 false):=by
      rw[bW,fL hq,nH,fL I,fL (⟨J,qf⟩:26+4*lF l≤jz l∧jz l≤512)];rfl
     refine MI hT hX hq hv.1 rfl rfl rfl J qf (lF l) 0 (List.replicate 512 false) _ _ _ (by omega) dx s ⟨rfl,rfl,rfl,rfl,rfl,rfl,aa⟩ (fun hc E' h' h2 s' => ?_) (fun hc E' h' s' => ?_)
     ·rw[hg,hc]
      exact⟨aa,_,qx h2,rfl,s'⟩
     ·rw[hg,hc]
      exact WP.has (F:=[]) aa (zK 4 rfl (WP.ret ⟨aa,_,rfl,rfl,s'⟩))
end
section
variable {told:dc} {v:V}
theorem Dr (I:W told)(s:Sat h (aV v l::S))(J:z≤8)(hl:l.length+z≤140737488355328):
  Call ⟨Tryz.prog,told⟩ 95 [v,.int .i64 (z:Int),.int .u64 (n:Int)] h fun r h'=>Sat h' (aV r (l++le z n)::S) :=
 (O3 I.Up s.wf (s.buf (k:=0) rfl) J hl).mono fun _ _ ⟨h1,h2,h3⟩=>s.A6 h2 h1 h3
theorem qz (hT:W told){a:Nat}(s:Sat h (aV v l::S))(hz:1≤z)(Ur:z≤8)(hl:a+z≤l.length)(js:l.length≤65536):
  Call ⟨Tryz.prog,told⟩ 99 [.agg [v],.int .i64 (a:Int),.int .i64 (z:Int),.int .u64 (n:Int)] h fun r h'=>r=.bf []∧Sat h' (aV v (bp l a (le z n))::S):=by
 obtain⟨I,_,cap,_,rfl,_⟩:=s.fZ (by omega)
 refine Call.of_wp (hT.free _ rfl) Tryz.func99 rfl rfl (zg rfl ?_)
 refine ay.b8 s rfl rfl rfl (fg rfl rfl) (fun p4 h s => ?_)
 refine zv ?_
 have s0:=s
 refine WP.drawn [some (0,2),some (0,2),some (0,2),some (0,2),some (0,2),some (0,2),some (0,2),af,af,af,af] rfl (by kernel_rfl) (by kernel_rfl) ?_
 refine zF rfl (iy _ _) (zL rfl (s.ld (k:=0) rfl bP rfl) (zM rfl (zM rfl (zM rfl (zO rfl (az rfl rfl (by exact bx (aA (by omega) (by omega)))) ?_)))))
 have ez:((a:Int)+(z:Int)).toNat=a+z:=by omega
 have ea:((a:Int)).toNat=a:=by omega
 refine zO rfl (bV (p:=some (.int .i64 (a:Int))) (q:=some (.int .i64 ((a:Int)+(z:Int)))) (m:=none) (p':=some a) (q':=some (a+z)) (m':=none) rfl rfl rfl rfl (by rw[ey (by omega),ea]) (by rw[ey (by omega),ez]) rfl (eU (s.buf (k:=1) rfl).view (by omega) hl).1) ?_
 refine zM rfl (zM rfl (ax.any rfl rfl rfl rfl (OpR.call rfl rfl rfl rfl (Dr hT s.Df Ur (by simp;omega))) ?_))
 intro u h s
 have s:=s.ae [1,1,0]
 dsimp only[List.nil_append,V.cells,List.length_cons,List.length_nil,Nat.reduceAdd,bringA,getA,aL] at s
 have s1:=s
 refine ax.any rfl rfl rfl rfl (OpR.Um rfl (s.ae [1,1]) (bu _ _) rfl rfl rfl rfl (by omega) hl (by simp[cR];omega)) ?_
 intro r h s
 have hs:∃q c,slR (V.sl I 0 l.length cap) a (a+z)=.sl I q (a+z-a) c:=by
  cases cap with
  |exact c=>exact⟨_,_,rfl⟩
  |rest e alt=>exact⟨_,_,rfl⟩
 obtain⟨q,c,hs⟩:=hs
 have J:(slR (V.sl I 0 l.length cap) a (a+z)).beq (slR (V.sl I 0 l.length cap) a (a+z))=true:=by rw[hs];exact C2 _ _ _ _
 refine ax.nil ⟨⟨fun _ _=>.inr ⟨rfl,⟨_,jS rfl (iy _ _)⟩,bn _ rfl⟩,dw (.inr ⟨rfl,⟨_,aW rfl (s0.ld (k:=0) rfl bP rfl)⟩,bn _ rfl⟩) (.inr ⟨rfl,⟨_,aW rfl (s1.ld (k:=0) rfl bP rfl)⟩,bn _ rfl⟩),fun _ _=>.inr ⟨rfl,⟨_,bD rfl⟩,bn _ rfl⟩,fun _ _=>.inr ⟨rfl,⟨_,bD rfl⟩,bn _ rfl⟩,fun _ _=>.inr ⟨rfl,⟨_,bD rfl⟩,bn _ rfl⟩,fun _ _=>.inr ⟨rfl,⟨_,az rfl rfl (by exact bx (aA (by omega) (by omega)))⟩,bn _ rfl⟩,dw (.inr ⟨rfl,⟨_,bV (p:=some (.int .i64 (a:Int))) (q:=some (.int .i64 ((a:Int)+(z:Int)))) (m:=none) (p':=some a) (q':=some (a+z)) (m':=none) rfl rfl rfl rfl (by rw[ey (by omega),ea]) (by rw[ey (by omega),ez]) rfl (eU (s0.buf (k:=1) rfl).view (by omega) hl).1⟩,J⟩) (.inr ⟨rfl,⟨_,bV (p:=some (.int .i64 (a:Int))) (q:=some (.int .i64 ((a:Int)+(z:Int)))) (m:=none) (p':=some a) (q':=some (a+z)) (m':=none) rfl rfl rfl rfl (by rw[ey (by omega),ea]) (by rw[ey (by omega),ez]) rfl (eU (s1.buf (k:=1) rfl).view (by omega) hl).1⟩,J⟩),aa,aa,aa,aa,aa⟩,?_⟩
 refine⟨aa,_,rfl,rfl,?_⟩
 rw[show a+z-a=z by omega,eW (by rw[cR];omega)] at s
 exact(s.del 1).del 1
theorem uw (hT:W told)(s:Sat h (X::S))(hX:cQ X (cW v l))(J:l.length<9223372036854775808):
  Call ⟨Tryz.prog,told⟩ 153 [v] h fun r h'=>Sat h' (X::S)∧((bW l=true∧r=.bf [.agg [v],.int .i64 0])∨(bW l=false∧r=.bf [.agg [.bC],.int .i64 4])):=by
 have hv:=s.aH (k:=0) rfl hX
 refine Call.of_wp (hT.free _ rfl) Tryz.func153 rfl rfl (zg rfl ?_)
 refine ay.b8 s rfl rfl rfl (bU j7) (fun p2 h s => ?_)
 refine zk 6 rfl (zc rfl (K5 hT (s.ae [1]) hX J) ?_)
 rintro r h' ⟨rfl,s⟩
 cases hg:bW l with
 |true =>
  have I:1≤l.length:=by
   have:l.length=512:=by simp only[bW,bK,ir] at hg;exact hg.1
   omega
  obtain⟨pi,po,pc,rfl⟩:=iS hv I
  refine zo rfl (dQ rfl rfl) (zk 6 rfl (zo rfl (dn rfl (by rw[A_];rfl)) ?_))
  refine zS rfl (s.ep (j:=1) rfl bQ rfl rfl) (fun h s => ?_)
  refine zk 2 rfl ?_
  refine WP.ret ⟨aa,_,GQ rfl (s.bZ (k:=1) rfl cH bQ) rfl,?_⟩
  exact⟨s.del 1,.inl ⟨rfl,rfl⟩⟩
 |false =>
  refine zo rfl (dQ rfl rfl) (zk 4 rfl (zo rfl (dn rfl (by rw[A_];rfl)) ?_))
  refine zS rfl (s.ep (j:=1) rfl bQ rfl rfl) (fun h s => ?_)
  refine zk 2 rfl ?_
  refine WP.ret ⟨aa,_,GQ rfl (s.bZ (k:=1) rfl cH bQ) rfl,?_⟩
  exact⟨s.del 1,.inr ⟨rfl,rfl⟩⟩
theorem eC (I:bW l=true): l.length=512:=by simp only[bW,bK,ir] at I;exact I.1
theorem vb (hT:W told)(s:Sat h (X::S))(J:cQ X (cW v l))(js:l.length<9223372036854775808):
  Call ⟨Tryz.prog,told⟩ 100 [v] h fun r h'=>(bW l=true∧∃u,r=.bf [.agg [u],.int .i64 0]∧Sat h' (aV u l::X::S))∨(bW l=false∧r=.bf [.agg [.bC],.int .i64 4]∧Sat h' (X::S)):=by
 have hv:=s.aH (k:=0) rfl J
 refine Call.of_wp (hT.free _ rfl) Tryz.func100 rfl rfl (zg rfl ?_)
 refine ay.b8 s rfl rfl rfl (bU j7) (fun p2 h s => ?_)
 refine zk 5 rfl (zc rfl (uw hT (s.ae [1]) J js) ?_)
 rintro r h' ⟨s,(⟨I,rfl⟩|⟨I,rfl⟩)⟩
 ·have abj:=eC I
  obtain⟨pi,po,pc,rfl⟩:=iS hv (by omega)
  refine zk 3 rfl ?_
  refine ay.b8 s rfl rfl rfl (bU j7) (fun p4 h s => ?_)
  refine zS rfl (s.ep (j:=0) rfl bQ rfl rfl) (fun h s => ?_)
  refine zk 6 rfl (zC rfl aD (rfl) (zk 4 rfl ?_))
  have s0:=s
  refine WP.drawn [af,af,af,af,some (0,2),some (0,2),af,af,af,af] rfl (by kernel_rfl) (by kernel_rfl) ?_
  refine zF rfl (iy _ _) (zL rfl (s.ld (k:=0) rfl bP rfl) (zO rfl (aP rfl rfl rfl (p_ rfl aT)) (ax.any rfl rfl rfl rfl (OpR.um rfl s rfl rfl rfl rfl (by omega)) ?_)))
  intro u h s
  have s:=s.ae [1,1,1,0]
  have s1:=s
  refine zF rfl (iy _ _) (zL rfl (s.ld (k:=0) rfl bP rfl) (ax.any rfl rfl rfl rfl (OpR.qy rfl (s.ae [3,1]) J rfl rfl rfl rfl (by simp;omega)) ?_))
  intro u2 h s
  rw[eB] at s
  obtain⟨qM,_,cap,_,rfl,_⟩:=s.fZ (by omega)
  have s2:=s
  refine zO rfl (dn rfl (by rw[A_];rfl)) ?_
  refine ax.iB rfl rfl rfl (OpR.eu rfl rfl rfl (s.ep (j:=3) rfl bQ rfl rfl)) ?_
  rintro w h ⟨rfl,s⟩
  have s3:=s
  refine zA rfl ?_
  refine ax.nil ⟨⟨aa,aa,aa,aa,fun _ _=>.inr ⟨rfl,⟨_,jS rfl (iy _ _)⟩,bn _ rfl⟩,dw (.inr ⟨rfl,⟨_,aW rfl (s0.ld (k:=0) rfl bP rfl)⟩,bn _ rfl⟩) (.inr ⟨rfl,⟨_,aW rfl (s1.ld (k:=0) rfl bP rfl)⟩,bn _ rfl⟩),aa,aa,aa,aa,aa⟩,?_⟩
  refine WP.ret ⟨aa,_,GQ rfl (s.bZ (k:=3) rfl cH bQ) rfl,?_⟩
  exact .inl ⟨I,_,rfl,(s.del 2).del 2⟩
 ·skip
  refine zk 3 rfl ?_
  refine ay.b8 s rfl rfl rfl (bU j7) (fun p4 h s => ?_)
  refine zS rfl (s.ep (j:=0) rfl bQ rfl rfl) (fun h s => ?_)
  refine zk 6 rfl (zB rfl aD (rfl) (zk 4 rfl (zo rfl (dn rfl (by rw[A_];rfl)) ?_)))
  refine zm rfl ?_
  refine zS rfl (s.ep (j:=2) rfl bQ rfl rfl) (fun h s => ?_)
  refine zk 2 rfl ?_
  refine WP.ret ⟨aa,_,GQ rfl (s.bZ (k:=2) rfl cH bQ) rfl,?_⟩
  exact .inr ⟨I,rfl,(s.del 2).del 0⟩
def oE (l:List Nat)(n:Nat): List Nat:=bp l 4 (le 8 n)
def cT (l:List Nat)(n:Nat): List Nat:=bp (oE l n) 0 (le 4 (Dn 0 ((oE l n).drop 4)))
theorem xI (I:l.length=512): (oE l n).length=512:=by rw[oE,cJ (by rw[cR];omega),I]
theorem K6 (I:W told)(s:Sat h (X::S))(hX:cQ X (cW v l))(js:l.length<9223372036854775808):
  Call ⟨Tryz.prog,told⟩ 127 [v,.int .u64 (n:Int)] h fun r h'=>(bW l=true∧∃u,r=.bf [u,.int .i64 0]∧Sat h' (aV u (cT l n)::X::S))∨(bW l=false∧r=.bf [.bC,.int .i64 4]∧Sat h' (X::S)):=by
 refine Call.of_wp (I.free _ rfl) Tryz.func127 rfl rfl (zK 8 rfl (zc rfl (vb I s hX js) ?_))
 rintro r h' (⟨hg,u,rfl,s⟩|⟨hg,rfl,s⟩)
 ·have J:=eC hg
  have mc:(oE l n).length=512:=xI J
  obtain⟨qM,_,cap,_,rfl,_⟩:=s.fZ (by omega)
  refine zk 3 rfl ?_
  refine ay.b8 s rfl rfl rfl (bU j7) (fun p6 h s => ?_)
  refine zS rfl (s.ep (j:=0) rfl bQ rfl rfl) (fun h s => ?_)
  refine zk 6 rfl (zC rfl aD (rfl) (zk 5 rfl (zl rfl (s.bZ (k:=0) rfl cH bQ) (zm rfl (zc rfl (qz (a:=4) (z:=8) I (s.ae [1]) (by decide) (by decide) (by omega) (by omega)) ?_)))))
  rintro r h' ⟨rfl,s⟩
  have s:=s.ae [1,0]
  have s:Sat _ (_::aV _ (oE l n)::_):=s
  refine zk 2 rfl ?_
  have s0:=s
  have sL:=(s.buf (k:=1) rfl).view.1
  have ec:(oE l n).length=l.length:=by omega
  rw[←ec] at *
  refine WP.drawn [some (0,2),af,af,af,af,af,af] rfl (by kernel_rfl) (by kernel_rfl) ?_
  refine zL rfl (s.bZ (k:=0) rfl cH bQ) (zF rfl (iy _ _) (zL rfl (s.ld (k:=0) rfl bP rfl) (zO rfl (bV (p:=some (.int .i64 4)) (q:=none) (m:=none) (p':=some 4) (q':=none) (m':=none) rfl rfl rfl rfl rfl rfl rfl (cf (s.buf (k:=1) rfl).view (a:=4) (by omega)).1) ?_)))
  refine ax.any rfl rfl rfl rfl (OpR.call rfl rfl rfl rfl (Uq I s (k:=1) rfl (rq (bu _ _) (a:=4) (by omega)) (by simp;omega))) ?_
  rintro r h' ⟨rfl,rfl⟩
  have s1:=s
  have hc:=Cd (s:=0) (l:=(oE l n).drop 4) (by decide) (fun x hx=>sL x (qR hx))
  refine ax.op rfl rfl rfl (by simp only[isEff,cM]) (b6 rfl (by exact ja Tryz.underlying231 cM (fK (by omega) (by omega)))) ?_
  refine ax.any rfl rfl rfl rfl (OpR.call rfl rfl rfl rfl (qz (a:=0) (z:=4) I (s.ae [1]) (by decide) (by decide) (by omega) (by omega))) ?_
  rintro r h ⟨rfl,s⟩
  have s:=s.ae [1,0]
  refine ax.nil ⟨⟨dw (.inr ⟨rfl,⟨_,aW rfl (s0.bZ (k:=0) rfl cH bQ)⟩,bn _ rfl⟩) (.inr ⟨rfl,⟨_,aW rfl (s1.bZ (k:=0) rfl cH bQ)⟩,bn _ rfl⟩),aa,aa,aa,aa,aa,aa,aa⟩,?_⟩
  exact zg rfl (zY s 0 iy bP rfl (zk 3 rfl (WP.ret ⟨aa,_,rfl,.inl ⟨hg,_,rfl,s.drop⟩⟩)))
 ·skip
  refine zk 3 rfl ?_
  refine ay.b8 s rfl rfl rfl (bU j7) (fun p6 h s => ?_)
  refine zS rfl (s.ep (j:=0) rfl bQ rfl rfl) (fun h s => ?_)
  exact zk 6 rfl (zB rfl aD (rfl) (zk 8 rfl (WP.ret ⟨aa,_,rfl,.inr ⟨hg,rfl,s.drop⟩⟩)))
theorem abk {d:TypeId}{x:Operand}{r:V}(I:bB E x=some v)(J:arrPtrV P d v=some r): opE P E h (.sliceToArrayPointer d x)=some (r,h):=by simp only[opE,jO,I,J,bH]
theorem VK {cap:Cap}(hv:View h (.sl id off n cap) l)(I:isAggT P t=some true)(hs:bJ P t=some l.length): loadV P h t (.ptr id off)=some (.agg (ofBytes l)):=by
 have:=hv.rdN
 obtain⟨rfl,J⟩:=this
 simp only[loadV,I,hs,J,m5]
theorem Gz : ∀(l m:List Nat),l.length=m.length→intsBeq .u8 (ofBytes l) (ofBytes m)=some (decide (l=m)):=by
 intro l
 induction l with
 |nil=>intro m hm;cases m with
  |nil=>rfl
  |cons x m=>simp at hm
 |cons x l J=>intro m hm;cases m with
  |nil=>simp at hm
  |cons y m =>
   have hi:=J m (by simpa using hm)
   simp only[ofBytes,iu] at hi ⊢
   simp only[intsBeq,ikBeq,jl,aj,hi,kY]
   by_cases I:x=y
   ·subst I;simp
   ·have:¬ ((x:Int)=(y:Int)):=by omega
    simp[this,I]
theorem RZ : buildV Tryz.prog 239 []=some (.agg (ofBytes (List.replicate 512 0))):=by kernel_rfl
theorem Us {x:Operand}{m:List Nat}(hu:P.underlying t=some (.array n e))(he:P.underlying e=some (.int .u8))(hs:bJ P e=some 1)(I:l.length=n)(hm:m.length=n):
  binV P h .eql t x y (.agg (ofBytes l)) (.agg (ofBytes m))=some (.bool (decide (l=m))):=by
 simp only[binV,eqArr,hu,he,hs,dS,I,hm,gZ,jl,aj]
 rw[Gz l m (by omega)]
 rfl
def gU (l:List Nat): Int:=if l=List.replicate 512 0 then 0 else if bW l=false then 4 else if cO l 0 4≠Dn 0 (l.drop 4) then 8 else 0
theorem H_ (hT:W told)(s:Sat h (X::S))(J:cQ X (cW v l))(js:l.length<9223372036854775808):
  Call ⟨Tryz.prog,told⟩ 125 [v] h fun r h'=>r=.int .i64 (gU l)∧Sat h' (X::S):=by
 have hv:=s.aH (k:=0) rfl J
 have hz:(List.replicate 512 0).length=512:=dx
 -- what follows when the page is no page of noughts
 refine Call.of_wp (hT.free _ rfl) Tryz.func125 rfl rfl (zK 8 rfl (zo rfl (aP rfl rfl rfl (bj aT (s.aH (k:=0) rfl J))) ?_))
 refine zd rfl (az rfl rfl dG) ?_ ?_
 ·intro hq
  have hq:l.length=512:=by simp at hq;omega
  obtain⟨pi,po,pc,rfl⟩:=iS hv (by omega)
  refine zk 2 rfl (zo rfl (abk (r:=.ptr pi po) rfl (by simp only[arrPtrV,HV];rw[hq];rfl)) ?_)
  refine zl rfl (VK hv aae (by rw[hq];exact aad)) ?_
  refine zo rfl (dn rfl RZ) ?_
  by_cases hn:l=List.replicate 512 0
  ·skip
   exact zB rfl (Us HV Tryz.underlying5 sz5 hq hz) (decide_eq_true hn) (zk 7 rfl (WP.ret ⟨aa,_,rfl,by rw[gU,aJ hn],s⟩))
  ·skip
   refine zC rfl (Us HV Tryz.underlying5 sz5 hq hz) (decide_eq_false hn) (zk 7 rfl (zc rfl (uw hT s J js) ?_))
   rintro r h' ⟨s,(⟨hg,rfl⟩|⟨hg,rfl⟩)⟩
   ·refine ay.op rfl rfl rfl (bD rfl) ?_
    refine zk 2 rfl ?_
    refine ay.b8 s rfl rfl rfl (bU j7) (fun p3 h s => ?_)
    dsimp only[V.cells,List.length_cons,List.length_nil,Nat.reduceAdd] at s
    refine zS rfl (s.ep (j:=0) rfl bQ rfl rfl) (fun h s => ?_)
    dsimp only[setA] at s
    refine zk 3 rfl (WP.block (zK 3 rfl (zC rfl aD (rfl) (zk 4 rfl ?_))))
    have s0:=s
    refine WP.drawn [none,none,some (0,2),some (0,2),af,af,af,af] rfl (by kernel_rfl) (by kernel_rfl) ?_
    refine zL rfl (s.bZ (k:=0) rfl cH bQ) (ax.any rfl rfl rfl rfl (OpR.call rfl rfl rfl rfl (uu hT s (k:=1) rfl J (by decide) (by decide) (by decide) (by omega) (by omega))) ?_)
    rintro r h' ⟨rfl,s⟩
    have s1:=s
    refine zM rfl (zO rfl (bV (p:=some (.int .i64 4)) (q:=none) (m:=none) (p':=some 4) (q':=none) (m':=none) rfl rfl rfl rfl rfl rfl rfl (cf (s.aH (k:=1) rfl J) (a:=4) (by omega)).1) ?_)
    refine ax.any rfl rfl rfl rfl (OpR.call rfl rfl rfl rfl (Uq hT s (k:=1) rfl (rq J (a:=4) (by omega)) (by simp;omega))) ?_
    rintro r h' ⟨rfl,rfl⟩
    have hc:=Cd (s:=0) (l:=l.drop 4) (by decide) (fun x hx=>hv.1 x (qR hx))
    have hs:∃q c,slR (V.sl pi po l.length pc) 4 l.length=.sl pi q (l.length-4) c:=by
     cases pc with
     |exact c=>exact⟨_,_,rfl⟩
     |rest e alt=>exact⟨_,_,rfl⟩
    obtain⟨q,c,hs⟩:=hs
    have FR:(slR (V.sl pi po l.length pc) 4 l.length).beq (slR (V.sl pi po l.length pc) 4 l.length)=true:=by rw[hs];exact C2 _ _ _ _
    refine ax.op rfl rfl rfl (by simp only[isEff,bF]) (b6 rfl (by exact ja Tryz.underlying231 bF (aA (by omega) (by omega)))) ?_
    by_cases I:cO l 0 4=Dn 0 (l.drop 4)
    ·skip
     refine ax.kC rfl rfl rfl rfl (az rfl rfl aD) (by simp;exact_mod_cast I) ?_
     refine zA rfl ?_
     refine ax.nil ⟨⟨aa,aa,fun _ _=>.inr ⟨rfl,⟨_,bD rfl⟩,bn _ rfl⟩,dw (.inr ⟨rfl,⟨_,bV (p:=some (.int .i64 4)) (q:=none) (m:=none) (p':=some 4) (q':=none) (m':=none) rfl rfl rfl rfl rfl rfl rfl (cf (s0.aH (k:=1) rfl J) (a:=4) (by omega)).1⟩,FR⟩) (.inr ⟨rfl,⟨_,bV (p:=some (.int .i64 4)) (q:=none) (m:=none) (p':=some 4) (q':=none) (m':=none) rfl rfl rfl rfl rfl rfl rfl (cf (s1.aH (k:=1) rfl J) (a:=4) (by omega)).1⟩,FR⟩),aa,aa,aa,aa,aa⟩,?_⟩
     refine zj rfl (WP.skip (zg rfl (za rfl (zv ?_))))
     refine WP.ret ⟨aa,_,rfl,?_⟩
     exact⟨by rw[gU,ak hn,ak (by rw[hg];decide),ak (by simpa using I)],s.drop⟩
    ·skip
     refine ax.pU rfl rfl rfl rfl (az rfl rfl aD) (by simp;exact_mod_cast I) ?_
     refine zA rfl ?_
     refine ax.nil ⟨⟨aa,aa,fun _ _=>.inr ⟨rfl,⟨_,bD rfl⟩,bn _ rfl⟩,dw (.inr ⟨rfl,⟨_,bV (p:=some (.int .i64 4)) (q:=none) (m:=none) (p':=some 4) (q':=none) (m':=none) rfl rfl rfl rfl rfl rfl rfl (cf (s0.aH (k:=1) rfl J) (a:=4) (by omega)).1⟩,FR⟩) (.inr ⟨rfl,⟨_,bV (p:=some (.int .i64 4)) (q:=none) (m:=none) (p':=some 4) (q':=none) (m':=none) rfl rfl rfl rfl rfl rfl rfl (cf (s1.aH (k:=1) rfl J) (a:=4) (by omega)).1⟩,FR⟩),aa,aa,aa,aa,aa⟩,?_⟩
     exact zK 5 rfl (WP.ret ⟨aa,_,rfl,by rw[gU,ak hn,ak (by rw[hg];decide),aJ I],s.drop⟩)
   ·skip
    refine zk 3 rfl ?_
    refine ay.b8 s rfl rfl rfl (bU j7) (fun p3 h s => ?_)
    refine zS rfl (s.ep (j:=0) rfl bQ rfl rfl) (fun h s => ?_)
    exact zk 3 rfl (WP.block (zK 3 rfl (zB rfl aD (rfl) (zk 8 rfl (WP.ret ⟨aa,_,rfl,by rw[gU,ak hn,aJ hg],s.drop⟩)))))
 ·intro hq
  have hq:l.length≠512:=by simp at hq;omega
  have hn:l≠List.replicate 512 0:=fun e=>hq (by rw[e,hz])
  have hg:bW l=false:=by rw[bW,fE hq,kN]
  refine zk 13 rfl (zc rfl (uw hT s J js) ?_)
  rintro r h' ⟨s,(⟨HQ,rfl⟩|⟨_,rfl⟩)⟩
  ·rw[hg] at HQ;cases HQ
  ·refine ay.op rfl rfl rfl (bD rfl) ?_
   refine zk 2 rfl ?_
   refine ay.b8 s rfl rfl rfl (bU j7) (fun p3 h s => ?_)
   refine zS rfl (s.ep (j:=0) rfl bQ rfl rfl) (fun h s => ?_)
   exact zk 3 rfl (WP.block (zK 3 rfl (zB rfl aD (rfl) (zk 8 rfl (WP.ret ⟨aa,_,rfl,by rw[gU,ak hn,aJ hg],s.drop⟩)))))
theorem rV {b:Nat}(hv:View h v l)(hb:l[i]?=some b)(he:indexAddrV Tryz.prog 28 v (.int .i64 (i:Int))=some (.ptr id off)): loadV Tryz.prog h 5 (.ptr id off)=some (.int .u8 (b:Int)):=by
 obtain⟨I,off',J,e2⟩:=eo hv hb
 rw[he] at J
 have e3:V.ptr id off=V.ptr I off':=cx J
 rw[e3]
 exact e2
theorem K7 (hT:W told)(s:Sat h (X::S))(I:cQ X (cW v l))(js:l.length<9223372036854775808):
  Call ⟨Tryz.prog,told⟩ 142 [v] h fun r h'=>Sat h' (X::S)∧((bW l=true∧r=.bf [.int .i64 (l.getD 12 0:Nat),.int .u64 (cO l 4 8),.int .i64 (cO l 18 4),.int .i64 (cO l 22 4),.int .i64 0]) ∨
   (bW l=false∧r=.bf [.int .i64 0,.int .u64 0,.int .i64 0,.int .i64 0,.int .i64 4])):=by
 have hv:=s.aH (k:=0) rfl I
 refine Call.of_wp (hT.free _ rfl) Tryz.func142 rfl rfl (zK 11 rfl (zc rfl (uw hT s I js) ?_))
 rintro r h' ⟨s,(⟨hg,rfl⟩|⟨hg,rfl⟩)⟩
 ·have hq:=eC hg
  obtain⟨pi,po,pc,rfl⟩:=iS hv (by omega)
  have J:l[12]?=some (l[12]'(by omega)):=bA _
  generalize T0:(l[12]'(by omega))=b at J
  have Fj:b<256:=hv.1 b (bI J)
  have nH:l.getD 12 0=b:=by rw[gY,J];rfl
  rw[nH]
  refine zk 3 rfl ?_
  refine ay.b8 s rfl rfl rfl (bU j7) (fun p7 h s => ?_)
  refine zS rfl (s.ep (j:=0) rfl bQ rfl rfl) (fun h s => ?_)
  refine zk 6 rfl (zC rfl aD (rfl) (zk 4 rfl ?_))
  have s0:=s
  obtain⟨id,off,e1,e2⟩:=eo (s.aH (k:=1) rfl I) J
  refine WP.drawn [some (0,4),some (0,4),some (0,4),some (0,4),af,af,af,some (0,2),none,some (0,3),af,af,af,af,af,af] rfl (by kernel_rfl) (by kernel_rfl) ?_
  refine zM rfl (zO rfl (cj (r:=.ptr id off) rfl rfl e1) (zL rfl (rV (s.aH (k:=1) rfl I) J e1) (ax.op rfl rfl rfl (by simp only[isEff,bF]) (b6 rfl (by exact ja Tryz.underlying5 bF (aA (by omega) (by omega)))) ?_)))
  refine zM rfl (zO rfl (bV (p:=some (.int .i64 4)) (q:=some (.int .i64 12)) (m:=none) (p':=some 4) (q':=some 12) (m':=none) rfl rfl rfl rfl rfl rfl rfl (eU (s.aH (k:=1) rfl I) (a:=4) (b:=12) (by omega) (by omega)).1) ?_)
  refine ax.any rfl rfl rfl rfl (OpR.call rfl rfl rfl rfl (n4 hT s (k:=1) rfl (lE I (a:=4) (b:=12) (by omega) (by omega)) (by simp;omega))) ?_
  rintro r h' ⟨rfl,rfl⟩
  have s1:=s
  refine zL rfl (s.bZ (k:=0) rfl cH bQ) (ax.any rfl rfl rfl rfl (OpR.call rfl rfl rfl rfl (uu hT s (k:=1) rfl I (by decide) (by decide) (by decide) (by omega) (by omega))) ?_)
  rintro r h' ⟨rfl,s⟩
  have s2:=s
  refine zL rfl (s.bZ (k:=0) rfl cH bQ) (ax.any rfl rfl rfl rfl (OpR.call rfl rfl rfl rfl (uu hT s (k:=1) rfl I (by decide) (by decide) (by decide) (by omega) (by omega))) ?_)
  rintro r h' ⟨rfl,s⟩
  refine zA rfl (zA rfl (zA rfl (zA rfl (zA rfl ?_))))
  refine ax.nil ⟨⟨fun _ _=>.inr ⟨rfl,⟨_,bD rfl⟩,bn _ rfl⟩,fun _ _=>.inr ⟨rfl,⟨_,cj (r:=.ptr id off) rfl rfl e1⟩,bn _ rfl⟩,X3 (.inr ⟨rfl,⟨_,aW rfl (rV (s0.aH (k:=1) rfl I) J e1)⟩,bn _ rfl⟩) (.inr ⟨rfl,⟨_,aW rfl (rV (s1.aH (k:=1) rfl I) J e1)⟩,bn _ rfl⟩) (.inr ⟨rfl,⟨_,aW rfl (rV (s2.aH (k:=1) rfl I) J e1)⟩,bn _ rfl⟩) (.inr ⟨rfl,⟨_,aW rfl (rV (s.aH (k:=1) rfl I) J e1)⟩,bn _ rfl⟩),fun _ _=>.inr ⟨rfl,⟨_,b6 rfl (by exact ja Tryz.underlying5 bF (aA (by omega) (by omega)))⟩,bn _ rfl⟩,aa,aa,aa,dw (.inr ⟨rfl,⟨_,aW rfl (s0.bZ (k:=0) rfl cH bQ)⟩,bn _ rfl⟩) (.inr ⟨rfl,⟨_,aW rfl (s1.bZ (k:=0) rfl cH bQ)⟩,bn _ rfl⟩),aa,uf (.inr ⟨rfl,⟨_,aW rfl (s0.bZ (k:=0) rfl cH bQ)⟩,bn _ rfl⟩) (.inr ⟨rfl,⟨_,aW rfl (s1.bZ (k:=0) rfl cH bQ)⟩,bn _ rfl⟩) (.inr ⟨rfl,⟨_,aW rfl (s2.bZ (k:=0) rfl cH bQ)⟩,bn _ rfl⟩),aa,aa,aa,aa,aa,aa,aa⟩,?_⟩
  refine WP.ret ⟨aa,_,rfl,?_⟩
  exact⟨s.drop,.inl ⟨hg,rfl⟩⟩
 ·skip
  refine zk 3 rfl ?_
  refine ay.b8 s rfl rfl rfl (bU j7) (fun p7 h s => ?_)
  refine zS rfl (s.ep (j:=0) rfl bQ rfl rfl) (fun h s => ?_)
  exact zk 6 rfl (zB rfl aD (rfl) (zk 11 rfl (WP.ret ⟨aa,_,rfl,s.drop,.inr ⟨hg,rfl⟩⟩)))
end
structure Lg where
 base:Nat
 b:List Nat
 cB:List Nat
 forced:Nat
 check:Nat
variable {μ:Lg}
def dM (l:List Nat): List V:=l.map fun(n:Nat)=>V.int .i64 (n:Int)
theorem fV (l:List Nat): (dM l).length=l.length:=by simp[dM]
def zV (p base:Nat)(bv I:V)(forced check:Nat): List V:=[.ptr p 0,.int .u64 (base:Int),bv,I,.int .i64 (forced:Int),.int .u64 (check:Int)]
def bS (q p:Nat)(μ:Lg): aO:=xs fun bv:V=>xs fun I:V=>star [pt q (.cells 6 (zV p μ.base bv I μ.forced μ.check) false),aV bv μ.b,.arr 1 I (dM μ.cB)]
structure Lg.Ok (μ:Lg): Prop where
 size:μ.base+μ.b.length≤1099511627776
 many:μ.cB.length≤16777216
 low:∀s∈μ.cB,s<μ.b.length
 ES:μ.cB.Pairwise (· < ·)
 forced:μ.forced≤μ.b.length
 len:μ.b.length≤16777216
 check:μ.check≤1099511627776
theorem aan {x:Operand}{a b:Nat}(I:a+b<4611686018427387904): binV P h .quo t x y (.int .i64 ((a:Int)+(b:Int))) (.int .i64 2)=some (.int .i64 (((a+b)/2:Nat):Int)):=by
 simp only[binV,ikBeq,aj,intV]
 rw[show intBeq 2 0=false from rfl,a_,Int.tdiv_eq_ediv_of_nonneg (by omega),aA (by omega) (by omega)]
 congr 2
section
variable {told:dc} {p:Nat} {v:V}
theorem ga : Sat h (bS q p μ::S)↔∃bv I,Sat h (pt q (.cells 6 (zV p μ.base bv I μ.forced μ.check) false)::aV bv μ.b::.arr 1 I (dM μ.cB)::S):=by
 simp only[bS,ic,br,jk,eB]
theorem iz {c:V}(s:Sat h S)(hk:getA S k=some (.arr 1 v cs))(hi:cs[i]?=some c)(hu:P.underlying t=some (.slice e))(I:bJ P e=some 1):
  ∃id off,indexAddrV P t v (.int .i64 (i:Int))=some (.ptr id off)∧∀t',isAggT P t'=some false→loadV P h t' (.ptr id off)=some c:=by
 have J:i<cs.length:=(List.getElem?_eq_some_iff.1 hi).1
 obtain⟨m,r,h1,h2,h3⟩:=s.at hk
 rcases h3.2 with⟨_,rfl⟩|⟨id,n,cap,N,rest,rfl,hg,e1,e2,_⟩
 ·simp at hi
 ·refine⟨id,i,?_,fun t' ht=>OI ht (h1 _ _ hg) ?_⟩
  ·simp only[indexAddrV,hu,I,cS]
   rw[show(decide ((0:Int)≤(i:Int))&&decide ((i:Int)<(n:Int)))=true by simp;omega,aj]
   simp
  ·rw[gP,qP J,hi]
theorem FT (I:W told)(s:Sat h (bS q p μ::S)): Call ⟨Tryz.prog,told⟩ 82 [.ptr q 0] h fun v h'=>v=.int .u64 (μ.base:Int)∧h'=h:=by
 obtain⟨bv,J,s⟩:=ga.1 s
 exact Call.of_wp (I.free _ rfl) Tryz.func82 rfl rfl (zK 8 rfl (zY s 0 l9 l8 rfl (zk 2 rfl (WP.ret ⟨aa,_,rfl,rfl,rfl⟩))))
theorem BN (I:W told)(s:Sat h (bS q p μ::S)): Call ⟨Tryz.prog,told⟩ 83 [.ptr q 0] h fun v h'=>v=.int .u64 (μ.check:Int)∧h'=h:=by
 obtain⟨bv,J,s⟩:=ga.1 s
 exact Call.of_wp (I.free _ rfl) Tryz.func83 rfl rfl (zK 8 rfl (zY s 0 KZ l8 rfl (zk 2 rfl (WP.ret ⟨aa,_,rfl,rfl,rfl⟩))))
theorem Bh (I:W told)(s:Sat h (bS q p μ::S))(J:μ.base+μ.b.length≤1099511627776): Call ⟨Tryz.prog,told⟩ 43 [.ptr q 0] h fun v h'=>v=.int .u64 ((μ.base:Int)+(μ.b.length:Int))∧h'=h:=by
 obtain⟨bv,sv,s⟩:=ga.1 s
 refine Call.of_wp (I.free _ rfl) Tryz.func43 rfl rfl (zK 5 rfl (WP.drawn [af,af,af,af,af,af,af,af,af,af,af,af] rfl (by kernel_rfl) (by kernel_rfl) ?_))
 refine zM rfl (zN rfl (zF rfl (l9 _ _) (zL rfl (s.ld (k:=0) rfl l8 rfl) (zM rfl (zN rfl (zF rfl (fc _ _) (zL rfl (s.ld (k:=0) rfl bP rfl) (zO rfl (aP rfl rfl rfl (bj aT (s.aH (k:=1) rfl (bu _ _)))) (ax.op rfl rfl rfl (by simp only[isEff,cM]) (b6 rfl (by exact ja bF cM (fK (by omega) (by omega)))) ?_)))))))))
 refine zO rfl (az rfl rfl (by exact bx (fK (by omega) (by omega)))) ?_
 refine zA rfl ?_
 refine ax.nil ⟨⟨aa,aa,aa,aa,aa,aa,aa,aa,aa,aa,aa,aa,aa⟩,?_⟩
 refine WP.ret ⟨aa,_,rfl,?_⟩
 exact⟨rfl,rfl⟩
theorem MJ (I:W told)(s:Sat h (bS q p μ::S))(J:μ.base+μ.b.length≤1099511627776)(hf:μ.forced≤μ.b.length): Call ⟨Tryz.prog,told⟩ 129 [.ptr q 0] h fun v h'=>v=.int .u64 ((μ.base:Int)+(μ.forced:Int))∧h'=h:=by
 obtain⟨bv,sv,s⟩:=ga.1 s
 refine Call.of_wp (I.free _ rfl) Tryz.func129 rfl rfl (zK 5 rfl (WP.drawn [af,af,af,af,af,af,af,af,af,af,af] rfl (by kernel_rfl) (by kernel_rfl) ?_))
 refine zM rfl (zN rfl (zF rfl (l9 _ _) (zL rfl (s.ld (k:=0) rfl l8 rfl) (zM rfl (zN rfl (zF rfl (wI _ _) (zL rfl (s.ld (k:=0) rfl cL rfl) (ax.op rfl rfl rfl (by simp only[isEff,cM]) (b6 rfl (by exact ja bF cM (fK (by omega) (by omega)))) ?_))))))))
 refine zO rfl (az rfl rfl (by exact bx (fK (by omega) (by omega)))) ?_
 refine zA rfl ?_
 refine ax.nil ⟨⟨aa,aa,aa,aa,aa,aa,aa,aa,aa,aa,aa,aa⟩,?_⟩
 refine WP.ret ⟨aa,_,rfl,?_⟩
 exact⟨rfl,rfl⟩
def Split (μ:Lg)(n i:Nat): Prop:=i≤μ.cB.length∧(∀(j s:Nat),j<i→μ.cB[j]?=some s→μ.base+s<n)∧(∀(j s:Nat),i≤j→μ.cB[j]?=some s→n≤μ.base+s)
theorem ET (J:l.Pairwise (· < ·)){a b:Nat}(I:i<j)(ha:l[i]?=some a)(hb:l[j]?=some b): a<b:=by
 obtain⟨h1,rfl⟩:=List.getElem?_eq_some_iff.1 ha
 obtain⟨h2,rfl⟩:=List.getElem?_eq_some_iff.1 hb
 exact List.pairwise_iff_getElem.1 J _ _ h1 h2 I
noncomputable def lfL : Code:=cD [1,1,0,0,0] ((Tryz.f150.body).getD .skip)
theorem Pa {sv:V}(hn:n<18446744073709551616)(I:μ.Ok)(s:Sat h (pt q (.cells 6 (zV p μ.base bv sv μ.forced μ.check) false)::aV bv μ.b::.arr 1 sv (dM μ.cB)::S)): ∀(fuel lo hi:Nat) (E:List (Nat×V)) (Q:Ex→List (Nat×V)→H→Prop),hi-lo≤fuel→lo≤hi→hi≤μ.cB.length →
  (∀(j s:Nat),j<lo→μ.cB[j]?=some s→μ.base+s<n)→(∀(j s:Nat),hi≤j→μ.cB[j]?=some s→n≤μ.base+s) →
  Has E [(0,.ptr q 0),(1,.int .u64 (n:Int)),(5,.int .i64 (lo:Int)),(6,.int .i64 (hi:Int))]→(∀E' i,Split μ n i→look E' 5=some (.int .i64 (i:Int))→Q (.exit 0) E' h)→WP ⟨Tryz.prog,told⟩ 39 (.loop lfL) E h Q:=by
 have Ds:=I.many
 have MK:=I.size
 intro fuel
 induction fuel with
 |zero =>
  intro lo hi E Q hf h1 h2 h3 h4 hE hq
  refine WP.loop (WP.has hE (zK 5 rfl (zC rfl aN (by simp;omega) ?_)))
  refine zk 2 rfl (WP.exit ?_)
  have e:lo=hi:=by omega
  exact hq _ lo ⟨by omega,h3,by rw[e];exact h4⟩ rfl
 |succ fuel ih =>
  intro lo hi E Q hf h1 h2 h3 h4 hE hq
  by_cases cE:lo<hi
  ·skip
   refine WP.loop (WP.has hE (zK 5 rfl (zB rfl aN (by simp;omega) ?_)))
   refine zk 3 rfl (WP.block (zK 4 rfl (zb rfl (by exact bx (aA (by omega) (by omega))) ?_)))
   refine zb rfl (aan (by omega)) ?_
   refine zk 3 rfl ?_
   generalize hm:(lo+hi)/2=m
   have u9:lo≤m:=by omega
   have qL:m<hi:=by omega
   obtain⟨st,J⟩:∃st,μ.cB[m]?=some st:=⟨_,bA (by omega)⟩
   have oC:=I.low st (bI J)
   have hlen:=I.len
   have hc:(dM μ.cB)[m]?=some (.int .i64 (st:Int)):=by simp[dM,J]
   obtain⟨id,off,e1,e2⟩:=iz (P:=Tryz.prog) s (k:=2) rfl hc dI ke
   refine WP.drawn [af,af,af,af,af,af,af,af,af,af,af,af,af,af,af] rfl (by kernel_rfl) (by kernel_rfl) ?_
   refine zM rfl (zN rfl (zF rfl (l9 _ _) (zL rfl (s.ld (k:=0) rfl l8 rfl) (zM rfl (zN rfl (zF rfl (nX _ _) (zL rfl (s.ld (k:=0) rfl y_ rfl) (zM rfl (zO rfl (cj (r:=.ptr id off) rfl rfl e1) (zL rfl (e2 _ cL) (ax.op rfl rfl rfl (by simp only[isEff,cM]) (b6 rfl (by exact ja bF cM (fK (by omega) (by omega)))) ?_)))))))))))
   refine zO rfl (az rfl rfl (by exact bx (fK (by omega) (by omega)))) ?_
   refine zM rfl ?_
   by_cases wo:μ.base+st<n
   ·skip
    refine ax.pU rfl rfl rfl rfl (az rfl rfl aN) (by simp;omega) ?_
    refine ax.nil ⟨⟨aa,aa,aa,aa,aa,aa,aa,aa,aa,aa,aa,aa,aa,aa,aa,aa⟩,?_⟩
    refine zK 3 rfl (zb rfl (by exact bx (aA (by omega) (by omega))) ?_)
    refine za rfl (zv ?_)
    refine ih (m+1) hi _ Q (by omega) (by omega) h2 (fun j s hj hs => ?_) h4 ⟨rfl,rfl,rfl,rfl,aa⟩ hq
    by_cases Yj:j=m
    ·subst Yj;rw[J] at hs;injection hs with hs;omega
    ·have:=ET I.ES (show j<m by omega) hs J;omega
   ·skip
    refine ax.kC rfl rfl rfl rfl (az rfl rfl aN) (by simp;omega) ?_
    refine ax.nil ⟨⟨aa,aa,aa,aa,aa,aa,aa,aa,aa,aa,aa,aa,aa,aa,aa,aa⟩,?_⟩
    refine zj rfl (zr rfl (zk 2 rfl (zv ?_)))
    refine ih lo m _ Q (by omega) u9 (by omega) h3 (fun j s hj hs => ?_) ⟨rfl,rfl,rfl,rfl,aa⟩ hq
    by_cases Yj:j=m
    ·subst Yj;rw[J] at hs;injection hs with hs;omega
    ·have:=ET I.ES (show m<j by omega) J hs;omega
  ·skip
   refine WP.loop (WP.has hE (zK 5 rfl (zC rfl aN (by simp;omega) ?_)))
   refine zk 2 rfl (WP.exit ?_)
   have e:lo=hi:=by omega
   exact hq _ lo ⟨by omega,h3,by rw[e];exact h4⟩ rfl
theorem VL (hT:W told)(s:Sat h (bS q p μ::S))(I:μ.Ok)(hn:n<18446744073709551616): Call ⟨Tryz.prog,told⟩ 150 [.ptr q 0,.int .u64 (n:Int)] h fun v h'=>h'=h∧∃i,Split μ n i∧v=.int .i64 (i:Int):=by
 obtain⟨bv,sv,s⟩:=ga.1 s
 refine Call.of_wp (hT.free _ rfl) Tryz.func150 rfl rfl (zK 5 rfl (WP.drawn [af,af,af,af,af,af,af] rfl (by kernel_rfl) (by kernel_rfl) ?_))
 refine zM rfl (zN rfl (zF rfl (nX _ _) (zL rfl (s.ld (k:=0) rfl y_ rfl) (zO rfl (aP rfl rfl rfl (s.ew (n:=μ.cB.length) (j:=2) rfl (by rw[fV,c_]) (by decide) dI)) ?_))))
 refine zA rfl (zA rfl ?_)
 refine ax.nil ⟨⟨aa,aa,aa,aa,aa,aa,aa,aa⟩,?_⟩
 refine zw (WP.block ?_)
 refine Pa hn I s μ.cB.length 0 μ.cB.length _ _ (by omega) (by omega) (by omega) (fun j s hj _=>by omega) (fun j s hj hs => ?_) ⟨rfl,rfl,rfl,rfl,aa⟩ (fun E' i hi J => ?_)
 ·rw[List.getElem?_eq_none (by omega)] at hs;cases hs
 ·skip
  exact WP.has (F:=[(5,.int .i64 (i:Int))]) ⟨J,aa⟩ (zK 5 rfl (WP.ret ⟨aa,_,rfl,rfl,i,hi,rfl⟩))
def Lg.hasB (μ:Lg)(n:Nat): Bool:=μ.cB.any fun s=>decide (μ.base+s=n)
theorem Split.has (hs:Split μ n i)(hr:μ.cB.Pairwise (· < ·)): μ.hasB n=true↔∃s,μ.cB[i]?=some s∧μ.base+s=n:=by
 rw[Lg.hasB,List.any_eq_true]
 constructor
 ·rintro⟨s,h1,I⟩
  have I:μ.base+s=n:=by simpa using I
  obtain⟨j,J⟩:=vR h1
  have sH:i≤j:=by
   rcases tD j i with h|h
   ·have:=hs.2.1 j s h J;omega
   ·exact h
  by_cases he:i=j
  ·subst he;exact⟨s,J,I⟩
  ·have hjl:=(List.getElem?_eq_some_iff.1 J).1
   have hi:μ.cB[i]?=some (μ.cB[i]'(by omega)):=bA _
   have h3:=hs.2.2 i _ (aU _) hi
   have h4:=ET hr (show i<j by omega) hi J
   omega
 ·rintro⟨s,h1,I⟩
  exact⟨s,bI h1,by simpa using I⟩
theorem Pb {st:Nat}(I:μ.cB[i]?=some st): (dM μ.cB)[i]?=some (.int .i64 (st:Int)):=by simp[dM,I]
theorem K8 (hT:W told)(s:Sat h (bS q p μ::S))(I:μ.Ok)(hn:n<18446744073709551616): Call ⟨Tryz.prog,told⟩ 136 [.ptr q 0,.int .u64 (n:Int)] h fun v h'=>h'=h∧v=.bool (μ.hasB n):=by
 have s0:=s
 obtain⟨bv,sv,s⟩:=ga.1 s
 have Ds:=I.many
 have MK:=I.size
 refine Call.of_wp (hT.free _ rfl) Tryz.func136 rfl rfl (zK 8 rfl (zc rfl (VL hT s0 I hn) ?_))
 rintro v h' ⟨rfl,i,hi,rfl⟩
 have hh:=hi.has I.ES
 refine zk 3 rfl (WP.drawn [af,af,af,af,af,af,af,af,af,af,af,af,af,af,af,af,af,af,af,af,af,af,af,af,af] rfl (by kernel_rfl) (by kernel_rfl) ?_)
 refine zM rfl (zM rfl (zN rfl (zF rfl (nX _ _) (zL rfl (s.ld (k:=0) rfl y_ rfl) (zO rfl (aP rfl rfl rfl (s.ew (n:=μ.cB.length) (j:=2) rfl (by rw[fV,c_]) (by decide) dI)) ?_)))))
 by_cases yq:i<μ.cB.length
 ·skip
  refine ax.pU rfl rfl rfl rfl (az rfl rfl aN) (by simp;omega) ?_
  obtain⟨st,J⟩:∃st,μ.cB[i]?=some st:=⟨_,bA yq⟩
  have oC:=I.low st (bI J)
  obtain⟨id,off,e1,e2⟩:=iz (P:=Tryz.prog) s (k:=2) rfl (Pb J) dI ke
  refine zM rfl (zM rfl (zN rfl (zF rfl (l9 _ _) (zL rfl (s.ld (k:=0) rfl l8 rfl) (zM rfl (zN rfl (zF rfl (nX _ _) (zL rfl (s.ld (k:=0) rfl y_ rfl) (zM rfl (zO rfl (cj (r:=.ptr id off) rfl rfl e1) (zL rfl (e2 _ cL) (ax.op rfl rfl rfl (by simp only[isEff,cM]) (b6 rfl (by exact ja bF cM (fK (by omega) (by omega)))) ?_))))))))))))
  refine zO rfl (az rfl rfl (by exact bx (fK (by omega) (by omega)))) ?_
  refine zM rfl ?_
  by_cases he:μ.base+st=n
  ·skip
   refine ax.pU rfl rfl rfl rfl (az rfl rfl dG) (by simp;omega) ?_
   refine zO rfl (fY rfl rfl) (zA rfl ?_)
   refine ax.nil ⟨⟨aa,aa,aa,aa,aa,aa,aa,aa,aa,aa,aa,aa,aa,aa,aa,aa,aa,aa,aa,aa,aa,aa,aa,aa,aa,aa⟩,?_⟩
   refine WP.ret ⟨aa,_,rfl,?_⟩
   exact⟨rfl,by rw[hh.2 ⟨st,J,he⟩]⟩
  ·skip
   refine ax.kC rfl rfl rfl rfl (az rfl rfl dG) (by simp;omega) ?_
   refine zO rfl (fY rfl rfl) (zA rfl ?_)
   refine ax.nil ⟨⟨aa,aa,aa,aa,aa,aa,aa,aa,aa,aa,aa,aa,aa,aa,aa,aa,aa,aa,aa,aa,aa,aa,aa,aa,aa,aa⟩,?_⟩
   refine WP.ret ⟨aa,_,rfl,?_⟩
   refine⟨rfl,?_⟩
   cases hb:μ.hasB n with
   |false=>rfl
   |true =>
    obtain⟨s',h1,h2⟩:=hh.1 hb
    rw[J] at h1;have:=cx h1;omega
 ·skip
  refine ax.kC rfl rfl rfl rfl (az rfl rfl aN) (by simp;omega) ?_
  refine zM rfl (ax.no (e:=false) rfl rfl rfl rfl (ax.no (e:=false) rfl rfl rfl rfl (ax.no (e:=false) rfl rfl rfl rfl (ax.no (e:=false) rfl rfl rfl rfl (ax.no (e:=false) rfl rfl rfl rfl (ax.no (e:=false) rfl rfl rfl rfl (ax.no (e:=false) rfl rfl rfl rfl (ax.no (e:=false) rfl rfl rfl rfl (ax.no (e:=false) rfl rfl rfl rfl (ax.no (e:=false) rfl rfl rfl rfl (ax.no (e:=false) rfl rfl rfl rfl (ax.no (e:=false) rfl rfl rfl (by simp only[isEff,cM]) ?_))))))))))))
  refine ax.no (e:=false) rfl rfl rfl rfl (ax.no (e:=false) rfl rfl rfl rfl (ax.no (e:=false) rfl rfl rfl rfl (zO rfl (fb rfl rfl) (zA rfl ?_))))
  refine ax.nil ⟨⟨aa,aa,aa,aa,aa,aa,aa,aa,aa,aa,aa,aa,aa,aa,aa,aa,aa,aa,aa,aa,aa,aa,aa,aa,aa,aa⟩,?_⟩
  refine WP.ret ⟨aa,_,rfl,?_⟩
  refine⟨rfl,?_⟩
  cases hb:μ.hasB n with
  |false=>rfl
  |true =>
   obtain⟨s',h1,h2⟩:=hh.1 hb
   have:=(List.getElem?_eq_some_iff.1 h1).1
   omega
theorem Pc (hT:W told)(s:Sat h (bS q p μ::aR p δ::S))(I:μ.Ok)(hf:δ.aS<4294967296): Call ⟨Tryz.prog,told⟩ 79 [.ptr q 0,.int .u64 (n:Int)] h fun v h' =>
  (n<μ.base+μ.forced∧v=.int .i64 0∧Sat h' (bS q p μ::aR p δ::S)) ∨
  (μ.base+μ.forced≤n∧δ.dead=true∧v=.int .i64 9∧Sat h' (bS q p μ::aR p δ::S)) ∨
  (μ.base+μ.forced≤n∧δ.dead=false∧δ.aS=0∧v=.int .i64 9∧Sat h' (bS q p μ::aR p δ.die::S)) ∨
  (μ.base+μ.forced≤n∧δ.dead=false∧δ.aS≠0∧v=.int .i64 0∧Sat h' (bS q p { μ with forced:=μ.b.length }::aR p { δ.cY with bh:=δ.log.length }::S)):=by
 have MK:=I.size
 have nu:=I.forced
 have s0:=s
 obtain⟨bv,sv,s⟩:=ga.1 s
 refine Call.of_wp (hT.free _ rfl) Tryz.func79 rfl rfl (zK 9 rfl (zc rfl (MJ hT s0 I.size I.forced) ?_))
 rintro v h' ⟨rfl,rfl⟩
 by_cases cE:n<μ.base+μ.forced
 ·skip
  refine zB rfl aN (by simp;omega) ?_
  exact zk 6 rfl (WP.ret ⟨aa,_,rfl,.inl ⟨cE,rfl,s0⟩⟩)
 ·have hle:μ.base+μ.forced≤n:=by omega
  refine zC rfl aN (by simp;omega) ?_
  refine zk 8 rfl (zY s 0 KY o9 rfl (zc rfl (FQ hT (s0.ae [1]) hf) ?_))
  rintro v h (⟨J,rfl,s⟩|⟨J,h0,rfl,s⟩|⟨J,h0,rfl,s⟩)
  ·refine ay.op rfl rfl rfl (fB rfl) ?_
   exact zk 4 rfl (zB rfl aD (rfl) (zk 7 rfl (WP.ret ⟨aa,_,rfl,.inr (.inl ⟨hle,J,rfl,s.ae [1]⟩)⟩)))
  ·skip
   exact zk 5 rfl (zB rfl aD (rfl) (zk 7 rfl (WP.ret ⟨aa,_,rfl,.inr (.inr (.inl ⟨hle,J,h0,rfl,s.ae [1]⟩))⟩)))
  ·skip
   obtain⟨bv,sv,s⟩:=ga.1 (s.ae [1])
   refine zk 5 rfl (zC rfl aD (rfl) (zk 8 rfl (zY s 0 fc bP rfl (zo rfl (aP rfl rfl rfl (bj aT (s.aH (k:=1) rfl (bu _ _)))) (zn rfl (zf rfl (wI _ _) ?_))))))
   refine zS rfl (by exact s.eX (k:=0) rfl ke rfl (by decide) rfl rfl) (fun h s => ?_)
   exact zk 5 rfl (WP.ret ⟨aa,_,rfl,.inr (.inr (.inr ⟨hle,J,h0,rfl,ga.2 ⟨bv,sv,s⟩⟩))⟩)
end
structure cn where
 aK:Int
 pos:Int
 whole:Bool
 b:List Nat
def cn.Ok (c:cn): Prop:=0≤c.aK∧c.aK<65536∧0≤c.pos∧c.pos≤512∧(c.b.length:Int)≤512-c.pos∧(c.whole=true→c.pos=0∧c.b.length=512)
instance (c:cn):Decidable c.Ok:=by unfold cn.Ok;infer_instance
def dY (kind:Int)(aQ:List cn): Bool:=decide (1≤kind∧kind≤9)&&aQ.all fun c=>decide c.Ok
def ie (kd:Int)(tx pv nx:Nat)(dt ch:V): List V:=[.int .i64 kd,.int .u64 (tx:Int),.int .u64 (pv:Int),.int .u64 (nx:Int),dt,ch]
theorem mQ {kd:Int}{ch:V}(I:storable dt=true)(J:storable ch=true): (ie kd tx pv nx dt ch).all storable=true:=by
 simp only[ie,gJ,ki,I,J]
 rfl
def dh : List V→List cn→aO
 |[],[]=>.pu True
 |p::a::w::v::l,x::m=>.an (.an (.pu (p=.int .i64 x.aK∧a=.int .i64 x.pos∧w=.bool x.whole)) (.cg v x.b)) (dh l m)
 |_,_=>.pu False
theorem aY.kf : ∀(m:List cn) (l:List V),aY (dh l m):=by
 intro m
 induction m with
 |nil=>intro l;rcases l with _|⟨a,_|⟨b,_|⟨c,_|⟨d,l⟩⟩⟩⟩<;>exact aY.pu _
 |cons x m I=>intro l;rcases l with _|⟨a,_|⟨b,_|⟨c,_|⟨d,l⟩⟩⟩⟩<;>first|exact aY.pu _|exact aY.an (aY.an (aY.pu _) (aY.cg _ _)) (I l)
theorem pq {b:PM}: ∀ {m:List cn} {l:List V},(dh l m).p a b→l.length=m.length*4:=by
 intro m
 induction m with
 |nil=>intro l h;rcases l with _|⟨x,_|⟨y,_|⟨z,_|⟨d,l⟩⟩⟩⟩<;>first|rfl|exact h.elim
 |cons x m I =>
  intro l h
  rcases l with _|⟨x,_|⟨y,_|⟨z,_|⟨d,l⟩⟩⟩⟩<;>first|exact h.elim|skip
  have:=I h.2
  simp only[aX]
  omega
theorem xJ {b:PM}: ∀ {m m':List cn} {l I:List V},(dh l m).p a b→(dh I m').p a b→(dh (l++I) (m++m')).p a b:=by
 intro m
 induction m with
 |nil=>intro m' l I h h';rcases l with _|⟨x,_|⟨y,_|⟨z,_|⟨d,l⟩⟩⟩⟩<;>first|exact h'|exact h.elim
 |cons x m J =>
  intro m' l I h h'
  rcases l with _|⟨x,_|⟨y,_|⟨z,_|⟨d,l⟩⟩⟩⟩<;>first|exact h.elim|exact⟨h.1,J h.2 h'⟩
theorem Ia {b:PM}: ∀ {m:List cn} {l:List V} {i:Nat} {c:cn},(dh l m).p a b→m[i]?=some c→∃u,(l.drop (i*4)).take 4=[.int .i64 c.aK,.int .i64 c.pos,.bool c.whole,u]∧(aO.cg u c.b).p a b:=by
 intro m
 induction m with
 |nil=>intro l i c h I;simp at I
 |cons x m J =>
  intro l i c h I
  rcases l with _|⟨p,_|⟨q,_|⟨w,_|⟨v,l⟩⟩⟩⟩<;>first|exact h.elim|skip
  obtain⟨⟨⟨h1,h2,h3⟩,h4⟩,h5⟩:=h
  cases i with
  |zero=>simp at I;subst I;exact⟨v,by rw[h1,h2,h3];rfl,h4⟩
  |succ i =>
   simp at I
   obtain⟨u,e1,e2⟩:=J h5 I
   refine⟨u,?_,e2⟩
   rw[←e1,show(i+1)*4=i*4+4 by omega]
   rfl
section
variable {told:dc} {p:Nat} {v:V}
theorem Ib {ch:V}{m:List cn}{c:cn}(s:Sat h (.arr 4 ch cs::dh cs m::S))(hc:m[i]?=some c):
  ∃id off u,indexAddrV Tryz.prog 46 ch (.int .i64 (i:Int))=some (.ptr id off)∧loadV Tryz.prog h 180 (.ptr id off)=some (.agg [.int .i64 c.aK,.int .i64 c.pos,.bool c.whole,u]) ∧
   u.cells=[u]∧storable u=true∧u.beq u=true∧Sat h (.cg u c.b::.arr 4 ch cs::dh cs m::S):=by
 obtain⟨a,b,q1,q2,q3⟩:=s.at (k:=1) rfl
 have yq:=(List.getElem?_eq_some_iff.1 hc).1
 have hl:=pq q3
 obtain⟨u,e1,e2⟩:=Ia q3 hc
 obtain⟨id,off,g1,J⟩:=OX (P:=Tryz.prog) (i:=i) s (j:=0) rfl (by omega) (by decide) je oV
 have J:=J GU
 rw[e1] at J
 have s2:Sat h (dh cs m::.arr 4 ch cs::S):=s.ae [1]
 have s3:=(s2.dup (aY.kf _ _)).gX (B:=.cg u c.b) fun a b h=>by
  obtain⟨u',I,rW⟩:=Ia h hc
  rw[e1] at I
  injection I with _ I
  injection I with _ I
  injection I with _ I
  injection I with I _
  subst I
  exact rW
 have hu:=(s3.aH (k:=0) rfl (dF _ _))
 exact⟨id,off,u,g1,J,hu.cells.1,hu.cells.2,dg hu,s3.ae [0,1,0]⟩
theorem K9 {ch:V}{m:List cn}(s:Sat h S)(I:getA S j1=some (.arr 4 ch cs))(J:getA S j2=some (dh cs m))(hu:P.underlying t=some (.slice e)): lenV P h t ch=some (.int .i64 m.length):=by
 obtain⟨a,b,q1,q2,q3⟩:=s.at J
 exact s.ew I (pq q3) (by decide) hu
theorem Sat.wM {ch:V}{m:List cn}(s:Sat h S)(I:getA S j1=some (.arr 4 ch cs))(J:getA S j2=some (dh cs m))(hu:P.underlying t=some (.slice e)): lenV P h t ch=some (.int .i64 m.length):=K9 s I J hu
noncomputable def gwL : Code:=cD [1,1,0,1,0,0] ((Tryz.f161.body).getD .skip)
theorem ML {ch:V}{m:List cn}: ∀(j i:Nat) (h:H) (E:List (Nat×V)) (Q:Ex→List (Nat×V)→H→Prop),i+j=m.length→m.length<4294967296→(∀c∈m,c.b.length<9223372036854775808) →
  (∀c∈m, -4294967296≤c.pos∧c.pos≤4294967296)→Sat h (.arr 4 ch cs::dh cs m::S)→Has E [(1,.ptr p1 0),(14,ch),(15,.int .i64 m.length),(16,.int .i64 i)] →
  ((m.drop i).all (fun c=>decide c.Ok)=false→∀E' h',look E' 2=some (.bool false)→Sat h' (.arr 4 ch cs::dh cs m::S)→Q .ret E' h') →
  ((m.drop i).all (fun c=>decide c.Ok)=true→∀E' h',Sat h' (.arr 4 ch cs::dh cs m::S)→Q (.exit 0) E' h')→WP ⟨Tryz.prog,told⟩ 61 (.loop gwL) E h Q:=by
 intro j
 induction j with
 |zero =>
  intro i h E Q hi hm hb J s hE hr hx
  refine WP.loop (WP.has hE (zg rfl (zC rfl aN (by simp;omega) ?_)))
  exact zk 3 rfl (WP.exit (hx (by rw[kK (by omega)];rfl) _ _ s))
 |succ j ih =>
  intro i h E Q hi hm hb J s hE hr hx
  have hc:m[i]?=some (m[i]'(by omega)):=bA _
  generalize (m[i]'(by omega))=c at hc
  have FU:=bI hc
  have hcb:=hb c FU
  have hcp:=J c FU
  have n_:m.drop i=c::m.drop (i+1):=by
   have:=List.getElem?_eq_some_iff.1 hc
   obtain⟨h1,rfl⟩:=this
   exact pL h1
  rw[n_,gJ] at hr hx
  obtain⟨id,off,u,e1,e2,u1,u2,u3,s⟩:=Ib s hc
  refine WP.loop (WP.has hE (zg rfl (zB rfl aN (by simp;omega) ?_)))
  refine zk 5 rfl (WP.block (zg rfl (zo rfl (cj (r:=.ptr id off) rfl rfl e1) (zl rfl e2 ?_))))
  refine ay.b8 s rfl rfl rfl (bU nY) (fun p4 h s => ?_)
  dsimp only[V.cells,List.length_cons,List.length_nil,Nat.reduceAdd] at s
  refine zS rfl (s.ep (j:=0) rfl oV rfl (by simp only[gJ,ki,u2];rfl)) ?_
  intro h s
  dsimp only[setA] at s
  refine zk 4 rfl (zY s 0 nZ cL rfl ?_)
  refine zd rfl (az rfl rfl aN) ?_ ?_
  ·intro wj
   have wj:c.aK<0:=by simp at wj;omega
   exact zk 30 rfl (WP.ret (hr (by rw[fE (fun q:c.Ok=>by have:=q.1;omega),kN]) _ _ rfl s.drop.drop))
  ·intro wj
   have wj:¬ (c.aK<0):=by simp at wj;omega
   refine zm rfl (zY s 0 nZ cL rfl ?_)
   refine zd rfl (az rfl rfl jJ) ?_ ?_
   ·intro Ic
    have Ic:65536≤c.aK:=by simp at Ic;omega
    exact zk 26 rfl (WP.ret (hr (by rw[fE (fun q:c.Ok=>by have:=q.2.1;omega),kN]) _ _ rfl s.drop.drop))
   ·intro Ic
    have Ic:¬ (65536≤c.aK):=by simp at Ic;omega
    refine zk 2 rfl (zY s 0 pY cL rfl ?_)
    refine zd rfl (az rfl rfl aN) ?_ ?_
    ·intro ku
     have ku:c.pos<0:=by simp at ku;omega
     exact zk 21 rfl (WP.ret (hr (by rw[fE (fun q:c.Ok=>by have:=q.2.2.1;omega),kN]) _ _ rfl s.drop.drop))
    ·intro ku
     have ku:¬ (c.pos<0):=by simp at ku;omega
     refine zk 2 rfl (zY s 0 pY cL rfl ?_)
     refine zd rfl (az rfl rfl gT) ?_ ?_
     ·intro Pd
      have Pd:512<c.pos:=by simp at Pd;omega
      exact zk 16 rfl (WP.ret (hr (by rw[fE (fun q:c.Ok=>by have:=q.2.2.2.1;omega),kN]) _ _ rfl s.drop.drop))
     ·intro Pd
      have Pd:¬ (512<c.pos):=by simp at Pd;omega
      refine zk 2 rfl (zY s 0 nh bP rfl (zo rfl (aP rfl rfl rfl (bj aT (s.aH (k:=1) rfl (dF _ _)))) (zY s 0 pY cL rfl (zb rfl (by exact iX (aA (by omega) (by omega))) ?_))))
      refine zd rfl (az rfl rfl gT) ?_ ?_
      ·intro qf
       have qf:512-c.pos<(c.b.length:Int):=by simp at qf;omega
       exact zk 7 rfl (WP.ret (hr (by rw[fE (fun q:c.Ok=>by have:=q.2.2.2.2.1;omega),kN]) _ _ rfl s.drop.drop))
      ·intro qf
       have qf:¬ (512-c.pos<(c.b.length:Int)):=by simp at qf;omega
       refine zk 6 rfl (zf rfl (wJ _ _) ?_)
       have sV:∀(h:H) (E:List (Nat×V)),c.Ok→Sat h (.arr 4 ch cs::dh cs m::S)→Has E [(1,.ptr p1 0),(14,ch),(15,.int .i64 m.length),(16,.int .i64 ((i:Int)+1))]→WP ⟨Tryz.prog,told⟩ 61 (.loop gwL) E h Q:=by
        intro h E iH s hE
        rw[fL iH,Bool.true_and] at hr hx
        exact ih (i+1) h E Q (by omega) hm hb J s hE hr hx
       have NX:c.whole=false∨c.whole=true:=by cases c.whole<;>simp
       rcases NX with hw|hw
       ·skip
        refine zh rfl (aW rfl (by exact s.ld (k:=0) rfl jK rfl)) (hw) ?_
        refine zk 11 rfl (zv (zj rfl (WP.skip (zr rfl (zb rfl (by exact bx (aA (by omega) (by omega))) ?_)))))
        refine zm rfl (zv ?_)
        refine sV _ _ ?_ ?_ ?_
        ·exact⟨by omega,by omega,by omega,by omega,by omega,fun e=>by rw[hw] at e;cases e⟩
        ·exact s.drop.drop
        ·exact⟨rfl,rfl,rfl,rfl,aa⟩
       ·skip
        refine zt rfl (aW rfl (s.ld (k:=0) rfl jK rfl)) (hw) (zm rfl (zY s 0 pY cL rfl ?_))
        refine zd rfl (az rfl rfl aD) ?_ ?_
        ·intro hp
         have hp:c.pos≠0:=by simp at hp;omega
         exact zk 13 rfl (WP.ret (hr (by rw[fE (fun q:c.Ok=>hp (q.2.2.2.2.2 hw).1),kN]) _ _ rfl s.drop.drop))
        ·intro hp
         have hp:c.pos=0:=by simp at hp;omega
         refine zm rfl (zY s 0 nh bP rfl (zo rfl (aP rfl rfl rfl (bj aT (s.aH (k:=1) rfl (dF _ _)))) ?_))
         refine zd rfl (az rfl rfl aD) ?_ ?_
         ·intro I
          have I:c.b.length≠512:=by simp at I;omega
          exact zk 8 rfl (WP.ret (hr (by rw[fE (fun q:c.Ok=>I (q.2.2.2.2.2 hw).2),kN]) _ _ rfl s.drop.drop))
         ·intro I
          have I:c.b.length=512:=by simp at I;omega
          refine zk 2 rfl (zv (zj rfl (WP.skip (zr rfl (zb rfl (by exact bx (aA (by omega) (by omega))) ?_)))))
          refine zm rfl (zv ?_)
          refine sV _ _ ?_ ?_ ?_
          ·exact⟨by omega,by omega,by omega,by omega,by omega,fun _=>⟨hp,I⟩⟩
          ·exact s.drop.drop
          ·exact⟨rfl,rfl,rfl,rfl,aa⟩
def zW (m:List cn): Prop:=m.length<4294967296∧(∀c∈m,c.b.length<4294967296)∧(∀c∈m, -4294967296≤c.pos∧c.pos≤4294967296)
theorem Ie (hT:W told){kd:Int}{ch:V}{m:List cn}(s:Sat h (.arr 4 ch cs::dh cs m::S))(hd:storable dt=true)(hm:zW m):
  Call ⟨Tryz.prog,told⟩ 161 [.agg (ie kd tx pv nx dt ch)] h fun r h'=>r=.bool (dY kd m)∧Sat h' (.arr 4 ch cs::dh cs m::S):=by
 have iI:=s.iY (j:=0) rfl
 have dZ:=mQ (kd:=kd) (tx:=tx) (pv:=pv) (nx:=nx) hd iI.2.1
 refine Call.of_wp (hT.free _ rfl) Tryz.func161 rfl rfl (zg rfl (ay.b8 s rfl rfl rfl (fg rfl dZ) ?_))
 intro p1 h s
 refine zk 5 rfl (zY s 0 uh cL rfl ?_)
 refine zd rfl (az rfl rfl aN) ?_ ?_
 ·intro J
  have J:kd<1:=by simpa using J
  exact zk 11 rfl (WP.ret ⟨aa,_,rfl,by rw[dY,fE (by omega),kN],s.drop⟩)
 ·intro J
  have J:1≤kd:=by simpa using J
  refine zm rfl (zY s 0 uh cL rfl ?_)
  refine zd rfl (az rfl rfl gT) ?_ ?_
  ·intro I
   have I:9<kd:=by simpa using I
   exact zk 7 rfl (WP.ret ⟨aa,_,rfl,by rw[dY,fE (by omega),kN],s.drop⟩)
  ·intro I
   have I:kd≤9:=by simpa using I
   refine zk 7 rfl (zY s 0 mO ug rfl (zo rfl (aP rfl rfl rfl (K9 s (j1:=1) (j2:=2) rfl rfl je)) (zk 2 rfl (WP.block ?_))))
   have hg:dY kd m=m.all (fun c=>decide c.Ok):=by rw[dY,fL ⟨J,I⟩,Bool.true_and]
   refine ML m.length 0 _ _ _ (by omega) hm.1 (fun c hc=>by have:=hm.2.1 c hc;omega) hm.2.2 s.drop ⟨rfl,rfl,rfl,rfl,aa⟩ (fun hf E' h' h2 s' => ?_) (fun hf E' h' s' => ?_)
   ·rw[hg]
    rw[gz] at hf
    rw[hf]
    exact⟨aa,_,qx h2,rfl,s'⟩
   ·rw[hg]
    rw[gz] at hf
    rw[hf]
    exact WP.has (F:=[]) aa (zK 4 rfl (WP.ret ⟨aa,_,rfl,rfl,s'⟩))
end
def kD (c:cn): List Nat:=digits 9 c.aK.toNat++digits 9 c.pos.toNat++[if c.whole then 1 else 0]++(digits 9 c.b.length++c.b)
def dy (kd:Int)(tx pv nx:Nat)(data:List Nat)(aQ:List cn): List Nat :=
 [kd.toNat]++digits 9 tx++digits 9 pv++digits 9 nx++(digits 9 data.length++data)++digits 9 aQ.length++aQ.flatMap kD
section
variable {told:dc} {p:Nat} {v w:V} {m:List Nat}
theorem qg (I:W told)(s:Sat h (aV v l::S))(hn:n<18446744073709551616)(hl:l.length≤140737488355000):
  Call ⟨Tryz.prog,told⟩ 176 [v,.int .u64 (n:Int)] h fun r h'=>Sat h' (aV r (l++digits 9 n)::S) :=
 (FP I.Up (k:=9) s.wf (s.buf (k:=0) rfl) (by omega) (by omega) (by omega)).mono fun _ _ ⟨J,h2,h3⟩=>s.A6 h2 J h3
theorem EU (hT:W told)(s:Sat h (aV v l::X::S))(I:cQ X (cW w m))(hl:l.length+m.length≤140737488355000):
  Call ⟨Tryz.prog,told⟩ 177 [v,w] h fun r h'=>Sat h' (aV r (l++(digits 9 m.length++m))::X::S) :=
 (VD hT.Up (k:=9) s.wf (s.buf (k:=0) rfl) (s.aH (k:=1) rfl I) (s.Yf I) (by omega) (by omega) (by omega)).mono fun _ _ ⟨J,h2,h3⟩=>by
  rw[c9] at J
  exact s.A6 h2 J h3
noncomputable def bdL : Code:=cD [1,1,1,1,0,1,0,0] ((Tryz.f162.body).getD .skip)
theorem Pe (hT:W told){ch:V}{aQ:List cn}(iH:∀c∈aQ,c.Ok)(J:zW aQ): ∀(j i:Nat) (sv:V) (l:List Nat) (h:H) (E:List (Nat×V)) (Q:Ex→List (Nat×V)→H→Prop),i+j=aQ.length →
  l.length+((aQ.drop i).flatMap kD).length≤140737488355000 →
  Sat h (aV sv l::.arr 4 ch cs::dh cs aQ::S)→Has E [(1,.ptr p1 0),(3,sv),(37,ch),(38,.int .i64 aQ.length),(39,.int .i64 i)] →
  (∀E' h' I,look E' 3=some I→Sat h' (aV I (l++(aQ.drop i).flatMap kD)::.arr 4 ch cs::dh cs aQ::S)→Q (.exit 2) E' h')→WP ⟨Tryz.prog,told⟩ 63 (.loop bdL) E h Q:=by
 intro j
 induction j with
 |zero =>
  intro i sv l h E Q hi hlen s hE hx
  have hm:=J.1
  refine WP.loop (WP.has hE (zg rfl (zC rfl aN (by simp;omega) ?_)))
  refine zk 3 rfl (WP.exit (hx _ _ sv rfl ?_))
  rw[kK (by omega)]
  simpa using s
 |succ j ih =>
  intro i sv l h E Q hi hlen s hE hx
  have hm:=J.1
  have hc:aQ[i]?=some (aQ[i]'(by omega)):=bA _
  generalize (aQ[i]'(by omega))=c at hc
  have FU:=bI hc
  have abl:=iH c FU
  have hcb:=J.2.1 c FU
  have n_:aQ.drop i=c::aQ.drop (i+1):=by
   obtain⟨h1,rfl⟩:=List.getElem?_eq_some_iff.1 hc
   exact pL h1
  rw[n_,vV] at hlen hx
  obtain⟨pg,ps,wh,bb⟩:=c
  obtain⟨q1,q2,q3,q4,_⟩:=abl
  dsimp only at q1 q2 q3 q4 hcb
  obtain⟨pg,rfl⟩:∃n:Nat,pg=n:=⟨pg.toNat,by omega⟩
  obtain⟨ps,rfl⟩:∃n:Nat,ps=n:=⟨ps.toNat,by omega⟩
  have R3:kD ⟨pg,ps,wh,bb⟩=digits 9 pg++digits 9 ps++[if wh then 1 else 0]++(digits 9 bb.length++bb):=by simp[kD]
  have Ot:(kD ⟨pg,ps,wh,bb⟩).length=(digits 9 pg).length+(digits 9 ps).length+1+(digits 9 bb.length).length+bb.length:=by rw[R3];simp;omega
  rw[bO,Ot] at hlen
  obtain⟨id,off,u,e1,e2,u1,u2,u3,s⟩:=Ib (s.ae [1,1]) hc
  dsimp only at e2
  have s:=s.ae [3,0,0,0]
  dsimp only[aL,bringA,getA] at s
  refine WP.loop (WP.has hE (zg rfl (zB rfl aN (by simp;omega) ?_)))
  refine zk 5 rfl (WP.block (zg rfl (zo rfl (cj (r:=.ptr id off) rfl rfl e1) (zl rfl e2 ?_))))
  refine ay.b8 s rfl rfl rfl (bU nY) (fun p7 h s => ?_)
  dsimp only[V.cells,List.length_cons,List.length_nil,Nat.reduceAdd] at s
  refine zS rfl (s.ep (j:=0) rfl oV rfl (by simp only[gJ,ki,u2];rfl)) ?_
  intro h s
  dsimp only[setA] at s
  refine zk 2 rfl ?_
  have s:=s.ae [1,0]
  dsimp only[bringA,getA,aL] at s
  have s0:=s
  refine WP.drawn [af,af,af,af,af,some (0,2),some (0,2),some (0,2),none,none] rfl (by kernel_rfl) (by kernel_rfl) ?_
  refine zM rfl (zF rfl (nZ _ _) (zL rfl (s.ld (k:=1) rfl cL rfl) (ax.op rfl rfl rfl (by simp only[isEff,cM]) (b6 rfl (by exact ja bF cM (fK (by omega) (by omega)))) ?_)))
  refine ax.any rfl rfl rfl rfl (OpR.call rfl rfl rfl rfl (qg hT s (by omega) (by omega))) ?_
  intro v1 h s
  have s1:=s
  refine zF rfl (pY _ _) (zL rfl (s.ld (k:=1) rfl cL rfl) (ax.op rfl rfl rfl (by simp only[isEff,cM]) (b6 rfl (by exact ja bF cM (fK (by omega) (by omega)))) ?_))
  refine ax.any rfl rfl rfl rfl (OpR.call rfl rfl rfl rfl (qg hT s (by omega) (by simp;omega))) ?_
  intro v2 h s
  refine zA rfl ?_
  refine ax.nil ⟨⟨aa,aa,aa,aa,aa,fun _ _=>.inr ⟨rfl,⟨_,jS rfl (pY _ _)⟩,bn _ rfl⟩,dw (.inr ⟨rfl,⟨_,aW rfl (s0.ld (k:=1) rfl cL rfl)⟩,bn _ rfl⟩) (.inr ⟨rfl,⟨_,aW rfl (s1.ld (k:=1) rfl cL rfl)⟩,bn _ rfl⟩),fun _ _=>.inr ⟨rfl,⟨_,b6 rfl (by exact ja bF cM (fK (by omega) (by omega)))⟩,bn _ rfl⟩,aa,aa,aa⟩,?_⟩
  have Yk:∀(h:H) (E:List (Nat×V)) (I:V),Sat h (aV I (l++kD ⟨pg,ps,wh,bb⟩)::.arr 4 ch cs::dh cs aQ::S)→Has E [(1,.ptr p1 0),(3,I),(37,ch),(38,.int .i64 aQ.length),(39,.int .i64 ((i:Int)+1))]→WP ⟨Tryz.prog,told⟩ 63 (.loop bdL) E h Q:=by
   intro h E I s hE
   refine ih (i+1) I _ h E Q (by omega) (by rw[bO,Ot];omega) s hE (fun E' h' sv2 wu s'=>hx E' h' sv2 wu ?_)
   rw[c9] at s'
   exact s'
  have hlp:=g9 9 pg
  have hlq:=g9 9 ps
  refine zK 7 rfl (zf rfl (wJ _ _) ?_)
  have NX:wh=false∨wh=true:=by cases wh<;>simp
  rcases NX with hw|hw
  ·skip
   refine zh rfl (aW rfl (s.ld (k:=1) rfl jK rfl)) (hw) (zk 3 rfl ?_)
   have s0:=s
   have oN:=dg (s.buf (k:=0) rfl).view
   refine WP.drawn [some (0,2),af,af,af,some (0,3),some (0,3),none,none] rfl (by kernel_rfl) (by kernel_rfl) ?_
   refine zM rfl (zM rfl (ax.any rfl rfl rfl rfl (OpR.GW (n:=0) rfl s rfl rfl rfl (by decide)) ?_))
   intro v3 h s
   have s:=s.ae [1,1,0]
   dsimp only[bringA,getA,aL] at s
   have s1:=s
   refine ax.any rfl rfl rfl rfl (OpR.qy rfl (s.ae [0,1]) (bu _ _) rfl rfl rfl rfl (by simp;omega)) ?_
   intro v4 h s
   have s:=s.del 1
   dsimp only[aL,bringA] at s
   have s2:=s
   refine zF rfl (nh _ _) (zL rfl (s.ld (k:=1) rfl bP rfl) (ax.any rfl rfl rfl rfl (OpR.call rfl rfl rfl rfl (EU hT (s.ae [0,1]) (dF _ _) (by simp;omega))) ?_))
   intro v5 h s
   dsimp only[aL,bringA] at s
   refine zA rfl ?_
   refine ax.nil ⟨⟨fun _ _=>.inr ⟨rfl,⟨_,bD rfl⟩,oN⟩,aa,aa,aa,fun _ _=>.inr ⟨rfl,⟨_,jS rfl (nh _ _)⟩,bn _ rfl⟩,uf (.inr ⟨rfl,⟨_,aW rfl (s0.ld (k:=1) rfl bP rfl)⟩,u3⟩) (.inr ⟨rfl,⟨_,aW rfl (s1.ld (k:=1) rfl bP rfl)⟩,u3⟩) (.inr ⟨rfl,⟨_,aW rfl (s2.ld (k:=1) rfl bP rfl)⟩,u3⟩),aa,aa,aa⟩,?_⟩
   refine zr rfl (zb rfl (by exact bx (aA (by omega) (by omega))) ?_)
   refine zm rfl (zv ?_)
   refine Yk _ _ v5 ?_ ?_
   ·rw[R3,hw]
    have s:=(s.del 1).del 1
    dsimp only[aL] at s
    simpa[c9] using s
   ·exact⟨rfl,rfl,rfl,rfl,rfl,aa⟩
  ·skip
   refine zt rfl (aW rfl (s.ld (k:=1) rfl jK rfl)) (hw) (zk 5 rfl ?_)
   have s0:=s
   have oN:=dg (s.buf (k:=0) rfl).view
   refine WP.drawn [some (0,2),af,af,af,some (0,3),some (0,3),none,none] rfl (by kernel_rfl) (by kernel_rfl) ?_
   refine zM rfl (zM rfl (ax.any rfl rfl rfl rfl (OpR.GW (n:=1) rfl s rfl rfl rfl (by decide)) ?_))
   intro v3 h s
   have s:=s.ae [1,1,0]
   dsimp only[bringA,getA,aL] at s
   have s1:=s
   refine ax.any rfl rfl rfl rfl (OpR.qy rfl (s.ae [0,1]) (bu _ _) rfl rfl rfl rfl (by simp;omega)) ?_
   intro v4 h s
   have s:=s.del 1
   dsimp only[aL,bringA] at s
   have s2:=s
   refine zF rfl (nh _ _) (zL rfl (s.ld (k:=1) rfl bP rfl) (ax.any rfl rfl rfl rfl (OpR.call rfl rfl rfl rfl (EU hT (s.ae [0,1]) (dF _ _) (by simp;omega))) ?_))
   intro v5 h s
   dsimp only[aL,bringA] at s
   refine zA rfl ?_
   refine ax.nil ⟨⟨fun _ _=>.inr ⟨rfl,⟨_,bD rfl⟩,oN⟩,aa,aa,aa,fun _ _=>.inr ⟨rfl,⟨_,jS rfl (nh _ _)⟩,bn _ rfl⟩,uf (.inr ⟨rfl,⟨_,aW rfl (s0.ld (k:=1) rfl bP rfl)⟩,u3⟩) (.inr ⟨rfl,⟨_,aW rfl (s1.ld (k:=1) rfl bP rfl)⟩,u3⟩) (.inr ⟨rfl,⟨_,aW rfl (s2.ld (k:=1) rfl bP rfl)⟩,u3⟩),aa,aa,aa⟩,?_⟩
   refine zr rfl (zb rfl (by exact bx (aA (by omega) (by omega))) ?_)
   refine zm rfl (zv ?_)
   refine Yk _ _ v5 ?_ ?_
   ·rw[R3,hw]
    have s:=(s.del 1).del 1
    dsimp only[aL] at s
    simpa[c9] using s
   ·exact⟨rfl,rfl,rfl,rfl,rfl,aa⟩
theorem R4 (J:W told){kd:Nat}{ch:V}{aQ:List cn}(s:Sat h (X::.arr 4 ch cs::dh cs aQ::S))(hX:cQ X (cW dt data))(hg:dY kd aQ=true)(I:zW aQ)
 (FW:tx<18446744073709551616)(Ut:pv<18446744073709551616)(yt:nx<18446744073709551616)(hlen:data.length+(aQ.flatMap kD).length≤70368744177664):
  Call ⟨Tryz.prog,told⟩ 162 [.agg (ie kd tx pv nx dt ch)] h fun r h'=>Sat h' (aV r (dy kd tx pv nx data aQ)::X::.arr 4 ch cs::dh cs aQ::S):=by
 have iI:=s.iY (j:=1) rfl
 have jB:=s.aH (k:=0) rfl hX
 have FH:=dg jB
 have dZ:=mQ (kd:=kd) (tx:=tx) (pv:=pv) (nx:=nx) jB.cells.2 iI.2.1
 have hk:1≤kd∧kd≤9:=by simp[dY] at hg;omega
 have iH:∀c∈aQ,c.Ok:=by
  simp only[dY,bK,nQ,ir] at hg
  exact hg.2
 have hm:=I.1
 have h1:=g9 9 tx
 have h2:=g9 9 pv
 have h3:=g9 9 nx
 have h4:=g9 9 data.length
 have h5:=g9 9 aQ.length
 refine Call.of_wp (J.free _ rfl) Tryz.func162 rfl rfl (zg rfl (ay.b8 s rfl rfl rfl (fg rfl dZ) ?_))
 intro p1 h s
 dsimp only[V.cells] at s
 refine zk 4 rfl (zY s 0 uh cL rfl (zo rfl (b6 rfl (by exact ja bF Tryz.underlying5 (y7 (by omega) (by omega)))) ?_))
 refine ay.any rfl rfl rfl (OpR.GW (n:=kd) rfl s rfl rfl rfl (by omega)) ?_
 intro v3 h s
 refine zk 5 rfl (zY s 1 OQ l8 rfl (zY s 1 OR l8 rfl (zY s 1 OS l8 rfl (zo rfl (dn rfl (by rw[aaf];rfl)) ?_))))
 refine zk 2 rfl (WP.block (WP.loop (zg rfl (zB rfl aN (by decide) ?_))))
 refine zk 5 rfl (WP.block (zg rfl (zo rfl (yY rfl rfl (r:=.int .u64 (tx:Int)) (by simp only[indexV,HW,vD,oT,l8];rfl)) ?_)))
 refine zk 5 rfl (zc rfl (qg J s (by omega) (by simp only[bO,aX,cI];omega)) ?_)
 intro v3 h s
 refine za rfl (zv (zr rfl (zb rfl (by exact bx (aA (by omega) (by omega))) ?_)))
 refine zm rfl (zv (WP.loop (zg rfl (zt rfl (az rfl rfl aN) (by decide) ?_))))
 refine zk 5 rfl (WP.block (zg rfl (zo rfl (yY rfl rfl (r:=.int .u64 (pv:Int)) (by simp only[indexV,HW,vD,oT,l8];rfl)) ?_)))
 refine zk 5 rfl (zc rfl (qg J s (by omega) (by simp only[bO,aX,cI];omega)) ?_)
 intro v3 h s
 refine za rfl (zv (zr rfl (zb rfl (by exact bx (aA (by omega) (by omega))) ?_)))
 refine zm rfl (zv (WP.loop (zg rfl (zt rfl (az rfl rfl aN) (by decide) ?_))))
 refine zk 5 rfl (WP.block (zg rfl (zo rfl (yY rfl rfl (r:=.int .u64 (nx:Int)) (by simp only[indexV,HW,vD,oT,l8];rfl)) ?_)))
 refine zk 5 rfl (zc rfl (qg J s (by omega) (by simp only[bO,aX,cI];omega)) ?_)
 intro v3 h s
 refine za rfl (zv (zr rfl (zb rfl (by exact bx (aA (by omega) (by omega))) ?_)))
 refine zm rfl (zv (WP.loop (zg rfl (zh rfl (az rfl rfl aN) (by decide) ?_))))
 refine zk 3 rfl (WP.exit (zw ?_))
 have s0:=s
 have tU:=dg (s.buf (k:=0) rfl).view
 refine WP.drawn [af,af,af,af,some (0,2),some (0,2),some (0,2),some (0,2),none,none] rfl (by kernel_rfl) (by kernel_rfl) ?_
 refine zM rfl (zF rfl (zu _ _) (zL rfl (s.ld (k:=1) rfl bP rfl) (ax.any rfl rfl rfl rfl (OpR.call rfl rfl rfl rfl (EU J (s.ae [0,1]) hX (by simp only[bO,aX,cI];omega))) ?_)))
 intro v4 h s
 have s:=s.ae [0,1,0]
 have s1:=s
 refine zF rfl (mO _ _) (zL rfl (s.ld (k:=1) rfl ug rfl) (zO rfl (aP rfl rfl rfl (s.wM (j1:=3) (j2:=4) rfl rfl je)) (ax.op rfl rfl rfl (by simp only[isEff,cM]) (b6 rfl (by exact ja bF cM (fK (by omega) (by omega)))) ?_)))
 refine ax.any rfl rfl rfl rfl (OpR.call rfl rfl rfl rfl (qg J s (by omega) (by simp only[bO,aX,cI];omega))) ?_
 intro v5 h s
 refine zA rfl ?_
 refine ax.nil ⟨⟨aa,aa,aa,aa,fun _ _=>.inr ⟨rfl,⟨_,jS rfl (mO _ _)⟩,bn _ rfl⟩,dw (.inr ⟨rfl,⟨_,aW rfl (s0.ld (k:=1) rfl ug rfl)⟩,iI.2.2⟩) (.inr ⟨rfl,⟨_,aW rfl (s1.ld (k:=1) rfl ug rfl)⟩,iI.2.2⟩),dw (.inr ⟨rfl,⟨_,aP rfl rfl rfl (s0.wM (j1:=3) (j2:=4) rfl rfl je)⟩,bn _ rfl⟩) (.inr ⟨rfl,⟨_,aP rfl rfl rfl (s1.wM (j1:=3) (j2:=4) rfl rfl je)⟩,bn _ rfl⟩),fun _ _=>.inr ⟨rfl,⟨_,b6 rfl (by exact ja bF cM (fK (by omega) (by omega)))⟩,bn _ rfl⟩,aa,aa,aa⟩,?_⟩
 refine zK 3 rfl (zY s 1 mO ug rfl (zo rfl (aP rfl rfl rfl (s.wM (j1:=3) (j2:=4) rfl rfl je)) (zk 2 rfl (WP.block ?_))))
 have s:=s.ae [0,2,2,1]
 refine Pe J iH I aQ.length 0 v5 _ _ _ _ (by omega) (by rw[gz];simp only[bO,aX,cI];omega) s ⟨rfl,rfl,rfl,rfl,rfl,aa⟩ (fun E' h' Yl jf s' => ?_)
 refine WP.has (F:=[(3,Yl)]) ⟨jf,aa⟩ (zK 5 rfl (WP.ret ⟨aa,_,rfl,?_⟩))
 have s'':=(s'.ae [0,2,0,0]).del 4
 dsimp only[List.cons_append,List.nil_append,List.drop,aL,bringA,getA] at s''
 simpa[dy,c9] using s''
end
def iL (aM:Nat)(b:List Nat): List Nat:=le 4 b.length++le 4 (tg aM b)++b
theorem pz (aM:Nat)(b:List Nat): (iL aM b).length=8+b.length:=by simp[iL,cR];omega
theorem xK : ∃i,Tryz.prog.info? 3=some i∧i.size=1∧i.bytes=8 :=
 ⟨_,(show Tryz.prog.info? 3=some ((Tryz.prog.info? 3).getD default) by kernel_rfl),by kernel_rfl,by kernel_rfl⟩
section
variable {told:dc} {p:Nat} {v w:V} {m:List Nat}
theorem FX (I:W told)(s:Sat h S)(J:getA S k=some X)(hX:cQ X (cW v l))(hl:l.length≤4611686018427387904):
  Call ⟨Tryz.prog,told⟩ 163 [.int .u64 (n:Int),v] h fun r h'=>r=.int .u32 (tg n l:Nat)∧Sat h' S :=
 (O4 I.Up s.wf (s.aH J hX) hl).mono fun _ _ ⟨h1,h2⟩=>⟨h1,s.lU h2⟩
structure Dt (tx pv nx:Nat)(data:List Nat)(aQ:List cn): Prop where
 fit:zW aQ
 tx:tx<18446744073709551616
 pv:pv<18446744073709551616
 nx:nx<18446744073709551616
 len:data.length+(aQ.flatMap kD).length≤70368744177664
theorem Pf (J:W told){kd:Int}{ch:V}{aQ:List cn}(s:Sat h (X::.arr 4 ch cs::dh cs aQ::S))(hX:cQ X (cW dt data))(I:Dt tx pv nx data aQ):
  Call ⟨Tryz.prog,told⟩ 116 [.agg (ie kd tx pv nx dt ch),.int .u64 (aM:Int)] h fun r h' =>
  (dY kd aQ=false∧r=.bf [.bC,.int .i64 1]∧Sat h' (X::.arr 4 ch cs::dh cs aQ::S)) ∨
  (dY kd aQ=true∧1048576<(dy kd tx pv nx data aQ).length∧r=.bf [.bC,.int .i64 2]∧Sat h' (X::.arr 4 ch cs::dh cs aQ::S)) ∨
  (dY kd aQ=true∧(dy kd tx pv nx data aQ).length≤1048576∧∃u,r=.bf [u,.int .i64 0]∧Sat h' (aV u (iL aM (dy kd tx pv nx data aQ))::X::.arr 4 ch cs::dh cs aQ::S)):=by
 have iI:=s.iY (j:=1) rfl
 have jB:=s.aH (k:=0) rfl hX
 have dZ:=mQ (kd:=kd) (tx:=tx) (pv:=pv) (nx:=nx) jB.cells.2 iI.2.1
 refine Call.of_wp (J.free _ rfl) Tryz.func116 rfl rfl (zg rfl (ay.b8 s rfl rfl rfl (fg rfl dZ) ?_))
 intro p1 h s
 dsimp only[V.cells] at s
 refine zk 6 rfl (zl rfl (s.bZ (k:=0) rfl nG g8) (zc rfl (Ie J (s.ae [2,2]) jB.cells.2 I.fit) ?_))
 rintro r h' ⟨rfl,s⟩
 cases hg:dY kd aQ with
 |false =>
  exact zo rfl (dQ rfl rfl) (zk 7 rfl (WP.ret ⟨aa,_,rfl,.inl ⟨rfl,rfl,(s.ae [3,0,0]).del 3⟩⟩))
 |true =>
  refine zo rfl (dQ rfl rfl) (zk 5 rfl (zl rfl (s.bZ (k:=2) rfl nG g8) ?_))
  have hk:∃n:Nat,kd=n:=⟨kd.toNat,by simp[dY] at hg;omega⟩
  obtain⟨kd,rfl⟩:=hk
  refine zc rfl (R4 J (s.ae [3,0,0]) hX hg I.fit I.tx I.pv I.nx I.len) ?_
  intro u h s
  dsimp only[bringA,getA,aL] at s
  have va:(dy kd tx pv nx data aQ).length<9223372036854775808:=by
   have h1:=g9 9 tx
   have h2:=g9 9 pv
   have h3:=g9 9 nx
   have h4:=g9 9 data.length
   have h5:=g9 9 aQ.length
   have h6:=I.len
   simp only[dy,bO,aX,cI]
   omega
  generalize T0:dy kd tx pv nx data aQ=bd at s va ⊢
  refine zk 6 rfl (zo rfl (aP rfl rfl rfl (bj aT (s.aH (k:=0) rfl (bu _ _)))) ?_)
  by_cases Ig:1048576<bd.length
  ·skip
   refine zB rfl gT (by simp;omega) ?_
   exact zk 7 rfl (WP.ret ⟨aa,_,rfl,.inr (.inl ⟨rfl,Ig,rfl,(s.del 4).del 0⟩)⟩)
  ·skip
   refine zC rfl gT (by simp;omega) ?_
   refine zk 6 rfl (zo rfl (aP rfl rfl rfl (bj aT (s.aH (k:=0) rfl (bu _ _)))) (zb rfl (by exact bx (aA (by omega) (by omega))) ?_))
   refine ay.any rfl rfl rfl (OpR.um (c:=8+bd.length) rfl s rfl rfl rfl rfl (by omega)) ?_
   intro v h s
   refine zm rfl (zo rfl (aP rfl rfl rfl (bj aT (s.aH (k:=1) rfl (bu _ _)))) (zo rfl (b6 rfl (by exact ja bF cM (fK (by omega) (by omega)))) ?_))
   refine zc rfl (Dr (z:=4) J s (by decide) (by simp)) ?_
   intro v h s
   have cE:=(s.buf (k:=1) rfl).1
   refine zk 7 rfl (zc rfl (FX (n:=aM) J s (k:=1) rfl (bu _ _) (by omega)) ?_)
   rintro r h ⟨rfl,s⟩
   have j_:=HZ (aM:=aM) cE
   refine zo rfl (b6 rfl (by exact ja Tryz.underlying231 cM (fK (by omega) (by omega)))) ?_
   refine zc rfl (Dr (z:=4) J s (by decide) (by simp[cR])) ?_
   intro v h s
   refine zk 6 rfl (ay.any rfl rfl rfl (OpR.qy rfl s (bu _ _) rfl rfl rfl rfl (by simp only[bO,cR,cI];omega)) ?_)
   intro v h s
   refine zk 3 rfl (WP.ret ⟨aa,_,rfl,?_⟩)
   refine .inr (.inr ⟨rfl,by omega,v,rfl,?_⟩)
   have s:=(s.del 5).del 1
   dsimp only[aL] at s
   simpa[iL,c9] using s
def Lg.app (μ:Lg)(b:List Nat): Lg:={ μ with b:=μ.b++b,cB:=μ.cB++[μ.b.length] }
theorem MM (hT:W told){kd:Int}{ch:V}{aQ:List cn}(s:Sat h (bS q p μ::aR p δ::X::.arr 4 ch cs::dh cs aQ::S))(hX:cQ X (cW dt data))(fA:Dt tx pv nx data aQ)
 (J:μ.Ok)(hf:δ.aS<4294967296)(hl:δ.log.length≤16777216)(hr:δ.room≤16777216):
  Call ⟨Tryz.prog,told⟩ 59 [.ptr q 0,.agg (ie kd tx pv nx dt ch)] h fun r h' =>
  (∃e:Int,r=.bf [.int .u64 0,.int .i64 e]∧((dY kd aQ=false∧e=1)∨(dY kd aQ=true∧1048576<(dy kd tx pv nx data aQ).length∧e=2)∨(dY kd aQ=true∧(dy kd tx pv nx data aQ).length≤1048576∧δ.dead=true∧e=9) ∨
    (dY kd aQ=true∧(dy kd tx pv nx data aQ).length≤1048576∧δ.dead=false∧δ.room<δ.log.length+(iL (μ.base+μ.b.length) (dy kd tx pv nx data aQ)).length∧e=7))∧Sat h' (bS q p μ::aR p δ::X::.arr 4 ch cs::dh cs aQ::S)) ∨
  (dY kd aQ=true∧(dy kd tx pv nx data aQ).length≤1048576∧δ.dead=false∧δ.log.length+(iL (μ.base+μ.b.length) (dy kd tx pv nx data aQ)).length≤δ.room∧δ.aS=0∧r=.bf [.int .u64 0,.int .i64 9] ∧
   Sat h' (bS q p μ::aR p { δ.die with tail:=iL (μ.base+μ.b.length) (dy kd tx pv nx data aQ) }::X::.arr 4 ch cs::dh cs aQ::S)) ∨
  (dY kd aQ=true∧(dy kd tx pv nx data aQ).length≤1048576∧δ.dead=false∧δ.log.length+(iL (μ.base+μ.b.length) (dy kd tx pv nx data aQ)).length≤δ.room∧δ.aS≠0∧r=.bf [.int .u64 ((μ.base+μ.b.length:Nat):Int),.int .i64 0] ∧
   Sat h' (bS q p (μ.app (iL (μ.base+μ.b.length) (dy kd tx pv nx data aQ)))::aR p { δ.cY with log:=δ.log++iL (μ.base+μ.b.length) (dy kd tx pv nx data aQ) }::X::.arr 4 ch cs::dh cs aQ::S)):=by
 have iI:=s.iY (j:=3) rfl
 have jB:=s.aH (k:=2) rfl hX
 have dZ:=mQ (kd:=kd) (tx:=tx) (pv:=pv) (nx:=nx) jB.cells.2 iI.2.1
 have MK:=J.size
 refine Call.of_wp (hT.free _ rfl) Tryz.func59 rfl rfl (zg rfl (ay.b8 s rfl rfl rfl (fg rfl dZ) ?_))
 intro p1 h s
 dsimp only[V.cells] at s
 have s:=s.ae [1,0]
 refine zk 6 rfl (zc rfl (Bh hT s J.size) ?_)
 rintro v h' ⟨rfl,rfl⟩
 refine zk 4 rfl (zl rfl (s.bZ (k:=1) rfl nG g8) (zm rfl (zc rfl (Pf (aM:=μ.base+μ.b.length) hT (s.ae [3,3,3]) hX fA) ?_)))
 generalize hrc:iL (μ.base+μ.b.length) (dy kd tx pv nx data aQ)=rc
 have Du:rc.length=8+(dy kd tx pv nx data aQ).length:=by rw[←hrc,pz]
 rintro r h' (⟨hg,rfl,s⟩|⟨hg,Ig,rfl,s⟩|⟨hg,vc,u,rfl,s⟩)
 ·dsimp only[bringA,getA,aL] at s
  exact zk 10 rfl (zB rfl aD (rfl) (zk 8 rfl (WP.ret ⟨aa,_,rfl,.inl ⟨1,rfl,.inl ⟨hg,rfl⟩,(s.ae [3,4,0,0,0]).del 5⟩⟩)))
 ·dsimp only[bringA,getA,aL] at s
  exact zk 10 rfl (zB rfl aD (rfl) (zk 8 rfl (WP.ret ⟨aa,_,rfl,.inl ⟨2,rfl,.inr (.inl ⟨hg,Ig,rfl⟩),(s.ae [3,4,0,0,0]).del 5⟩⟩)))
 ·dsimp only[bringA,getA,aL] at s
  have cE:=(s.buf (k:=0) rfl).1
  obtain⟨qM,_,cap,_,rfl,_⟩:=s.fZ (by omega)
  obtain⟨bv,sv,s⟩:=ga.1 (s.ae [4])
  refine zk 10 rfl (zC rfl aD (rfl) (zk 8 rfl (zY s 0 KY o9 rfl (zm rfl ?_))))
  have s:=s.ae [8,3]
  refine zc rfl (MG hT s (bu _ _) (by omega) hf (by omega) (by omega)) ?_
  rintro r h (⟨hd,rfl,s⟩|⟨hd,acw,rfl,s⟩|⟨hd,I,h0,rfl,s⟩|⟨hd,I,h0,rfl,s⟩)
  ·refine ay.op rfl rfl rfl (fB rfl) ?_
   exact zk 4 rfl (zB rfl aD (rfl) (zk 8 rfl (WP.ret ⟨aa,_,rfl,.inl ⟨9,rfl,.inr (.inr (.inl ⟨hg,vc,hd,rfl⟩)),(ga.2 ⟨bv,sv,((s.ae [2,2,2,0,1,1,1]).del 8).del 7⟩)⟩⟩)))
  ·skip
   exact zk 5 rfl (zB rfl aD (rfl) (zk 8 rfl (WP.ret ⟨aa,_,rfl,.inl ⟨7,rfl,.inr (.inr (.inr ⟨hg,vc,hd,by omega,rfl⟩)),(ga.2 ⟨bv,sv,((s.ae [2,2,2,0,1,1,1]).del 8).del 7⟩)⟩⟩)))
  ·skip
   exact zk 5 rfl (zB rfl aD (rfl) (zk 8 rfl (WP.ret ⟨aa,_,rfl,.inr (.inl ⟨hg,vc,hd,I,h0,rfl,(ga.2 ⟨bv,sv,((s.ae [2,2,2,0,1,1,1]).del 8).del 7⟩)⟩)⟩)))
  ·skip
   have s:=s.ae [2,2,2,1,0,0,0,0]
   refine zk 5 rfl (zC rfl aD (rfl) (zk 4 rfl ?_))
   have s0:=s
   have Uk:=dg (s.buf (k:=1) rfl).view
   have zX:=(s.iY (j:=2) rfl).2.2
   refine WP.drawn [some (0,3),some (0,2),some (0,2),some (0,2),some (0,2),af,af,af,af,af,af,af,af,af,af] rfl (by kernel_rfl) (by kernel_rfl) ?_
   refine zM rfl (zM rfl (zN rfl (zF rfl (nX _ _) (zL rfl (s.ld (k:=0) rfl y_ rfl) (zM rfl (zN rfl (zF rfl (fc _ _) (zL rfl (s.ld (k:=0) rfl bP rfl) (zO rfl (aP rfl rfl rfl (bj aT (s.aH (k:=1) rfl (bu _ _)))) ?_)))))))))
   obtain⟨i1,jZ,jv,u_⟩:=xK
   obtain⟨iv,h1,e1,s1⟩:=kq (P:=Tryz.prog) (k:=1) (x:=.int .i64 (μ.b.length:Int)) s dI C8 ke rfl (by decide) (by decide) rfl rfl
   dsimp only[V.cells] at s1
   refine ax.any rfl rfl rfl rfl (OpR.of (R:=fun v h'=>v=iv∧h'=h1) (nk rfl e1) ⟨rfl,rfl⟩) ?_
   rintro v h' ⟨rfl,rfl⟩
   have Ds:=J.many
   obtain⟨Yl,h2,e2,s2⟩:=iG (s1.ae [3,0]) dI jZ C8 jv (by omega) rfl (by decide) (by simp only[fV,aX,cI];omega)
   refine ax.any rfl rfl rfl rfl (OpR.of (R:=fun v h'=>v=Yl∧h'=h2) (lP rfl rfl e2) ⟨rfl,rfl⟩) ?_
   rintro v h' ⟨rfl,rfl⟩
   have hv:=s2.iY (j:=0) rfl
   refine zN rfl (zF rfl (nX _ _) (ax.iB rfl rfl rfl (OpR.eu rfl rfl rfl (s2.eX (k:=2) rfl X8 rfl (by decide) hv.1 hv.2.1)) ?_))
   rintro v h ⟨rfl,s⟩
   refine ax.nil ⟨⟨fun _ _=>.inr ⟨rfl,⟨_,bD rfl⟩,bn _ rfl⟩,fun _ _=>.inr ⟨rfl,⟨_,bD rfl⟩,bn _ rfl⟩,fun _ _=>.inr ⟨rfl,⟨_,oU rfl⟩,bn _ rfl⟩,fun _ _=>.inr ⟨rfl,⟨_,jS rfl (nX _ _)⟩,bn _ rfl⟩,dw (.inr ⟨rfl,⟨_,aW rfl (s0.ld (k:=0) rfl y_ rfl)⟩,zX⟩) (.inr ⟨rfl,⟨_,aW rfl (s1.ld (k:=1) rfl y_ rfl)⟩,zX⟩),aa,aa,aa,aa,aa,aa,aa,aa,aa,aa,aa⟩,?_⟩
   refine zK 5 rfl (zY s 2 fc bP rfl (zm rfl (ay.any rfl rfl rfl (OpR.qy rfl (s.ae [3,3]) (bu _ _) rfl rfl rfl rfl (by have:=J.len;omega)) ?_)))
   intro bv' h s
   have hv:=(s.buf (k:=0) rfl).view.cells
   refine zn rfl (zf rfl (fc _ _) (zS rfl (s.eX (k:=4) rfl ij rfl (by decide) hv.1 hv.2) ?_))
   intro h s
   refine zk 7 rfl (WP.ret ⟨aa,_,rfl,?_⟩)
   refine .inr (.inr ⟨hg,vc,hd,I,h0,rfl,ga.2 ⟨bv',v,?_⟩⟩)
   have s:=(((s.ae [4,0,1]).del 4).del 3).del 7
   have e:dM (μ.app rc).cB=dM μ.cB++[.int .i64 (μ.b.length:Int)]:=by simp[Lg.app,dM]
   rw[e]
   exact s
end
def Dk.cq (δ:Dk): Int×Dk:=if δ.dead=true then(9,δ) else if δ.aS=0 then(9,δ.die) else(0,{ δ.cY with bh:=δ.log.length })
def Dk.bw (δ:Dk)(n:Int)(b:List Nat): Int×Dk:=if δ.dead=true then(9,δ) else if ¬(0≤n∧n<δ.aq.length∧b.length=512) then(1,δ) else
 if δ.aS=0 then(9,{ δ.die with dA:=some (n.toNat,b) }) else(0,δ.wr n b)
def Dk.jq (δ:Dk)(b:List Nat): Int×Dk:=if δ.dead=true then(9,δ) else if δ.room<δ.log.length+b.length then(7,δ) else if δ.aS=0 then(9,{ δ.die with tail:=b }) else(0,{ δ.cY with log:=δ.log++b })
def Dk.lQ (δ:Dk)(n:Int): Int:=if δ.dead=true then 9 else if ¬(0≤n∧n<δ.aq.length) then 1 else 0
structure Dk.Ok (δ:Dk): Prop where
 aS:δ.aS<4294967296
 len:δ.log.length≤16777216
 room:δ.room≤16777216
 now:∀e∈δ.now,e.2.length=512
 aq:∀(i:Nat) (b:List Nat),δ.aq[i]?=some (some b)→b.length=512
 bh:δ.bh≤δ.log.length
 many:δ.aq.length≤65536
theorem Dk.Ok.cY (h:δ.Ok): δ.cY.Ok:=⟨by have:=h.aS;simp only[Dk.cY];split<;>omega,h.len,h.room,h.now,h.aq,h.bh,h.many⟩
theorem Dk.Ok.die (h:δ.Ok): δ.die.Ok:=⟨h.aS,h.len,h.room,h.now,h.aq,h.bh,h.many⟩
theorem Dk.Ok.cq (h:δ.Ok): δ.cq.2.Ok:=by
 unfold Dk.cq
 split
 ·exact h
 ·split
  ·exact h.die
  ·exact⟨h.cY.aS,h.len,h.room,h.now,h.aq,aU _,h.many⟩
theorem fI {n:Int}{x:α}: ∀ {l:List (Int×α)},lookL n l=some x→(n,x)∈l:=by
 intro l
 induction l<;>grind[lookL]
theorem Dk.Ok.at (I:δ.Ok)(n:Int): (δ.at n).length=512:=by
 unfold Dk.at
 cases J:lookL n δ.now with
 |some b=>exact I.now _ (fI J)
 |none =>
  cases h2:δ.aq[n.toNat]? with
  |none=>grind
  |some o =>
   cases o with
   |none=>grind
   |some b=>exact I.aq _ _ h2
section
variable {told:dc} {p:Nat} {v:V}
theorem VM (I:W told)(s:Sat h (aR p δ::S))(J:δ.aS<4294967296): Call ⟨Tryz.prog,told⟩ 130 [.ptr p 0] h fun v h'=>v=.int .i64 δ.cq.1∧Sat h' (aR p δ.cq.2::S):=by
 refine(FQ I s J).mono fun v h' hr => ?_
 grind[Dk.cq]
theorem K_ (I:W told){n:Int}(s:Sat h (aR p δ::X::S))(J:cQ X (cW x b))(hb:b.length<1073741824)(hf:δ.aS<4294967296)(hw:δ.waiting.length≤268435456):
  Call ⟨Tryz.prog,told⟩ 138 [.ptr p 0,.int .i64 n,x] h fun v h'=>v=.int .i64 (δ.bw n b).1∧Sat h' (aR p (δ.bw n b).2::X::S):=by
 refine(O7 I s J hb hf hw).mono fun v h' hr => ?_
 grind[Dk.bw]
theorem Pg (J:W told){n:Int}(s:Sat h (aR p δ::S))(I:δ.Ok): Call ⟨Tryz.prog,told⟩ 124 [.ptr p 0,.int .i64 n] h fun v h' =>
  (δ.lQ n≠0∧v=.bf [.bC,.int .i64 (δ.lQ n)]∧Sat h' (aR p δ::S))∨(δ.lQ n=0∧∃u,v=.bf [u,.int .i64 0]∧Sat h' (aV u (δ.at n)::aR p δ::S)):=by
 refine(RU J s (I.at n)).mono fun v h' hr => ?_
 grind[Dk.lQ]
end
abbrev LD := Lg×Dk
def aI (x:LD)(n:Nat): Int×LD:=if n<x.1.base+x.1.forced then(0,x) else if x.2.cq.1≠0 then(x.2.cq.1,(x.1,x.2.cq.2)) else(0,({ x.1 with forced:=x.1.b.length },x.2.cq.2))
def cA (μ:Lg)(kd:Int)(tx pv nx:Nat)(data:List Nat)(aQ:List cn): List Nat:=iL (μ.base+μ.b.length) (dy kd tx pv nx data aQ)
def aF (x:LD)(kd:Int)(tx pv nx:Nat)(data:List Nat)(aQ:List cn): (Nat×Int)×LD :=
 if dY kd aQ=false then((0,1),x) else if 1048576<(dy kd tx pv nx data aQ).length then((0,2),x) else
 if (x.2.jq (cA x.1 kd tx pv nx data aQ)).1≠0 then((0,(x.2.jq (cA x.1 kd tx pv nx data aQ)).1),(x.1,(x.2.jq (cA x.1 kd tx pv nx data aQ)).2)) else
 ((x.1.base+x.1.b.length,0),(x.1.app (cA x.1 kd tx pv nx data aQ),(x.2.jq (cA x.1 kd tx pv nx data aQ)).2))
theorem JW : δ.cq.2.waiting=δ.waiting:=by
 unfold Dk.cq
 split
 ·rfl
 ·split<;>rfl
theorem me {x:LD}: (aI x n).2.2.waiting=x.2.waiting:=by
 grind[aI,JW]
theorem Dk.Ok.bw {n:Int}(h:δ.Ok): (δ.bw n b).2.Ok:=by
 unfold Dk.bw
 split
 ·exact h
 ·split
  ·exact h
  ·split
   ·exact⟨h.aS,h.len,h.room,h.now,h.aq,h.bh,h.many⟩
   ·refine⟨h.cY.aS,h.len,h.room,fun e he => ?_,h.aq,h.bh,h.many⟩
    have:∀l:List (Int×List Nat),(∀e∈l,e.2.length=512)→∀e∈cG n b l,e.2.length=512:=by
     intro l
     induction l<;>grind[cG]
    exact this δ.now h.now e he
theorem oa {x:LD}(h:x.2.Ok): (aI x n).2.2.Ok:=by
 unfold aI
 split
 ·exact h
 ·split
  ·exact h.cq
  ·exact h.cq
theorem Lg.Ok.VN (h:μ.Ok): ({ μ with forced:=μ.b.length }:Lg).Ok:=⟨h.size,h.many,h.low,h.ES,aU _,h.len,h.check⟩
theorem vF {x:LD}(h:x.1.Ok): (aI x n).2.1.Ok:=by
 unfold aI
 split
 ·exact h
 ·split
  ·exact h
  ·exact h.VN
section
variable {told:dc} {p:Nat} {v:V}
theorem La (J:W told)(s:Sat h (bS q p μ::aR p δ::S))(I:μ.Ok)(hf:δ.aS<4294967296): Call ⟨Tryz.prog,told⟩ 79 [.ptr q 0,.int .u64 (n:Int)] h fun v h' =>
  v=.int .i64 (aI (μ,δ) n).1∧Sat h' (bS q p (aI (μ,δ) n).2.1::aR p (aI (μ,δ) n).2.2::S):=by
 refine(Pc J s I hf).mono fun v h' hr => ?_
 grind[aI,Dk.cq]
theorem R5 (hT:W told){kd:Int}{ch:V}{aQ:List cn}(s:Sat h (bS q p μ::aR p δ::X::.arr 4 ch cs::dh cs aQ::S))(hX:cQ X (cW dt data))(J:Dt tx pv nx data aQ)(EV:μ.Ok)(I:δ.Ok):
  Call ⟨Tryz.prog,told⟩ 59 [.ptr q 0,.agg (ie kd tx pv nx dt ch)] h fun r h' =>
  r=.bf [.int .u64 ((aF (μ,δ) kd tx pv nx data aQ).1.1:Nat),.int .i64 (aF (μ,δ) kd tx pv nx data aQ).1.2] ∧
  Sat h' (bS q p (aF (μ,δ) kd tx pv nx data aQ).2.1::aR p (aF (μ,δ) kd tx pv nx data aQ).2.2::X::.arr 4 ch cs::dh cs aQ::S):=by
 refine(MM hT s hX J EV I.aS I.len I.room).mono fun v h' hr => ?_
 grind[aF,Dk.jq,cA]
end
structure Fm where
 aK:Int
 b:List Nat
 pins:Int
 gh:Bool
 changed:Bool
variable {f:Fm}
structure Pl where
 ai:List Fm
 aG:List (Int×Int)
 bq:List (Int×(Nat×Bool))
 hand:Nat
variable {π:Pl}
def gL (f:Fm)(v:V): List V:=[.int .i64 f.aK,v,.int .i64 f.pins,.bool f.gh,.bool f.changed]
def ux : List V→List Fm→aO
 |[],[]=>.pu True
 |a::v::c::d::e::l,x::m=>.an (.an (.pu (a=.int .i64 x.aK∧c=.int .i64 x.pins∧d=.bool x.gh∧e=.bool x.changed)) (.cg v x.b)) (ux l m)
 |_,_=>.pu False
theorem aY.fm : ∀(m:List Fm) (l:List V),aY (ux l m):=by
 intro m
 induction m with
 |nil=>intro l;rcases l with _|⟨a,_|⟨b,_|⟨c,_|⟨d,_|⟨e,l⟩⟩⟩⟩⟩<;>exact aY.pu _
 |cons x m I=>intro l;rcases l with _|⟨a,_|⟨b,_|⟨c,_|⟨d,_|⟨e,l⟩⟩⟩⟩⟩<;>first|exact aY.pu _|exact aY.an (aY.an (aY.pu _) (aY.cg _ _)) (I l)
theorem zZ {b:PM}: ∀ {m:List Fm} {l:List V} {i:Nat} {f:Fm},(ux l m).p a b→m[i]?=some f→∃pre v post,l=pre++(gL f v++post)∧pre.length=i*5∧(aO.cg v f.b).p a b ∧
  (∀(f':Fm) (v':V) (I J:PM),(aO.cg v' f'.b).p I J→PM.le a I→PM.le b J→(ux (pre++(gL f' v'++post)) (m.set i f')).p I J):=by
 intro m
 induction m with
 |nil=>intro l i f h hc;simp at hc
 |cons x m ih =>
  intro l i f h hc
  rcases l with _|⟨p,_|⟨q,_|⟨w,_|⟨d,_|⟨e,l⟩⟩⟩⟩⟩<;>first|exact h.elim|skip
  obtain⟨⟨⟨h1,h2,h3,h4⟩,h5⟩,h6⟩:=h
  cases i with
  |zero =>
   simp at hc
   subst hc
   refine⟨[],q,l,?_,rfl,h5,fun f' v' I J hv ha hb=>⟨⟨⟨rfl,rfl,rfl,rfl⟩,hv⟩,(ux l m).mono _ _ _ _ ha hb h6⟩⟩
   rw[h1,h2,h3,h4];rfl
  |succ i =>
   simp at hc
   obtain⟨pre,v,post,e1,e2,e3,e4⟩:=ih h6 hc
   refine⟨p::q::w::d::e::pre,v,post,?_,?_,e3,fun f' v' I J hv ha hb=>⟨⟨⟨h1,h2,h3,h4⟩,aO.mono _ _ _ _ _ ha hb h5⟩,e4 f' v' I J hv ha hb⟩⟩
   ·rw[e1];rfl
   ·simp only[aX,e2];omega
theorem VO {b:PM}: ∀ {m:List Fm} {l:List V},(ux l m).p a b→l.length=m.length*5:=by
 intro m
 induction m with
 |nil=>intro l h;rcases l with _|⟨a,_|⟨b,_|⟨c,_|⟨d,_|⟨e,l⟩⟩⟩⟩⟩<;>first|rfl|exact h.elim
 |cons x m I =>
  intro l h
  rcases l with _|⟨a,_|⟨b,_|⟨c,_|⟨d,_|⟨e,l⟩⟩⟩⟩⟩<;>first|exact h.elim|skip
  have:=I h.2
  simp only[aX]
  omega
def fe (c8:Nat)(m:List Fm): aO:=xs fun cs:List V=>star [pt c8 (.cells (m.length*5) cs false),ux cs m]
abbrev Ih (v:V)(m:List (Int×Int)): aO:=ju (fun v x=>.pu (v=.int .i64 x)) v m
abbrev Dv (v:V)(m:List (Int×(Nat×Bool))): aO:=ju (fun v x=>.pu (v=.agg [.int .u64 (x.1:Int),.bool x.2])) v m
def qA (p q c8 n:Nat)(wh di:V)(hand:Nat): List V:=[.ptr p 0,.ptr q 0,.sl c8 0 n (.exact n),wh,di,.int .i64 (hand:Int)]
def dK (r p q:Nat)(π:Pl): aO:=xs fun c8:Nat=>xs fun wh:V=>xs fun di:V =>
 star [pt r (.cells 6 (qA p q c8 π.ai.length wh di π.hand) false),fe c8 π.ai,Ih wh π.aG,Dv di π.bq]
section
variable {p:Nat} {v:V} {m:List Fm}
theorem dV : Sat h (dK r p q π::S)↔∃c8 wh di,Sat h (pt r (.cells 6 (qA p q c8 π.ai.length wh di π.hand) false)::fe c8 π.ai::Ih wh π.aG::Dv di π.bq::S):=by
 simp only[dK,ic,br,jk,eB]
theorem kg : Sat h (fe c8 m::S)↔∃cs,Sat h (pt c8 (.cells (m.length*5) cs false)::ux cs m::S):=by
 simp only[fe,ic,br,jk,eB]
theorem jG (s:Sat h (fe c8 m::S))(hf:m[i]?=some f): ∃pre v post,pre.length=i*5∧(pre++(gL f v++post)).length=m.length*5 ∧
  Sat h (pt c8 (.cells (m.length*5) (pre++(gL f v++post)) false)::ux (pre++(gL f v++post)) m::.cg v f.b::S):=by
 obtain⟨cs,s⟩:=kg.1 s
 obtain⟨a,b,q1,q2,q3⟩:=s.at (k:=1) rfl
 obtain⟨pre,v,post,e1,e2,e3,_⟩:=zZ q3 hf
 have hl:=VO q3
 subst e1
 refine⟨pre,v,post,e2,hl,?_⟩
 have s1:Sat h (ux (pre++(gL f v++post)) m::pt c8 (.cells (m.length*5) (pre++(gL f v++post)) false)::S):=s.ae [1]
 have s2:=(s1.dup (aY.fm _ _)).gX (B:=.cg v f.b) fun a' b' h'=>by
  obtain⟨abm,v',I,J,rW,e3',_⟩:=zZ h' hf
  have:=Ei J (by omega)
  obtain⟨_,h5⟩:=this
  have h6:=iO (fun l=>l[1]?) h5
  simp[gL] at h6
  subst h6
  exact e3'
 exact s2.ae [2,1,0]
theorem gW {f':Fm}{pre:List V}(s:Sat h (pt c8 (.cells n (pre++(gL f' v'++post)) false)::ux (pre++(gL f v++post)) m::.cg v' f'.b::S))(hn:n=m.length*5)(hf:m[i]?=some f)(hp:pre.length=i*5): Sat h (fe c8 (m.set i f')::S):=by
 subst hn
 have s1:Sat h (ux (pre++(gL f v++post)) m::.cg v' f'.b::pt c8 (.cells (m.length*5) (pre++(gL f' v'++post)) false)::S):=s.ae [1,1,0]
 have s2:=s1.two (C:=ux (pre++(gL f' v'++post)) (m.set i f')) (aY.fm _ _) (aY.cg _ _) fun a b h1 h2=>by
  obtain⟨abm,v0,I,J,rW,e3',e4'⟩:=zZ h1 hf
  obtain⟨h3,h4⟩:=Ei J (by omega)
  subst h3
  have h5:post=I:=by
   have:=Ei h4 (by simp[gL])
   exact this.2
  subst h5
  exact e4' f' v' a b h2 (PM.le_refl _) (PM.le_refl _)
 refine kg.2 ⟨pre++(gL f' v'++post),?_⟩
 rw[bY]
 exact s2.ae [1]
theorem jr {pre row:List V}{a:Nat}(hp:pre.length=a)(I:nth row j=some x): nth (pre++(row++post)) (a+j)=some x:=by
 rw[gP] at I ⊢
 have J:=(List.getElem?_eq_some_iff.1 I).1
 rw[vO (by omega),show a+j-pre.length=j by omega,qP J,I]
theorem VQ {pre row:List V}{a:Nat}(J:pre.length=a)(I:j<row.length): (pre++(row++post)).set (a+j) x=pre++(row.set j x++post):=by
 rw[List.set_append_right _ _ (by omega),show a+j-pre.length=j by omega,List.set_append_left _ _ I]
theorem Sat.stM {a:Nat}{pre row:List V}(s:Sat h S)(hk:getA S k=some (pt id (.cells n (pre++(row++post)) false)))(hs:bJ P t=some 1)(hp:pre.length=a)(J:(pre++(row++post)).length=n)(hj:j<row.length)(hv:x.cells=[x])(I:storable x=true):
  ∃h₁,hG P h t (.ptr id (a+j)) x=some h₁∧Sat h₁ (setA S k (pt id (.cells n (pre++(row.set j x++post)) false))):=by
 have:=s.eX (P:=P) (t:=t) (off:=a+j) (v:=x) hk hs J (by rw[←J];simp;omega) hv I
 rwa [VQ hp hj] at this
theorem Sat.Uu {a:Nat}{pre row row':List V}(s:Sat h S)(hk:getA S k=some (pt id (.cells n (pre++(row++post)) false)))(hs:bJ P t=some row'.length)(hp:pre.length=a)(J:(pre++(row++post)).length=n)(hr:row'.length=row.length)(I:row'.all storable=true):
  ∃h₁,hG P h t (.ptr id a) (.agg row')=some h₁∧Sat h₁ (setA S k (pt id (.cells n (pre++(row'++post)) false))):=by
 have:=s.stN (P:=P) (t:=t) (off:=a) (l:=row') hk hs J (by rw[←J];simp;omega) I
 have e:(pre++(row++post)).take a++(row'++(pre++(row++post)).drop (a+row'.length))=pre++(row'++post):=by
  rw[m7 hp,vX,kK (by omega),eB,show a+row'.length-pre.length=row.length by omega,vY rfl]
 rwa [e] at this
theorem ldF {a:Nat}{pre row:List V}(s:Sat h S)(J:getA S k=some (pt id (.cells n (pre++(row++post)) false)))(ht:isAggT P t=some true)(hs:bJ P t=some row.length)(hp:pre.length=a)(I:(pre++(row++post)).length=n): loadV P h t (.ptr id a)=some (.agg row):=by
 rw[Uj ht hs (s.row J) I (by rw[←I];simp;omega),vY hp,m7 rfl]
end
abbrev aZ := Pl×LD
variable {ε:aZ}
def mg (π:Pl)(n:Int): Nat:=match lookL n π.bq with
 |some x=>x.1
 |none=>0
def outF (ε:aZ)(i:Nat): Int×aZ:=match ε.1.ai[i]? with
 |none=>(0,ε)
 |some f=>if f.aK<0∨f.changed=false then(0,ε) else if bW f.b=false then(4,ε) else
  if (aI ε.2 (cO f.b 4 8)).1≠0 then((aI ε.2 (cO f.b 4 8)).1,(ε.1,(aI ε.2 (cO f.b 4 8)).2)) else
  if ((aI ε.2 (cO f.b 4 8)).2.2.bw f.aK f.b).1≠0 then(((aI ε.2 (cO f.b 4 8)).2.2.bw f.aK f.b).1,(ε.1,((aI ε.2 (cO f.b 4 8)).2.1,((aI ε.2 (cO f.b 4 8)).2.2.bw f.aK f.b).2))) else
  (0,({ ε.1 with ai:=ε.1.ai.set i { f with changed:=false },bq:=cG f.aK (mg ε.1 f.aK,false) ε.1.bq },((aI ε.2 (cO f.b 4 8)).2.1,((aI ε.2 (cO f.b 4 8)).2.2.bw f.aK f.b).2)))
section
variable {told:dc} {p:Nat} {v:V}
theorem Ph (hT:W told)(s:Sat h (pt r (.cells 6 (qA p q c8 π.ai.length wh di π.hand) false)::fe c8 π.ai::Ih wh π.aG::Dv di π.bq::bS q p μ::aR p δ::S))(hi:π.ai[i]?=some f)(EV:μ.Ok)(ob:δ.Ok)(ua:f.b.length<1073741824)(hw:δ.waiting.length≤268435456):
  Call ⟨Tryz.prog,told⟩ 123 [.ptr r 0,.ptr c8 (i*5)] h fun v h'=>v=.int .i64 (outF (π,μ,δ) i).1 ∧
   Sat h' (pt r (.cells 6 (qA p q c8 (outF (π,μ,δ) i).2.1.ai.length wh di (outF (π,μ,δ) i).2.1.hand) false)::fe c8 (outF (π,μ,δ) i).2.1.ai::Ih wh (outF (π,μ,δ) i).2.1.aG::Dv di (outF (π,μ,δ) i).2.1.bq::bS q p (outF (π,μ,δ) i).2.2.1::aR p (outF (π,μ,δ) i).2.2.2::S):=by
 have s00:=s
 obtain⟨pre,fv,post,I,hlen,s⟩:=jG (s.ae [1]) hi
 have hfv:=(s.aH (k:=2) rfl (dF _ _))
 refine Call.of_wp (hT.free _ rfl) Tryz.func123 rfl rfl (zK 9 rfl (zf rfl (pZ _ _) (zl rfl (s.ld (k:=0) rfl cL (jr I rfl)) ?_)))
 refine zd rfl (az rfl rfl aN) ?_ ?_
 ·intro hq
  have hq:f.aK<0:=by simpa using hq
  have he:outF (π,μ,δ) i=(0,(π,μ,δ)):=by simp only[outF,hi];rw[aJ (.inl hq)]
  rw[he]
  exact zk 13 rfl (WP.ret ⟨aa,_,rfl,rfl,s00⟩)
 ·intro hq
  have hq:¬ f.aK<0:=by simpa using hq
  refine zk 3 rfl (zf rfl (EM _ _) (zl rfl (s.ld (k:=0) rfl jK (jr I rfl)) ?_))
  have OW:f.changed=false∨f.changed=true:=by cases f.changed<;>simp
  rcases OW with hc|hc
  ·have he:outF (π,μ,δ) i=(0,(π,μ,δ)):=by simp only[outF,hi];rw[aJ (.inr hc)]
   rw[he]
   refine zt rfl (dQ rfl rfl) (by rw[hc];rfl) ?_
   exact zk 7 rfl (WP.ret ⟨aa,_,rfl,rfl,s00⟩)
  ·have he:outF (π,μ,δ) i=(if bW f.b=false then(4,(π,μ,δ)) else
    if (aI (μ,δ) (cO f.b 4 8)).1≠0 then((aI (μ,δ) (cO f.b 4 8)).1,(π,(aI (μ,δ) (cO f.b 4 8)).2)) else
    if ((aI (μ,δ) (cO f.b 4 8)).2.2.bw f.aK f.b).1≠0 then(((aI (μ,δ) (cO f.b 4 8)).2.2.bw f.aK f.b).1,(π,((aI (μ,δ) (cO f.b 4 8)).2.1,((aI (μ,δ) (cO f.b 4 8)).2.2.bw f.aK f.b).2))) else
    (0,({ π with ai:=π.ai.set i { f with changed:=false },bq:=cG f.aK (mg π f.aK,false) π.bq },((aI (μ,δ) (cO f.b 4 8)).2.1,((aI (μ,δ) (cO f.b 4 8)).2.2.bw f.aK f.b).2)))):=by
    simp only[outF,hi];rw[ak (by rw[hc];simp;omega)]
   rw[he]
   refine zh rfl (dQ rfl rfl) (by rw[hc];rfl) ?_
   refine zk 8 rfl (zf rfl (Ba _ _) (zl rfl (s.ld (k:=0) rfl bP (jr I rfl)) (zc rfl (K7 hT (s.ae [2]) (dF _ _) (by omega)) ?_)))
   rintro w h ⟨s,(⟨hg,rfl⟩|⟨hg,rfl⟩)⟩
   ·dsimp only[bringA,getA,aL] at s
    rw[ak (by rw[hg];decide)]
    have R6:(aI (μ,δ) (cO f.b 4 8)).2.2.Ok:=oa ob
    have Ym:(aI (μ,δ) (cO f.b 4 8)).2.2.waiting.length≤268435456:=by rw[me];exact hw
    have J:=La (n:=cO f.b 4 8) hT (s.ae [6,6]) EV ob.aS
    generalize aI (μ,δ) (cO f.b 4 8)=x at J R6 Ym ⊢
    obtain⟨xe,xl,xd⟩:=x
    dsimp only at J R6 Ym ⊢
    refine zk 16 rfl (zC rfl aD (rfl) (zk 8 rfl (zY s 3 Vy EE rfl (zm rfl (zc rfl (J) ?_)))))
    rintro w h ⟨rfl,s⟩
    refine zk 5 rfl ?_
    by_cases hx:xe=0
    ·subst hx
     rw[ak (by decide)]
     refine zC rfl aD (rfl) ?_
     have u6:=fun(s:Sat h (aR p xd::.cg fv f.b::bS q p xl::pt c8 (.cells (π.ai.length*5) (pre++(gL f fv++post)) false)::ux (pre++(gL f fv++post)) π.ai::pt r (.cells 6 (qA p q c8 π.ai.length wh di π.hand) false)::Ih wh π.aG::Dv di π.bq::S))=>K_ (n:=f.aK) hT s (dF fv f.b) ua R6.aS Ym
     generalize xd.bw f.aK f.b=y at u6 ⊢
     obtain⟨ye,yd⟩:=y
     dsimp only at u6 ⊢
     have s:=s.ae [1,1,0]
     refine zk 5 rfl (WP.drawn [af,af,af,af,af,af,af,af,af,af,af,af,af,af] rfl (by kernel_rfl) (by kernel_rfl) ?_)
     refine zM rfl (zN rfl (zF rfl (wK _ _) (zL rfl (s.ld (k:=5) rfl o9 rfl) (zM rfl (zN rfl (zF rfl (pZ _ _) (zL rfl (s.ld (k:=3) rfl cL (jr I rfl)) (zM rfl (zN rfl (zF rfl (Ba _ _) (zL rfl (s.ld (k:=3) rfl bP (jr I rfl)) (ax.any rfl rfl rfl rfl (OpR.call rfl rfl rfl rfl (u6 s)) ?_))))))))))))
     rintro w h ⟨rfl,s⟩
     refine zA rfl ?_
     refine ax.nil ⟨⟨aa,aa,aa,aa,aa,aa,aa,aa,aa,aa,aa,aa,aa,aa,aa⟩,?_⟩
     refine zK 3 rfl ?_
     by_cases hy:ye=0
     ·subst hy
      rw[ak (by decide)]
      refine zC rfl aD (rfl) (zk 7 rfl (zf rfl (EM _ _) (zS rfl (s.stM (k:=3) (j:=4) rfl ox I hlen (by simp[gL]) rfl rfl) ?_)))
      intro h s
      have e5:(gL f fv).set 4 (.bool false)=gL { f with changed:=false } fv:=rfl
      rw[e5] at s
      have s:=s.ae [7,3,4]
      refine zk 2 rfl (WP.drawn [af,af,af,af,af,af,af,af,af,af,af,af,af,af,af,af,af,af,af,af] rfl (by kernel_rfl) (by kernel_rfl) ?_)
      refine zM rfl (zN rfl (zF rfl (q_ _ _) (zL rfl (s.ld (k:=2) rfl xA rfl) (zM rfl (zN rfl (zF rfl (pZ _ _) (zL rfl (s.ld (k:=1) rfl cL (jr I rfl)) (zM rfl (zN rfl (zF rfl (q_ _ _) (zL rfl (s.ld (k:=2) rfl xA rfl) (zM rfl (zN rfl (zF rfl (pZ _ _) (zL rfl (s.ld (k:=1) rfl cL (jr I rfl)) ?_)))))))))))))))
      have MN:∃b,fN Tryz.prog h 187 di (.int .i64 f.aK) false=some (.agg [.int .u64 (mg π f.aK:Nat),.bool b]):=by
       rcases mC (f:=fun v (x:Nat×Bool)=>.pu (v=.agg [.int .u64 (x.1:Int),.bool x.2])) (n:=f.aK) (fun _ _=>aY.pu _) s uq bF xB with⟨g1,_,g3⟩|⟨u,x,g1,_,g3,s'⟩
       ·exact⟨false,by rw[g3];simp only[mg,g1];rfl⟩
       ·obtain⟨rfl,_⟩:=eR.1 s'
        exact⟨x.2,by rw[g3];simp only[mg,g1]⟩
      obtain⟨lb,MN⟩:=MN
      refine zO rfl (iC rfl rfl MN) (zO rfl (Z1 rfl (Z3 (Vz _) rfl)) (zO rfl (dn rfl (by rw[aac];rfl)) ?_))
      refine ax.iB rfl rfl rfl (OpR.mapUpdate rfl rfl rfl rfl (pn (f:=fun v (x:Nat×Bool)=>.pu (v=.agg [.int .u64 (x.1:Int),.bool x.2])) (x:=(mg π f.aK,false)) (fun _ _=>aY.pu _) (s.gM rfl) uq bF)) ?_
      intro w h s
      refine ax.nil ⟨⟨aa,aa,aa,aa,aa,aa,aa,aa,aa,aa,aa,aa,aa,aa,aa,aa,aa,aa,aa,aa,aa⟩,?_⟩
      refine zK 4 rfl (WP.ret ⟨aa,_,rfl,?_⟩)
      refine⟨rfl,?_⟩
      have s:=gW (i:=i) (f':={ f with changed:=false }) (s.ae [1,5,3]) rfl hi I
      have e6:(π.ai.set i { f with changed:=false }).length=π.ai.length:=bY
      rw[e6]
      exact s.ae [2,0,3,0,1,0]
     ·rw[aJ hy]
      refine zB rfl aD (by simp;exact hy) ?_
      refine zk 7 rfl (WP.ret ⟨aa,_,rfl,?_⟩)
      refine⟨rfl,?_⟩
      have s:=kg.2 ⟨_,s.ae [3,3]⟩
      exact(s.del 2).ae [3,0,2,2,1,0]
    ·rw[aJ hx]
     refine zB rfl aD (by simp;exact hx) ?_
     refine zk 7 rfl (WP.ret ⟨aa,_,rfl,?_⟩)
     refine⟨rfl,?_⟩
     have s:=kg.2 ⟨_,s.ae [3,3]⟩
     exact(s.del 3).ae [3,0,2,2,0,0]
   ·dsimp only[bringA,getA,aL] at s
    rw[aJ hg]
    refine zk 16 rfl (zB rfl aD (rfl) (zk 7 rfl (WP.ret ⟨aa,_,rfl,?_⟩)))
    refine⟨rfl,?_⟩
    have s:=kg.2 ⟨_,s.ae [1,1]⟩
    exact(s.del 1).ae [1,0]
end
structure fT (π bN:Pl): Prop where
 aG:bN.aG=π.aG
 bq:bN.bq=π.bq
 len:bN.ai.length=π.ai.length
 get:∀(i:Nat) (f:Fm),π.ai[i]?=some f→∃t,bN.ai[i]?=some { f with gh:=t }
theorem fT.refl (π:Pl): fT π π:=⟨rfl,rfl,rfl,fun _ f h=>⟨f.gh,h⟩⟩
theorem fT.trans {bN I:Pl}(a:fT π bN)(b:fT bN I): fT π I:=by
 refine⟨b.aG.trans a.aG,b.bq.trans a.bq,b.len.trans a.len,fun i f h => ?_⟩
 obtain⟨t,ht⟩:=a.get i f h
 obtain⟨t',J⟩:=b.get i _ ht
 exact⟨t',J⟩
theorem fT.hand : fT π { π with hand:=n }:=⟨rfl,rfl,rfl,fun _ f h=>⟨f.gh,h⟩⟩
theorem fT.VR (hi:π.ai[i]?=some f): fT π { π with ai:=π.ai.set i { f with gh:=false } }:=by
 refine⟨rfl,rfl,bY,fun j g I => ?_⟩
 by_cases h:i=j
 ·subst h
  rw[hi] at I
  have:=cx I
  subst this
  have J:=(List.getElem?_eq_some_iff.1 hi).1
  exact⟨false,by simp[Eb,J]⟩
 ·exact⟨g.gh,by simp only[Eb,ak h];exact I⟩
theorem Ce {x:Operand}{a b:Nat}(I:0<b): binV P h .rem t x y (.int .i64 (a:Int)) (.int .i64 (b:Int))=some (.int .i64 ((a%b:Nat):Int)):=by
 simp only[binV,ikBeq,aj,intV]
 have:intBeq (b:Int) 0=false:=by rw[kY];simp;omega
 rw[this,a_,Int.tmod_eq_emod_of_nonneg (by omega)]
 rfl
section
variable {told:dc} {p:Nat} {v:V} {m:List Fm}
theorem mI (hi:i<n): indexAddrV Tryz.prog 185 (.sl c8 0 n (.exact n)) (.int .i64 (i:Int))=some (.ptr c8 (i*5)):=by
 rw[Z9,show(decide ((0:Int)≤(i:Int))&&decide ((i:Int)<(n:Int)))=true by simp;omega,aj]
 simp
theorem JX (I:W told)(s:Sat h S)(hv:storable v=true): Call ⟨Tryz.prog,told⟩ 169 [.agg (gL f v)] h fun w h'=>w=.bool (decide (f.pins=0))∧Sat h' S:=by
 refine Call.of_wp (I.free _ rfl) Tryz.func169 rfl rfl (zg rfl (ay.b8 s rfl rfl rfl (fg rfl (by simp only[V.cells,gL,gJ,ki,hv];rfl)) ?_))
 intro p1 h s
 dsimp only[V.cells,gL] at s
 exact zk 4 rfl (zY s 0 rj cL rfl (zb rfl dG (zk 2 rfl (WP.ret ⟨aa,_,rfl,rfl,s.drop⟩))))
theorem R7 (hT:W told)(s:Sat h (fe c8 m::S))(h0:m[0]?=some f)(hp:f.pins=0): Call ⟨Tryz.prog,told⟩ 190 [.sl c8 0 m.length (.exact m.length),.fn (.func 169) [] []] h fun w h'=>w=.int .i64 0∧Sat h' (fe c8 m::S):=by
 have hl:=(List.getElem?_eq_some_iff.1 h0).1
 obtain⟨pre,fv,post,I,hlen,s⟩:=jG s h0
 have J:=(s.aH (k:=2) rfl (dF _ _)).cells.2
 refine Call.of_wp (hT.free _ rfl) Tryz.func190 rfl rfl (zK 8 rfl (zo rfl (aP rfl rfl rfl (p_ rfl zP)) (zk 2 rfl (WP.block (WP.loop (zg rfl (zB rfl aN (by simp;omega) ?_)))))))
 refine zk 5 rfl (WP.block (zK 10 rfl (zo rfl (cj rfl rfl (mI (i:=0) hl)) (zl rfl (ldF s (k:=0) rfl aaa Db I hlen) (zc rfl (JX hT s J) ?_)))))
 rintro w h ⟨rfl,s⟩
 rw[fL hp]
 exact zk 7 rfl (WP.ret ⟨aa,_,rfl,rfl,(kg.2 ⟨_,s⟩).del 1⟩)
theorem JY (I:W told)(s:Sat h (fe c8 m::S))(J:m[0]?=some f)(hp:f.pins=0): Call ⟨Tryz.prog,told⟩ 168 [.sl c8 0 m.length (.exact m.length),.fn (.func 169) [] []] h fun w h'=>w=.bool true∧Sat h' (fe c8 m::S):=by
 refine Call.of_wp (I.free _ rfl) Tryz.func168 rfl rfl (zK 8 rfl (zc rfl (R7 I s J hp) ?_))
 rintro w h ⟨rfl,s⟩
 refine zB rfl jJ (by decide) ?_
 exact zk 2 rfl (WP.ret ⟨aa,_,rfl,rfl,s⟩)
noncomputable def fdA : Code:=cD [1,0,0,1,0,0] ((Tryz.f122.body).getD .skip)
noncomputable def Yn : Code:=cD [1,0,1,1,1,0,0] ((Tryz.f122.body).getD .skip)
theorem JZ {hand:Nat}: ∀(j i:Nat) (h:H) (E:List (Nat×V)) (Q:Ex→List (Nat×V)→H→Prop),i+j=m.length→m.length<4294967296 →
  Sat h (pt r (.cells 6 (qA p q c8 m.length wh di hand) false)::fe c8 m::S)→Has E [(0,.ptr r 0),(10,.int .i64 m.length),(11,.int .i64 i)] →
  (∀E' (i:Nat) (f:Fm),m[i]?=some f→f.aK<0→look E' 2=some (.int .i64 (i:Int))→Q .ret E' h) →
  (∀E',Has E' [(0,.ptr r 0)]→Q (.exit 0) E' h)→WP ⟨Tryz.prog,told⟩ 70 (.loop fdA) E h Q:=by
 intro j
 induction j with
 |zero =>
  intro i h E Q hi hm s hE hr hx
  refine WP.loop (WP.has hE (zg rfl (zC rfl aN (by simp;omega) ?_)))
  exact zk 3 rfl (WP.exit (hx _ ⟨rfl,aa⟩))
 |succ j ih =>
  intro i h E Q hi hm s hE hr hx
  have hc:m[i]?=some (m[i]'(by omega)):=bA _
  generalize (m[i]'(by omega))=f at hc
  obtain⟨pre,fv,post,I,hlen,s'⟩:=jG (s.ae [1]) hc
  refine WP.loop (WP.has hE (zg rfl (zB rfl aN (by simp;omega) ?_)))
  refine zk 5 rfl (WP.block (zK 9 rfl (zY s 0 kP oW rfl (zm rfl (zo rfl (cj rfl rfl (mI (i:=i) (by omega))) ?_)))))
  refine zf rfl (pZ _ _) (zl rfl (s'.ld (k:=0) rfl cL (jr I rfl)) ?_)
  refine zd rfl (az rfl rfl aN) ?_ ?_
  ·intro J
   have J:f.aK<0:=by simpa using J
   exact zk 7 rfl (WP.ret (hr _ i f hc J rfl))
  ·intro J
   refine zv (zj rfl (WP.skip (zr rfl (zb rfl (by exact bx (aA (by omega) (by omega))) ?_))))
   refine zm rfl (zv ?_)
   exact ih (i+1) h _ Q (by omega) hm s ⟨rfl,rfl,rfl,aa⟩ hr hx
def rA (m:List Fm): Nat:=(m.filter fun f=>f.gh).length
theorem BO : ∀ {m:List Fm} {i:Nat},m[i]?=some f→f.gh=true→rA (m.set i { f with gh:=false })+1=rA m:=by
 intro m
 induction m with
 |nil=>intro i h;simp at h
 |cons g m J =>
  intro i h I
  cases i with
  |zero=>simp at h;subst h;simp[rA,I]
  |succ i =>
   rw[mX] at h
   have:=J h I
   simp only[rA,List.set_cons_succ,Ed] at this ⊢
   split<;>(try simp only[aX])<;>omega
theorem Dw (hf:π.ai[π.hand]?=some f)(hm:π.ai.length<4294967296)(hp:f.pins=0)
 (s:Sat h (pt r (.cells 6 (qA p q c8 π.ai.length wh di π.hand) false)::fe c8 π.ai::S))(hE:Has E [(0,.ptr r 0)])
 (hr:f.gh=false→∀E' h',look E' 2=some (.int .i64 (π.hand:Int))→Sat h' (pt r (.cells 6 (qA p q c8 π.ai.length wh di ((π.hand+1)%π.ai.length)) false)::fe c8 π.ai::S)→Q .ret E' h')
 (hx:f.gh=true→∀E' h',Has E' [(0,.ptr r 0)]→Sat h' (pt r (.cells 6 (qA p q c8 (π.ai.set π.hand { f with gh:=false }).length wh di ((π.hand+1)%π.ai.length)) false)::fe c8 (π.ai.set π.hand { f with gh:=false })::S)→WP ⟨Tryz.prog,told⟩ 70 (.loop Yn) E' h' Q):
  WP ⟨Tryz.prog,told⟩ 70 (.loop Yn) E h Q:=by
 have hl:=(List.getElem?_eq_some_iff.1 hf).1
 refine WP.loop (WP.has hE (WP.block (zK 4 rfl (zY s 0 EJ cL rfl (zk 6 rfl (zY s 0 kP oW rfl (zm rfl (zo rfl (cj rfl rfl (mI (i:=π.hand) hl)) (zk 3 rfl (WP.drawn [af,af,af,af,af,af,af,af,af,af,af,af,af,af,af] rfl (by kernel_rfl) (by kernel_rfl) ?_))))))))))
 refine zM rfl (zM rfl (zN rfl (zF rfl (EJ _ _) (zL rfl (s.ld (k:=0) rfl cL rfl) (zO rfl (az rfl rfl (by exact bx (aA (by omega) (by omega)))) ?_)))))
 refine zM rfl (zN rfl (zF rfl (kP _ _) (zL rfl (s.ld (k:=0) rfl oW rfl) (zO rfl (aP rfl rfl rfl (p_ rfl zP)) (zO rfl (az rfl rfl (Ce (a:=π.hand+1) (by omega))) ?_)))))
 refine zN rfl (zF rfl (EJ _ _) (ax.iB rfl rfl rfl (OpR.eu rfl rfl rfl (s.eX (k:=0) rfl ke rfl (by decide) rfl rfl)) ?_))
 rintro v h ⟨rfl,s⟩
 have s:Sat h (pt r (.cells 6 (qA p q c8 π.ai.length wh di ((π.hand+1)%π.ai.length)) false)::fe c8 π.ai::S):=s
 refine ax.nil ⟨⟨aa,aa,aa,aa,aa,aa,aa,aa,aa,aa,aa,aa,aa,aa,aa,aa⟩,?_⟩
 obtain⟨pre,fv,post,I,hlen,s⟩:=jG (s.ae [1]) hf
 refine zw (WP.block (zK 4 rfl (zf rfl (rj _ _) (zl rfl (s.ld (k:=0) rfl cL (jr I rfl)) (zC rfl gT (by rw[hp];decide) ?_)))))
 refine zk 7 rfl (zf rfl (EK _ _) (zl rfl (s.ld (k:=0) rfl jK (jr I rfl)) (zk 2 rfl ?_)))
 have Lb:f.gh=false∨f.gh=true:=by cases f.gh<;>simp
 rcases Lb with J|J
 ·refine WP.T_ rfl (J) ?_
  refine zK 5 rfl (WP.ret (hr J _ _ rfl ?_))
  have s:=kg.2 ⟨_,s.ae [0,0]⟩
  exact(s.del 1).ae [1,0]
 ·skip
  refine WP.Mt rfl (J) (zK 3 rfl (zf rfl (EK _ _) (zS rfl (s.stM (k:=0) (j:=3) rfl ox I hlen (by simp[gL]) rfl rfl) ?_)))
  intro h s
  have e5:(gL f fv).set 3 (.bool false)=gL { f with gh:=false } fv:=rfl
  rw[e5] at s
  refine zv (WP.exit (hx J _ _ ⟨rfl,aa⟩ ?_))
  have s:=gW (i:=π.hand) (f':={ f with gh:=false }) s rfl hf I
  rw[bY]
  exact s.ae [1,0]
theorem J0 : ∀(fuel:Nat) (π:Pl) (h:H) (E:List (Nat×V)) (Q:Ex→List (Nat×V)→H→Prop),rA π.ai≤fuel→π.hand<π.ai.length→π.ai.length<4294967296→(∀f∈π.ai,f.pins=0) →
  Sat h (pt r (.cells 6 (qA p q c8 π.ai.length wh di π.hand) false)::fe c8 π.ai::S)→Has E [(0,.ptr r 0)] →
  (∀E' h' (i:Nat) (bN:Pl) (f:Fm),fT π bN→bN.ai[i]?=some f→bN.hand<bN.ai.length→look E' 2=some (.int .i64 (i:Int))→Sat h' (pt r (.cells 6 (qA p q c8 bN.ai.length wh di bN.hand) false)::fe c8 bN.ai::S)→Q .ret E' h') →
  WP ⟨Tryz.prog,told⟩ 70 (.loop Yn) E h Q:=by
 intro fuel
 induction fuel with
 |zero =>
  intro π h E Q ht J hm hp s hE hr
  have I:π.ai[π.hand]?=some (π.ai[π.hand]'J):=bA _
  generalize (π.ai[π.hand]'J)=f at I
  refine Dw I hm (hp f (bI I)) s hE (fun h1 E' h' h2 s' => ?_) (fun h1 => ?_)
  ·exact hr E' h' π.hand { π with hand:=(π.hand+1)%π.ai.length } f fT.hand I (AT _ (by omega)) h2 s'
  ·have:=BO I h1
   omega
 |succ fuel ih =>
  intro π h E Q ht J hm hp s hE hr
  have I:π.ai[π.hand]?=some (π.ai[π.hand]'J):=bA _
  generalize (π.ai[π.hand]'J)=f at I
  refine Dw I hm (hp f (bI I)) s hE (fun h1 E' h' h2 s' => ?_) (fun h1 E' h' jf s' => ?_)
  ·exact hr E' h' π.hand { π with hand:=(π.hand+1)%π.ai.length } f fT.hand I (AT _ (by omega)) h2 s'
  ·have uS:=BO I h1
   have hn:fT π { π with ai:=π.ai.set π.hand { f with gh:=false },hand:=(π.hand+1)%π.ai.length }:=(fT.VR I).trans fT.hand
   refine ih { π with ai:=π.ai.set π.hand { f with gh:=false },hand:=(π.hand+1)%π.ai.length } h' E' Q (by show rA (π.ai.set π.hand { f with gh:=false })≤fuel;omega) ?_ (by simp only[bY];exact hm) (fun g hg => ?_) s' jf (fun E2 h2 i bN g W7 hg Uv hl s2=>hr E2 h2 i bN g (hn.trans W7) hg Uv hl s2)
   ·simp only[bY];exact AT _ (by omega)
   ·rcases mV hg with hg|rfl
    ·exact hp g hg
    ·exact hp f (bI I)
theorem R8 (hT:W told)(s:Sat h (pt r (.cells 6 (qA p q c8 π.ai.length wh di π.hand) false)::fe c8 π.ai::S))(hh:π.hand<π.ai.length)(hm:π.ai.length<4294967296)(hp:∀f∈π.ai,f.pins=0):
  Call ⟨Tryz.prog,told⟩ 122 [.ptr r 0] h fun v h'=>∃(i:Nat) (bN:Pl) (f:Fm),v=.int .i64 (i:Int)∧fT π bN∧bN.ai[i]?=some f∧bN.hand<bN.ai.length ∧
   Sat h' (pt r (.cells 6 (qA p q c8 bN.ai.length wh di bN.hand) false)::fe c8 bN.ai::S):=by
 have I:π.ai[0]?=some (π.ai[0]'(by omega)):=bA _
 generalize (π.ai[0]'(by omega))=f0 at I
 have s0:=s
 refine Call.of_wp (hT.free _ rfl) Tryz.func122 rfl rfl (zK 4 rfl (WP.scope (zK 5 rfl (zY s 0 kP oW rfl (zo rfl (aP rfl rfl rfl (p_ rfl zP)) (zk 2 rfl (WP.block ?_)))))))
 refine JZ π.ai.length 0 _ _ _ (by omega) hm s ⟨rfl,rfl,rfl,aa⟩ (fun E' i f J _ h2 => ?_) (fun E' jf => ?_)
 ·exact⟨aa,_,qx h2,i,π,f,rfl,fT.refl π,J,hh,s⟩
 ·skip
  refine WP.has jf (zK 5 rfl (zY s 0 kP oW rfl (zc rfl (JY hT (s.ae [1]) I (hp f0 (bI I))) ?_)))
  rintro w h ⟨rfl,s⟩
  refine zo rfl (dQ rfl rfl) (zk 4 rfl (WP.label (WP.block ?_)))
  refine J0 (rA π.ai) π _ _ _ (aU _) hh hm hp (s.ae [1,0]) ⟨rfl,aa⟩ (fun E' h' i bN f hn J Uv h2 s' => ?_)
  exact⟨aa,_,qx h2,i,bN,f,rfl,hn,J,Uv,s'⟩
end
structure Pl.Ok (π:Pl): Prop where
 hand:π.hand<π.ai.length
 many:π.ai.length≤1024
 aG:∀e∈π.aG,0≤e.2∧e.2<π.ai.length
 len:∀f∈π.ai,f.b.length≤512
 pins:∀f∈π.ai,0≤f.pins∧f.pins≤4294967296
theorem Pl.Ok.at (h:π.Ok){n i:Int}(I:lookL n π.aG=some i): ∃(k:Nat) (f:Fm),i=k∧π.ai[k]?=some f:=by
 have J:=h.aG _ (fI I)
 exact⟨i.toNat,π.ai[i.toNat]'(by omega),by omega,bA _⟩
def heldI (π:Pl)(n:Int): Option Nat:=match lookL n π.aG with
 |none=>none
 |some i=>match π.ai[i.toNat]? with
  |none=>none
  |some f=>if f.pins=0 then none else some i.toNat
def unpinF (π:Pl)(n:Int): Int×Pl:=match heldI π n with
 |none=>(18,π)
 |some i=>match π.ai[i]? with
  |none=>(18,π)
  |some f=>(0,{ π with ai:=π.ai.set i { f with pins:=f.pins-1 } })
def dirtOf (π:Pl)(n:Int)(aM:Nat): Nat:=match lookL n π.bq with
 |some x=>x.1
 |none=>aM
def lH (π:Pl)(n:Int)(b:List Nat)(aM:Nat): Int×Pl:=match heldI π n with
 |none=>(18,π)
 |some i=>match π.ai[i]? with
  |none=>(18,π)
  |some f=>if bW b=false then(4,π) else(0,{ π with ai:=π.ai.set i { f with b:=cT b aM,changed:=true },bq:=cG n (dirtOf π n aM,true) π.bq })
def eY (ε:aZ)(n:Int): Int×aZ:=match lookL n ε.1.aG with
 |none=>(18,ε)
 |some i=>outF ε i.toNat
section
variable {told:dc} {p:Nat} {v:V} {m:List Fm}
theorem EW {n:Int}{j:Nat}(s:Sat h (Ih wh π.aG::S)): (lookL n π.aG=none∧fN Tryz.prog h 186 wh (.int .i64 n) true=some (.bf [.int .i64 0,.bool false])) ∨
  ∃i,lookL n π.aG=some i∧fN Tryz.prog h 186 wh (.int .i64 n) true=some (.bf [.int .i64 i,.bool true]):=by
 grind[mC,aY.pu,Tryz.underlying186,Tryz.underlying3,C8,eR]
theorem Lc {n:Int}(s:Sat h (Dv di π.bq::S)): (lookL n π.bq=none∧fN Tryz.prog h 187 di (.int .i64 n) true=some (.bf [.agg [.int .u64 0,.bool false],.bool false])∧fN Tryz.prog h 187 di (.int .i64 n) false=some (.agg [.int .u64 0,.bool false])) ∨
  ∃x,lookL n π.bq=some x∧fN Tryz.prog h 187 di (.int .i64 n) true=some (.bf [.agg [.int .u64 (x.1:Int),.bool x.2],.bool true])∧fN Tryz.prog h 187 di (.int .i64 n) false=some (.agg [.int .u64 (x.1:Int),.bool x.2]):=by
 grind[mC,aY.pu,Tryz.underlying187,Tryz.underlying3,xB,eR]
theorem Ld (hT:W told){n:Int}(s:Sat h (pt r (.cells 6 (qA p q c8 π.ai.length wh di π.hand) false)::fe c8 π.ai::Ih wh π.aG::S))(J:π.Ok):
  Call ⟨Tryz.prog,told⟩ 126 [.ptr r 0,.int .i64 n] h fun v h'=>h'=h∧((heldI π n=none∧v=.bf [.cy,.int .i64 18])∨∃(i:Nat) (f:Fm),heldI π n=some i∧π.ai[i]?=some f∧v=.bf [.ptr c8 (i*5),.int .i64 0]):=by
 refine Call.of_wp (hT.free _ rfl) Tryz.func126 rfl rfl (zK 9 rfl (zY s 0 qZ xz rfl (zm rfl ?_)))
 rcases EW (n:=n) (j:=0) (s.ae [2]) with⟨g1,g2⟩|⟨i,g1,g2⟩
 ·refine ay.op rfl rfl rfl (iC rfl rfl g2) ?_
  exact zk 10 rfl (zt rfl (dQ rfl rfl) (rfl) (zk 18 rfl (WP.ret ⟨aa,_,rfl,rfl,.inl ⟨by simp only[heldI,g1],rfl⟩⟩)))
 ·obtain⟨i,f,rfl,hf⟩:=J.at g1
  have hl:=(List.getElem?_eq_some_iff.1 hf).1
  have hh:heldI π n=if f.pins=0 then none else some i:=by grind[heldI]
  obtain⟨pre,fv,post,I,hlen,s'⟩:=jG (s.ae [1]) hf
  refine zo rfl (iC rfl rfl g2) (zk 10 rfl (zh rfl (dQ rfl rfl) (rfl) (zk 3 rfl (zY s 0 kP oW rfl (zm rfl (zo rfl (cj rfl rfl (mI (i:=i) hl)) (zf rfl (rj _ _) (zl rfl (s'.ld (k:=0) rfl cL (jr I rfl)) ?_))))))))
  refine zd rfl (az rfl rfl dG) ?_ ?_
  ·intro hq
   have hq:f.pins=0:=by grind
   exact zk 8 rfl (WP.ret ⟨aa,_,rfl,rfl,.inl ⟨by grind,rfl⟩⟩)
  ·intro hq
   have hq:f.pins≠0:=by grind
   exact zk 8 rfl (zY s 0 kP oW rfl (zm rfl (zo rfl (cj rfl rfl (mI (i:=i) hl)) (zk 3 rfl (WP.ret ⟨aa,_,rfl,rfl,.inr ⟨i,f,by grind,hf,rfl⟩⟩)))))
theorem Ii (hT:W told){n:Int}(s:Sat h (dK r p q π::S))(J:π.Ok):
  Call ⟨Tryz.prog,told⟩ 65 [.ptr r 0,.int .i64 n] h fun v h'=>v=.int .i64 (unpinF π n).1∧Sat h' (dK r p q (unpinF π n).2::S):=by
 have s0:=s
 obtain⟨c8,wh,di,s⟩:=dV.1 s
 refine Call.of_wp (hT.free _ rfl) Tryz.func65 rfl rfl (zK 8 rfl (zc rfl (Ld (n:=n) hT s J) ?_))
 rintro v h' ⟨rfl,(⟨hh,rfl⟩|⟨i,f,hh,hf,rfl⟩)⟩
 ·have he:unpinF π n=(18,π):=by simp only[unpinF,hh]
  rw[he]
  exact zk 10 rfl (zB rfl aD (rfl) (zk 7 rfl (WP.ret ⟨aa,_,rfl,rfl,s0⟩)))
 ·have he:unpinF π n=(0,{ π with ai:=π.ai.set i { f with pins:=f.pins-1 } }):=by simp only[unpinF,hh,hf]
  rw[he]
  obtain⟨pre,fv,post,I,hlen,s⟩:=jG (s.ae [1]) hf
  have R9:=J.pins f (bI hf)
  refine zk 10 rfl (zC rfl aD (rfl) (zk 7 rfl (zf rfl (rj _ _) (zl rfl (s.ld (k:=0) rfl cL (jr I rfl)) (zb rfl (by exact iX (aA (by omega) (by omega))) ?_)))))
  refine zn rfl (zf rfl (rj _ _) (zS rfl (s.stM (k:=0) (j:=2) rfl ke I hlen (by simp[gL]) rfl rfl) ?_))
  intro h s
  have e5:(gL f fv).set 2 (.int .i64 (f.pins-1))=gL { f with pins:=f.pins-1 } fv:=rfl
  rw[e5] at s
  refine zk 5 rfl (WP.ret ⟨aa,_,rfl,?_⟩)
  refine⟨rfl,dV.2 ⟨c8,wh,di,?_⟩⟩
  have s:=gW (i:=i) (f':={ f with pins:=f.pins-1 }) s rfl hf I
  rw[bY]
  exact s.ae [1,0]
theorem VS (hT:W told){n:Int}(s:Sat h (dK r p q π::X::S))(hX:cQ X (cW bv b))(R_:π.Ok)(hb:b.length<9223372036854775808):
  Call ⟨Tryz.prog,told⟩ 64 [.ptr r 0,.int .i64 n,bv,.int .u64 (aM:Int)] h fun v h'=>v=.int .i64 (lH π n b aM).1∧Sat h' (dK r p q (lH π n b aM).2::X::S):=by
 have s0:=s
 obtain⟨c8,wh,di,s⟩:=dV.1 s
 refine Call.of_wp (hT.free _ rfl) Tryz.func64 rfl rfl (zK 8 rfl (zc rfl (Ld (n:=n) hT s R_) ?_))
 rintro v h' ⟨rfl,(⟨hh,rfl⟩|⟨i,f,hh,hf,rfl⟩)⟩
 ·have he:lH π n b aM=(18,π):=by simp only[lH,hh]
  rw[he]
  exact zk 10 rfl (zB rfl aD (rfl) (zk 7 rfl (WP.ret ⟨aa,_,rfl,rfl,s0⟩)))
 ·have he:lH π n b aM=(if bW b=false then(4,π) else(0,{ π with ai:=π.ai.set i { f with b:=cT b aM,changed:=true },bq:=cG n (dirtOf π n aM,true) π.bq })):=by simp only[lH,hh,hf]
  rw[he]
  refine zk 10 rfl (zC rfl aD (rfl) (zk 7 rfl (zc rfl (K6 (n:=aM) hT (s.ae [4]) hX hb) ?_)))
  rintro v h (⟨hg,u,rfl,s⟩|⟨hg,rfl,s⟩)
  ·rw[ak (by grind)]
   have mR:(cT b aM).length=512:=by
    grind[xI,eC,cT,cJ,cR]
   obtain⟨J,_,cap,_,rfl,_⟩:=s.fZ (by omega)
   have s:=s.gC
   obtain⟨pre,fv,post,I,hlen,s⟩:=jG (s.ae [3]) hf
   refine zk 10 rfl (zC rfl aD (rfl) (zk 9 rfl (zf rfl (Ba _ _) (zS rfl (s.stM (k:=0) (j:=1) rfl ij I hlen (by simp[gL]) rfl rfl) ?_))))
   intro h s
   refine zn rfl (zf rfl (EM _ _) (zS rfl (s.stM (k:=0) (j:=4) rfl ox I (by grind) (by simp[gL]) rfl rfl) ?_))
   intro h s
   have e5:((gL f fv).set 1 (.sl J 0 (cT b aM).length cap)).set 4 (.bool true)=gL { f with b:=cT b aM,changed:=true } (.sl J 0 (cT b aM).length cap):=rfl
   rw[e5] at s
   have s:=gW (i:=i) (f':={ f with b:=cT b aM,changed:=true }) (s.ae [0,0,1]) rfl hf I
   have s:=s.ae [3,4,0]
   refine zk 5 rfl (zY s 0 q_ xA rfl (zm rfl ?_))
   rcases Lc (n:=n) (s.ae [1]) with⟨g1,g2,_⟩|⟨x,g1,g2,_⟩
   ·refine ay.op rfl rfl rfl (iC rfl rfl g2) ?_
    refine zk 3 rfl ?_
    refine ay.b8 s rfl rfl rfl (bU xB) (fun Yo h s => ?_)
    refine zS rfl (s.ep (j:=0) rfl u5 rfl rfl) (fun h s => ?_)
    refine zk 6 rfl (zo rfl (dQ rfl rfl) (zk 4 rfl (zf rfl (EN _ _) ?_)))
    refine zS rfl (by exact s.eX (k:=0) rfl vD rfl (by decide) rfl rfl) (fun h s => ?_)
    refine zk 3 rfl (zf rfl (EO _ _) ?_)
    refine zS rfl (by exact s.eX (k:=0) rfl ox rfl (by decide) rfl rfl) (fun h s => ?_)
    refine zk 2 rfl (WP.drawn [af,af,af,af,af,af,af] rfl (by kernel_rfl) (by kernel_rfl) ?_)
    refine zM rfl (zN rfl (zF rfl (q_ _ _) (zL rfl (s.ld (k:=1) rfl xA rfl) (zM rfl (zL rfl (s.bZ (k:=0) rfl Mx u5) (ax.iB rfl rfl rfl (OpR.mapUpdate rfl rfl rfl rfl (pn (f:=fun v (x:Nat×Bool)=>.pu (v=.agg [.int .u64 (x.1:Int),.bool x.2])) (x:=(aM,true)) (fun _ _=>aY.pu _) ((s.ae [2]).gM rfl) uq bF)) ?_))))))
    intro w h s
    refine ax.nil ⟨⟨aa,aa,aa,aa,aa,aa,aa,aa⟩,?_⟩
    refine zK 4 rfl (WP.ret ⟨aa,_,rfl,?_⟩)
    have ed:dirtOf π n aM=aM:=by simp only[dirtOf,g1]
    rw[ed]
    refine⟨rfl,dV.2 ⟨c8,wh,di,?_⟩⟩
    have e6:(π.ai.set i { f with b:=cT b aM,changed:=true }).length=π.ai.length:=bY
    show Sat h (pt r (.cells 6 (qA p q c8 (π.ai.set i { f with b:=cT b aM,changed:=true }).length wh di π.hand) false)::_)
    rw[e6]
    exact((s.ae [2,2,4,0,2]).del 6).del 5
   ·skip
    refine zo rfl (iC rfl rfl g2) (zk 3 rfl ?_)
    refine ay.b8 s rfl rfl rfl (bU xB) (fun Yo h s => ?_)
    refine zS rfl (s.ep (j:=0) rfl u5 rfl rfl) (fun h s => ?_)
    refine zk 6 rfl (zo rfl (dQ rfl rfl) (zk 5 rfl (zf rfl (EO _ _) ?_)))
    refine zS rfl (by exact s.eX (k:=0) rfl ox rfl (by decide) rfl rfl) (fun h s => ?_)
    refine zk 2 rfl (WP.drawn [af,af,af,af,af,af,af] rfl (by kernel_rfl) (by kernel_rfl) ?_)
    refine zM rfl (zN rfl (zF rfl (q_ _ _) (zL rfl (s.ld (k:=1) rfl xA rfl) (zM rfl (zL rfl (s.bZ (k:=0) rfl Mx u5) (ax.iB rfl rfl rfl (OpR.mapUpdate rfl rfl rfl rfl (pn (f:=fun v (x:Nat×Bool)=>.pu (v=.agg [.int .u64 (x.1:Int),.bool x.2])) (x:=(x.1,true)) (fun _ _=>aY.pu _) ((s.ae [2]).gM rfl) uq bF)) ?_))))))
    intro w h s
    refine ax.nil ⟨⟨aa,aa,aa,aa,aa,aa,aa,aa⟩,?_⟩
    refine zK 4 rfl (WP.ret ⟨aa,_,rfl,?_⟩)
    have ed:dirtOf π n aM=x.1:=by simp only[dirtOf,g1]
    rw[ed]
    refine⟨rfl,dV.2 ⟨c8,wh,di,?_⟩⟩
    have e6:(π.ai.set i { f with b:=cT b aM,changed:=true }).length=π.ai.length:=bY
    show Sat h (pt r (.cells 6 (qA p q c8 (π.ai.set i { f with b:=cT b aM,changed:=true }).length wh di π.hand) false)::_)
    rw[e6]
    exact((s.ae [2,2,4,0,2]).del 6).del 5
  ·rw[aJ hg]
   exact zk 10 rfl (zB rfl aD (rfl) (zk 7 rfl (WP.ret ⟨aa,_,rfl,rfl,dV.2 ⟨c8,wh,di,s.ae [1,1,1,1,0]⟩⟩)))
theorem Pj (hT:W told){n:Int}(s:Sat h (dK r p q π::bS q p μ::aR p δ::S))(I:π.Ok)(J:μ.Ok)(ob:δ.Ok)(hw:δ.waiting.length≤268435456):
  Call ⟨Tryz.prog,told⟩ 144 [.ptr r 0,.int .i64 n] h fun v h'=>v=.int .i64 (eY (π,μ,δ) n).1 ∧
   Sat h' (dK r p q (eY (π,μ,δ) n).2.1::bS q p (eY (π,μ,δ) n).2.2.1::aR p (eY (π,μ,δ) n).2.2.2::S):=by
 have s0:=s
 obtain⟨c8,wh,di,s⟩:=dV.1 s
 refine Call.of_wp (hT.free _ rfl) Tryz.func144 rfl rfl (zK 8 rfl (zY s 0 qZ xz rfl (zm rfl ?_)))
 rcases EW (n:=n) (j:=0) (s.ae [2]) with⟨g1,g2⟩|⟨i,g1,g2⟩
 ·have he:eY (π,μ,δ) n=(18,(π,μ,δ)):=by simp only[eY,g1]
  rw[he]
  exact zo rfl (iC rfl rfl g2) (zk 10 rfl (zo rfl (dQ rfl rfl) (zk 6 rfl (WP.ret ⟨aa,_,rfl,rfl,s0⟩))))
 ·obtain⟨i,f,rfl,hf⟩:=I.at g1
  have hl:=(List.getElem?_eq_some_iff.1 hf).1
  have he:eY (π,μ,δ) n=outF (π,μ,δ) i:=by grind[eY]
  rw[he]
  refine zo rfl (iC rfl rfl g2) (zk 10 rfl (zo rfl (dQ rfl rfl) (zk 8 rfl (zY s 0 kP oW rfl (zm rfl (zo rfl (cj rfl rfl (mI (i:=i) hl)) (zc rfl (Ph hT s hf J ob (by have:=I.len f (bI hf);omega) hw) ?_)))))))
  rintro v h ⟨rfl,s⟩
  exact zk 2 rfl (WP.ret ⟨aa,_,rfl,rfl,dV.2 ⟨c8,wh,di,s⟩⟩)
theorem Yp (hT:W told){n:Int}(s:Sat h (dK r p q π::S)): Call ⟨Tryz.prog,told⟩ 114 [.ptr r 0,.int .i64 n] h fun v h'=>v=.bf [.int .u64 (dirtOf π n 0:Nat),.bool (lookL n π.bq).isSome]∧Sat h' (dK r p q π::S):=by
 obtain⟨c8,wh,di,s⟩:=dV.1 s
 refine Call.of_wp (hT.free _ rfl) Tryz.func114 rfl rfl (zK 9 rfl (zY s 0 q_ xA rfl (zm rfl ?_)))
 rcases Lc (n:=n) (s.ae [3]) with⟨I,J,_⟩|⟨x,I,J,_⟩
 ·refine ay.op rfl rfl rfl (iC rfl rfl J) ?_
  refine zk 3 rfl ?_
  refine ay.b8 s rfl rfl rfl (bU xB) (fun p6 h s => ?_)
  refine zS rfl (s.ep (j:=0) rfl u5 rfl rfl) (fun h s => ?_)
  exact zk 4 rfl (zY s 0 EN l8 rfl (zk 4 rfl (WP.ret ⟨aa,_,rfl,by simp only[dirtOf,I];rfl,dV.2 ⟨c8,wh,di,s.drop⟩⟩)))
 ·skip
  refine zo rfl (iC rfl rfl J) (zk 3 rfl ?_)
  refine ay.b8 s rfl rfl rfl (bU xB) (fun p6 h s => ?_)
  refine zS rfl (s.ep (j:=0) rfl u5 rfl rfl) (fun h s => ?_)
  exact zk 4 rfl (zY s 0 EN l8 rfl (zk 4 rfl (WP.ret ⟨aa,_,rfl,by simp only[dirtOf,I];rfl,dV.2 ⟨c8,wh,di,s.drop⟩⟩)))
def fq : Fm:=⟨-1,[],0,false,false⟩
def dN (π:Pl)(i:Nat)(f:Fm): Pl:={ π with ai:=π.ai.set i fq,aG:=if f.aK<0 then π.aG else oD f.aK π.aG }
def jM (π:Pl)(i:Nat)(n:Int)(b:List Nat): Pl:={ π with ai:=π.ai.set i ⟨n,b,1,true,false⟩,aG:=cG n (i:Int) π.aG }
inductive fC (ε:aZ)(n:Int): Int→List Nat→aZ→Prop where
 |arg (h:¬(0≤n∧n<ε.2.2.aq.length)):fC ε n 1 [] ε
 |z6 (i:Nat) (f:Fm) (h1:0≤n) (h2:n<ε.2.2.aq.length) (hl:lookL n ε.1.aG=some (i:Int)) (hf:ε.1.ai[i]?=some f):fC ε n 0 f.b ({ ε.1 with ai:=ε.1.ai.set i { f with gh:=true,pins:=f.pins+1 } },ε.2)
 |out (bN:Pl) (i:Nat) (f:Fm) (h1:0≤n) (h2:n<ε.2.2.aq.length) (hl:lookL n ε.1.aG=none) (hn:fT ε.1 bN) (hf:bN.ai[i]?=some f) (hh:bN.hand<bN.ai.length) (he:(outF (bN,ε.2) i).1≠0):fC ε n (outF (bN,ε.2) i).1 [] (outF (bN,ε.2) i).2
 |read (bN:Pl) (i:Nat) (f:Fm) (h1:0≤n) (h2:n<ε.2.2.aq.length) (hl:lookL n ε.1.aG=none) (hn:fT ε.1 bN) (hf:bN.ai[i]?=some f) (hh:bN.hand<bN.ai.length) (he:(outF (bN,ε.2) i).1=0)
   (hr:(outF (bN,ε.2) i).2.2.2.lQ n≠0):fC ε n ((outF (bN,ε.2) i).2.2.2.lQ n) [] (dN (outF (bN,ε.2) i).2.1 i f,(outF (bN,ε.2) i).2.2)
 |bad (bN:Pl) (i:Nat) (f:Fm) (h1:0≤n) (h2:n<ε.2.2.aq.length) (hl:lookL n ε.1.aG=none) (hn:fT ε.1 bN) (hf:bN.ai[i]?=some f) (hh:bN.hand<bN.ai.length) (he:(outF (bN,ε.2) i).1=0)
   (hr:(outF (bN,ε.2) i).2.2.2.lQ n=0) (hc:gU ((outF (bN,ε.2) i).2.2.2.at n)≠0):fC ε n (gU ((outF (bN,ε.2) i).2.2.2.at n)) [] (dN (outF (bN,ε.2) i).2.1 i f,(outF (bN,ε.2) i).2.2)
 |load (bN:Pl) (i:Nat) (f:Fm) (h1:0≤n) (h2:n<ε.2.2.aq.length) (hl:lookL n ε.1.aG=none) (hn:fT ε.1 bN) (hf:bN.ai[i]?=some f) (hh:bN.hand<bN.ai.length) (he:(outF (bN,ε.2) i).1=0)
   (hr:(outF (bN,ε.2) i).2.2.2.lQ n=0) (hc:gU ((outF (bN,ε.2) i).2.2.2.at n)=0):fC ε n 0 ((outF (bN,ε.2) i).2.2.2.at n) (jM (dN (outF (bN,ε.2) i).2.1 i f) i n ((outF (bN,ε.2) i).2.2.2.at n),(outF (bN,ε.2) i).2.2)
theorem Cf (h:ε.2.2.Ok): (outF ε i).2.2.2.Ok:=by
 unfold outF
 split
 ·exact h
 ·split
  ·exact h
  ·split
   ·exact h
   ·split
    ·exact oa h
    ·split
     ·exact(oa h).bw
     ·exact(oa h).bw
theorem Sa (h:ε.2.1.Ok): (outF ε i).2.2.1.Ok:=by
 grind[outF,vF]
theorem od (I:ε.1.ai[i]?=some f): ∃c,(outF ε i).2.1.ai[i]?=some { f with changed:=c }:=by
 have J:=(List.getElem?_eq_some_iff.1 I).1
 unfold outF
 rw[I]
 dsimp only
 split
 ·exact⟨f.changed,I⟩
 ·split
  ·exact⟨f.changed,I⟩
  ·split
   ·exact⟨f.changed,I⟩
   ·split
    ·exact⟨f.changed,I⟩
    simp_all
theorem Pk (hT:W told){n:Int}(s:Sat h (dK r p q π::bS q p μ::aR p δ::S))(R_:π.Ok)(R9:∀f∈π.ai,f.pins=0)(EV:μ.Ok)(ob:δ.Ok)(hw:δ.waiting.length≤268435456):
  Call ⟨Tryz.prog,told⟩ 63 [.ptr r 0,.int .i64 n] h fun v h'=>∃(e:Int) (b:List Nat) (ε:aZ),fC (π,μ,δ) n e b ε ∧
   ((e≠0∧v=.bf [.bC,.int .i64 e]∧Sat h' (dK r p q ε.1::bS q p ε.2.1::aR p ε.2.2::S))∨(e=0∧∃u,v=.bf [u,.int .i64 0]∧Sat h' (aV u b::dK r p q ε.1::bS q p ε.2.1::aR p ε.2.2::S))):=by
 have s0:=s
 obtain⟨c8,wh,di,s⟩:=dV.1 s
 refine Call.of_wp (hT.free _ rfl) Tryz.func63 rfl rfl (zK 9 rfl ?_)
 refine zd rfl (az rfl rfl aN) ?_ ?_
 ·intro hq
  have hq:n<0:=by grind
  exact zk 16 rfl (WP.ret ⟨aa,_,rfl,1,[],(π,μ,δ),.arg (fun q=>by omega),.inl ⟨by decide,rfl,s0⟩⟩)
 ·intro hq
  have hq:0≤n:=by grind
  refine zk 4 rfl (zY s 0 wK o9 rfl (zc rfl (xG hT (s.ae [5])) ?_))
  rintro v h' ⟨rfl,rfl⟩
  refine zd rfl (az rfl rfl jJ) ?_ ?_
  ·intro ku
   have ku:¬ n<δ.aq.length:=by grind
   exact zk 8 rfl (WP.ret ⟨aa,_,rfl,1,[],(π,μ,δ),.arg (fun q=>ku q.2),.inl ⟨by decide,rfl,s0⟩⟩)
  ·intro ku
   have ku:n<δ.aq.length:=by grind
   refine zk 9 rfl (zY s 0 qZ xz rfl (zm rfl ?_))
   rcases EW (n:=n) (j:=0) (s.ae [2]) with⟨g1,g2⟩|⟨i,g1,g2⟩
   ·refine ay.op rfl rfl rfl (iC rfl rfl g2) ?_
    refine zk 15 rfl (zc rfl (R8 hT s R_.hand (by have:=R_.many;omega) R9) ?_)
    rintro v h ⟨i,bN,f,rfl,qB,hf,hh,s⟩
    have hl:=(List.getElem?_eq_some_iff.1 hf).1
    rw[←qB.aG,←qB.bq] at s
    have hfb:f.b.length≤512:=by
     have h1:π.ai[i]?=some (π.ai[i]'(by have:=qB.len;omega)):=bA _
     generalize (π.ai[i]'(by grind))=f0 at h1
     obtain⟨t,ht⟩:=qB.get i f0 h1
     rw[hf] at ht
     have:=cx ht
     rw[this]
     exact R_.len f0 (bI h1)
    refine zk 6 rfl (zC rfl aN (by rfl) ?_)
    refine zk 7 rfl (zY s 0 kP oW rfl (zm rfl (zo rfl (cj rfl rfl (mI (i:=i) hl)) (zk 7 rfl (zc rfl (Ph (π:=bN) hT s hf EV ob (by omega) hw) ?_)))))
    rintro v h ⟨rfl,s⟩
    obtain⟨c,BP⟩:=od (ε:=(bN,μ,δ)) hf
    have EX:=Cf (ε:=(bN,μ,δ)) (i:=i) ob
    refine zk 5 rfl ?_
    by_cases he:(outF (bN,μ,δ) i).1=0
    ·generalize ho:outF (bN,μ,δ) i=o at he s BP EX ⊢
     obtain⟨oe,I,μ1,z7⟩:=o
     dsimp only at he s BP EX ⊢
     subst he
     have Ij:(outF (bN,μ,δ) i).1=0:=by rw[ho]
     have FY:(outF (bN,μ,δ) i).2=(I,μ1,z7):=by rw[ho]
     refine zC rfl aD (by decide) ?_
     obtain⟨pre,fv,post,J,hlen,s⟩:=jG (s.ae [1]) BP
     refine zk 8 rfl (zf rfl (pZ _ _) (zl rfl (s.ld (k:=0) rfl cL (jr J rfl)) ?_))
     refine zd rfl (az rfl rfl jJ) ?_ ?_
     ·intro mh
      have mh:¬ f.aK<0:=by grind
      refine zk 2 rfl (WP.drawn [af,af,af,af,af,af,af,af,af] rfl (by kernel_rfl) (by kernel_rfl) ?_)
      refine zM rfl (zN rfl (zF rfl (qZ _ _) (zL rfl (s.ld (k:=3) rfl xz rfl) (zM rfl (zN rfl (zF rfl (pZ _ _) (zL rfl (s.ld (k:=0) rfl cL (jr J rfl)) (ax.iB rfl rfl rfl (OpR.delete rfl rfl rfl rfl (RQ (s.ae [4]) Di bF)) ?_))))))))
      intro v h s
      have s:=s.ae [1,1,1,1,0]
      refine ax.nil ⟨⟨aa,aa,aa,aa,aa,aa,aa,aa,aa,aa⟩,?_⟩
      refine zK 3 rfl (zo rfl (dn rfl (by rw[GV];rfl)) ?_)
      refine zn rfl (zS rfl (s.Uu (k:=0) (row':=gL fq .bC) rfl Db J hlen (by rfl) rfl) ?_)
      intro h s
      have GX:(pre++(gL fq .bC++post)).length=I.ai.length*5:=by simpa[gL] using hlen
      have ue:(dN I i f).aG=oD f.aK I.aG:=by grind[dN]
      refine zk 5 rfl (zY s 3 wK o9 rfl (zm rfl (zc rfl (Pg (n:=n) hT (s.ae [7]) EX) ?_)))
      rintro v h (⟨hr,rfl,s⟩|⟨hr,u,rfl,s⟩)
      ·dsimp only[bringA,getA,aL] at s
       refine zk 10 rfl (zB rfl aD (by grind) ?_)
       refine zk 8 rfl (WP.ret ⟨aa,_,rfl,?_⟩)
       have s:=gW (i:=i) (f':=fq) (v':=.bC) (s.rN.ae [2,2,0]) rfl BP J
       have e6:(I.ai.set i fq).length=I.ai.length:=bY
       rw[←e6,←ue] at s
       have s:=(dV (π:=dN I i f)).2 ⟨c8,wh,di,s.ae [3,0,2,2]⟩
       have hR:=fC.read (ε:=(π,μ,δ)) bN i f hq ku g1 qB hf hh Ij (by grind)
       rw[FY] at hR
       exact⟨_,[],_,hR,.inl ⟨hr,rfl,(s.del 2).ae [0,1,0]⟩⟩
      ·have aao:=EX.at n
       obtain⟨qM,_,cap,_,rfl,_⟩:=s.fZ (by omega)
       refine zk 10 rfl (zC rfl aD (rfl) (zk 7 rfl (zc rfl (H_ hT s (bu _ _) (by omega)) ?_)))
       rintro v h ⟨rfl,s⟩
       refine zk 5 rfl ?_
       by_cases hc:gU (z7.at n)=0
       ·skip
        refine zC rfl aD (by grind) ?_
        have s:=s.gC.ae [2,2,0,2,2,2,2,0,0]
        refine zk 8 rfl (zo rfl (dn rfl (by rw[GV];rfl)) ?_)
        refine zn rfl (zS rfl (s.Uu (k:=0) (row':=gL ⟨n,z7.at n,1,true,false⟩ (.sl qM 0 (z7.at n).length cap)) rfl Db J GX (by rfl) rfl) ?_)
        intro h s
        refine zk 5 rfl (zY s 3 qZ xz rfl (zk 2 rfl (ay.iB rfl rfl (OpR.mapUpdate rfl rfl rfl rfl (pn (f:=fun v (x:Int)=>.pu (v=.int .i64 x)) (x:=(i:Int)) (fun _ _=>aY.pu _) ((s.ae [4]).gM rfl) Di bF)) ?_)))
        intro w h s
        refine zk 4 rfl (zc rfl (xF hT (s.ae [3]) (dF _ _) (by omega)) ?_)
        intro u h s
        refine zk 3 rfl (WP.ret ⟨aa,_,rfl,?_⟩)
        have s:=gW (i:=i) (f':=⟨n,z7.at n,1,true,false⟩) (s.ae [3,3,1]) rfl BP J
        have e6:(I.ai.set i ⟨n,z7.at n,1,true,false⟩).length=I.ai.length:=bY
        have e7:(jM (dN I i f) i n (z7.at n)).ai=I.ai.set i ⟨n,z7.at n,1,true,false⟩:=by simp[jM,dN]
        rw[←e6,←e7,←ue] at s
        have s:=(dV (π:=jM (dN I i f) i n (z7.at n))).2 ⟨c8,wh,di,s.ae [3,0,1,1]⟩
        have hR:=fC.load (ε:=(π,μ,δ)) bN i f hq ku g1 qB hf hh Ij (by grind) (by grind)
        rw[FY] at hR
        exact⟨_,_,_,hR,.inr ⟨rfl,u,rfl,(s.del 4).ae [1,0]⟩⟩
       ·skip
        refine zB rfl aD (by grind) ?_
        refine zk 8 rfl (WP.ret ⟨aa,_,rfl,?_⟩)
        have s:=s.drop
        have s:=gW (i:=i) (f':=fq) (v':=.bC) (s.rN.ae [2,2,0]) rfl BP J
        dsimp only[bringA,getA,aL] at s
        have e6:(I.ai.set i fq).length=I.ai.length:=bY
        rw[←e6,←ue] at s
        have s:=(dV (π:=dN I i f)).2 ⟨c8,wh,di,s.ae [3,0,2,2]⟩
        dsimp only[bringA,getA,aL] at s
        have hR:=fC.bad (ε:=(π,μ,δ)) bN i f hq ku g1 qB hf hh Ij (by grind) (by grind)
        rw[FY] at hR
        exact⟨_,[],_,hR,.inl ⟨hc,rfl,(s.del 2).ae [0,1,0]⟩⟩
     ·intro mh
      have mh:f.aK<0:=by grind
      refine zk 6 rfl (zo rfl (dn rfl (by rw[GV];rfl)) ?_)
      refine zn rfl (zS rfl (s.Uu (k:=0) (row':=gL fq .bC) rfl Db J hlen (by rfl) rfl) ?_)
      intro h s
      dsimp only[setA] at s
      have GX:(pre++(gL fq .bC++post)).length=I.ai.length*5:=by simpa[gL] using hlen
      have ue:(dN I i f).aG=I.aG:=by grind[dN]
      refine zk 5 rfl (zY s 3 wK o9 rfl (zm rfl (zc rfl (Pg (n:=n) hT (s.ae [7]) EX) ?_)))
      rintro v h (⟨hr,rfl,s⟩|⟨hr,u,rfl,s⟩)
      ·dsimp only[bringA,getA,aL] at s
       refine zk 10 rfl (zB rfl aD (by grind) ?_)
       refine zk 8 rfl (WP.ret ⟨aa,_,rfl,?_⟩)
       have s:=gW (i:=i) (f':=fq) (v':=.bC) (s.rN.ae [2,2,0]) rfl BP J
       dsimp only[bringA,getA,aL] at s
       have e6:(I.ai.set i fq).length=I.ai.length:=bY
       rw[←e6,←ue] at s
       have s:=(dV (π:=dN I i f)).2 ⟨c8,wh,di,s.ae [3,0,2,2]⟩
       dsimp only[bringA,getA,aL] at s
       have hR:=fC.read (ε:=(π,μ,δ)) bN i f hq ku g1 qB hf hh Ij (by grind)
       rw[FY] at hR
       exact⟨_,[],_,hR,.inl ⟨hr,rfl,(s.del 2).ae [0,1,0]⟩⟩
      ·have aao:=EX.at n
       obtain⟨qM,_,cap,_,rfl,_⟩:=s.fZ (by omega)
       refine zk 10 rfl (zC rfl aD (rfl) (zk 7 rfl (zc rfl (H_ hT s (bu _ _) (by omega)) ?_)))
       rintro v h ⟨rfl,s⟩
       refine zk 5 rfl ?_
       by_cases hc:gU (z7.at n)=0
       ·skip
        refine zC rfl aD (by grind) ?_
        have s:=s.gC.ae [2,2,0,2,2,2,2,0,0]
        dsimp only[bringA,getA,aL] at s
        refine zk 8 rfl (zo rfl (dn rfl (by rw[GV];rfl)) ?_)
        refine zn rfl (zS rfl (s.Uu (k:=0) (row':=gL ⟨n,z7.at n,1,true,false⟩ (.sl qM 0 (z7.at n).length cap)) rfl Db J GX (by rfl) rfl) ?_)
        intro h s
        dsimp only[setA] at s
        refine zk 5 rfl (zY s 3 qZ xz rfl (zk 2 rfl (ay.iB rfl rfl (OpR.mapUpdate rfl rfl rfl rfl (pn (f:=fun v (x:Int)=>.pu (v=.int .i64 x)) (x:=(i:Int)) (fun _ _=>aY.pu _) ((s.ae [4]).gM rfl) Di bF)) ?_)))
        intro w h s
        dsimp only[bringA,getA,aL] at s
        refine zk 4 rfl (zc rfl (xF hT (s.ae [3]) (dF _ _) (by omega)) ?_)
        intro u h s
        dsimp only[bringA,getA,aL] at s
        refine zk 3 rfl (WP.ret ⟨aa,_,rfl,?_⟩)
        have s:=gW (i:=i) (f':=⟨n,z7.at n,1,true,false⟩) (s.ae [3,3,1]) rfl BP J
        dsimp only[bringA,getA,aL] at s
        have e6:(I.ai.set i ⟨n,z7.at n,1,true,false⟩).length=I.ai.length:=bY
        have e7:(jM (dN I i f) i n (z7.at n)).ai=I.ai.set i ⟨n,z7.at n,1,true,false⟩:=by simp[jM,dN]
        rw[←e6,←e7,←ue] at s
        have s:=(dV (π:=jM (dN I i f) i n (z7.at n))).2 ⟨c8,wh,di,s.ae [3,0,1,1]⟩
        dsimp only[bringA,getA,aL] at s
        have hR:=fC.load (ε:=(π,μ,δ)) bN i f hq ku g1 qB hf hh Ij (by grind) (by grind)
        rw[FY] at hR
        exact⟨_,_,_,hR,.inr ⟨rfl,u,rfl,(s.del 4).ae [1,0]⟩⟩
       ·skip
        refine zB rfl aD (by grind) ?_
        refine zk 8 rfl (WP.ret ⟨aa,_,rfl,?_⟩)
        have s:=s.drop
        have s:=gW (i:=i) (f':=fq) (v':=.bC) (s.rN.ae [2,2,0]) rfl BP J
        dsimp only[bringA,getA,aL] at s
        have e6:(I.ai.set i fq).length=I.ai.length:=bY
        rw[←e6,←ue] at s
        have s:=(dV (π:=dN I i f)).2 ⟨c8,wh,di,s.ae [3,0,2,2]⟩
        dsimp only[bringA,getA,aL] at s
        have hR:=fC.bad (ε:=(π,μ,δ)) bN i f hq ku g1 qB hf hh Ij (by grind) (by grind)
        rw[FY] at hR
        exact⟨_,[],_,hR,.inl ⟨hc,rfl,(s.del 2).ae [0,1,0]⟩⟩
    ·skip
     refine zB rfl aD (by grind) ?_
     exact zk 8 rfl (WP.ret ⟨aa,_,rfl,_,[],_,.out bN i f hq ku g1 qB hf hh he,.inl ⟨he,rfl,dV.2 ⟨c8,wh,di,s⟩⟩⟩)
   ·obtain⟨i,f,rfl,hf⟩:=R_.at g1
    have hl:=(List.getElem?_eq_some_iff.1 hf).1
    obtain⟨pre,fv,post,J,hlen,s⟩:=jG (s.ae [1]) hf
    have oI:=R9 f (bI hf)
    have ua:=R_.len f (bI hf)
    refine zo rfl (iC rfl rfl g2) (zk 15 rfl (zY s 3 kP oW rfl (zm rfl (zo rfl (cj rfl rfl (mI (i:=i) hl)) (zk 6 rfl (zf rfl (EK _ _) (zS rfl (s.stM (k:=0) (j:=3) rfl ox J hlen (by simp[gL]) rfl rfl) ?_)))))))
    intro h s
    dsimp only[setA] at s
    refine zk 5 rfl (zf rfl (rj _ _) (zl rfl (s.ld (k:=0) rfl cL (jr J rfl)) (zb rfl (by exact bx (aA (by omega) (by omega))) ?_)))
    refine zn rfl (zf rfl (rj _ _) (zS rfl (s.stM (k:=0) (j:=2) rfl ke J (by grind) (by simp[gL]) rfl rfl) ?_))
    intro h s
    have e5:((gL f fv).set 3 (.bool true)).set 2 (.int .i64 (f.pins+1))=gL { f with gh:=true,pins:=f.pins+1 } fv:=rfl
    rw[e5] at s
    refine zk 5 rfl (zf rfl (Ba _ _) (zl rfl (s.ld (k:=0) rfl bP (jr J rfl)) (zc rfl (xF hT (s.ae [2]) (dF _ _) (by omega)) ?_)))
    intro u h s
    refine zk 3 rfl (WP.ret ⟨aa,_,rfl,?_⟩)
    have s:=gW (i:=i) (f':={ f with gh:=true,pins:=f.pins+1 }) (s.ae [2,2,1]) rfl hf J
    refine⟨0,f.b,_,.z6 i f hq ku g1 hf,.inr ⟨rfl,u,rfl,?_⟩⟩
    have e6:(π.ai.set i { f with gh:=true,pins:=f.pins+1 }).length=π.ai.length:=bY
    rw[←e6] at s
    exact((dV (π:={ π with ai:=π.ai.set i { f with gh:=true,pins:=f.pins+1 } })).2 ⟨c8,wh,di,s.ae [2,0,1,1]⟩).ae [1,0]
end
def Dx : Fm:=⟨0,[],0,false,false⟩
def Pl.fresh (n:Nat): Pl:=⟨List.replicate n fq,[],[],0⟩
theorem VT : ∃i,Tryz.prog.info? 193=some i∧i.size=5∧i.bytes=48 :=
 ⟨_,(show Tryz.prog.info? 193=some ((Tryz.prog.info? 193).getD default) by kernel_rfl),by kernel_rfl,by kernel_rfl⟩
theorem Sb {b:PM}: ∀n:Nat,(ux (repeatL [.int .i64 0,.bC,.int .i64 0,.bool false,.bool false] n) (List.replicate n Dx)).p a b:=by
 intro n
 induction n with
 |zero=>trivial
 |succ n I=>exact⟨⟨⟨rfl,rfl,rfl,rfl⟩,⟨(by intro b J;cases J),.inl ⟨.inl rfl,rfl⟩⟩⟩,I⟩
section
variable {told:dc} {p:Nat} {v:V} {m:List Fm}
noncomputable def pnL : Code:=cD [1,1,1,0,1,0,0] ((Tryz.f81.body).getD .skip)
theorem Pm (hn:n<4294967296): ∀(j i:Nat) (m:List Fm) (h:H) (E:List (Nat×V)) (Q:Ex→List (Nat×V)→H→Prop),i+j=n→m=List.replicate i fq++List.replicate j Dx →
  Sat h (pt r (.cells 6 (qA p q c8 n wh di 0) false)::fe c8 m::S)→Has E [(8,.ptr r 0),(28,.int .i64 n),(29,.int .i64 i)] →
  (∀E' h',Has E' [(8,.ptr r 0)]→Sat h' (pt r (.cells 6 (qA p q c8 n wh di 0) false)::fe c8 (List.replicate n fq)::S)→Q (.exit 0) E' h')→WP ⟨Tryz.prog,told⟩ 41 (.loop pnL) E h Q:=by
 intro j
 induction j with
 |zero =>
  intro i m h E Q hi hm s J hx
  refine WP.loop (WP.has J (zg rfl (zC rfl aN (by simp<;>omega) ?_)))
  refine zk 3 rfl (WP.exit (hx _ _ ⟨rfl,aa⟩ ?_))
  rw[hm] at s
  have:i=n:=by omega
  subst this
  simpa using s
 |succ j ih =>
  intro i m h E Q hi hm s J hx
  have ve:m.length=n:=by rw[hm];simp;omega
  have hf:m[i]?=some Dx:=by rw[hm,vO (by simp)];simp[AB]
  obtain⟨pre,fv,post,I,hlen,s⟩:=jG (s.ae [1]) hf
  dsimp only[bringA,getA,aL] at s
  refine WP.loop (WP.has J (zg rfl (zB rfl aN (by simp<;>omega) ?_)))
  refine zk 5 rfl (WP.block (zK 8 rfl (zY s 3 kP oW rfl (zm rfl (zo rfl (cj rfl rfl (mI (i:=i) (by omega))) ?_)))))
  refine zf rfl (pZ _ _) (zS rfl (s.stM (k:=0) (j:=0) rfl ke I hlen (by simp[gL]) rfl rfl) ?_)
  intro h s
  dsimp only[setA] at s
  have e5:(gL Dx fv).set 0 (.int .i64 (-1))=gL fq fv:=rfl
  rw[e5] at s
  refine zv (zr rfl (zb rfl (by exact bx (aA (by omega) (by omega))) ?_))
  refine zm rfl (zv ?_)
  have s:=gW (i:=i) (f':=fq) s rfl hf I
  refine ih (i+1) (m.set i fq) h _ Q (by omega) ?_ (s.ae [1,0]) ⟨rfl,rfl,rfl,aa⟩ hx
  rw[hm,List.set_append_right _ _ (by simp),dx,AP,AB,List.set_cons_zero,List.replicate_succ',c9]
  rfl
theorem Le (hT:W told){n:Int}(s:Sat h S): Call ⟨Tryz.prog,told⟩ 81 [.ptr p 0,.ptr q 0,.int .i64 n] h fun v h' =>
  (¬(1≤n∧n≤1024)∧v=.bf [.cy,.int .i64 1]∧Sat h' S)∨(1≤n∧n≤1024∧∃r,v=.bf [.ptr r 0,.int .i64 0]∧Sat h' (dK r p q (Pl.fresh n.toNat)::S)):=by
 refine Call.of_wp (hT.free _ rfl) Tryz.func81 rfl rfl (zK 9 rfl ?_)
 refine zd rfl (az rfl rfl aN) ?_ ?_
 ·intro J
  have J:n<1:=by simpa using J
  exact zk 11 rfl (WP.ret ⟨aa,_,rfl,.inl ⟨fun q=>by omega,rfl,s⟩⟩)
 ·intro J
  have J:1≤n:=by simp at J;omega
  refine zk 2 rfl ?_
  refine zd rfl (az rfl rfl gT) ?_ ?_
  ·intro I
   have I:1024<n:=by simpa using I
   exact zk 8 rfl (WP.ret ⟨aa,_,rfl,.inl ⟨fun q=>by omega,rfl,s⟩⟩)
  ·intro I
   have I:n≤1024:=by simp at I;omega
   obtain⟨n,rfl⟩:∃k:Nat,n=k:=⟨n.toNat,by omega⟩
   refine zk 9 rfl ?_
   obtain⟨i1,jZ,jv,u_⟩:=VT
   obtain⟨id,h1,e1,s1⟩:=FK (P:=Tryz.prog) s zP jZ aab jv (by omega) rfl (by decide) (n:=n) (by omega)
   refine ay.any rfl rfl rfl (OpR.of (R:=fun v h'=>v=.sl id 0 n (.exact n)∧h'=h1) (s_ rfl rfl e1) ⟨rfl,rfl⟩) ?_
   rintro v h ⟨rfl,rfl⟩
   have s:Sat h (fe id (List.replicate n Dx)::S):=kg.2 ⟨_,by rw[dx];exact((s1.gM (φ:=True) aa).gX fun a b _=>Sb n).ae [1]⟩
   refine ay.y8 s rfl rfl rfl rfl (fun p20 h s => ?_)
   refine ay.y8 s rfl rfl rfl rfl (fun Yq h s => ?_)
   refine zo rfl (dn rfl (by rw[Z_];rfl)) ?_
   refine ay.b8 s rfl rfl rfl (fg rfl rfl) (fun p23 h s => ?_)
   refine zk 7 rfl (zY s 0 kP oW rfl (zo rfl (aP rfl rfl rfl (p_ rfl zP)) (zk 2 rfl (WP.block ?_))))
   have s:=uo (f:=fun v (x:Nat×Bool)=>.pu (v=.agg [.int .u64 (x.1:Int),.bool x.2])) (s.ae [1])
   have s:=uo (f:=fun v (x:Int)=>.pu (v=.int .i64 x)) (s.ae [2])
   have s:=s.ae [2,2,0,0]
   refine Pm (n:=n) (by omega) n 0 _ _ _ _ (by omega) rfl s ⟨rfl,rfl,rfl,aa⟩ (fun E' h' jf s' => ?_)
   refine WP.has jf (zK 6 rfl (WP.ret ⟨aa,_,rfl,?_⟩))
   refine .inr ⟨J,I,_,rfl,(dV (π:=Pl.fresh n)).2 ⟨id,.map p20,.map Yq,?_⟩⟩
   have e6:(Pl.fresh n).ai.length=n:=by simp[Pl.fresh]
   rw[e6]
   exact s'
end
theorem Pn : ∀ {l:cm} {b:Nat},fh c b l→bornUp c b (l.map eP)=true:=by
 intro l
 induction l with
 |nil=>intro b _;rfl
 |cons e l I =>
  intro b h
  obtain⟨J,h2,h3⟩:=h
  simp only[iu,eP,bornUp]
  rw[show(Nat.ble b e.2.2&&Nat.blt e.2.2 c)=true by rw[bK,bg];exact⟨J,by rw[Nat.blt];exact bg.2 h2⟩,aj]
  exact I h3
theorem MO : ∀ {l:cm},(∀e∈l,(Lit.int .i64 e.1).wf=true)→keyInts (l.map eP)=some (l.map (·.1)):=by
 intro l
 induction l with
 |nil=>intro _;rfl
 |cons e l I =>
  intro h
  simp only[iu,eP,keyInts]
  rw[h e b7,aj]
  have:=I (fun e he=>h e (b5 _ he))
  rw[this]
theorem J1 {x:Int}: ∀ {l:List Int},l.Pairwise (· < ·)→x∉l→(insI x l).Pairwise (· < ·):=by
 intro l
 induction l with
 |nil=>intro _ _;simp[insI]
 |cons y l ih =>
  intro h hx
  simp only[tA,m8,not_or] at h hx
  simp only[insI]
  by_cases J:x≤y
  ·rw[fL J,aj]
   have:x<y:=by omega
   simp only[tA,m8]
   refine⟨fun z I => ?_,h⟩
   rcases I with rfl|I
   ·exact this
   ·have:=h.1 z I;omega
  ·rw[fE J,a_]
   simp only[tA]
   refine⟨fun z I => ?_,ih h.2 hx.2⟩
   have:=(yW x l).mem_iff.1 I
   rcases List.mem_cons.1 this with rfl|I
   ·omega
   ·exact h.1 z I
theorem J2 : ∀ {l:List Int},l.Nodup→(nj l).Pairwise (· < ·):=by
 intro l
 induction l with
 |nil=>intro _;exact List.Pairwise.nil
 |cons x l I =>
  intro h
  simp only[Ej] at h
  exact J1 (I h.2) (fun J=>h.1 ((eF l).mem_iff.1 J))
theorem Sc : ∀ {l:List Int},l.Pairwise (· < ·)→rT l=true:=by
 intro l
 induction l with
 |nil=>intro _;rfl
 |cons x l I =>
  intro h
  simp only[tA] at h
  simp only[rT,bK,nQ,ir]
  exact⟨h.1,I h.2⟩
section
variable {f:V→α→aO} {told:dc} {mv:V} {m:List (Int×α)} {b:Nat}
theorem Sd (I:W told)(s:Sat h S): Call ⟨Tryz.prog,told⟩ 143 [.map id] h fun v h'=>∃b,v=.fn (.func 174) [] [.ptr b 0]∧Sat h' (pt b (.cells 1 [.map id] false)::S):=by
 refine Call.of_wp (I.free _ rfl) Tryz.func143 rfl rfl (zg rfl ?_)
 refine ay.b8 s rfl rfl rfl (fg rfl rfl) (fun p1 h s => ?_)
 exact zk 4 rfl (zo rfl (CX rfl rfl) (zk 2 rfl (WP.ret ⟨aa,_,rfl,_,rfl,s⟩)))
def aE (m:List (Int×α)): List Int:=nj (m.map (·.1))
theorem fu {n:Int}: n∈aE m↔n∈m.map (·.1):=(eF _).mem_iff
theorem Se (l:List Int): (fJ l).all storable=true:=by simp[fJ,storable]
theorem rX (hT:W told)(s:Sat h (pt b (.cells 1 [mv] false)::ju f mv m::S))(hg:wX Bc g=true)(hm:m.length≤1048576)(hk:∀n∈m.map (·.1),(Lit.int .i64 n).wf=true):
  Call ⟨Tryz.prog,told⟩ 61 [.fn (.func g) [] [.ptr b 0]] h fun v h'=>Sat h' (.arr 1 v (fJ (aE m))::pt b (.cells 1 [mv] false)::ju f mv m::S):=by
 obtain⟨id,l,c,rfl,hb,hn,s1⟩:=eH.1 (s.ae [1])
 have s1:Sat h (gv id l c::eV f l m::pt b (.cells 1 [.map id] false)::S):=s1
 obtain⟨q1,q2,q3,q4,q5⟩:=s1.at (k:=1) rfl
 have I:=tc q5
 have hlen:l.length=m.length:=by have:=iO List.length I;simpa using this
 have xw:=s1.row (k:=0) rfl
 have abn:=s1.row (k:=2) rfl
 have nt:∀e∈l,(Lit.int .i64 e.1).wf=true:=fun e he=>hk e.1 (by rw[←I];exact m4 he)
 have hri:rT (nj (l.map (·.1)))=true:=Sc (J2 (by rw[I];exact hn))
 have J:∃v h',toldSorted Bc [.fn (.func g) [] [.ptr b 0]] h=some (v,h')∧Sat h' (.arr 1 v (fJ (aE m))::pt b (.cells 1 [.map id] false)::ju f (.map id) m::S):=by
  simp only[toldSorted,abn,xw,jw,hg,Pn hb,MO nt,hri]
  rw[show(Nat.beq 1 1&&true&&true&&Nat.ble l.length 1048576)=true by rw[bg.2 (by omega)];rfl,aj]
  simp only[aj]
  cases hl:l.map (·.1) with
  |nil =>
   refine⟨_,_,rfl,?_⟩
   have:aE m=[]:=by rw[aE,←I,hl];rfl
   rw[this]
   exact s.oO
  |cons x xs =>
   refine⟨_,_,rfl,?_⟩
   have e1:aE m=nj (x::xs):=by rw[aE,←I,hl]
   have e2:(nj (x::xs)).length=(x::xs).length:=(eF _).length_eq
   have e3:(x::xs).length=l.length:=by rw[←hl,jw]
   rw[e1,←e3]
   refine(s.new (.cells (fJ (nj (x::xs))).length (fJ (nj (x::xs))) false)).gX fun a r BI=>⟨Se _,.inr ⟨h.next,(x::xs).length,.rest 1 0,(fJ (nj (x::xs))).length,[],rfl,?_,?_,by simp,rfl,rfl,rfl,rfl,by simp⟩⟩
   ·rw[ej];exact BI
   ·simp only[fJ,jw,e2,c_]
 obtain⟨v,h',e1,e2⟩:=J
 exact⟨v,h',h_.told hT.sorted Tryz.func61 rfl e1,e2⟩
end
structure rB (ε:aZ): Prop where
 pl:ε.1.Ok
 lg:ε.2.1.Ok
 dk:ε.2.2.Ok
theorem Sf (h:ε.1.Ok): (outF ε i).2.1.Ok:=by
 unfold outF
 split
 ·exact h
 ·rename_i f J
  have hm:=bI J
  split
  ·exact h
  ·split
   ·exact h
   ·split
    ·exact h
    ·split
     ·exact h
     ·refine⟨by simp only[bY];exact h.hand,by simp only[bY];exact h.many,fun e he=>by simp only[bY];exact h.aG e he,fun g I => ?_,fun g I => ?_⟩
      ·rcases mV I with I|rfl
       ·exact h.len g I
       ·exact h.len f hm
      ·rcases mV I with I|rfl
       ·exact h.pins g I
       ·exact h.pins f hm
theorem rC (h:rB ε): rB (outF ε i).2:=⟨Sf h.pl,Sa h.lg,Cf h.dk⟩
theorem BQ {n:Int}: (δ.bw n b).2.waiting.length≤δ.waiting.length+1:=by
 unfold Dk.bw
 split
 ·exact kj _
 ·split
  ·exact kj _
  ·split
   ·exact kj _
   ·exact AQ (by simp[Dk.wr])
theorem Po : (outF ε i).2.2.2.waiting.length≤ε.2.2.waiting.length+1:=by
 unfold outF
 split
 ·exact kj _
 ·rename_i f J
  split
  ·exact kj _
  ·split
   ·exact kj _
   ·split
    ·exact Nat.le_succ_of_le (AQ (by rw[me]))
    ·have I:=BQ (δ:=(aI ε.2 (cO f.b 4 8)).2.2) (n:=f.aK) (b:=f.b)
     rw[me] at I
     split<;>exact I
theorem J3 {n:Int}(h:rB ε): rB (eY ε n).2:=by
 unfold eY
 split
 ·exact h
 ·exact rC h
theorem Ik {n:Int}: (eY ε n).2.2.2.waiting.length≤ε.2.2.waiting.length+1:=by
 unfold eY
 split
 ·exact kj _
 ·exact Po
def writeAllF : List Int→aZ→Int×aZ
 |[],ε=>(0,ε)
 |n::l,ε=>if (eY ε n).1≠0 then eY ε n else writeAllF l (eY ε n).2
section
variable {told:dc} {p:Nat} {v:V} {m:List Fm}
noncomputable def waL : Code:=cD [1,0,1,0,0] ((Tryz.f92.body).getD .skip)
theorem GB (hT:W told){ks:List Int}{kv:V}(Yr:ks.length≤1048576): ∀(j i:Nat) (ε:aZ) (h:H) (E:List (Nat×V)) (Q:Ex→List (Nat×V)→H→Prop),i+j=ks.length→rB ε→ε.2.2.waiting.length+j≤268435456 →
  Sat h (dK r p q ε.1::bS q p ε.2.1::aR p ε.2.2::.arr 1 kv (fJ ks)::S)→Has E [(0,.ptr r 0),(11,kv),(12,.int .i64 ks.length),(13,.int .i64 i)] →
  ((writeAllF (ks.drop i) ε).1≠0→∀E' h',look E' 2=some (.int .i64 (writeAllF (ks.drop i) ε).1)→Sat h' (dK r p q (writeAllF (ks.drop i) ε).2.1::bS q p (writeAllF (ks.drop i) ε).2.2.1::aR p (writeAllF (ks.drop i) ε).2.2.2::S)→Q .ret E' h') →
  ((writeAllF (ks.drop i) ε).1=0→∀E' h',Sat h' (dK r p q (writeAllF (ks.drop i) ε).2.1::bS q p (writeAllF (ks.drop i) ε).2.2.1::aR p (writeAllF (ks.drop i) ε).2.2.2::S)→Q (.exit 0) E' h') →
  WP ⟨Tryz.prog,told⟩ 24 (.loop waL) E h Q:=by
 intro j
 induction j with
 |zero =>
  intro i ε h E Q hi I hw s hE J hx
  refine WP.loop (WP.has hE (zg rfl (zC rfl aN (by simp<;>omega) ?_)))
  refine zk 3 rfl (WP.exit ?_)
  rw[kK (by omega)] at hx
  exact hx rfl _ _ (s.del 3)
 |succ j ih =>
  intro i ε h E Q hi I hw s hE J hx
  have hn:ks[i]?=some (ks[i]'(by omega)):=bA _
  generalize (ks[i]'(by omega))=n at hn
  have hc:(fJ ks)[i]?=some (.int .i64 n):=by simp[fJ,hn]
  have n_:ks.drop i=n::ks.drop (i+1):=by
   obtain⟨h1,rfl⟩:=List.getElem?_eq_some_iff.1 hn
   exact pL h1
  rw[n_] at J hx
  obtain⟨id,off,e1,e2⟩:=iz (P:=Tryz.prog) s (k:=3) rfl hc dI ke
  have MP:=J3 (n:=n) I
  have BR:=Ik (ε:=ε) (n:=n)
  refine WP.loop (WP.has hE (zg rfl (zB rfl aN (by simp<;>omega) ?_)))
  refine zk 5 rfl (WP.block (zg rfl (zo rfl (cj (r:=.ptr id off) rfl rfl e1) (zl rfl (e2 _ cL) (zk 6 rfl (zc rfl (Pj (n:=n) hT s I.pl I.lg I.dk (by omega)) ?_))))))
  rintro v h ⟨rfl,s⟩
  simp only[writeAllF] at J hx
  refine zk 5 rfl ?_
  by_cases he:(eY ε n).1=0
  ·skip
   refine zC rfl aD (by simp;exact he) ?_
   refine zv (zj rfl (WP.skip (zr rfl (zb rfl (by exact bx (aA (by omega) (by omega))) ?_))))
   refine zm rfl (zv ?_)
   rw[ak (by simpa using he)] at J hx
   exact ih (i+1) (eY ε n).2 h _ Q (by omega) MP (by omega) s ⟨rfl,rfl,rfl,rfl,aa⟩ J hx
  ·skip
   refine zB rfl aD (by simp;exact he) ?_
   refine zk 7 rfl (WP.ret ?_)
   rw[aJ he] at J
   exact J he _ _ rfl (s.del 3)
theorem J4 (I:W told)(s:Sat h (dK r p q π::bS q p μ::aR p δ::S))(J:rB (π,μ,δ))(hw:δ.waiting.length+π.aG.length≤268435456)(hm:π.aG.length≤1048576)(hk:∀n∈π.aG.map (·.1),(Lit.int .i64 n).wf=true):
  Call ⟨Tryz.prog,told⟩ 92 [.ptr r 0] h fun v h'=>v=.int .i64 (writeAllF (aE π.aG) (π,μ,δ)).1 ∧
   Sat h' (dK r p q (writeAllF (aE π.aG) (π,μ,δ)).2.1::bS q p (writeAllF (aE π.aG) (π,μ,δ)).2.2.1::aR p (writeAllF (aE π.aG) (π,μ,δ)).2.2.2::S):=by
 obtain⟨c8,wh,di,s⟩:=dV.1 s
 obtain⟨wid,rfl⟩:=Dh s (j:=2) rfl
 have hl:(aE π.aG).length=π.aG.length:=by rw[aE,(eF _).length_eq,jw]
 refine Call.of_wp (I.free _ rfl) Tryz.func92 rfl rfl (zK 9 rfl (zY s 0 qZ xz rfl (zc rfl (Sd I s) ?_)))
 rintro v h ⟨b,rfl,s⟩
 refine zc rfl (rX I (s.ae [0,2]) (by decide) hm hk) ?_
 intro kv h s
 refine zo rfl (aP rfl rfl rfl (s.ew (n:=(aE π.aG).length) (j:=0) rfl (by simp[fJ]) (by decide) dI)) ?_
 refine zk 2 rfl (WP.block ?_)
 have s:=dV.2 ⟨c8,.map wid,di,s.ae [3,3,2,2]⟩
 have s:=(s.del 2).ae [0,1,1,0]
 refine GB I (ks:=aE π.aG) (by omega) (aE π.aG).length 0 (π,μ,δ) _ _ _ (by omega) J (by simp only;omega) s ⟨rfl,rfl,rfl,rfl,aa⟩ (fun he E' h' h2 s' => ?_) (fun he E' h' s' => ?_)
 ·rw[gz] at h2 s'
  exact⟨aa,_,qx h2,rfl,s'⟩
 ·rw[gz] at he s'
  rw[he]
  exact WP.has (F:=[]) aa (zK 4 rfl (WP.ret ⟨aa,_,rfl,rfl,s'⟩))
end
def Il (au:Nat)(Q:Ex→List (Nat×V)→H→Prop)(c:Ctx)(a:Act)(w:World)(e:Exit)(J:Act)(w':World): Prop :=
 ∃ex I h' E',e=exOf ex∧jI I E'∧Q ex E' h'∧J.defers=a.defers∧∃c',Rel c' h' w'∧dX c' I au J∧cV c w c' w'
def WPO (C:fH)(au:Nat)(code:Code)(E:List (Nat×V))(h:H)(Q:Ex→List (Nat×V)→H→Prop): Prop :=
 ∀(c:Ctx) (a:Act) (w:World) (env:Env),jI env E→Rel c h w→dX c env au a→code.wpIn (Fr none) 0 C.P (Il au Q c a w) a w
section
variable {au:Nat} {Q':Ex→List (Nat×V)→H→Prop} {a b:Code}
theorem Il.trans {c c₁:Ctx}{A I a':Act}{w J w':World}{e:Exit}(hd:I.defers=A.defers)(hs:cV c w c₁ J)(ho:Il au Q c₁ I J e a' w'): Il au Q c A w e a' w':=by
 obtain⟨ex,MQ,h',E',h1,h2,h3,h4,c',h5,h6,h7⟩:=ho
 exact⟨ex,MQ,h',E',h1,h2,h3,h4.trans hd,c',h5,h6,hs.trans h7⟩
theorem WPO.of (hm:C.P.follows .mixedOrders=true)(J:fO C)(hw:WP C au a E h Q): WPO C au a E h Q:=by
 intro c A w env hE hr he
 obtain⟨N,ex,I,h',E',h1,h2,h3⟩:=hw env hE
 refine wpIn_mono ((CQ hm J N).1 _ _ _ _ h1 none c A w hr he) ?_
 rintro e a' w' ⟨rfl,h4,c',h5,h6,h7⟩
 exact⟨ex,I,h',E',rfl,h2,h3,h4,c',h5,h6,h7⟩
theorem WPO.mono (hw:WPO C au a E h Q)(J:∀ex E' h',Q ex E' h'→Q' ex E' h'): WPO C au a E h Q':=by
 intro c A w env hE hr he
 refine wpIn_mono (hw c A w env hE hr he) ?_
 rintro e a' w' ⟨ex,I,h',E',h1,h2,h3,h4⟩
 exact⟨ex,I,h',E',h1,h2,J _ _ _ h3,h4⟩
theorem WPO.seq (hw:WPO C au a E h fun ex E' h'=>match ex with
  |.normal=>WPO C au b E' h' Q
  |ex=>Q ex E' h'): WPO C au (.seq a b) E h Q:=by
 intro c A w env hE hr he
 refine wpIn_seq (wpIn_mono (hw c A w env hE hr he) ?_)
 rintro e J sY ⟨ex,I,h',E',rfl,h2,h3,h4,c₁,h5,h6,h7⟩
 cases ex with
 |normal=>exact wpIn_mono (h3 c₁ J sY I h2 h5 h6) fun e a' w' ho=>ho.trans h4 h7
 |exit i=>exact⟨_,I,h',E',rfl,h2,h3,h4,c₁,h5,h6,h7⟩
 |ret=>exact⟨_,I,h',E',rfl,h2,h3,h4,c₁,h5,h6,h7⟩
theorem WPO.cond {x:Operand}{t:Bool}(J:bB E x=some (.bool t))(hw:WPO C au (_root_.cond t a b) E h Q): WPO C au (.cond x a b) E h Q:=by
 intro c A w env I hr he
 obtain⟨e1,_⟩:=yC he (bX I J)
 refine wpIn_cond (t:=t) (by rw[e1];rfl) ?_
 have:=hw c A w env I hr he
 cases t<;>simpa using this
theorem WPO.block (hw:WPO C au b E h fun ex E' h'=>match ex with
  |.exit j=>_root_.cond (Nat.beq j i) (Q .normal E' h') (Q (.exit j) E' h')
  |ex=>Q ex E' h'): WPO C au (.block i b) E h Q:=by
 intro c A w env hE hr he
 refine wpIn_block (wpIn_mono (hw c A w env hE hr he) ?_)
 rintro e CF sY ⟨ex,I,h',E',rfl,h2,J,h4,c₁,h5,h6,h7⟩
 cases ex with
 |normal=>simp only[exOf,Exit.inBlock];exact⟨.normal,I,h',E',rfl,h2,J,h4,c₁,h5,h6,h7⟩
 |exit j =>
  by_cases hj:j=i
  ·simp only[qq hj,aj] at J
   simp only[exOf,Exit.inBlock,hj,cX]
   exact⟨.normal,I,h',E',rfl,h2,J,h4,c₁,h5,h6,h7⟩
  ·simp only[eD hj,a_] at J
   simp only[exOf,Exit.inBlock,hj,fM]
   exact⟨.exit j,I,h',E',rfl,h2,J,h4,c₁,h5,h6,h7⟩
 |ret=>simp only[exOf,Exit.inBlock];exact⟨.ret,I,h',E',rfl,h2,J,h4,c₁,h5,h6,h7⟩
theorem WPO.loop (J:Nat→List (Nat×V)→H→Prop)(hJ:∀j E h,J j E h→WPO C au b E h fun ex E' h'=>match ex with
  |.normal=>∃i,i<j∧J i E' h'
  |ex=>Q ex E' h')(h0:J j E h): WPO C au (.loop b) E h Q:=by
 have key:∀m j E h,j<m→J j E h→∀(c:Ctx) (A:Act) (w:World) (env:Env) (R:Exit→Act→World→Prop),jI env E→Rel c h w→dX c env au A →
   (∀e a' w',Il au Q c A w e a' w'→R e a' w')→Code.roundsIn (Fr none) 0 C.P b R m A w:=by
  intro m
  induction m with
  |zero=>intro j E h hj;omega
  |succ m ih =>
   intro j E h hj hJj c A w env R hE hr he hR
   rw[roundsIn_succ]
   refine wpIn_mono (hJ j E h hJj c A w env hE hr he) ?_
   rintro e CF sY ⟨ex,I,h',E',rfl,h2,h3,h4,c₁,h5,h6,h7⟩
   cases ex with
   |normal =>
    obtain⟨i,hi,h3⟩:=h3
    exact ih i E' h' (by omega) h3 c₁ CF sY I R h2 h5 h6 fun e a' w' ho=>hR _ _ _ (ho.trans h4 h7)
   |exit i=>exact hR _ _ _ ⟨_,I,h',E',rfl,h2,h3,h4,c₁,h5,h6,h7⟩
   |ret=>exact hR _ _ _ ⟨_,I,h',E',rfl,h2,h3,h4,c₁,h5,h6,h7⟩
 intro c A w env hE hr he
 exact wpIn_loop_rounds (j+1) (key (j+1) j E h (by omega) h0 c A w env _ hE hr he fun _ _ _ ho=>ho)
theorem Pp {β:Type}{f:α→Option (List β)}{p:β→Prop}: ∀ {L:List α},(∀q∈L,∃s,f q=some [s]∧p s)→∃R,flatM f L=some R∧∀s∈R,p s:=by
 intro L
 induction L with
 |nil=>intro _;exact⟨[],rfl,fun s hs=>by cases hs⟩
 |cons q L ih =>
  intro J
  obtain⟨R,h1,h2⟩:=ih fun q I=>J q (b5 _ I)
  obtain⟨s,e1,e2⟩:=J q b7
  refine⟨s::R,?_,fun s' hs => ?_⟩
  ·simp only[flatM,e1,h1,jk,eB]
  ·rcases List.mem_cons.1 hs with rfl|hs
   ·exact e2
   ·exact h2 s' hs
theorem WPO.next {I J:Oper}{x:Operand}{nE EB:Nat}(hm:C.P.follows .mixedOrders=true)(hT:fO C)(abo:I.guard=none)(abp:J.guard=none)(abq:I.op=.next x false)(acP:I.dst=some nE)
 (Ys:J.op=.extract y 0)(hy:y=.tmp nE)(acQ:J.dst=some EB)(ZM:Nat.blt nE au=true)(WV:Nat.blt EB au=true)(hx:bB E x=some (.ptr r 0))(hL:nextAll h r=some L)
 (hq:∀q∈L,∃t l,q.1=.bf (t::l)∧Q .normal ((EB,t)::(nE,q.1)::E) q.2): WPO C au (.region id #[I,J] false) E h Q:=by
 intro c A w env hE hr he
 subst hy
 have hS:=(CQ (C:=C) hm hT 0).1
 refine wpIn_region ?_
 rw[D5,←AA]
 have ou:∃R,opsAll C (ev C 0) (#[I,J]:Array Oper).toList (#[I,J]:Array Oper).toList ⟨env,au,h⟩=some R∧∀s∈R,∃E',jI s.env E'∧s.au=au∧Q .normal E' s.h:=by
  have e1:∀vz:Env,wantedV [I,J] vz I=true:=fun vz=>by simp only[wantedV,abo]
  have e2:∀vz:Env,wantedV [I,J] vz J=true:=fun vz=>by simp only[wantedV,abp]
  have mM:=bX hE hx
  simp only[opsAll,e1,e2,aj,opAll,abq,mM,gZ,hL]
  refine Pp fun q Bz => ?_
  obtain⟨t,l,k1,k2⟩:=hq q Bz
  refine⟨⟨(env.set nE (some q.1)).set EB (some t),au,q.2⟩,?_,_,(hE.set nE q.1).set EB t,rfl,k2⟩
  have hg:evO (T.set env nE (some (V.bf (t::l)))) (.tmp nE)=some (.bf (t::l)):=by simp only[evO,Env.v,bk,cX]
  simp only[St.put,acP,ZM,aj,Ys,evOp,k1,hg,nth,gZ,bH,acQ,WV,flatM,ej]
 obtain⟨R,ou,h2⟩:=ou
 refine OH hS hT _ 0 ⟨env,au,h⟩ R c A w (fun j=>by rw[gK,lR]) ou hr he ?_
 intro s' FF c' a' w' r1 r2 r3 r4
 obtain⟨E',e1,e2,e3⟩:=h2 s' FF
 exact⟨.normal,s'.env,s'.h,E',rfl,e1,e3,r4,c',r1,by rw[e2] at r2;exact r2,r3⟩
theorem gq.Dy {f:FuncId}{fn:Func}{code:Code}{v:V}{dH:H}(hf:C.P.funcs[f]?=some fn)(hb:fn.body=some code)(hn:args.length≤fn.ntmps)
 (hw:WPO C fn.ntmps code (argE args 0) h fun ex E' h'=>(match ex with|.exit _=>False|_=>True)∧resLE C.P E' h' fn.results.toList=some v∧dH.next=h'.next∧∀id o,T.get dH.tr id=some o→T.get h'.tr id=some o){c:Ctx}{w:World}(hr:Rel c h w)(ha:∀x∈args,wf c x): gq C.P f args c w v dH:=by
 have yM:=kx (c:=c) hn ha
 have N6:=hw c _ w _ (wA args) hr yM
 unfold gq
 refine calls_of_wp hf hb (wpIn_wide.1 (wpIn_mono N6 ?_))
 rintro e a' w' ⟨ex,MQ,h',E',rfl,jf,⟨hx,I,yt,hle⟩,hd,c',r1,r2,r3⟩
 have fin:a'.defers=[]∧∃x,(results fn a'.tmps).run C.P w'=.ok x w'∧∃sJ,Ending.returned x=.returned (conc sJ v)∧wf sJ v∧Rel sJ dH w'∧cV c w sJ w':=by
  refine⟨hd,?_⟩
  unfold resLE at I
  cases Of:mapO (resE C.P E' h') fn.results.toList with
  |none=>simp[Of] at I
  |some vs =>
   rw[Of] at I
   have BI:=A4 (P:=C.P) (s:=⟨MQ,fn.ntmps,h'⟩) jf Of
   obtain⟨t1,t2⟩:=qt (s:=⟨MQ,fn.ntmps,h'⟩) r1 r2 BI
   refine⟨_,t1,c',?_⟩
   have J:=r1.Z0 yt hle
   match vs,I with
   |[],I =>
    simp at I
    subst I
    refine⟨?_,by simp[wf,gR],J,r3⟩
    simp[conc,concL]
   |[x],I =>
    simp at I
    subst I
    exact⟨by simp,t2 _ (by simp),J,r3⟩
   |x::y::l,I =>
    simp at I
    subst I
    refine⟨?_,by simp only[wf,jx];exact t2,J,r3⟩
    rw[dif_neg (by simp)]
    simp[conc,gQ,concL]
 cases ex with
 |normal=>simpa[bodyPost,exOf] using fin
 |exit i=>exact hx.elim
 |ret=>simpa[bodyPost,exOf] using fin
end
end Go.Proofs.YtefepnnfphdkpaaGreat.Am
namespace Go.Proofs.YtefepnnfphdkpaaGreat.Am
open Go
variable {X:aO} {C:fH} {δ:Dk} {ε:aZ} {es:cm} {Q:Ex→List (Nat×V)→H→Prop} {f:Fm} {h h₁ h':H} {μ:Lg} {E:List (Nat×V)} {L:List (V×H)} {S:List aO} {l b data seen:List Nat} {cs post args:List V} {g n k s i aM d z p6 r id off q j tx pv nx j1 j2 p1 c8 c mid clock im N:Nat} {o:Oper} {y:Operand} {a:PM} {π:Pl} {P:Program} {α:Type} {t e:TypeId} {x bv dt v' wh di:V}
theorem mj (l:List Nat)(b x:Nat): inL (l++[b]) x=(inL l x||Nat.beq b x):=by
 induction l with
 |nil=>simp only[eB,inL,AN];cases Nat.beq b x<;>rfl
 |cons y l I=>simp only[jk,inL,I];cases Nat.beq y x<;>simp
theorem Pq : ∀ {l:List (V×V×Nat)} {e:V×V×Nat},e∈leftV seen l→e∈l∧inL seen e.2.2=false:=by
 intro l
 induction l with
 |nil=>intro e h;cases h
 |cons y l I =>
  intro e h
  simp only[leftV] at h
  cases J:inL seen y.2.2 with
  |true=>rw[J,aj] at h;exact⟨b5 _ (I h).1,(I h).2⟩
  |false =>
   rw[J,a_] at h
   rcases List.mem_cons.1 h with rfl|h
   ·exact⟨b7,J⟩
   ·exact⟨b5 _ (I h).1,(I h).2⟩
theorem Pr : ∀ {l:List (V×V×Nat)},leftV seen l=[]→∀e∈l,inL seen e.2.2=true:=by
 intro l
 induction l with
 |nil=>intro _ e he;cases he
 |cons y l J =>
  intro h e he
  simp only[leftV] at h
  cases I:inL seen y.2.2 with
  |false=>rw[I,a_] at h;cases h
  |true =>
   rw[I,aj] at h
   rcases List.mem_cons.1 he with rfl|he
   ·exact I
   ·exact J h e he
theorem Im {b:Nat}: ∀ {l:List (V×V×Nat)},(leftV (seen++[b]) l).length≤(leftV seen l).length:=by
 intro l
 induction l with
 |nil=>exact aU _
 |cons y l I =>
  simp only[leftV,mj]
  cases inL seen y.2.2<;>cases Nat.beq b y.2.2<;>simp<;>omega
theorem Sg : ∀ {l:List (V×V×Nat)} {e:V×V×Nat},e∈leftV seen l→(leftV (seen++[e.2.2]) l).length<(leftV seen l).length:=by
 intro l
 induction l with
 |nil=>intro e h;cases h
 |cons y l J =>
  intro e h
  simp only[leftV] at h
  cases I:inL seen y.2.2 with
  |true =>
   rw[I,aj] at h
   simp only[leftV,mj,I,Bool.true_or,aj]
   exact J h
  |false =>
   rw[I,a_] at h
   simp only[leftV,mj,I,AN,a_]
   rcases List.mem_cons.1 h with rfl|h
   ·rw[gZ,aj]
    have:=Im (seen:=seen) (b:=e.2.2) (l:=l)
    simp;omega
   ·cases Nat.beq e.2.2 y.2.2
    ·simp only[a_,aX];have:=J h;omega
    ·simp only[aj,aX];have:=Im (seen:=seen) (b:=e.2.2) (l:=l);omega
theorem Ps : ∀ {l:cm} {b:Nat},fh c b l→tR c (l.map eP)=true:=by
 intro l
 induction l with
 |nil=>intro b _;rfl
 |cons e l I =>
  intro b h
  simp only[iu,eP,tR]
  rw[iP.2 h.2.1,aj]
  exact I h.2.2
theorem J5 : ∀ {l:cm} {b:Nat},fh c b l→bornRise b (l.map eP)=true:=by
 intro l
 induction l with
 |nil=>intro b _;rfl
 |cons e l I =>
  intro b h
  simp only[iu,eP,bornRise]
  rw[bg.2 h.1,aj]
  exact I h.2.2
theorem pE : ∀ {l:cm} {b:Nat},fh c b l→∀e∈l,b≤e.2.2:=by
 intro l
 induction l with
 |nil=>intro b _ e he;cases he
 |cons y l I =>
  intro b h e he
  rcases List.mem_cons.1 he with rfl|he
  ·exact h.1
  ·have:=I h.2.2 e he;have:=h.1;omega
theorem qC : ∀ {l:cm} {b:Nat} {e:Int×V×Nat},fh c b l→e∈l→tH e.2.2 (l.map eP)=some (eP e):=by
 intro l
 induction l with
 |nil=>intro b e _ he;cases he
 |cons y l I =>
  intro b e h he
  simp only[iu,tH]
  rcases List.mem_cons.1 he with rfl|he
  ·show cond (Nat.beq e.2.2 e.2.2) _ _=_
   rw[gZ,aj]
  ·have:=pE h.2.2 e he
   show cond (Nat.beq y.2.2 e.2.2) _ _=_
   rw[eD (by omega),a_]
   exact I h.2.2 he
theorem Pt : ∀(l:List Nat) (b:Nat),lastN (l++[b])=some b:=by
 intro l b
 induction l with
 |nil=>rfl
 |cons x l I =>
  cases l with
  |nil=>rfl
  |cons y l=>simpa[lastN] using I
section
variable {since b:Nat}
theorem Io {e:Int×V×Nat}(J:T.get h.tr r=some (.iter mid since clock (seen++[e.2.2])))(hm:T.get h.tr mid=some (.map (es.map eP) clock))(I:fh clock 0 es)(he:e∈es):
  v7 h (.ptr r 0)=some (.bf [.int .i64 e.1,e.2.1]):=by
 simp only[v7,gZ,aj,J,hm,J5 I,jl,Pt,qC I he]
 rfl
theorem next_at (I:T.get h.tr r=some (.iter mid since clock seen))(hs:since≤clock)(hm:T.get h.tr mid=some (.map (es.map eP) clock))(J:fh since 0 es):
  nextAll h r=some (match leftV seen (es.map eP) with
   |[]=>[(.bf [.bool false],h)]
   |l=>l.map fun e=>(.bf [.bool true,e.1,e.2.1],h.put r (some (.iter mid since clock (seen++[e.2.2]))))):=by
 simp only[nextAll,I,hm,Ps J,bg.2 hs,jl,aj]
 cases leftV seen (es.map eP)<;>rfl
theorem Ip (hg:T.get h.tr r=some (.iter mid since clock seen))(hs:since≤clock)(hm:T.get h.tr mid=some (.map (es.map eP) clock))(hb:fh since 0 es)(hL:nextAll h r=some L):
  ∀q∈L,(q=(.bf [.bool false],h)∧∀e∈es,inL seen e.2.2=true) ∨
   ∃e∈es,inL seen e.2.2=false∧(leftV (seen++[e.2.2]) (es.map eP)).length<(leftV seen (es.map eP)).length∧q=(.bf [.bool true,.int .i64 e.1,e.2.1],h.put r (some (.iter mid since clock (seen++[e.2.2])))):=by
 rw[next_at hg hs hm hb] at hL
 simp only[aC] at hL
 subst hL
 intro q hq
 cases J:leftV seen (es.map eP) with
 |nil =>
  rw[J] at hq
  refine .inl ⟨List.mem_singleton.1 hq,fun e he => ?_⟩
  exact Pr J (eP e) (m4 he)
 |cons y l =>
  rw[J] at hq
  obtain⟨e',I,rfl⟩:=List.mem_map.1 hq
  rw[←J] at I
  obtain⟨h1,h2⟩:=Pq I
  obtain⟨e,he,rfl⟩:=List.mem_map.1 h1
  have h3:=Sg I
  rw[J] at h3
  exact .inr ⟨e,he,h2,h3,rfl⟩
end
open Classical in
noncomputable def kE (P:Program)(f:FuncId)(jt:List V→H→V×H→Prop)(args:List V)(h:H): Option (V×H) :=
 if I:∃r,jt args h r∧∀(c:Ctx) (w:World),Rel c h w→(∀x∈args,wf c x)→gq P f args c w r.1 r.2 then some I.choose else none
theorem vf {f : FuncId} {jt : List V → H → V × H → Prop} (J : ∃ fn, P.funcs[f]? = some fn ∧ fn.body.isSome = true ∧ (fn.name == "runtime.NumGoroutine") = false) : KI P f (kE P f jt) := by
 refine .inl ⟨J, fun args σ v dH I c w h hw => ?_⟩
 unfold kE at I
 split at I
 ·rename_i hx
  have := hx.choose_spec.2 c w h hw
  injection I with I
  rw [I] at this
  exact this
 ·cases I
theorem vg {f:FuncId}{jt:List V→H→V×H→Prop}{r:V×H}(J:jt args h r)(h2:∀(c:Ctx) (w:World),Rel c h w→(∀x∈args,wf c x)→gq P f args c w r.1 r.2):
  ∃r,kE P f jt args h=some r∧jt args h r:=by
 have I:∃r,jt args h r∧∀(c:Ctx) (w:World),Rel c h w→(∀x∈args,wf c x)→gq P f args c w r.1 r.2:=⟨r,J,h2⟩
 refine⟨I.choose,?_,I.choose_spec.1⟩
 unfold kE
 rw[dif_pos I]
noncomputable def Bi (f:Nat): Option (List V→H→Option (V×H)) :=
 cond (Nat.beq f 61) (some (toldSorted Bc)) (cond (Nat.beq f 178) (some toldMore) none)
noncomputable abbrev CB : fH:=⟨Tryz.prog,Bi⟩
theorem iD : Tryz.prog.follows .mixedOrders=true:=by kernel_rfl
theorem fQ : fO CB:=by
 intro f g I
 simp only[CB,Bi] at I ⊢
 by_cases h1:f=61
 ·subst h1
  rw[qq rfl,aj] at I
  simp only[aC] at I
  subst I
  exact .inl ⟨⟨_,Tryz.func61,rfl,by decide⟩,fun args σ v dH J c w h _=>Gx bF O0 J h⟩
 ·rw[eD h1,a_] at I
  by_cases h2:f=178
  ·subst h2
   rw[qq rfl,aj] at I
   simp only[aC] at I
   subst I
   exact .inl ⟨⟨_,CM,rfl,by decide⟩,fun args σ v dH J c w h hw=>JS (C:=CB) rfl iD J h hw⟩
  ·rw[eD h2,a_] at I
   cases I
theorem W.base : W Bi:=by
 refine⟨fun f I => ?_,rfl,rfl⟩
 have J:f≠61:=fun e=>by subst e;revert I;decide
 have h2:f≠178:=fun e=>by subst e;revert I;decide
 simp only[Bi,eD J,eD h2,a_]
theorem h_.det {f:FuncId}{v:V}{I:H}(a:h_ C f args h v h₁)(b:h_ C f args h v' I): v=v'∧h₁=I:=by
 obtain⟨N,hN⟩:=a
 obtain⟨M,hM⟩:=b
 have e1:=qu (fP (pN N M)) hN
 have J:=qu (fP (pM N M)) hM
 rw[e1] at J
 simp only[aC,bL] at J
 exact J
section
variable {st:Bool} {v:V}
theorem Sat.Yt (s:Sat h S)(hk:getA S k=some (pt id (.cells n cs false)))(hs:bJ P t=some 1)(hl:cs.length=n)(ho:off<n)(hv:v.cells=[v])(I:storable v=true):
  hG P h t (.ptr id off) v=some (h.put id (some (.cells n (cs.set off v) false))):=by
 simp only[hG,hs,hv,aX,cI,gJ,ki,I,Bool.and_true]
 rw[show Nat.beq (0+1) 1=true from rfl,aj]
 simp only[wrN,s.row hk,aX,cI]
 rw[bg.2 (show off+(0+1)≤n by omega),aj]
 congr 3
 rw[KC,aJ (by omega)]
 cases J:(Nat.beq off 0&&Nat.beq (0+1) n) with
 |true =>
  simp only[bK,beq_iff] at J
  obtain⟨rfl,hn⟩:=J
  rw[aj]
  have:cs.drop (0+1)=[]:=kK (by omega)
  simp[this]
 |false=>rw[a_];rfl
end
theorem OpR.entry {x:Operand}{v r:V}(I:o.op=.entry x)(J:bB E x=some v)(hf:v7 h v=some r): OpR C E h o fun w h'=>w=r∧h'=h :=
 ⟨r,h,⟨rfl,rfl⟩,fun env hE=>⟨0,by simp only[evOp,I,bX hE J,hf,bH]⟩⟩
theorem OpR.range {x:Operand}{v r:V}(I:o.op=.range t x)(J:bB E x=some v)(hf:rangeV C.P h t v=some (r,h₁)): OpR C E h o fun w h'=>w=r∧h'=h₁ :=
 ⟨r,h₁,⟨rfl,rfl⟩,fun env hE=>⟨0,by simp only[evOp,I,bX hE J,hf]⟩⟩
def doneRow (seen:List Nat): cm→List V→List V
 |[],row=>row
 |e::l,row=>doneRow seen l (cond (inL seen e.2.2) (row.set e.1.toNat e.2.1) row)
def nI : cm→List V→List V
 |[],row=>row
 |e::l,row=>nI l (row.set e.1.toNat e.2.1)
theorem J6 : ∀ {l:cm} {row:List V},(∀e∈l,inL seen e.2.2=true)→doneRow seen l row=nI l row:=by
 intro l
 induction l with
 |nil=>intro row _;rfl
 |cons e l J =>
  intro row h
  simp only[doneRow,nI,h e b7,aj]
  exact J fun e' I=>h e' (b5 _ I)
theorem J7 : ∀ {l:cm} {row:List V},doneRow [] l row=row:=by
 intro l
 induction l with
 |nil=>intro row;rfl
 |cons e l I=>intro row;simp only[doneRow,inL,a_];exact I
theorem J8 : ∀ {l:cm} {row:List V},(doneRow seen l row).length=row.length:=by
 intro l
 induction l with
 |nil=>intro row;rfl
 |cons e l I=>intro row;simp only[doneRow];rw[I];cases inL seen e.2.2<;>simp
theorem J9 {v:V}: ∀ {l:cm} {row:List V},(∀e∈l,e.1.toNat≠i)→doneRow seen l (row.set i v)=(doneRow seen l row).set i v:=by
 intro l
 induction l with
 |nil=>intro row _;rfl
 |cons e l ih =>
  intro row h
  simp only[doneRow]
  have h1:=h e b7
  cases inL seen e.2.2 with
  |true=>rw[aj,aj,List.set_comm _ _ (qU h1)];exact ih fun J I=>h J (b5 _ I)
  |false=>exact ih fun J I=>h J (b5 _ I)
theorem GC {b:Nat}: ∀ {l:cm} {row:List V},(∀e∈l,e.2.2≠b)→doneRow (seen++[b]) l row=doneRow seen l row:=by
 intro l
 induction l with
 |nil=>intro row _;rfl
 |cons e l J =>
  intro row h
  simp only[doneRow,mj,eD (qU (h e b7)),Bool.or_false]
  exact J fun e' I=>h e' (b5 _ I)
theorem Iq : ∀ {l:cm} {b:Nat} {row:List V} {e:Int×V×Nat},fh c b l→(l.map fun e=>e.1.toNat).Nodup→e∈l→inL seen e.2.2=false →
  doneRow (seen++[e.2.2]) l row=(doneRow seen l row).set e.1.toNat e.2.1:=by
 intro l
 induction l with
 |nil=>intro b row e _ _ he;cases he
 |cons y l ih =>
  intro b row e J hn he hs
  simp only[iu,Ej] at hn
  rcases List.mem_cons.1 he with rfl|he
  ·simp only[doneRow,mj,hs,gZ,Bool.or_true,aj,a_]
   rw[GC fun e' I=>by have:=pE J.2.2 e' I;omega]
   exact J9 fun e' I hq=>hn.1 (hq ▸ m4 (f:=fun e:Int×V×Nat=>e.1.toNat) I)
  ·have:=pE J.2.2 e he
   simp only[doneRow,mj,eD (show e.2.2≠y.2.2 by omega),Bool.or_false]
   exact ih J.2.2 hn.2 he hs
def laidP : List (Int×List Nat)→List (Option (List Nat))→List (Option (List Nat))
 |[],m=>m
 |e::l,m=>laidP l (m.set e.1.toNat (some e.2))
theorem nJ : ∀ {l:List (Int×List Nat)} {m:List (Option (List Nat))},(laidP l m).length=m.length:=by
 intro l
 induction l with
 |nil=>intro row;rfl
 |cons e l I=>intro row;simp only[laidP];rw[I];simp
theorem J_ {b:PM}: ∀ {es:cm} {m:List (Int×List Nat)} {row:List V} {pg:List (Option (List Nat))},(eV (fun v x=>.cg v x) es m).p a b→(∀e∈m,e.2≠[])→(each k_ row pg).p a b→(each k_ (nI es row) (laidP m pg)).p a b:=by
 intro es
 induction es with
 |nil=>intro m row pg h _ hr;cases m with
  |nil=>exact hr
  |cons x m=>exact h.elim
 |cons e es ih=>intro m row pg h I hr;cases m with
  |nil=>exact h.elim
  |cons x m =>
   obtain⟨⟨h1,h2⟩,h3⟩:=h
   simp only[nI,laidP]
   have hk:e.1=x.1:=h1
   refine ih h3 (fun e he=>I e (b5 _ he)) ?_
   rw[hk]
   refine Cc hr ⟨?_,h2⟩
   rintro hv
   have J:ViewM b e.2.1 x.2:=h2
   rw[hv] at J
   rcases J.2 with⟨_,h4⟩|h4
   ·exact I x b7 h4
   ·obtain⟨_,_,_,_,_,_,h4,_⟩:=h4
    cases h4
def Dk.sync (δ:Dk): Dk:={ δ with aq:=laidP δ.now δ.aq,waiting:=[],now:=[] }
section
variable {told:dc} {p:Nat} {v:V} {m:List Fm}
noncomputable def Dz (h:H)(p:Nat)(cs:List V)(im N:Nat)(row:List V)(mid:Nat)(es:cm)(clock:Nat): H :=
 ((((h.new (.iter mid clock clock [])).put im (some (.cells N (nI es row) false))).put p (some (.cells 12 (cs.set 2 .bC) false))).put mid (some (.map [] clock))).put h.next none
def EY (args:List V)(h:H)(r:V×H): Prop:=∃p cs,args=[.ptr p 0]∧T.get h.tr p=some (.cells 12 cs false) ∧
 ((nth cs 9=some (.bool true)∧r=(.int .i64 9,h))∨(nth cs 9=some (.bool false)∧∃v1 I,h_ CB 164 [.ptr p 0] h v1 I ∧
  ((v1=.bool false∧r=(.int .i64 9,I))∨(v1=.bool true∧∃cs im N row mid es clock,T.get I.tr p=some (.cells 12 cs false)∧nth cs 1=some (.sl im 0 N (.exact N))∧nth cs 3=some (.map mid) ∧
   T.get I.tr im=some (.cells N row false)∧T.get I.tr mid=some (.map (es.map eP) clock)∧r=(.int .i64 0,Dz I p cs im N row mid es clock)))))
structure EZ (h h':H)(X:List Nat): Prop where
 next:h'.next=h.next
 get:∀i,i∉X→T.get h'.tr i=T.get h.tr i
theorem EZ.put {X:List Nat}(s:EZ h h' X){o:Option Obj}(hi:i∈X): EZ h (h'.put i o) X :=
 ⟨s.next,fun j I=>by rw[dP,ak (fun(e:j=i)=>I (e ▸ hi))];exact s.get j I⟩
theorem z8 {f:V→α→aO}{b:PM}: ∀ {l:cm} {m:List (Int×α)},(eV f l m).p a b→∀e∈l,∃x,(e.1,x)∈m∧(f e.2.1 x).p a b:=by
 intro l
 induction l with
 |nil=>intro m _ e he;cases he
 |cons y l I=>intro m h e he;cases m with
  |nil=>exact h.elim
  |cons x m =>
   obtain⟨⟨J,h2⟩,h3⟩:=h
   rcases List.mem_cons.1 he with rfl|he
   ·exact⟨x.2,by rw[show e.1=x.1 from J];exact b7,h2⟩
   ·obtain⟨z,k1,k2⟩:=I h3 e he
    exact⟨z,b5 _ k1,k2⟩
noncomputable def syA : Code:=cD [0] ((Tryz.f139.body).getD .skip)
noncomputable def syB : Code:=cD [1,0] ((Tryz.f139.body).getD .skip)
noncomputable def syC : Code:=cD [1,1,0,0] ((Tryz.f139.body).getD .skip)
noncomputable def Yu : Code:=cD [1,1,0,1,0,0,0] ((Tryz.f139.body).getD .skip)
noncomputable def syD : Code:=cD [1,1,0,1,0,0,1,1,0] ((Tryz.f139.body).getD .skip)
noncomputable def syE : Code:=cD [1,1,1] ((Tryz.f139.body).getD .skip)
theorem Cg : Tryz.f139.body=some (.seq syA (.seq syB (.seq (.seq syC (.block 0 (.loop (.seq Yu (.seq (.cond (.tmp 20) .skip (.exit 0)) (.block 1 syD)))))) syE))):=rfl
theorem VU : ∃id I J,Yu=.region id #[I,J] false∧I.guard=none∧J.guard=none∧I.op=.next (.tmp 18) false∧I.dst=some 19∧J.op=.extract (.tmp 19) 0∧J.dst=some 20:=⟨_,_,_,rfl,rfl,rfl,rfl,rfl,rfl,rfl⟩
def syJ (h₀:H)(p it im N mid clock:Nat)(cs row:List V)(es:cm)(S:List aO)(j:Nat)(E:List (Nat×V))(h:H): Prop :=
 ∃seen,Has E [(0,.ptr p 0),(18,.ptr it 0)]∧j=(leftV seen (es.map eP)).length∧EZ h₀ h [it,im] ∧
  Sat h (pt it (.iter mid clock clock seen)::pt p (.cells 12 cs false)::pt im (.cells N (doneRow seen es row) false)::gv mid es clock::S)
theorem Pu {h₀:H}{it:Nat}{row:List V}(yL:nth cs 1=some (.sl im 0 N (.exact N)))(hl:row.length=N)(J:fh clock 0 es)(hn:(es.map fun e=>e.1.toNat).Nodup)
 (hk:∀e∈es,0≤e.1∧e.1<N)(hv:∀e∈es,e.2.1.cells=[e.2.1]∧storable e.2.1=true)(h0:syJ h₀ p it im N mid clock cs row es S j E h):
  WPO CB 38 (.loop (.seq Yu (.seq (.cond (.tmp 20) .skip (.exit 0)) (.block 1 syD)))) E h fun ex E' h'=>ex=.exit 0∧Has E' [(0,.ptr p 0)]∧EZ h₀ h' [it,im] ∧
   ∃seen,Sat h' (pt it (.iter mid clock clock seen)::pt p (.cells 12 cs false)::pt im (.cells N (nI es row) false)::gv mid es clock::S):=by
 refine WPO.loop (syJ h₀ p it im N mid clock cs row es S) ?_ h0
 rintro j E h ⟨seen,hE,rfl,hs,s⟩
 have g1:=s.row (k:=0) rfl
 have g2:=s.row (k:=3) rfl
 obtain⟨id,LQ,JC,q0,q1,q2,q3,q4,q5,q6⟩:=VU
 refine WPO.seq ?_
 rw[q0]
 have hL:=next_at g1 (aU _) g2 J
 refine WPO.next iD fQ q1 q2 q3 q4 q5 rfl q6 rfl rfl (r:=it) ?_ hL fun q hq => ?_
 ·exact hE.2.1
 ·rcases Ip g1 (aU _) g2 J hL q hq with⟨rfl,I⟩|⟨e,he,Uw,cE,rfl⟩
  ·refine⟨.bool false,[],rfl,?_⟩
   refine WPO.seq (WPO.cond (t:=false) rfl ?_)
   refine WPO.of iD fQ (WP.exit ?_)
   refine⟨rfl,⟨hE.1,aa⟩,hs,seen,?_⟩
   rw[←J6 I]
   exact s
  ·refine⟨.bool true,_,rfl,?_⟩
   refine WPO.seq (WPO.cond (t:=true) rfl ?_)
   refine WPO.of iD fQ (WP.skip ?_)
   refine WPO.block (WPO.of iD fQ ?_)
   have s:=s.put (o':=.iter mid clock clock (seen++[e.2.2])) (k:=0) rfl
   have hs:=hs.put (i:=it) (o:=some (.iter mid clock clock (seen++[e.2.2]))) b7
   generalize h.put it (some (.iter mid clock clock (seen++[e.2.2])))=h' at s hs
   have g1:=s.row (k:=0) rfl
   have g2:=s.row (k:=3) rfl
   refine WP.has (F:=[(0,.ptr p 0),(18,.ptr it 0),(20,.bool true)]) ⟨hE.1,hE.2.1,rfl,aa⟩ (zg rfl (ay.any rfl rfl rfl (OpR.entry rfl rfl (Io g1 g2 J he)) ?_))
   rintro v h ⟨rfl,rfl⟩
   refine zk 8 rfl (zf rfl (ng _ _) (zl rfl (s.ld (k:=1) rfl rM yL) (zk 2 rfl ?_)))
   obtain⟨k1,k2⟩:=hk e he
   refine zo rfl (cj (r:=.ptr im e.1.toNat) rfl rfl (by rw[Ub,show(decide (0≤e.1)&&decide (e.1<(N:Int)))=true by simp;omega,aj];simp)) ?_
   have e1:=s.Yt (P:=Tryz.prog) (k:=2) (t:=28) (off:=e.1.toNat) rfl ij (by rw[J8];exact hl) (by omega) (hv e he).1 (hv e he).2
   have s1:=s.put (o':=.cells N ((doneRow seen es row).set e.1.toNat e.2.1) false) (k:=2) rfl
   refine ay.T1 rfl rfl (wF rfl rfl e1) (zv ?_)
   refine⟨_,cE,seen++[e.2.2],⟨rfl,rfl,aa⟩,rfl,hs.put (by simp),?_⟩
   rw[Iq J hn he Uw]
   exact s1
theorem Sh {row:List V}(hs:EZ (h₁.new (.iter mid clock clock [])) h' [h₁.next,im])(hi:T.get h'.tr im=some (.cells N (nI es row) false))(hp:p≠im)(hm:mid≠im):
  (Dz h₁ p cs im N row mid es clock).next=((h'.put p (some (.cells 12 (cs.set 2 .bC) false))).put mid (some (.map [] clock))).next ∧
  ∀id o,T.get (Dz h₁ p cs im N row mid es clock).tr id=some o→T.get ((h'.put p (some (.cells 12 (cs.set 2 .bC) false))).put mid (some (.map [] clock))).tr id=some o:=by
 refine⟨hs.next.symm,fun id o ho => ?_⟩
 unfold Dz at ho
 rw[dP] at ho
 by_cases J:id=h₁.next
 ·rw[aJ J] at ho;cases ho
 ·rw[ak J,dP] at ho
  rw[dP]
  by_cases h2:id=mid
  ·rw[aJ h2] at ho ⊢;exact ho
  ·rw[ak h2,dP] at ho
   rw[ak h2,dP]
   by_cases h3:id=p
   ·rw[aJ h3] at ho ⊢;exact ho
   ·rw[ak h3,dP] at ho
    rw[ak h3]
    by_cases I:id=im
    ·rw[aJ I] at ho;rw[I,hi];exact ho
    ·rw[ak I] at ho
     rw[hs.get id (by simp[J,I])]
     exact ho
theorem Si {es:List (V×V×Nat)}{kt et:TypeId}(I:T.get h.tr mid=some (.map es c))(hu:P.underlying t=some (.map kt et)):
  ∃v h₁,builtinV P h .clear #[t] [.map mid]=some (v,h₁)∧(fun(_:V) (h₁:H)=>h₁=h.put mid (some (.map [] c))) v h₁ :=
 ⟨cu,_,by simp only[builtinV,clearV,hu,I];rfl,rfl⟩
theorem Pv (s:Sat h (aR p δ::S))(ob:δ.Ok)(hk:∀e∈δ.now,0≤e.1∧e.1<δ.aq.length):
  ∃r,EY [.ptr p 0] h r∧∀(c:Ctx) (w:World),Rel c h w→(∀x∈[V.ptr p 0],wf c x)→gq Tryz.prog 139 [.ptr p 0] c w r.1 r.2:=by
 obtain⟨pg,wt,nw,lg,mk,tn,tl,ops,s1⟩:=bE.1 s
 have gp:=s1.row (k:=0) rfl
 cases hd:δ.dead with
 |true =>
  refine⟨(.int .i64 9,h),⟨p,_,rfl,gp,.inl ⟨by rw[hd];rfl,rfl⟩⟩,fun c w hr ha => ?_⟩
  refine gq.Dy (C:=CB) (args:=[.ptr p 0]) zQ Cg (show 1≤Tryz.f139.ntmps by decide) ?_ hr ha
  refine WPO.seq (WPO.of iD fQ ?_)
  have s:=s1
  refine zr rfl (za rfl (zv ?_))
  refine WPO.seq (WPO.of iD fQ ?_)
  exact zK 4 rfl (zf rfl (ko _ _) (zt rfl (aW rfl (s.ld (k:=0) rfl jK rfl)) (hd) (zk 11 rfl (WP.ret ⟨aa,qx rfl,rfl,fun _ _ h=>h⟩))))
 |false =>
  obtain⟨v1,J,yT,hR⟩:=qb W.base s ob.aS
  have I:Call CB 164 [.ptr p 0] h (fun v' h'=>v'=v1∧h'=J):=⟨v1,J,yT,rfl,rfl⟩
  rcases hR with⟨h0,rfl,s2⟩|⟨h0,rfl,s2⟩
  ·refine⟨(.int .i64 9,J),⟨p,_,rfl,gp,.inr ⟨by rw[hd];rfl,_,J,yT,.inl ⟨rfl,rfl⟩⟩⟩,fun c w hr ha => ?_⟩
   refine gq.Dy (C:=CB) (args:=[.ptr p 0]) zQ Cg (show 1≤Tryz.f139.ntmps by decide) ?_ hr ha
   refine WPO.seq (WPO.of iD fQ ?_)
   have s:=s1
   refine zr rfl (za rfl (zv ?_))
   refine WPO.seq (WPO.of iD fQ ?_)
   refine zK 4 rfl (zf rfl (ko _ _) (zh rfl (aW rfl (s.ld (k:=0) rfl jK rfl)) (hd) (zk 2 rfl (zc rfl (I) ?_))))
   rintro v h ⟨rfl,rfl⟩
   exact zo rfl (dQ rfl rfl) (zk 7 rfl (WP.ret ⟨aa,qx rfl,rfl,fun _ _ h=>h⟩))
  ·obtain⟨pg,wt,nw,lg,mk,tn,tl,ops,s3⟩:=bE.1 s2
   obtain⟨im,row,rfl,s4⟩:=gH.1 (s3.ae [1])
   obtain⟨mid,es,clock,rfl,hb,hn,s5⟩:=eH.1 (s4.ae [4])
   dsimp only[bringA,getA,aL] at s5
   have s6:=s5.ae [4,2,0,0,0,0]
   dsimp only[bringA,getA,aL] at s6
   have gp1:=s6.row (k:=0) rfl
   have gi:=s6.row (k:=1) rfl
   have gm:=s6.row (k:=2) rfl
   obtain⟨a,b,_,_,q3⟩:=s6.at (k:=3) rfl
   obtain⟨a',b',_,_,q4⟩:=s6.at (k:=4) rfl
   have xw:row.length=δ.cY.aq.length:=ry q4
   have Q3:=tc q3
   have Yv:∀e∈es,0≤e.1∧e.1<(δ.cY.aq.length:Int):=fun e he=>by
    obtain⟨x,k1,_⟩:=z8 q3 e he
    exact hk _ k1
   have dZ:∀e∈es,e.2.1.cells=[e.2.1]∧storable e.2.1=true:=fun e he=>by
    obtain⟨x,_,k2⟩:=z8 q3 e he
    have k3:ViewM b e.2.1 x:=k2
    rcases k3.2 with⟨k4|⟨_,k4⟩,_⟩|⟨_,_,_,_,_,_,k4,_⟩
    ·rw[k4];exact⟨rfl,rfl⟩
    ·rw[k4];exact⟨rfl,rfl⟩
    ·rw[k4];exact⟨rfl,rfl⟩
   have lK:(es.map fun e=>e.1.toNat).Nodup:=by
    have J:(es.map (·.1)).Nodup:=by rw[Q3];exact hn
    rw[List.nodup_iff_pairwise_ne,List.pairwise_map] at J ⊢
    refine(List.pairwise_iff_forall_sublist.2 fun {x y} Yw => ?_)
    have h2:=(List.pairwise_iff_forall_sublist.1 J) Yw
    have hx:=(Yv x (Yw.subset b7)).1
    have hy:=(Yv y (Yw.subset (b5 _ b7))).1
    omega
   refine⟨(.int .i64 0,Dz J p _ im δ.cY.aq.length row mid es clock),⟨p,_,rfl,gp,.inr ⟨by rw[hd];rfl,_,J,yT,.inr ⟨rfl,_,im,_,row,mid,es,clock,gp1,rfl,rfl,gi,gm,rfl⟩⟩⟩,fun c w hr ha => ?_⟩
   refine gq.Dy (C:=CB) (args:=[.ptr p 0]) zQ Cg (show 1≤Tryz.f139.ntmps by decide) ?_ hr ha
   refine WPO.seq (WPO.of iD fQ ?_)
   have s:=s1
   refine zr rfl (za rfl (zv ?_))
   refine WPO.seq (WPO.of iD fQ ?_)
   refine zK 4 rfl (zf rfl (ko _ _) (zh rfl (aW rfl (s.ld (k:=0) rfl jK rfl)) (hd) (zk 2 rfl (zc rfl (I) ?_))))
   rintro v h ⟨rfl,rfl⟩
   refine zo rfl (dQ rfl rfl) (zp rfl (zv (zj rfl (WP.skip ?_))))
   refine WPO.seq (WPO.seq (WPO.of iD fQ ?_))
   have s:=s6
   refine zK 3 rfl (zY s 0 A8 jQ rfl (ay.any rfl rfl rfl (OpR.range rfl rfl (show rangeV Tryz.prog h 109 (.map mid)=some (.ptr h.next 0,h.new (.iter mid clock clock [])) by simp only[rangeV,kZ,gm])) ?_))
   rintro v h' ⟨rfl,rfl⟩
   refine zv ?_
   have s7:=s.new (.iter mid clock clock [])
   refine WPO.block ((Pu (row:=row) (es:=es) (S:=_) rfl xw hb lK Yv dZ ⟨[],⟨rfl,rfl,aa⟩,rfl,⟨rfl,fun _ _=>rfl⟩,by rw[J7];exact s7⟩).mono ?_)
   rintro ex E' h' ⟨rfl,jf,hs,seen,s⟩
   refine WPO.of iD fQ (WP.has jf ?_)
   have e1:=s.Yt (P:=Tryz.prog) (k:=1) (t:=146) (off:=2) (v:=.bC) rfl Uc rfl (by decide) rfl rfl
   have s8:=s.put (o':=.cells 12 (List.set (wL δ.cY.room (.sl im 0 δ.cY.aq.length (.exact δ.cY.aq.length)) wt (.map mid) lg δ.cY.bh mk δ.cY.aS ops δ.cY.dead tn tl) 2 .bC) false) (k:=1) rfl
   have kU:p≠im:=(s.ae [1,1]).ne
   have hnm:mid≠im:=(s.ae [3,2]).ne
   have gi:=s.row (k:=2) rfl
   have Yx:=Sh (p:=p) (cs:=(wL δ.cY.room (.sl im 0 δ.cY.aq.length (.exact δ.cY.aq.length)) wt (.map mid) lg δ.cY.bh mk δ.cY.aS ops δ.cY.dead tn tl)) hs gi kU hnm
   refine zK 4 rfl (zf rfl (tM _ _) (ay.T1 rfl rfl (wF rfl rfl e1) ?_))
   have s:=s8
   have gm8:=s.row (k:=3) rfl
   refine zk 5 rfl (zY s 1 A8 jQ rfl (ay.iB rfl rfl (OpR.builtin rfl rfl rfl (Si gm8 kZ)) ?_))
   rintro v h'' rfl
   exact zk 5 rfl (WP.ret ⟨aa,qx rfl,Yx.1,Yx.2⟩)
end
end Go.Proofs.YtefepnnfphdkpaaGreat.Am

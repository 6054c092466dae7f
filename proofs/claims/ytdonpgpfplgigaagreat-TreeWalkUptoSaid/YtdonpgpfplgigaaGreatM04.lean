/- TreeWalk: a part of its proof; conditions: its statement's. -/
import Derived.Test.YtdonpgpfplgigaaGreatM02
import Derived.Test.YtdonpgpfplgigaaGreatM03
set_option linter.defProp false
namespace Go.Proofs.YtdonpgpfplgigaaGreat.Am
open Go Go.Maps Go.Sort Go.Shelf Go.RowKit
def aP:=@Tryz.underlying98
def jT:=@Tryz.underlying32
def lX:=@Tryz.underlying45
def FU:=@Tryz.underlying213
def BY:=@Tryz.underlying211
def KA:=@Tryz.underlying269
def KB:=@Tryz.underlying278
abbrev af {α:Type}:Option α:=none
variable {X:aE} {C:gE} {Q:Ex→List (Nat×V)→H→Prop} {h:H} {kd pg:Int} {now:List (Int×List Nat)} {E:List (Nat×V)} {S:List aE} {l b data:List Nat} {cs post args:List V} {g n k i size bk a d z p6 id off q j tx pv nx j1 j2 p1 r dO aN:Nat} {y:Operand} {P:Program} {α:Type} {t e:TypeId} {x u bv dt w v' wh di:V}
theorem acf (m:Nat): AnyZI.SortsIn Tryz.prog Tryz.sorted61_ren Fence.wide m :=
 ⟨fun oM off cap ss W hH I fJ=>callsIn_wide.2 (AnyM.slices_Sort_int Tryz.sort143 oM off cap ss W hH I fJ),
  fun p cap W=>callsIn_wide.2 (AnyM.slices_Sort_int_none Tryz.sort143 p cap W)⟩
theorem NB (eg:∀args w,(callFunc g args).run Tryz.prog w=.ok (.enter g args) w){Bm:Nat}{D0:DataW Unit}{w:World}(kO:Maps.size D0≤maxLen)(I:Maps.size D0*8≤140737488355328)
 (adj:SeqGives Fence.wide 2 Tryz.prog g #[.pointer (some ⟨Bm,0,none⟩)] encZ (fun ss=>ss.Perm (intKeys D0)) (Maps.size D0) w):
  Calls Tryz.prog 61 #[.func (.func g) #[] #[.pointer (some ⟨Bm,0,none⟩)]] w fun e w'=>∃(v:Value) (ss:List Int),e=.returned v∧ss.Perm (intKeys D0) ∧
   w'.ownsRow w.heap.size 3 1 v ss.length ((ss.mergeSort (fun x y=>decide (x≤y))).map encZ)∧(v=.slice none 0 0↔ss=[])∧Below w.heap.size w w' :=
 (callsIn_wide (n:=5)).1 (AnyZI.sorted_in Tryz.sorted61 Fence.wide 5 aa aa aa aa rfl (by omega) (acf _) (enters_of Tryz.func143 (by rfl) rfl) g _ aa eg _ _ kO I _ adj)
def Dw : List Nat:=[144,205]
theorem RI : Iy Tryz.prog 61 3 Dw:=by
 intro g hg Bm b nn D0 w hB hm O5 kO I
 simp only[Dw,gj,jY,nE] at hg
 rcases hg with rfl|rfl
 ·exact NB (enters_of Tryz.func144 (by rfl) rfl) kO I (AnyZI.keys_gives (ρ:=Tryz.keys62_ren) { Tryz.keys62 with } Fence.wide _ aa rfl (by omega) Bm b nn D0 w hB hm O5)
 ·exact NB (enters_of Tryz.func205 (by rfl) rfl) kO I (AnyZI.keys_gives (ρ:=Tryz.keys169_ren) { Tryz.keys169 with } Fence.wide _ aa rfl (by omega) Bm b nn D0 w hB hm O5)
end Go.Proofs.YtdonpgpfplgigaaGreat.Am
namespace Go.Proofs.YtdonpgpfplgigaaGreat.Am
open Go
variable {X:aE} {C:gE} {Q:Ex→List (Nat×V)→H→Prop} {h:H} {kd pg:Int} {now:List (Int×List Nat)} {E:List (Nat×V)} {S:List aE} {l b data:List Nat} {cs post args:List V} {g n k i size bk a d z p6 id off q j tx pv nx j1 j2 p1 r dO aN:Nat} {y:Operand} {P:Program} {α:Type} {t e:TypeId} {x u bv dt w v' wh di:V}
def KC : List Nat:=[189,209,210,191,190,200,192,140]
structure Std (told:cE): Prop where
 free:∀f,inL KC f=true→told f=none
 more:told 211=some toldMore
theorem wrap_u64 (h:n<18446744073709551616): IntKind.wrap .u64 (n:Int)=(n:Int):=by
 grind[IntKind.wrap,IntKind.bits,IntKind.signed]
theorem wrap_u8 (n:Nat): IntKind.wrap .u8 (n:Int)=((n%256:Nat):Int):=by
 rfl
def digits : Nat→Nat→List Nat
 |0,n=>[n%128]
 |k+1,n=>if n<128 then[n] else(n%128+128)::digits k (n/128)
set_option maxRecDepth 10000 in
theorem acg (h:n<256): Nat.lor n 128=n%128+128:=by
 have:∀m:Fin 256,Nat.lor m.1 128=m.1%128+128:=by decide
 exact this ⟨n,h⟩
theorem Pr (h:n<256): intV .or .u8 (n:Int) 128=some (.int .u8 ((n%128+128:Nat):Int)):=by
 have I:((n:Int)%(2^(IntKind.u8).bits:Int)).toNat=n:=by grind[IntKind.bits]
 have h2:((128:Int)%(2^(IntKind.u8).bits:Int)).toNat=128:=by rfl
 grind[intV,bitsV,acg,wrap_u8]
theorem adk : shiftV .shr .u64 (n:Int) 7=some (.int .u64 ((n/128:Nat):Int)):=by
 grind[shiftV,IntKind.bits]
section
variable {told:cE}
noncomputable def vtX : Code:=unloop (unblk (leftC (d_ ((Tryz.f209.body).getD .skip))))
theorem xQ : convV Tryz.prog h 42 5 (.int .u64 (n:Int))=some (.int .u8 ((n%256:Nat):Int),h):=by
 simp[convV,wrap_u8]
theorem BZ (h:n<128): digits k n=[n]:=by
 cases k<;>grind[digits]
theorem FW (hn:n<128)(I:look E 1=some (.int .u64 (n:Int)))
 (hq:Q (.exit 0) ((6,.bool false)::(5,.int .u64 (n:Int))::E) h): WP ⟨Tryz.prog,told⟩ 20 (.loop vtX) E h Q:=by
 refine WP.loop (WP.seq (WP.seq (WP.region rfl ?_)))
 refine zo rfl (bV I) (zo rfl (ak (v:=.int .u64 (n:Int)) (u:=.int .u64 128) (r:=.bool false) rfl rfl (by simp only[binV,ikBeq,ah,intV];congr 2;simp;omega)) ?_)
 exact au.nil (WP.cond (t:=false) rfl (WP.exit hq))
theorem Mu : ∀(k n:Nat) (l:List Nat) (s:V) (h:H) (E:List (Nat×V)) (Q:Ex→List (Nat×V)→H→Prop),nL h→kX h s l→n<128^(k+1)→k≤9→l.length+k+1≤140737488355328 →
  look E 0=some s→look E 1=some (.int .u64 (n:Int)) →
  (∀E' h' s' l' (m:Nat),look E' 0=some s'→look E' 1=some (.int .u64 (m:Int))→m<128→l'++[m]=l++digits k n→kX h' s' l'→fo (2*k) (rowIds s) h h'→(∀i∈rowIds s',i∈rowIds s∨h.next≤i)→Q (.exit 0) E' h') →
  WP ⟨Tryz.prog,told⟩ 20 (.loop vtX) E h Q:=by
 intro k
 induction k with
 |zero =>
  intro n l s h E Q hw hs hn _ _ h0 h1 hq
  have I:n<128:=by omega
  exact FW I h1 (hq _ h s l n h0 h1 I (by rw[BZ I]) hs (fo.refl hw _) (fun i hi=>.inl hi))
 |succ k ih =>
  intro n l s h E Q hw hs hn hk hl h0 h1 hq
  by_cases I:n<128
  ·exact FW I h1 (hq _ h s l n h0 h1 I (by rw[BZ I]) hs ((fo.refl hw _).mono (gu _) (fun _ h=>h)) (fun i hi=>.inl hi))
  ·have hd:n/128<128^(k+1):=by
    omega
   refine WP.loop (WP.seq (WP.seq (WP.region rfl ?_)))
   refine zo rfl (bV h1) (zo rfl (ak (v:=.int .u64 (n:Int)) (u:=.int .u64 128) (r:=.bool true) rfl rfl (by simp only[binV,ikBeq,ah,intV];congr 2;simp;omega)) ?_)
   refine au.nil (WP.cond (t:=true) rfl (WP.skip ?_))
   refine WP.block (WP.seq (WP.region rfl ?_))
   refine zo rfl (bV h0) (zo rfl (bV h1) (zo rfl (cL (v:=.int .u64 (n:Int)) rfl xQ) (zo rfl (ak (v:=.int .u8 ((n%256:Nat):Int)) (u:=.int .u8 128) (r:=.int .u8 ((n%256%128+128:Nat):Int)) rfl rfl (by exact Pr (by omega))) ?_)))
   refine au.O8 (b:=n%256%128+128) rfl hw rfl rfl rfl rfl rfl rfl (by omega) (fun v h₁ b1 k1 f1 => ?_)
   have fK:kX h₁ s l:=hs.qg hw k1 (fun i _=>jY)
   refine au.app (s:=s) (x:=v) rfl k1.wf rfl rfl rfl rfl rfl rfl rfl fK b1.view (by grind) (fun v2 ach b2 k2 f2 => ?_)
   have mK:fo 2 (rowIds s) h ach:=(k1.mono (aI _) (fun i hi=>by grind)).trans k2 (fun i hi=>.inl hi)
   refine za rfl ?_
   refine au.nil (WP.region rfl ?_)
   refine zo rfl (bV h1) (zo rfl (ak (v:=.int .u64 (n:Int)) (u:=.int .u64 7) (r:=.int .u64 ((n/128:Nat):Int)) rfl rfl adk) (zk 2 rfl ?_))
   refine ih (n/128) (l++[n%256%128+128]) v2 ach _ Q mK.wf b2 hd (by omega) (by grind) rfl rfl (fun E' h' s' l' m q1 q2 q3 q4 q5 q6 q7 => ?_)
   refine hq E' h' s' l' m q1 q2 q3 ?_ q5 ?_ (fun i hi => ?_)
   ·grind[digits]
   ·exact(mK.trans q6 (fun i hi=>(f2 i hi).imp_right (fun h=>cY k1.le h))).mono (by omega) (fun i hi=>hi)
   ·rcases q7 i hi with h3|h3
    ·exact(f2 i h3).imp_right (fun h=>cY k1.le h)
    ·exact .inr (cY mK.le h3)
theorem IK (hT:Std told){s:V}(hw:nL h)(hs:kX h s l)(hn:n<128^(k+1))(hk:k≤9)(hl:l.length+k+1≤140737488355328):
  Call ⟨Tryz.prog,told⟩ 209 [s,.int .u64 (n:Int)] h fun v h'=>kX h' v (l++digits k n)∧fo (2*k+2) (rowIds s) h h'∧∀i∈rowIds v,i∈rowIds s∨h.next≤i:=by
 refine Call.of_wp (hT.free _ rfl) Tryz.func209 rfl rfl ?_
 refine WP.seq (WP.region rfl (au.op rfl rfl rfl (iO rfl) (au.nil ?_)))
 refine WP.seq (WP.block ?_)
 refine Mu k n l s h _ _ hw hs hn hk hl rfl rfl (fun E' h' s' l' m q1 q2 q3 q4 q5 I q7 => ?_)
 have DW:l'.length=l.length+(digits k n).length-1:=by
  have:=dn List.length q4
  simp at this
  omega
 have AV:∀(k n:Nat),(digits k n).length≤k+1:=by
  intro k
  induction k<;>grind[digits]
 have aeX:=AV k n
 refine WP.seq (WP.region rfl ?_)
 refine zo rfl (bV q1) (zo rfl (bV q2) (zo rfl (cL (v:=.int .u64 (m:Int)) rfl xQ) ?_))
 refine au.O8 (b:=m%256) rfl I.wf rfl rfl rfl rfl rfl rfl (by omega) (fun v h₁ b1 k1 f1 => ?_)
 have fK:kX h₁ s' l':=q5.qg I.wf k1 (fun i _=>jY)
 refine au.app (s:=s') (x:=v) rfl k1.wf rfl rfl rfl rfl rfl rfl rfl fK b1.view (by grind) (fun v2 ach b2 k2 f2 => ?_)
 refine za rfl ?_
 refine au.nil (WP.ret ?_)
 refine⟨aa,v2,rfl,?_,?_,fun i hi => ?_⟩
 ·grind
 ·refine((I.trans k1 (fun i hi=>by grind)).trans k2 (fun i hi => ?_)).mono (by omega) (fun i hi=>hi)<;>grind
 ·rcases f2 i hi with h3|h3
  ·grind
  ·exact .inr (by have:=I.le;have:=k1.le;omega)
theorem KD (I:n<18446744073709551616): convV Tryz.prog h 3 42 (.int .i64 (n:Int))=some (.int .u64 (n:Int),h):=by
 simp_all[convV,wrap_u64]
theorem iF : ∀(k n:Nat),(digits k n).length≤k+1:=by
 intro k
 induction k<;>grind[digits]
theorem Yt (I:Std told){s:V}{m:List Nat}(hw:nL h)(hs:kX h s l)(hx:View h x m)(hd:∀i∈rowIds x,i∉rowIds s)(hn:m.length<128^(k+1))(hk:k≤9)(hl:l.length+k+1+m.length≤140737488355328):
  Call ⟨Tryz.prog,told⟩ 210 [s,x] h fun v h'=>kX h' v (l++digits k m.length++m)∧fo (2*k+3) (rowIds s) h h'∧∀i∈rowIds v,i∈rowIds s∨h.next≤i:=by
 refine Call.of_wp (I.free _ rfl) Tryz.func210 rfl rfl ?_
 refine WP.seq (WP.region rfl (au.op rfl rfl rfl (iO rfl) (au.nil ?_)))
 refine WP.seq (WP.region rfl ?_)
 refine zk 2 rfl (zo rfl (aD (v:=x) rfl rfl rfl hx.len) (zo rfl (cL (v:=.int .i64 (m.length:Int)) rfl (KD (by omega))) ?_))
 refine au.call rfl rfl rfl rfl rfl rfl rfl (IK I (k:=k) hw hs hn hk (by omega)) (fun v h₁ ⟨b1,k1,f1⟩ => ?_)
 refine zm rfl ?_
 have AV:=iF k m.length
 refine au.app (s:=v) (x:=x) rfl k1.wf rfl rfl rfl rfl rfl rfl rfl b1 (hx.qg hw k1 hd) (by grind) (fun v2 ach b2 k2 f2 => ?_)
 refine au.op rfl rfl rfl (iO rfl) (au.nil (WP.ret ?_))
 refine⟨aa,v2,rfl,b2,(k1.trans k2 f1).mono (by omega) (fun i hi=>hi),fun i hi => ?_⟩
 rcases f2 i hi with h3|h3
 ·grind
 ·exact .inr (cY k1.le h3)
def le : Nat→Nat→List Nat
 |0,_=>[]
 |k+1,n=>(n%256)::le k (n/256)
theorem cJ : ∀(k n:Nat),(le k n).length=k:=by
 intro k
 induction k<;>grind[le]
theorem Ps : ∀(k n:Nat),∀b∈le k n,b<256:=by
 intro k
 induction k with
 |zero=>intro n b I;cases I
 |succ k ih =>
  intro n b I
  rcases List.mem_cons.1 I with rfl|I<;>grind
noncomputable def lyX : Code:=unloop (unblk (d_ (leftC (d_ ((Tryz.f189.body).getD .skip)))))
theorem adl (hi:i≤8): shiftV .shr .u64 (n:Int) ((8*i:Nat):Int)=some (.int .u64 ((n/256^i:Nat):Int)):=by
 simp only[shiftV,IntKind.bits,gU]
 rw[show min (8*i) 64=8*i by omega,show decide (((8*i:Nat):Int)<0)=false by rfl,aV]
 rw[Int.fdiv_eq_ediv_of_nonneg _ (Int.pow_nonneg (by omega))]
 rw[show(256:Nat)^i=2^(8*i) by rw[Nat.pow_mul]]
 push_cast
 rfl
theorem UE (fJ:size≤8): ∀(j i:Nat) (l:List Nat) (s:V) (h:H) (E:List (Nat×V)) (Q:Ex→List (Nat×V)→H→Prop),nL h→kX h s l→i+j=size→l.length+j≤140737488355328 →
  look E 0=some s→look E 2=some (.int .u64 (n:Int))→look E 8=some (.int .i64 (size:Int))→look E 9=some (.int .i64 (i:Int)) →
  (∀E' h' s',look E' 0=some s'→kX h' s' (l++le j (n/256^i))→fo (2*j) (rowIds s) h h'→(∀i∈rowIds s',i∈rowIds s∨h.next≤i)→Q (.exit 0) E' h') →
  WP ⟨Tryz.prog,told⟩ 22 (.loop lyX) E h Q:=by
 intro j
 induction j with
 |zero =>
  intro i l s h E Q hw hs hi _ h0 h2 h8 h9 hq
  refine WP.loop (WP.seq (WP.region rfl ?_))
  refine zo rfl (ak (v:=.int .i64 (i:Int)) (u:=.int .i64 (size:Int)) (r:=.bool false) h9 h8 (by simp_all[binV,ikBeq,intV])) ?_
  refine au.nil (WP.seq (WP.cond (t:=false) rfl (WP.exit ?_)))
  exact hq _ h s h0 (by simpa[le] using hs) (fo.refl hw _) (fun i hi=>.inl hi)
 |succ j ih =>
  intro i l s h E Q hw hs hi hl h0 h2 h8 h9 hq
  refine WP.loop (WP.seq (WP.region rfl ?_))
  refine zo rfl (ak (v:=.int .i64 (i:Int)) (u:=.int .i64 (size:Int)) (r:=.bool true) h9 h8 (by simp only[binV,ikBeq,ah,intV];congr 2;simp;omega)) ?_
  refine au.nil (WP.seq (WP.cond (t:=true) rfl (WP.skip ?_)))
  refine WP.seq (WP.block (WP.seq (WP.region rfl ?_)))
  refine zo rfl (bV h9) ?_
  refine au.op rfl rfl rfl (iO rfl) (au.nil (WP.region rfl ?_))
  refine zo rfl (bV h0) (zo rfl (bV h2) (zm rfl ?_))
  refine au.op rfl rfl rfl (ak (v:=.int .i64 8) (u:=.int .i64 (i:Int)) (r:=.int .i64 ((8*i:Nat):Int)) rfl rfl (by
   simp only[binV,ikBeq,ah,intV]
   rw[show(8:Int)*(i:Int)=((8*i:Nat):Int) by rfl,wrap_i64 (by omega)])) ?_
  refine zo rfl (ak (v:=.int .u64 (n:Int)) (u:=.int .i64 ((8*i:Nat):Int)) (r:=.int .u64 ((n/256^i:Nat):Int)) rfl rfl (by exact adl (by omega))) ?_
  refine zo rfl (cL (v:=.int .u64 ((n/256^i:Nat):Int)) rfl xQ) ?_
  refine au.O8 (b:=n/256^i%256) rfl hw rfl rfl rfl rfl rfl rfl (by omega) (fun v h₁ b1 k1 f1 => ?_)
  have fK:kX h₁ s l:=hs.qg hw k1 (fun i _=>jY)
  refine au.app (s:=s) (x:=v) rfl k1.wf rfl rfl rfl rfl rfl rfl rfl fK b1.view (by grind) (fun v2 I b2 k2 f2 => ?_)
  have mK:fo 2 (rowIds s) h I:=(k1.mono (aI _) (fun i hi=>by grind)).trans k2 (fun i hi=>.inl hi)
  refine au.op rfl rfl rfl (iO rfl) (au.nil (WP.region rfl ?_))
  refine zo rfl (ak (v:=.int .i64 (i:Int)) (u:=.int .i64 1) h9 rfl (by simp only[binV,ikBeq,ah];exact BF (by omega))) ?_
  refine au.op rfl rfl rfl (bV rfl) (au.nil ?_)
  refine ih (i+1) (l++[n/256^i%256]) v2 I _ Q mK.wf b2 (by omega) (by grind) rfl h2 h8 rfl (fun E' h' s' q1 q2 q3 q4 => ?_)
  refine hq E' h' s' q1 ?_ ?_ (fun i hi => ?_)
  ·grind[Nat.div_div_eq_div_mul,le]
  ·exact(mK.trans q3 (fun i hi=>(f2 i hi).imp_right (fun h=>cY k1.le h))).mono (by omega) (fun i hi=>hi)
  ·rcases q4 i hi with h3|h3
   ·exact(f2 i h3).imp_right (fun h=>cY k1.le h)
   ·exact .inr (cY mK.le h3)
theorem RJ (hT:Std told){s:V}(hw:nL h)(hs:kX h s l)(I:size≤8)(hl:l.length+size≤140737488355328):
  Call ⟨Tryz.prog,told⟩ 189 [s,.int .i64 (size:Int),.int .u64 (n:Int)] h fun v h'=>kX h' v (l++le size n)∧fo (2*size) (rowIds s) h h'∧∀i∈rowIds v,i∈rowIds s∨h.next≤i:=by
 refine Call.of_wp (hT.free _ rfl) Tryz.func189 rfl rfl ?_
 refine WP.seq (WP.region rfl (au.op rfl rfl rfl (iO rfl) (au.nil ?_)))
 refine WP.seq (WP.seq (WP.region rfl ?_))
 refine zm rfl ?_
 refine au.op rfl rfl rfl (bV rfl) (au.nil (WP.block ?_))
 refine UE I size 0 l s h _ _ hw hs (by omega) hl rfl rfl rfl rfl (fun E' h' s' q1 q2 q3 q4 => ?_)
 refine WP.seq (WP.region rfl ?_)
 refine zo rfl (bV q1) ?_
 refine au.op rfl rfl rfl (iO rfl) (au.nil (WP.ret ?_))
 exact⟨aa,s',rfl,by grind,q3,q4⟩
theorem Pt : ∀(l:List Nat),(∀b∈l,b<256)→bytesIn (ofBytes l)=some l:=by
 intro l
 induction l<;>grind[List.mem_cons_self,bytesIn,ofBytes]
def Ep (s:Nat)(l:List Nat): Nat:=Nat.xor (crcL (Nat.xor s 4294967295) l) 4294967295
theorem HF {s:Nat}(hs:s<4294967296)(hl:∀b∈l,b<256): Ep s l<4294967296:=qp (Ho l _ (qp hs (by omega)) hl) (by omega)
theorem NC (hT:Std told){s:Nat}(hx:View h x l)(hl:l.length≤4611686018427387904)(hs:s<4294967296):
  iL ⟨Tryz.prog,told⟩ 211 [.int .u32 (s:Int),x] h (.int .u32 (Ep s l:Nat)) h:=by
 refine iL.told hT.more Fk rfl ?_
 have I:=hx
 obtain⟨hb,I⟩:=I
 rcases I with⟨rfl|⟨ea,rfl⟩,rfl⟩|⟨id,off,cap,n,cs,st,rfl,hg,h1,h2,h3,h4⟩
 ·simp only[toldMore]
  rw[show(decide ((0:Int)≤(s:Int))&&decide ((s:Int)<4294967296))=true by grind]
  rfl
 ·simp only[toldMore]
  rw[show(decide ((0:Int)≤(s:Int))&&decide ((s:Int)<4294967296))=true by grind]
  rfl
 ·simp only[toldMore]
  rw[show(decide ((0:Int)≤(s:Int))&&decide ((s:Int)<4294967296)&&Nat.ble l.length 4611686018427387904)=true by simp[aW];omega,ah,(View.rdN hx).2]
  simp only[Pt l hb]
  rfl
theorem aci (I:Std told)(hx:View h x l)(hl:l.length≤4611686018427387904):
  Call ⟨Tryz.prog,told⟩ 200 [x] h fun v h'=>v=.int .u32 (Ep 0 l:Nat)∧h'=h:=by
 refine Call.of_wp (I.free _ rfl) Tryz.func200 rfl rfl ?_
 refine WP.seq (WP.region rfl (au.op rfl rfl rfl (iO rfl) (au.nil ?_)))
 refine WP.seq (WP.region rfl ?_)
 refine zm rfl ?_
 refine au.call (BD:=fun v h'=>v=.int .u32 (Ep 0 l:Nat)∧h'=h) rfl rfl rfl rfl rfl rfl rfl ⟨_,_,NC (s:=0) I hx hl (by omega),rfl,rfl⟩ (fun v h₁ ⟨e1,e2⟩ => ?_)
 subst e1;subst e2
 exact au.op rfl rfl rfl (iO rfl) (au.nil (WP.ret ⟨aa,_,rfl,rfl,rfl⟩))
def FX (bk:Nat)(l:List Nat): Nat:=Ep (Ep 0 (le 8 bk)) l
theorem UF (hl:∀b∈l,b<256): FX bk l<4294967296:=HF (HF (by omega) (Ps 8 bk)) hl
theorem RK (hT:Std told)(hw:nL h)(hx:View h x l)(hl:l.length≤4611686018427387904):
  Call ⟨Tryz.prog,told⟩ 192 [.int .u64 (bk:Int),x] h fun v h'=>v=.int .u32 (FX bk l:Nat)∧fo 16 [] h h':=by
 refine Call.of_wp (hT.free _ rfl) Tryz.func192 rfl rfl ?_
 refine WP.seq (WP.region rfl (au.op rfl rfl rfl (iO rfl) (au.nil ?_)))
 refine WP.seq (WP.region rfl ?_)
 refine zm rfl ?_
 refine au.call rfl rfl rfl rfl rfl rfl rfl (RJ (size:=8) (s:=.aR) (l:=[]) (n:=bk) hT hw ⟨by simp,.inl ⟨rfl,rfl⟩⟩ (by omega) (by simp)) (fun v h₁ ⟨b1,k1,f1⟩ => ?_)
 rw[dG] at b1
 refine au.call rfl rfl rfl rfl rfl rfl rfl (aci hT b1.view (by rw[cJ];omega)) (fun v2 I ⟨e1,e2⟩ => ?_)
 subst e1;subst e2
 refine zm rfl ?_
 refine au.call (BD:=fun v h'=>v=.int .u32 (FX bk l:Nat)∧h'=I) rfl rfl rfl rfl rfl rfl rfl
  ⟨_,_,NC (s:=Ep 0 (le 8 bk)) hT (hx.qg hw k1 (fun i _ hi=>by simp[rowIds] at hi)) hl (HF (by omega) (Ps 8 bk)),rfl,rfl⟩ (fun v3 aew ⟨e3,e4⟩ => ?_)
 subst e3;subst e4
 exact au.op rfl rfl rfl (iO rfl) (au.nil (WP.ret ⟨aa,_,rfl,rfl,k1.mono (aI _) (fun i hi=>by simp[rowIds] at hi)⟩))
end
def aaF : List Nat:=[]
def aaG : List Nat:=[32]
def aaH : List Nat:=[]
def aaI : List Nat:=[]
def aaJ : List Nat:=[]
def aaK : List Nat:=[116,52]
def KE : List Nat:=aaF++(aaG++(aaH++(aaI++(aaJ++(aaK++[211,61,206,171,172])))))
structure W (told:cE): Prop where
 free:∀f,inL KE f=false→told f=none
 more:told 211=some toldMore
 sorted:told 61=some (toldSorted Dw)
theorem W.W3 {told:cE}(I:W told): Std told:=by
 refine⟨fun f hf=>I.free f ?_,I.more⟩
 have:∀f∈KC,inL KE f=false:=by decide
 grind[QT]
def yO (v:V): Option (List Nat)→aE
 |none=>.pu (v=.aR)
 |some b=>.an (.pu (v≠.aR)) (.cg v b)
theorem aJ.yO (v:V)(o:Option (List Nat)): aJ (Am.yO v o):=by
 cases o with
 |none=>exact aJ.pu _
 |some b=>exact aJ.an (aJ.pu _) (aJ.cg _ _)
def each {α:Type}(f:V→α→aE): List V→List α→aE
 |[],[]=>.pu True
 |v::l,x::m=>.an (f v x) (each f l m)
 |_,_=>.pu False
theorem aJ.each {f:V→α→aE}(I:∀v x,aJ (f v x)): ∀(l:List V) (m:List α),aJ (Am.each f l m):=by
 intro l
 induction l with
 |nil=>intro m;cases m<;>exact aJ.pu _
 |cons v l ih=>intro m;cases m with
  |nil=>exact aJ.pu _
  |cons x m=>exact aJ.an (I _ _) (ih m)
section
variable {f:V→α→aE} {a b:PM}
theorem Er : ∀ {l:List V} {m:List α},(each f l m).p a b→l.length=m.length:=by
 intro l
 induction l with
 |nil=>intro m h;cases m with
  |nil=>rfl
  |cons x m=>exact h.elim
 |cons v l I=>intro m h;cases m with
  |nil=>exact h.elim
  |cons x m=>simp only[bq,I h.2]
theorem KF : ∀ {l:List V} {m:List α} {i:Nat} {v:V} {x:α},(each f l m).p a b→l[i]?=some v→m[i]?=some x→(f v x).p a b:=by
 intro l
 induction l with
 |nil=>simp
 |cons u l ih=>intro m i v x h I hx;cases m with
  |nil=>grind
  |cons y m =>
   cases i with
   |zero=>simp at I hx;subst I;subst hx;exact h.1
   |succ i=>exact ih h.2 I hx
theorem Ad : ∀ {l:List V} {m:List α} {I:List V} {m':List α},(each f l m).p a b→(each f I m').p a b→(each f (l++I) (m++m')).p a b:=by
 intro l
 induction l with
 |nil=>intro m I m' h hv;cases m with
  |nil=>exact hv
  |cons x m=>exact h.elim
 |cons u l ih=>intro m I m' h hv;cases m with
  |nil=>exact h.elim
  |cons y m=>exact⟨h.1,ih h.2 hv⟩
theorem ND {us:List V}{cs:List α}{c:α}(hf:∀v x,aJ (f v x))(s:Sat h (each f us cs::S))(I:cs[i]?=some c): ∃u,us[i]?=some u∧Sat h (f u c::each f us cs::S):=by
 obtain⟨a,b,q1,q2,q3⟩:=s.at (k:=0) rfl
 have hl:=Er q3
 have hi:=(List.getElem?_eq_some_iff.1 I).1
 have hu:us[i]?=some (us[i]'(by omega)):=aG _
 exact⟨_,hu,(s.dup (aJ.each hf _ _)).dQ fun a b h=>KF h hu I⟩
end
abbrev Wr := Nat×List Nat
structure Dk where
 room:Nat
 bG:List (Option (List Nat))
 waiting:List Wr
 now:List (Int×List Nat)
 log:List Nat
 gM:Nat
 mark:List Nat
 cM:Int
 dead:Bool
 HG:Option Wr
 tail:List Nat
variable {δ:Dk}
def RL (room:Nat)(pg wt I lg:V)(ct:Nat)(mk:V)(fu ops:Int)(dead:Bool)(tn tl:V): List V :=
 [.int .i64 (room:Int),pg,wt,I,lg,.int .i64 (ct:Int),mk,.int .i64 fu,.int .i64 ops,.bool dead,tn,tl]
def FY : List V→List Wr→aE
 |[],[]=>.pu True
 |p::v::l,x::m=>.an (.an (.pu (p=.int .i64 (x.1:Int)∧v≠.aR)) (.cg v x.2)) (FY l m)
 |_,_=>.pu False
theorem aJ.wr : ∀(m:List Wr) (l:List V),aJ (FY l m):=by
 intro m
 induction m with
 |nil=>intro l;cases l with
  |nil=>exact aJ.pu _
  |cons v l=>cases l<;>exact aJ.pu _
 |cons x m I=>intro l;cases l with
  |nil=>exact aJ.pu _
  |cons v l=>cases l with
   |nil=>exact aJ.pu _
   |cons u l=>exact aJ.an (aJ.an (aJ.pu _) (aJ.cg _ _)) (I l)
theorem Yu {a b:PM}: ∀ {m:List Wr} {l:List V} {x:Wr} {v:V},(FY l m).p a b→v≠.aR→(aE.cg v x.2).p a b→(FY (l++[.int .i64 (x.1:Int),v]) (m++[x])).p a b:=by
 intro m
 induction m with
 |nil=>intro l x v h I hv;cases l with
  |nil=>exact⟨⟨⟨rfl,I⟩,hv⟩,aa⟩
  |cons u l=>cases l<;>exact h.elim
 |cons y m ih=>intro l x v h I hv;cases l with
  |nil=>exact h.elim
  |cons u l=>cases l with
   |nil=>exact h.elim
   |cons w l=>exact⟨h.1,ih h.2 I hv⟩
theorem Yv {a b:PM}: ∀ {m:List Wr} {l:List V},(FY l m).p a b→l.length=m.length*2:=by
 intro m
 induction m with
 |nil=>intro l h;cases l with
  |nil=>rfl
  |cons u l=>cases l<;>exact h.elim
 |cons y m I=>intro l h;cases l with
  |nil=>exact h.elim
  |cons u l=>cases l with
   |nil=>exact h.elim
   |cons w l=>have:=I h.2;simp only[bq];omega
def qy (v:V)(m:List (Option (List Nat))): aE:=xs fun id:Nat=>xs fun cs:List V=>star [.pu (v=.sl id 0 m.length (.exact m.length)),pt id (.cells m.length cs false),each yO cs m]
def Dx (v:V)(m:List Wr): aE:=xs fun cs:List V=>star [.arr 2 v cs,FY cs m]
def FZ (v:V): Option Wr→aE
 |none=>.pu (v=.b8)
 |some x=>xs fun id:Nat=>xs fun u:V=>star [.pu (v=.ptr id 0),pt id (.cells 2 [.int .i64 (x.1:Int),u] false),.cg u x.2]
def bZ (p:Nat)(δ:Dk): aE:=xs fun pg:V=>xs fun wt:V=>xs fun I:V=>xs fun lg:V=>xs fun mk:V=>xs fun tn:V=>xs fun tl:V=>xs fun ops:Int =>
 star [pt p (.cells 12 (RL δ.room pg wt I lg δ.gM mk δ.cM ops δ.dead tn tl) false),qy pg δ.bG,Dx wt δ.waiting,uA (fun v b=>.cg v b) I δ.now,aU lg δ.log,oP mk δ.mark,FZ tn δ.HG,oP tl δ.tail]
section
variable {p:Nat}
theorem dR : Sat h (bZ p δ::S)↔∃pg wt I lg mk tn tl ops,Sat h (pt p (.cells 12 (RL δ.room pg wt I lg δ.gM mk δ.cM ops δ.dead tn tl) false)::qy pg δ.bG::Dx wt δ.waiting::uA (fun v b=>.cg v b) I δ.now::aU lg δ.log::oP mk δ.mark::FZ tn δ.HG::oP tl δ.tail::S):=by
 simp[bZ,jv,cK]
theorem sy {v:V}{m:List (Option (List Nat))}: Sat h (qy v m::S)↔∃id cs,v=.sl id 0 m.length (.exact m.length)∧Sat h (pt id (.cells m.length cs false)::each yO cs m::S):=by
 simp[qy,jv,cK,r8]
theorem B0 {v:V}{m:List Wr}: Sat h (Dx v m::S)↔∃cs,Sat h (.arr 2 v cs::FY cs m::S):=by
 grind[Dx,jv,cK]
end
section
variable {told:cE} {v:V}
def F0 (s:Nat)(l:List Nat): Nat:=Nat.xor (crcL (Nat.xor s 4294967295) l) 4294967295
theorem Es {s:Nat}(hs:s<4294967296)(hl:∀b∈l,b<256): F0 s l<4294967296:=qp (Ho _ _ (qp hs (by omega)) hl) (by omega)
theorem Yw (hT:W told){s:Nat}(sa:Sat h S)(hk:getA S k=some X)(hX:cf X (cy v l))(hs:s<4294967296)(hl:l.length≤4611686018427387904):
  Call ⟨Tryz.prog,told⟩ 211 [.int .u32 (s:Int),v] h fun r h'=>r=.int .u32 (F0 s l:Nat)∧h'=h:=by
 have I:=sa.aC hk hX
 refine⟨_,_,iL.told hT.more Fk rfl ?_,rfl,rfl⟩
 have Wv:yD (s:Int) l=.int .u32 (F0 s l:Nat):=by rfl
 have Kt:=I
 rcases Kt.2 with⟨rfl|⟨ea,rfl⟩,rfl⟩|⟨id,off,cap,n,cs,st,rfl,_⟩
 ·grind[toldMore]
 ·grind[toldMore]
 ·simp only[toldMore]
  rw[show(decide ((0:Int)≤(s:Int))&&decide ((s:Int)<4294967296)&&Nat.ble l.length 4611686018427387904)=true by simp;omega,ah,I.rdN.2]
  simp only
  have:∀l:List Nat,(∀b∈l,b<256)→bytesIn (ofBytes l)=some l:=by
   intro l
   induction l with
   |nil=>intro _;rfl
   |cons b l ih =>
    intro hb
    grind[ofBytes,bytesIn,List.mem_cons_self]
  rw[this l I.1]
  simp only[Wv]
end
section
variable {told:cE} {p:Nat}
theorem pV (hT:W told)(s:Sat h (X::S))(I:cf X (cy x l))(hl:l.length<1073741824):
  Call ⟨Tryz.prog,told⟩ 114 [x] h fun v h'=>Sat h' (aU v l::X::S):=by
 refine Call.of_wp (hT.free _ rfl) Tryz.func114 rfl rfl (zK 7 rfl (zo rfl (aD rfl rfl rfl (aY aK (s.aC (k:=0) rfl I))) (au.any rfl rfl rfl (OpR.uc rfl s rfl rfl rfl rfl hl) ?_)))
 intro v h s
 refine zm rfl (au.any rfl rfl rfl (OpR.qh rfl s I rfl rfl rfl rfl (by simp;omega)) ?_)
 intro v h s
 exact zk 2 rfl (WP.ret ⟨aa,_,rfl,s⟩)
theorem Ae (hT:W told)(s:Sat h (X::S))(I:cf X (cy x l))(hl:l.length<1073741824):
  Call ⟨Tryz.prog,told⟩ 145 [x] h fun v h'=>Sat h' (aU v l::X::S):=by
 refine Call.of_wp (hT.free _ rfl) Tryz.func145 rfl rfl (zK 7 rfl (zo rfl (aD rfl rfl rfl (aY aK (s.aC (k:=0) rfl I))) (au.any rfl rfl rfl (OpR.uc rfl s rfl rfl rfl rfl hl) ?_)))
 intro v h s
 refine zm rfl (au.any rfl rfl rfl (OpR.qh rfl s I rfl rfl rfl rfl (by simp;omega)) ?_)
 intro v h s
 exact zk 2 rfl (WP.ret ⟨aa,_,rfl,s⟩)
theorem u9 (hT:W told)(s:Sat h (X::S))(I:cf X (cy x l))(hl:l.length<1073741824):
  Call ⟨Tryz.prog,told⟩ 109 [x] h fun v h'=>Sat h' (aU v l::X::S):=by
 refine Call.of_wp (hT.free _ rfl) Tryz.func109 rfl rfl (zK 7 rfl (zo rfl (aD rfl rfl rfl (aY aK (s.aC (k:=0) rfl I))) (au.any rfl rfl rfl (OpR.uc rfl s rfl rfl rfl rfl hl) ?_)))
 intro v h s
 refine zm rfl (au.any rfl rfl rfl (OpR.qh rfl s I rfl rfl rfl rfl (by simp;omega)) ?_)
 intro v h s
 exact zk 2 rfl (WP.ret ⟨aa,_,rfl,s⟩)
theorem Et (I:W told)(s:Sat h (bZ p δ::S)): Call ⟨Tryz.prog,told⟩ 97 [.ptr p 0] h fun v h'=>v=.int .i64 (δ.bG.length:Int)∧h'=h:=by
 obtain⟨pg,wt,nw,lg,mk,tn,tl,ops,s⟩:=dR.1 s
 obtain⟨id,cs,rfl,s'⟩:=sy.1 (s.ae [1])
 exact Call.of_wp (I.free _ rfl) Tryz.func97 rfl rfl (zK 8 rfl (zY s 0 Hv gz rfl (zo rfl (aD rfl rfl rfl (tg rfl aP)) (zk 2 rfl (WP.ret ⟨aa,_,rfl,rfl,rfl⟩)))))
theorem RM (hT:W told){n:Int}(s:Sat h (bZ p δ::S)): Call ⟨Tryz.prog,told⟩ 199 [.ptr p 0,.int .i64 n] h fun v h'=>h'=h∧((0≤n∧n<δ.bG.length∧v=.bool true)∨(¬(0≤n∧n<δ.bG.length)∧v=.bool false)):=by
 obtain⟨pg,wt,nw,lg,mk,tn,tl,ops,s⟩:=dR.1 s
 obtain⟨id,cs,rfl,s'⟩:=sy.1 (s.ae [1])
 refine Call.of_wp (hT.free _ rfl) Tryz.func199 rfl rfl (zK 7 rfl ?_)
 refine zd rfl (ak rfl rfl mV) ?_ ?_
 ·intro hq
  have hq:0≤n:=by simpa using hq
  refine zk 4 rfl (zY s 0 Hv gz rfl (zo rfl (aD rfl rfl rfl (tg rfl aP)) ?_))
  refine zd rfl (ak rfl rfl aO) ?_ ?_
  ·intro I
   have I:n<δ.bG.length:=by simpa using I
   exact zk 3 rfl (WP.ret ⟨aa,_,rfl,rfl,.inl ⟨hq,I,rfl⟩⟩)
  ·intro I
   have I:¬ n<δ.bG.length:=by simpa using I
   exact zk 3 rfl (WP.ret ⟨aa,_,rfl,rfl,.inr ⟨fun h=>I h.2,rfl⟩⟩)
 ·intro hq
  have hq:¬ 0≤n:=by simpa using hq
  exact zk 11 rfl (WP.ret ⟨aa,_,rfl,rfl,.inr ⟨fun h=>hq h.1,rfl⟩⟩)
def Dk.KG (δ:Dk): Nat:=δ.gM
def Dk.fZ (δ:Dk): Dk:={ δ with cM:=if 0<δ.cM then δ.cM-1 else δ.cM }
def Dk.die (δ:Dk): Dk:={ δ with dead:=true }
theorem B1 (hT:W told)(s:Sat h (bZ p δ::S))(hf:δ.cM<4294967296):
  Call ⟨Tryz.prog,told⟩ 193 [.ptr p 0] h fun v h'=>(δ.cM=0∧v=.bool false∧Sat h' (bZ p δ.die::S))∨(δ.cM≠0∧v=.bool true∧Sat h' (bZ p δ.fZ::S)):=by
 obtain⟨pg,wt,nw,lg,mk,tn,tl,ops,s⟩:=dR.1 s
 refine Call.of_wp (hT.free _ rfl) Tryz.func193 rfl rfl (zK 9 rfl (zY s 0 Dm b9 rfl ?_))
 refine zd rfl (ak rfl rfl c8) ?_ ?_
 ·intro hq
  refine zk 6 rfl (zf rfl (rF _ _) ?_)
  refine zS rfl (by exact s.jS (k:=0) rfl BP rfl (by decide) rfl rfl) (fun h s => ?_)
  refine zk 5 rfl (WP.ret ⟨aa,_,rfl,?_⟩)
  have hq:δ.cM=0:=by simpa using hq
  exact .inl ⟨hq,rfl,dR.2 ⟨pg,wt,nw,lg,mk,tn,tl,ops,s⟩⟩
 ·intro hq
  have hq:δ.cM≠0:=by simpa using hq
  refine zk 8 rfl (zY s 0 Dm b9 rfl ?_)
  refine zd rfl (ak rfl rfl cV) ?_ ?_
  ·intro I
   have I:0<δ.cM:=by simpa using I
   refine zk 5 rfl (zY s 0 Dm b9 rfl (zb rfl (by exact ew (aq (by omega) (by omega))) ?_))
   refine zn rfl (zf rfl (Dm _ _) ?_)
   refine zS rfl (by exact s.jS (k:=0) rfl nY rfl (by decide) rfl rfl) (fun h s => ?_)
   refine zk 5 rfl (zY s 0 Dn b9 rfl (zb rfl (by rfl) ?_))
   refine zn rfl (zf rfl (Dn _ _) ?_)
   refine zS rfl (by exact s.jS (k:=0) rfl nY rfl (by decide) rfl rfl) (fun h s => ?_)
   exact zk 5 rfl (WP.ret ⟨aa,_,rfl,.inr ⟨hq,rfl,dR.2 ⟨pg,wt,nw,lg,mk,tn,tl,_,by simp only[Dk.fZ,ay I];exact s⟩⟩⟩)
  ·intro I
   have I:¬ 0<δ.cM:=by simpa using I
   refine zk 7 rfl (zY s 0 Dn b9 rfl (zb rfl (by rfl) ?_))
   refine zn rfl (zf rfl (Dn _ _) ?_)
   refine zS rfl (by exact s.jS (k:=0) rfl nY rfl (by decide) rfl rfl) (fun h s => ?_)
   exact zk 5 rfl (WP.ret ⟨aa,_,rfl,.inr ⟨hq,rfl,dR.2 ⟨pg,wt,nw,lg,mk,tn,tl,_,by simp only[Dk.fZ,ai I];exact s⟩⟩⟩)
def Dk.at (δ:Dk)(n:Int): List Nat:=match lookL n δ.now with
 |some b=>b
 |none=>match δ.bG[n.toNat]? with
  |some (some b)=>b
  |_=>List.replicate 512 0
theorem Pu {v:V}{m:List (Option (List Nat))}(s:Sat h (qy v m::S))(hi:i<m.length):
  ∃id u,v=.sl id 0 m.length (.exact m.length)∧(∀(P:Program) (t:TypeId),isAggT P t=some false→loadV P h t (.ptr id i)=some u)∧Sat h (yO u m[i]::qy v m::S):=by
 obtain⟨id,cs,rfl,s1⟩:=sy.1 s
 obtain⟨a,b,q1,q2,I⟩:=s1.at (k:=1) rfl
 have hl:=Er I
 have hu:cs[i]?=some (cs[i]'(by omega)):=aG _
 have s2:Sat h (each yO cs m::pt id (.cells m.length cs false)::S):=s1.ae [1]
 have s3:=s2.dup (aJ.each aJ.yO cs m)
 have s4:Sat h (yO (cs[i]'(by omega)) m[i]::each yO cs m::pt id (.cells m.length cs false)::S):=s3.dQ fun a b h=>KF h hu (aG hi)
 refine⟨id,cs[i]'(by omega),rfl,fun P t ht=>D1 ht (s1.row (k:=0) rfl) (by rw[gF,hu]),?_⟩
 have s5:Sat h (pt id (.cells m.length cs false)::each yO cs m::yO (cs[i]'(by omega)) m[i]::S):=s4.ae [2,1]
 exact(sy.2 ⟨id,cs,rfl,s5⟩:Sat h (qy _ m::yO (cs[i]'(by omega)) m[i]::S)).ae [1]
theorem UG (hT:W told){n:Int}(s:Sat h (bZ p δ::S))(hl:(δ.at n).length=512): Call ⟨Tryz.prog,told⟩ 148 [.ptr p 0,.int .i64 n] h fun v h' =>
  (δ.dead=true∧v=.aT [.aR,.int .i64 9]∧Sat h' (bZ p δ::S)) ∨
  (δ.dead=false∧¬(0≤n∧n<δ.bG.length)∧v=.aT [.aR,.int .i64 1]∧Sat h' (bZ p δ::S)) ∨
  (δ.dead=false∧0≤n∧n<δ.bG.length∧∃b,v=.aT [b,.int .i64 0]∧Sat h' (aU b (δ.at n)::bZ p δ::S)):=by
 have s0:=s
 obtain⟨pg,wt,nw,lg,mk,tn,tl,ops,s⟩:=dR.1 s
 refine Call.of_wp (hT.free _ rfl) Tryz.func148 rfl rfl (zK 6 rfl (WP.block (zK 4 rfl (zY s 0 rF r_ rfl (zk 2 rfl ?_)))))
 refine WP.split rfl ?_ ?_
 ·intro hd
  exact zK 5 rfl (WP.ret ⟨aa,_,rfl,.inl ⟨hd,rfl,s0⟩⟩)
 ·intro hd
  refine zK 4 rfl (zc rfl (RM hT s0) ?_)
  rintro v h' ⟨rfl,(⟨D3,sA,rfl⟩|⟨hn,rfl⟩)⟩
  ·skip
   refine zo rfl (dZ rfl rfl) (za rfl (zv (zj rfl (WP.skip (zg rfl (zk 2 rfl (zf rfl (Np _ _) (zl rfl (by exact s.ld (k:=0) rfl qG rfl) ?_))))))))
   refine zm rfl ?_
   have s1:Sat h' (uA (fun v b=>.cg v b) nw δ.now::pt p (.cells 12 (RL δ.room pg wt nw lg δ.gM mk δ.cM ops δ.dead tn tl) false)::qy pg δ.bG::Dx wt δ.waiting::aU lg δ.log::oP mk δ.mark::FZ tn δ.HG::oP tl δ.tail::S):=s.ae [3]
   rcases rH (n:=n) (fun _ _=>aJ.cg _ _) s1 ud cm lq with⟨g1,g2,_⟩|⟨u,b,g1,g2,_,s2⟩
   ·refine au.op rfl rfl rfl (lW rfl rfl g2) ?_
    refine zk 10 rfl (zo rfl (dZ rfl rfl) (zk 5 rfl (zY s 0 Hv gz rfl (zm rfl ?_))))
    have hi:n.toNat<δ.bG.length:=by omega
    obtain⟨id,u,rfl,g3,s3⟩:=Pu (s.ae [1]) hi
    refine zo rfl (bS (r:=.ptr id n.toNat) rfl rfl (by rw[ade,show(decide (0≤n)&&decide (n<((δ.bG.length:Nat):Int)))=true by simp;omega,ah];simp)) ?_
    refine zl rfl (g3 _ _ bF) (zk 6 rfl ?_)
    have I:δ.at n=match δ.bG[n.toNat] with|some b=>b|none=>List.replicate 512 0:=by
     simp only[Dk.at,g1,aG hi]
     cases δ.bG[n.toNat]<;>rfl
    cases hp:δ.bG[n.toNat] with
    |none =>
     rw[hp] at s3 I
     have I:δ.at n=List.replicate 512 0:=I
     obtain⟨rfl,_⟩:=r8.1 s3
     refine zt rfl ((by exact ak rfl rfl (by simp only[binV,eqV,aK];rfl))) (rfl) ?_
     refine zk 4 rfl (au.any rfl rfl rfl (OpR.JJ rfl s0 rfl rfl rfl rfl (by decide)) ?_)
     intro v h s
     exact zk 3 rfl (WP.ret ⟨aa,_,rfl,.inr (.inr ⟨hd,D3,sA,v,rfl,by rw[I];exact s⟩)⟩)
    |some b =>
     rw[hp] at s3 I
     have I:δ.at n=b:=I
     have s4:Sat h' (aE.an (.pu (u≠.aR)) (.cg u b)::qy _ δ.bG::_):=s3
     have hu:u≠.aR:=by
      obtain⟨a,b,q1,q2,q3⟩:=s4.at (k:=0) rfl
      exact q3.1
     have s5:Sat h' (.cg u b::bZ p δ::S):=by
      have s6:=s4.dQ (B:=.cg u b) fun a b h=>h.2
      exact(dR.2 ⟨_,wt,nw,lg,mk,tn,tl,ops,s6.ae [2,1,1,1,1,1,1,1]⟩:Sat h' (bZ p δ::.cg u b::S)).ae [1]
     have hub:∃a b c d,u=.sl a b c d:=by
      rcases (s5.aC (k:=0) rfl (bj _ _)).2 with⟨_,e⟩|⟨a,b,c,_,_,_,e,_⟩
      ·rw[I,e] at hl;simp at hl
      ·exact⟨_,_,_,_,e⟩
     obtain⟨a,b',c,d,rfl⟩:=hub
     refine zh rfl ((by exact ak rfl rfl (by simp only[binV,eqV,aK];rfl))) (rfl) ?_
     refine zk 6 rfl (zc rfl (pV hT s5 (bj _ _) (by rw[←I,hl];decide)) ?_)
     intro v h s
     exact zk 3 rfl (WP.ret ⟨aa,_,rfl,.inr (.inr ⟨hd,D3,sA,v,rfl,by rw[I];exact s.del 1⟩)⟩)
   ·skip
    refine zo rfl (lW rfl rfl g2) (zk 10 rfl (zo rfl (dZ rfl rfl) (zk 7 rfl ?_)))
    have I:δ.at n=b:=by simp only[Dk.at,g1]
    have hub:∃a b c d,u=.sl a b c d:=by
     rcases (s2.aC (k:=0) rfl (bj _ _)).2 with⟨_,e⟩|⟨a,b,c,_,_,_,e,_⟩
     ·rw[I,e] at hl;simp at hl
     ·exact⟨_,_,_,_,e⟩
    obtain⟨a,b',c,d,rfl⟩:=hub
    refine zh rfl ((by exact ak rfl rfl (by simp only[binV,eqV,aK];rfl))) (rfl) ?_
    refine zk 6 rfl (zc rfl (pV hT s2 (bj _ _) (by rw[←I,hl];decide)) ?_)
    intro v h s
    refine zk 3 rfl (WP.ret ⟨aa,_,rfl,?_⟩)
    have s:=dR.2 ⟨pg,wt,nw,lg,mk,tn,tl,ops,s.ae [3,3,3,2,2,2,2,2]⟩
    exact .inr (.inr ⟨hd,D3,sA,v,rfl,by rw[I];exact(s.del 2).ae [1,0]⟩)
  ·skip
   exact zo rfl (dZ rfl rfl) (zk 8 rfl (WP.ret ⟨aa,_,rfl,.inr (.inl ⟨hd,hn,rfl,s0⟩)⟩))
theorem Mv (I:W told)(s:Sat h (bZ p δ::S)): Call ⟨Tryz.prog,told⟩ 180 [.ptr p 0] h fun v h'=>v=.int .i64 (δ.KG:Int)∧h'=h:=by
 obtain⟨pg,wt,nw,lg,mk,tn,tl,ops,s⟩:=dR.1 s
 exact Call.of_wp (I.free _ rfl) Tryz.func180 rfl rfl (zK 8 rfl (zY s 0 Nq b9 rfl (zk 2 rfl (WP.ret ⟨aa,_,rfl,rfl,rfl⟩))))
theorem KH (I:W told)(s:Sat h (bZ p δ::S)): Call ⟨Tryz.prog,told⟩ 36 [.ptr p 0] h fun v h'=>v=.bool δ.dead∧h'=h:=by
 obtain⟨pg,wt,nw,lg,mk,tn,tl,ops,s⟩:=dR.1 s
 exact Call.of_wp (I.free _ rfl) Tryz.func36 rfl rfl (zK 8 rfl (zY s 0 rF r_ rfl (zk 2 rfl (WP.ret ⟨aa,_,rfl,rfl,rfl⟩))))
theorem RN (hT:W told)(s:Sat h (bZ p δ::S))(hf:δ.cM<4294967296): Call ⟨Tryz.prog,told⟩ 175 [.ptr p 0] h fun v h' =>
  (δ.dead=true∧v=.int .i64 9∧Sat h' (bZ p δ::S))∨(δ.dead=false∧δ.cM=0∧v=.int .i64 9∧Sat h' (bZ p δ.die::S)) ∨
  (δ.dead=false∧δ.cM≠0∧v=.int .i64 0∧Sat h' (bZ p { δ.fZ with gM:=δ.log.length }::S)):=by
 have s0:=s
 obtain⟨pg,wt,nw,lg,mk,tn,tl,ops,s⟩:=dR.1 s
 refine Call.of_wp (hT.free _ rfl) Tryz.func175 rfl rfl (zK 9 rfl (zf rfl (rF _ _) ?_))
 refine zd rfl (o_load rfl (s.ld (k:=0) rfl r_ rfl)) ?_ ?_
 ·intro I
  exact zk 11 rfl (WP.ret ⟨aa,_,rfl,.inl ⟨I,rfl,s0⟩⟩)
 ·intro I
  refine zk 2 rfl (zc rfl (B1 hT s0 hf) ?_)
  rintro v h (⟨h0,rfl,s⟩|⟨h0,rfl,s⟩)
  ·skip
   exact zo rfl (dZ rfl rfl) (zk 7 rfl (WP.ret ⟨aa,_,rfl,.inr (.inl ⟨I,h0,rfl,s⟩)⟩))
  ·skip
   obtain⟨pg,wt,nw,lg,mk,tn,tl,ops,s⟩:=dR.1 s
   dsimp only[Dk.fZ] at s
   refine zo rfl (dZ rfl rfl) (zk 9 rfl (zY s 0 yK bF rfl (zo rfl (aD rfl rfl rfl (aY aK (s.aC (k:=4) rfl (aZ _ _)))) (zn rfl (zf rfl (Nq _ _) ?_)))))
   refine zS rfl (by exact s.jS (k:=0) rfl nY rfl (by decide) rfl rfl) (fun h s => ?_)
   exact zk 5 rfl (WP.ret ⟨aa,_,rfl,.inr (.inr ⟨I,h0,rfl,dR.2 ⟨pg,wt,nw,lg,mk,tn,tl,ops,s⟩⟩)⟩)
theorem Pv (hT:W told)(s:Sat h (bZ p δ::X::S))(hX:cf X (cy x b))(hb:b.length<1073741824)(hf:δ.cM<4294967296)(hl:δ.log.length≤4294967296)(hr:δ.room≤4294967296):
  Call ⟨Tryz.prog,told⟩ 141 [.ptr p 0,x] h fun v h' =>
  (δ.dead=true∧v=.int .i64 9∧Sat h' (bZ p δ::X::S))∨(δ.dead=false∧δ.room<δ.log.length+b.length∧v=.int .i64 7∧Sat h' (bZ p δ::X::S)) ∨
  (δ.dead=false∧δ.log.length+b.length≤δ.room∧δ.cM=0∧v=.int .i64 9∧Sat h' (bZ p { δ.die with tail:=b }::X::S)) ∨
  (δ.dead=false∧δ.log.length+b.length≤δ.room∧δ.cM≠0∧v=.int .i64 0∧Sat h' (bZ p { δ.fZ with log:=δ.log++b }::X::S)):=by
 have s0:=s
 obtain⟨pg,wt,nw,lg,mk,tn,tl,ops,s⟩:=dR.1 s
 refine Call.of_wp (hT.free _ rfl) Tryz.func141 rfl rfl (zK 5 rfl (WP.block (zK 4 rfl (zf rfl (rF _ _) ?_))))
 refine zd rfl (o_load rfl (s.ld (k:=0) rfl r_ rfl)) ?_ ?_
 ·intro hd
  exact zk 7 rfl (WP.ret ⟨aa,_,rfl,.inl ⟨hd,rfl,s0⟩⟩)
 ·intro hd
  refine zk 4 rfl (WP.drawn [af,af,af,af,af,af,af,af,af,af,af,af,af,af] rfl (by kernel_rfl) (by kernel_rfl) ?_)
  refine zM rfl (zO rfl (aD rfl rfl rfl (aY aK (s.aC (k:=8) rfl hX))) (zM rfl (zN rfl (zF rfl (Yl _ _) (zL rfl (s.ld (k:=0) rfl b9 rfl) (zM rfl (zN rfl (zF rfl (yK _ _) (zL rfl (s.ld (k:=0) rfl bF rfl) (zO rfl (aD rfl rfl rfl (aY aK (s.aC (k:=4) rfl (aZ _ _)))) (zO rfl (ak rfl rfl (by exact ew (aq (by omega) (by omega)))) ?_)))))))))))
  refine aB.opB rfl rfl rfl rfl (ak rfl rfl cV) ?_ ?_
  ·intro I
   have I:δ.room<δ.log.length+b.length:=by simp at I;omega
   refine zA rfl ?_
   refine aB.nil ⟨⟨aa,aa,aa,aa,aa,aa,aa,aa,aa,aa,aa,aa,aa,aa,aa⟩,?_⟩
   exact zK 5 rfl (WP.ret ⟨aa,_,rfl,.inr (.inl ⟨hd,I,rfl,s0⟩)⟩)
  ·intro I
   have I:δ.log.length+b.length≤δ.room:=by simp at I;omega
   refine zA rfl ?_
   refine aB.nil ⟨⟨aa,aa,aa,aa,aa,aa,aa,aa,aa,aa,aa,aa,aa,aa,aa⟩,?_⟩
   refine zK 4 rfl (zc rfl (B1 hT s0 hf) ?_)
   rintro v h (⟨h0,rfl,s⟩|⟨h0,rfl,s⟩)
   ·skip
    refine zo rfl (dZ rfl rfl) (zk 7 rfl (zc rfl (pV hT (s.ae [1]) hX hb) ?_))
    intro v h s
    have s:=(s.eW).ae [2,0,0]
    obtain⟨pg,wt,nw,lg,mk,tn,tl,ops,s⟩:=dR.1 s
    have hv:=(s.aC (k:=8) rfl (bj _ _)).cells
    refine zn rfl (zf rfl (Ut _ _) (zS rfl (s.jS (k:=0) rfl dH rfl (by decide) hv.1 hv.2) ?_))
    intro h s
    exact zk 5 rfl (WP.ret ⟨aa,_,rfl,.inr (.inr (.inl ⟨hd,I,h0,rfl,dR.2 ⟨pg,wt,nw,lg,mk,tn,v,ops,s.del 7⟩⟩))⟩)
   ·skip
    obtain⟨pg,wt,nw,lg,mk,tn,tl,ops,s⟩:=dR.1 s
    dsimp only[Dk.fZ] at s
    refine zo rfl (dZ rfl rfl) (za rfl (zv (zj rfl (WP.skip (zg rfl (zk 3 rfl (zf rfl (yK _ _) (zl rfl (by exact s.ld (k:=0) rfl bF rfl) ?_))))))))
    refine zm rfl (au.any rfl rfl rfl (OpR.qh rfl (s.ae [4,7]) hX rfl rfl rfl rfl (by show δ.log.length+_≤_;omega)) ?_)
    intro v h s
    have hv:=(s.buf (k:=0) rfl).view.cells
    refine zn rfl (zf rfl (yK _ _) (zS rfl (s.jS (k:=2) rfl dH rfl (by decide) hv.1 hv.2) ?_))
    intro h s
    exact zk 5 rfl (WP.ret ⟨aa,_,rfl,.inr (.inr (.inr ⟨hd,I,h0,rfl,dR.2 ⟨pg,wt,nw,v,mk,tn,tl,ops,s.ae [2,2,2,2,0,1,1,1]⟩⟩))⟩)
end
section
variable {told:cE} {p:Nat}
def Dk.wr (δ:Dk)(n:Int)(b:List Nat): Dk:={ δ.fZ with waiting:=δ.waiting++[(n.toNat,b)],now:=cD n b δ.now }
theorem Yx : ∃i,Tryz.prog.info? 185=some i∧i.size=2∧i.bytes=32 :=
 ⟨_,(show Tryz.prog.info? 185=some ((Tryz.prog.info? 185).getD default) by kernel_rfl),by kernel_rfl,by kernel_rfl⟩
theorem Sat.aaL {m:List Wr}{x:Wr}(s:Sat h (.cg u x.2::FY cs m::S))(hu:u≠.aR): Sat h (FY (cs++[.int .i64 (x.1:Int),u]) (m++[x])::S) :=
 s.two (aJ.cg _ _) (aJ.wr _ _) fun _ _ I h2=>Yu h2 hu I
theorem RO (hT:W told){n:Int}(s:Sat h (bZ p δ::X::S))(hX:cf X (cy x b))(hb:b.length<1073741824)(hf:δ.cM<4294967296)(hw:δ.waiting.length≤268435456):
  Call ⟨Tryz.prog,told⟩ 183 [.ptr p 0,.int .i64 n,x] h fun v h' =>
  (δ.dead=true∧v=.int .i64 9∧Sat h' (bZ p δ::X::S)) ∨
  (δ.dead=false∧¬(0≤n∧n<δ.bG.length∧b.length=512)∧v=.int .i64 1∧Sat h' (bZ p δ::X::S)) ∨
  (δ.dead=false∧0≤n∧n<δ.bG.length∧b.length=512∧δ.cM=0∧v=.int .i64 9∧Sat h' (bZ p { δ.die with HG:=some (n.toNat,b) }::X::S)) ∨
  (δ.dead=false∧0≤n∧n<δ.bG.length∧b.length=512∧δ.cM≠0∧v=.int .i64 0∧Sat h' (bZ p (δ.wr n b)::X::S)):=by
 have s0:=s
 obtain⟨pg,wt,nw,lg,mk,tn,tl,ops,s⟩:=dR.1 s
 refine Call.of_wp (hT.free _ rfl) Tryz.func183 rfl rfl (zK 5 rfl (WP.block (zK 4 rfl (zf rfl (rF _ _) ?_))))
 refine zd rfl (o_load rfl (s.ld (k:=0) rfl r_ rfl)) ?_ ?_
 ·intro hd
  exact zk 7 rfl (WP.ret ⟨aa,_,rfl,.inl ⟨hd,rfl,s0⟩⟩)
 ·intro hd
  refine zk 7 rfl (zc rfl (RM hT s0) ?_)
  rintro v h' ⟨rfl,(⟨D3,sA,rfl⟩|⟨hn,rfl⟩)⟩
  ·skip
   refine zo rfl (dZ rfl rfl) (zk 2 rfl (zo rfl (aD rfl rfl rfl (aY aK (s.aC (k:=8) rfl hX))) ?_))
   refine zd rfl (ak rfl rfl aH) ?_ ?_
   ·intro I
    have I:b.length≠512:=by simp at I;omega
    exact zk 8 rfl (WP.ret ⟨aa,_,rfl,.inr (.inl ⟨hd,fun q=>I q.2.2,rfl,s0⟩)⟩)
   ·intro I
    have I:b.length=512:=by simp at I;omega
    refine zk 2 rfl (zv (zj rfl (WP.skip (zg rfl (zk 2 rfl (zc rfl (pV hT (s0.ae [1]) hX hb) ?_))))))
    intro u h s
    obtain⟨lD,_,cap,_,rfl,_⟩:=s.eG (by omega)
    have s:=s.eW
    have hnc:((n.toNat:Nat):Int)=n:=by omega
    refine zo rfl (cQ rfl (by rw[abX];rfl)) ?_
    refine au.b_ s rfl rfl rfl (cu Pk) (fun p7 h s => ?_)
    refine zS rfl (s.gX (j:=0) rfl Pj rfl rfl) (fun h s => ?_)
    refine zk 5 rfl (zc rfl (B1 hT (s.ae [3]) hf) ?_)
    rintro v h (⟨h0,rfl,s⟩|⟨h0,rfl,s⟩)
    ·skip
     obtain⟨pg,wt,nw,lg,mk,tn,tl,ops,s⟩:=dR.1 s
     refine zo rfl (dZ rfl rfl) (zk 6 rfl (zf rfl (Us _ _) ?_))
     refine zS rfl (by exact s.jS (k:=0) rfl abT rfl (by decide) rfl rfl) (fun h s => ?_)
     dsimp only[RL,V.cells,List.length_cons,List.length_nil,Nat.reduceAdd,aL,bringA,List.take,List.drop,List.cons_append,List.nil_append,setA,List.set] at s
     refine zk 5 rfl (WP.ret ⟨aa,_,rfl,?_⟩)
     have s1:=s.ae [8,8,8]
     have s2:Sat h (FZ _ (some (n.toNat,b))::_):=jv.2 ⟨_,jv.2 ⟨_,cK.2 (r8.2 ⟨rfl,by rw[hnc];exact s1⟩)⟩⟩
     have s3:=(s2.del 8).ae [2,2,2,2,2,2,0,1,0]
     exact .inr (.inr (.inl ⟨hd,D3,sA,I,h0,rfl,dR.2 ⟨_,_,_,_,_,_,_,_,s3⟩⟩))
    ·skip
     obtain⟨pg,wt,nw,lg,mk,tn,tl,ops,s⟩:=dR.1 s
     dsimp only[Dk.fZ] at s
     obtain⟨cs,sw⟩:=B0.1 (s.ae [2])
     have s:=sw.ae [2,8,0,0]
     dsimp only[RL,V.cells,List.length_cons,List.length_nil,Nat.reduceAdd,aL,bringA,List.take,List.drop,List.cons_append,List.nil_append,setA,getA] at s
     have s0:=s
     have F1:=(s.tf (j:=2) rfl).2.2
     refine zo rfl (dZ rfl rfl) (zk 4 rfl (WP.drawn [some (0,3),some (0,2),some (0,2),some (0,2),some (0,2),af,af,af,af,af,af] rfl (by kernel_rfl) (by kernel_rfl) ?_))
     refine zM rfl (zM rfl (zN rfl (zF rfl (Hw _ _) (zL rfl (s.ld (k:=0) rfl Ph rfl) (zL rfl (s.b7 (k:=1) rfl abW Pj) ?_)))))
     obtain⟨i1,dy,fy,o8⟩:=Yx
     obtain⟨sv,h1,e1,s1⟩:=lR (P:=Tryz.prog) (x:=.agg [.int .i64 n,.sl lD 0 b.length cap]) s Tryz.underlying169 Pk Pj rfl (by decide) (by decide) rfl rfl
     dsimp only[V.cells] at s1
     refine aB.any rfl rfl rfl rfl (OpR.of (R:=fun v h'=>v=sv∧h'=h1) (ku rfl e1) ⟨rfl,rfl⟩) ?_
     rintro v h' ⟨rfl,rfl⟩
     have gy:cs.length=δ.waiting.length*2:=by
      obtain⟨a,b,q1,q2,q3⟩:=s.at (k:=3) rfl
      exact Yv q3
     obtain⟨wt',h2,e2,s2⟩:=h_ (s1.ae [3,0]) Tryz.underlying169 dy Pk fy (by omega) rfl (by decide) (by simp only[V.cells,bq,cj];omega)
     dsimp only[aL,bringA] at s2
     refine aB.any rfl rfl rfl rfl (OpR.of (R:=fun v h'=>v=wt'∧h'=h2) (j_ rfl rfl e2) ⟨rfl,rfl⟩) ?_
     rintro v h' ⟨rfl,rfl⟩
     have hv:=s2.tf (j:=0) rfl
     refine zN rfl (zF rfl (Hw _ _) (aB.mg rfl rfl rfl (OpR.yH rfl rfl rfl (s2.jS (k:=2) rfl abS rfl (by decide) hv.1 hv.2.1)) ?_))
     rintro v h ⟨rfl,s⟩
     dsimp only[Nat.reduceAdd,List.set,setA] at s
     refine aB.nil ⟨⟨fun _ _=>.inr ⟨rfl,⟨_,bV rfl⟩,bg _ rfl⟩,fun _ _=>.inr ⟨rfl,⟨_,bV rfl⟩,bg _ rfl⟩,fun _ _=>.inr ⟨rfl,⟨_,uW rfl⟩,bg _ rfl⟩,fun _ _=>.inr ⟨rfl,⟨_,mU rfl (Hw _ _)⟩,bg _ rfl⟩,fV (.inr ⟨rfl,⟨_,o_load rfl (s0.ld (k:=0) rfl Ph rfl)⟩,F1⟩) (.inr ⟨rfl,⟨_,o_load rfl (s1.ld (k:=1) rfl Ph rfl)⟩,F1⟩),aa,aa,aa,aa,aa,aa,aa⟩,?_⟩
     refine zw (WP.drawn [af,af,af,af,af,af,af,af] rfl (by kernel_rfl) (by kernel_rfl) ?_)
     refine zM rfl (zN rfl (zF rfl (Np _ _) (zL rfl (s.ld (k:=2) rfl qG rfl) (zM rfl (zF rfl (Yo _ _) (zL rfl (s.ld (k:=3) rfl bF rfl) (aB.mg rfl rfl rfl (OpR.mapUpdate rfl rfl rfl rfl (qK (f:=fun v b=>aE.cg v b) (x:=b) (fun _ _=>aJ.cg _ _) (((s.ae [11]).dup (aJ.cg _ _)).ae [0,7]) ud cm)) ?_)))))))
     intro v h s
     dsimp only[aL,bringA] at s
     refine aB.nil ⟨⟨aa,aa,aa,aa,aa,aa,aa,aa,aa⟩,?_⟩
     refine zK 4 rfl (WP.ret ⟨aa,_,rfl,?_⟩)
     have s1:=(s.ae [1,5]).aaL (x:=(n.toNat,b)) (by simp)
     rw[hnc] at s1
     have s2:=((B0.2 ⟨_,s1.ae [2,0]⟩).del 4).del 2
     exact .inr (.inr (.inr ⟨hd,D3,sA,I,h0,rfl,dR.2 ⟨_,_,_,_,_,_,_,_,s2.ae [2,2,0,0,0,0,0,0,0]⟩⟩))
  ·skip
   exact zo rfl (dZ rfl rfl) (zk 12 rfl (WP.ret ⟨aa,_,rfl,.inr (.inl ⟨hd,fun q=>hn ⟨q.1,q.2.1⟩,rfl,s0⟩)⟩))
theorem Yy (hT:W told)(s:Sat h (bZ p δ::S))(hl:δ.log.length<1073741824): Call ⟨Tryz.prog,told⟩ 177 [.ptr p 0] h fun v h' =>
  (δ.dead=true∧v=.aT [.aR,.int .i64 9]∧Sat h' (bZ p δ::S))∨(δ.dead=false∧∃b,v=.aT [b,.int .i64 0]∧Sat h' (aU b δ.log::bZ p δ::S)):=by
 have s0:=s
 obtain⟨pg,wt,nw,lg,mk,tn,tl,ops,s⟩:=dR.1 s
 refine Call.of_wp (hT.free _ rfl) Tryz.func177 rfl rfl (zK 10 rfl (zf rfl (rF _ _) ?_))
 refine zd rfl (o_load rfl (s.ld (k:=0) rfl r_ rfl)) ?_ ?_
 ·intro I
  exact zk 7 rfl (WP.ret ⟨aa,_,rfl,.inl ⟨I,rfl,s0⟩⟩)
 ·intro I
  refine zk 7 rfl (zY s 0 yK bF rfl (zc rfl (pV hT (s.ae [4]) (aZ _ _) hl) ?_))
  intro v h s
  exact zk 3 rfl (WP.ret ⟨aa,_,rfl,.inr ⟨I,v,rfl,(dR.2 ⟨pg,wt,nw,lg,mk,tn,tl,ops,s.ae [2,2,2,2,1,1,1,1,0]⟩).ae [1]⟩⟩)
theorem Pw (hT:W told)(s:Sat h (bZ p δ::S))(hl:δ.mark.length≤64): Call ⟨Tryz.prog,told⟩ 176 [.ptr p 0] h fun v h' =>
  (δ.dead=true∧v=.aT [.aR,.int .i64 9]∧Sat h' (bZ p δ::S))∨(δ.dead=false∧∃b,v=.aT [b,.int .i64 0]∧Sat h' (aU b δ.mark::bZ p δ::S)):=by
 have s0:=s
 obtain⟨pg,wt,nw,lg,mk,tn,tl,ops,s⟩:=dR.1 s
 refine Call.of_wp (hT.free _ rfl) Tryz.func176 rfl rfl (zK 10 rfl (zf rfl (rF _ _) ?_))
 refine zd rfl (o_load rfl (s.ld (k:=0) rfl r_ rfl)) ?_ ?_
 ·intro I
  exact zk 7 rfl (WP.ret ⟨aa,_,rfl,.inl ⟨I,rfl,s0⟩⟩)
 ·intro I
  refine zk 7 rfl (zY s 0 Ym bF rfl (zc rfl (pV hT (s.ae [5]) (bj _ _) (by omega)) ?_))
  intro v h s
  exact zk 3 rfl (WP.ret ⟨aa,_,rfl,.inr ⟨I,v,rfl,(dR.2 ⟨pg,wt,nw,lg,mk,tn,tl,ops,s.ae [2,2,2,2,2,1,1,1,0]⟩).ae [1]⟩⟩)
def Dk.fresh (bG room:Nat): Dk:={ room:=room,bG:=List.replicate bG none,waiting:=[],now:=[],log:=[],gM:=0,mark:=[],cM := -1,dead:=false,HG:=none,tail:=[] }
theorem Yz : ∃i,Tryz.prog.info? 29=some i∧i.size=1∧i.bytes=24 :=
 ⟨_,(show Tryz.prog.info? 29=some ((Tryz.prog.info? 29).getD default) by kernel_rfl),by kernel_rfl,by kernel_rfl⟩
theorem Mw (v:V): ∀n:Nat,repeatL [v] n=List.replicate n v:=by
 intro n
 induction n with
 |zero=>rfl
 |succ n I=>simp only[repeatL,I,GW,fF,dG]
theorem RP {a b:PM}: ∀n:Nat,(each yO (List.replicate n .aR) (List.replicate n none)).p a b:=by
 intro n
 induction n with
 |zero=>trivial
 |succ n I=>exact⟨rfl,I⟩
theorem UH (hT:W told){m:Nat}(s:Sat h S)(hn:n<1073741824): Call ⟨Tryz.prog,told⟩ 112 [.int .i64 (n:Int),.int .i64 (m:Int)] h fun v h'=>∃p,v=.ptr p 0∧Sat h' (bZ p (Dk.fresh n m)::S):=by
 refine Call.of_wp (hT.free _ rfl) Tryz.func112 rfl rfl (zK 8 rfl ?_)
 obtain⟨i1,I,fy,o8⟩:=Yz
 obtain⟨id,h1,e1,s1⟩:=II (P:=Tryz.prog) s aP I lq fy (by omega) rfl (by decide) hn
 refine au.any rfl rfl rfl (OpR.of (R:=fun v h'=>v=.sl id 0 n (.exact n)∧h'=h1) (Dg rfl rfl e1) ⟨rfl,rfl⟩) ?_
 rintro v h ⟨rfl,rfl⟩
 have s:=s1
 dsimp only[V.cells] at s
 rw[dV,Mw] at s
 refine au.Hq s rfl rfl rfl rfl (fun p8 h s => ?_)
 refine zo rfl (cQ rfl (by rw[abU];rfl)) ?_
 refine au.b_ s rfl rfl rfl (eU rfl rfl) (fun p10 h s => ?_)
 refine zk 2 rfl (WP.ret ⟨aa,_,rfl,?_⟩)
 have s:=(v8 (f:=fun v b=>aE.cg v b) (s.ae [1]))
 have s:=s.uY.uY.t_
 have s:Sat _ (Dx .aR []::_):=B0.2 ⟨[],(s.gQ (φ:=True) aa).mJ⟩
 have s:Sat _ (FZ .b8 none::_):=s.gQ rfl
 have s:=s.ae [6,6]
 have hp:Sat _ (qy (.sl id 0 n (.exact n)) (List.replicate n none)::_):=sy.2 ⟨id,List.replicate n .aR,by rw[gd],by
  rw[gd]
  exact(((s.ae [1]).gQ (φ:=True) aa).dQ fun a b _=>RP n).ae [1]⟩
 dsimp only[V.cells,List.take,List.length_cons,List.length_nil,Nat.reduceAdd,List.drop,List.cons_append,List.nil_append,aL,bringA,getA] at hp
 exact⟨_,rfl,dR.2 ⟨_,_,_,_,_,_,_,_,hp.ae [1,0,1,4,1,1,0,0]⟩⟩
theorem YA (hT:W told){n m:Int}(s:Sat h S): Call ⟨Tryz.prog,told⟩ 94 [.int .i64 n,.int .i64 m] h fun v h' =>
  (¬(1≤n∧n≤65536∧0≤m∧m≤16777216)∧v=.aT [.b8,.int .i64 1]∧Sat h' S) ∨
  (1≤n∧n≤65536∧0≤m∧m≤16777216∧∃p,v=.aT [.ptr p 0,.int .i64 0]∧Sat h' (bZ p (Dk.fresh n.toNat m.toNat)::S)):=by
 refine Call.of_wp (hT.free _ rfl) Tryz.func94 rfl rfl (zK 9 rfl ?_)
 refine zd rfl (ak rfl rfl aO) ?_ ?_
 ·intro hq
  have hq:n<1:=by simpa using hq
  exact zk 19 rfl (WP.ret ⟨aa,_,rfl,.inl ⟨fun q=>by omega,rfl,s⟩⟩)
 ·intro hq
  have hq:1≤n:=by simpa using hq
  refine zk 2 rfl ?_
  refine zd rfl (ak rfl rfl cV) ?_ ?_
  ·intro I
   have I:65536<n:=by simpa using I
   exact zk 16 rfl (WP.ret ⟨aa,_,rfl,.inl ⟨fun q=>by omega,rfl,s⟩⟩)
  ·intro I
   have I:n≤65536:=by simpa using I
   refine zk 3 rfl ?_
   refine zd rfl (ak rfl rfl aO) ?_ ?_
   ·intro rI
    have rI:m<0:=by simpa using rI
    exact zk 12 rfl (WP.ret ⟨aa,_,rfl,.inl ⟨fun q=>by omega,rfl,s⟩⟩)
   ·intro rI
    have rI:0≤m:=by simpa using rI
    refine zk 3 rfl ?_
    refine zd rfl (ak rfl rfl cV) ?_ ?_
    ·intro rJ
     have rJ:16777216<m:=by simpa using rJ
     exact zk 8 rfl (WP.ret ⟨aa,_,rfl,.inl ⟨fun q=>by omega,rfl,s⟩⟩)
    ·intro rJ
     have rJ:m≤16777216:=by simpa using rJ
     refine zk 8 rfl ?_
     obtain⟨n,rfl⟩:∃k:Nat,n=k:=⟨n.toNat,by omega⟩
     obtain⟨m,rfl⟩:∃k:Nat,m=k:=⟨m.toNat,by omega⟩
     refine zc rfl (UH hT s (by omega)) ?_
     rintro v h ⟨p,rfl,s⟩
     exact zk 3 rfl (WP.ret ⟨aa,_,rfl,.inr ⟨hq,I,rI,rJ,p,rfl,s⟩⟩)
end
def leN : List Nat→Nat
 |[]=>0
 |b::l=>b+256*leN l
theorem UI : ∀(l:List Nat) (b:Nat),leN (l++[b])=leN l+b*256^l.length:=by
 intro l
 induction l with
 |nil=>intro b;simp[leN]
 |cons x l I=>intro b;simp only[fF,leN,I,bq,Nat.pow_succ,Nat.mul_add];rw[←oD,Nat.mul_comm (256^l.length) 256,←Nat.mul_assoc b,Nat.mul_comm b 256,Nat.mul_assoc 256 b]
theorem KI : ∀(l:List Nat),(∀b∈l,b<256)→leN l<256^l.length:=by
 intro l
 induction l with
 |nil=>intro _;simp[leN]
 |cons x l I =>
  intro h
  have h1:=I (fun b hb=>h b (bA _ hb))
  have h2:=h x bB
  simp only[leN,bq,Nat.pow_succ]
  omega
theorem KJ (i:Nat): (256:Nat)^i=2^(8*i):=by rw[Nat.pow_mul]
theorem adm {x:Operand}(hd:d<256)(hi:i≤7): binV P h .shl t x y (.int .u64 (d:Int)) (.int .i64 (8*(i:Int)))=some (.int .u64 ((d*256^i:Nat):Int)):=by
 have hp:(256:Nat)^i≤256^7:=CO (by omega) hi
 have I:d*256^i<18446744073709551616:=by
  have:d*256^i≤255*256^7:=vr (by omega) hp
  omega
 simp only[binV,shiftV,IntKind.bits]
 have e:(8*(i:Int)).toNat=8*i:=by omega
 rw[e,show min (8*i) 64=8*i by omega,show decide (8*(i:Int)<0)=false by simp;omega,aV]
 have:(d:Int)*2^(8*i)=((d*256^i:Nat):Int):=by rw[KJ];push_cast;rfl
 simp only[this,wrap_u64 I]
theorem or8 {x:Operand}(I:a<256^i)(hd:d<256)(hi:i≤7): binV P h .or t x y (.int .u64 (a:Int)) (.int .u64 ((d*256^i:Nat):Int))=some (.int .u64 ((a+d*256^i:Nat):Int)):=by
 have hp:(256:Nat)^i≤256^7:=CO (by omega) hi
 have hm:d*256^i≤255*256^7:=vr (by omega) hp
 have h1:((a:Int)%(2^(IntKind.u64).bits:Int)).toNat=a:=by simp only[IntKind.bits];omega
 have h2:(((d*256^i:Nat):Int)%(2^(IntKind.u64).bits:Int)).toNat=d*256^i:=by simp only[IntKind.bits];omega
 have h3:Nat.lor a (d*256^i)=a+d*256^i:=by
  have e:d*256^i=2^(8*i)*d:=by rw[←KJ,Nat.mul_comm]
  have:=Nat.two_pow_add_eq_or_of_lt (i:=8*i) (b:=a) (by rw[←KJ];exact I) d
  rw[←e] at this
  rw[Nat.add_comm a,this]
  exact Nat.or_comm _ _
 simp only[binV,ikBeq,ah,intV,bitsV,h1,h2,h3]
 rw[wrap_u64 (by omega)]
section
variable {told:cE} {v:V}
noncomputable def wdL : Code:=eu [1,1,0,1,0,0] ((Tryz.f110.body).getD .skip)
theorem RQ (hv:View h v l)(hl:l.length≤8): ∀(j i:Nat) (E:List (Nat×V)) (Q:Ex→List (Nat×V)→H→Prop),i+j=l.length →
  Has E [(3,.int .u64 (leN (l.take i))),(6,v),(7,.int .i64 l.length),(8,.int .i64 i)]→(∀E',look E' 3=some (.int .u64 (leN l))→Q (.exit 0) E' h)→WP ⟨Tryz.prog,told⟩ 22 (.loop wdL) E h Q:=by
 intro j
 induction j with
 |zero =>
  intro i E Q hi hE hq
  refine WP.loop (WP.has hE (zg rfl (zC rfl aO (by simp;omega) ?_)))
  refine zk 3 rfl (WP.exit (hq _ ?_))
  rw[gT (by omega)]
  rfl
 |succ j ih =>
  intro i E Q hi hE hq
  have hb:l[i]?=some (l[i]'(by omega)):=aG _
  generalize Q9:(l[i]'(by omega))=b at hb
  have I:b<256:=hv.1 b (aM hb)
  obtain⟨id,off,e1,e2⟩:=fg hv hb
  have ht:l.take (i+1)=l.take i++[b]:=by rw[qV,hb];rfl
  have cq:leN (l.take i)<256^i:=by
   have:=KI (l.take i) (fun x hx=>hv.1 x (iV hx))
   rwa [cH,yn (by omega)] at this
  refine WP.loop (WP.has hE (zg rfl (zB rfl aO (by simp;omega) ?_)))
  refine zk 5 rfl (WP.block (zK 3 rfl (zo rfl (bS (r:=.ptr id off) rfl rfl e1) (zl rfl e2 (zk 6 rfl (zo rfl (cL rfl (by exact kJ Tryz.underlying5 eM (iD (by omega) (by omega)))) ?_))))))
  refine zm rfl (zb rfl (by exact jx (aq (by omega) (by omega))) ?_)
  refine zb rfl (adm I (by omega)) ?_
  refine zb rfl (or8 cq I (by omega)) ?_
  refine za rfl (zv (zr rfl (zb rfl (by exact aQ (aq (by omega) (by omega))) ?_)))
  refine zm rfl (zv ?_)
  refine ih (i+1) _ _ (by omega) ?_ hq
  rw[ht,UI,cH,yn (by omega)]
  exact⟨rfl,rfl,rfl,rfl,aa⟩
theorem HH (hT:W told)(s:Sat h S)(hk:getA S k=some X)(hX:cf X (cy v l))(hl:l.length≤8): Call ⟨Tryz.prog,told⟩ 110 [v] h fun r h'=>r=.int .u64 (leN l)∧h'=h:=by
 have hv:=s.aC hk hX
 refine Call.of_wp (hT.free _ rfl) Tryz.func110 rfl rfl (zK 12 rfl (zo rfl (aD rfl rfl rfl (aY aK hv)) (zk 2 rfl (WP.block ?_))))
 refine RQ hv hl l.length 0 _ _ (by omega) ⟨rfl,rfl,rfl,rfl,aa⟩ (fun E' I => ?_)
 exact WP.has (F:=[(3,.int .u64 (leN l))]) ⟨I,aa⟩ (zK 5 rfl (WP.ret ⟨aa,_,rfl,rfl,rfl⟩))
theorem W4 (I:W told)(s:Sat h S)(hk:getA S k=some X)(hX:cf X (cy v l))(hl:l.length≤4611686018427387904): Call ⟨Tryz.prog,told⟩ 200 [v] h fun r h'=>r=.int .u32 (F0 0 l:Nat)∧h'=h:=by
 refine Call.of_wp (I.free _ rfl) Tryz.func200 rfl rfl (zK 7 rfl (zc rfl (Yw (s:=0) I s hk hX (by decide) hl) ?_))
 rintro v h' ⟨rfl,rfl⟩
 exact zk 2 rfl (WP.ret ⟨aa,_,rfl,rfl,rfl⟩)
def dI (l:List Nat)(a z:Nat): Nat:=leN ((l.take (a+z)).drop a)
theorem v_ (hT:W told){a z:Int}(s:Sat h S)(hk:getA S k=some X)(hX:cf X (cy v l))(ha:0≤a)(hz:1≤z)(KK:z≤7)(hl:a+z≤l.length)(iA:l.length≤65536):
  Call ⟨Tryz.prog,told⟩ 186 [.agg [v],.int .i64 a,.int .i64 z] h fun r h'=>r=.int .i64 (dI l a.toNat z.toNat)∧Sat h' S:=by
 have hv:=s.aC hk hX
 obtain⟨pi,po,pc,rfl⟩:=iE hv (by omega)
 refine Call.of_wp (hT.free _ rfl) Tryz.func186 rfl rfl (zg rfl ?_)
 refine au.b_ s rfl rfl rfl (eU rfl rfl) (fun p3 h s => ?_)
 refine zk 4 rfl (zY s 0 dW bF rfl (zk 3 rfl (zb rfl (by exact aQ (aq (by omega) (by omega))) ?_)))
 refine zk 2 rfl (zb rfl (by exact aQ (aq (by omega) (by omega))) ?_)
 have ja:=tL (s.aC (kI hk) hX) (a:=a.toNat) (b:=(a+z).toNat) (c:=(a+z).toNat) (by omega) (by omega) (by omega) (by omega)
 refine zo rfl (bO (p:=some (.int .i64 a)) (q:=some (.int .i64 (a+z))) (m:=some (.int .i64 (a+z))) rfl rfl rfl rfl (bT ha) (bT (by omega)) (bT (by omega)) ja) ?_
 have hlen:((l.take (a+z).toNat).drop a.toNat).length=z.toNat:=by simp;omega
 refine zc rfl (HH hT s (kI hk) (BV hX (a:=a.toNat) (b:=(a+z).toNat) (c:=(a+z).toNat) (by omega) (by omega) (by omega) (by omega)) (by omega)) ?_
 rintro r h' ⟨rfl,rfl⟩
 have I:=KI ((l.take (a+z).toNat).drop a.toNat) (fun x hx=>hv.1 x (iV (jh hx)))
 have hp:256^z.toNat≤256^7:=CO (by omega) (by omega)
 rw[hlen] at I
 have e:(a+z).toNat=a.toNat+z.toNat:=by omega
 rw[e] at I ⊢
 refine zo rfl (cL rfl (by exact kJ eM cm (aq (by omega) (by omega)))) ?_
 exact zk 2 rfl (WP.ret ⟨aa,_,rfl,rfl,s.drop⟩)
theorem F2 (hl:∀b∈l,b<256): dI l a z<256^z:=by
 have:=KI ((l.take (a+z)).drop a) (fun x I=>hl x (iV (jh I)))
 have h2:((l.take (a+z)).drop a).length≤z:=by simp;omega
 exact jV this (CO (by omega) h2)
def jy (l:List Nat): Nat:=dI l 14 2
def c9 (l:List Nat): Nat:=dI l 16 2
def bw (l:List Nat)(i:Nat): Nat:=dI l (26+4*i) 2
def dS (l:List Nat)(i:Nat): Nat:=dI l (26+4*i+2) 2
theorem f_ (I:W told)(s:Sat h S)(hk:getA S k=some X)(hX:cf X (cy v l))(hl:l.length=512):
  Call ⟨Tryz.prog,told⟩ 120 [.agg [v]] h fun r h'=>r=.int .i64 (jy l)∧Sat h' S:=by
 have hv:=s.aC hk hX
 obtain⟨pi,po,pc,rfl⟩:=iE hv (by omega)
 refine Call.of_wp (I.free _ rfl) Tryz.func120 rfl rfl (zg rfl ?_)
 refine au.b_ s rfl rfl rfl (eU rfl rfl) (fun p1 h s => ?_)
 refine zk 4 rfl (zl rfl (s.b7 (k:=0) rfl bx aS) (zc rfl (v_ I s (kI hk) hX (by decide) (by decide) (by decide) (by omega) (by omega)) ?_))
 rintro r h' ⟨rfl,s⟩
 exact zk 2 rfl (WP.ret ⟨aa,_,rfl,rfl,s.drop⟩)
theorem B2 (I:W told)(s:Sat h S)(hk:getA S k=some X)(hX:cf X (cy v l))(hl:l.length=512):
  Call ⟨Tryz.prog,told⟩ 124 [.agg [v]] h fun r h'=>r=.int .i64 (c9 l)∧Sat h' S:=by
 have hv:=s.aC hk hX
 obtain⟨pi,po,pc,rfl⟩:=iE hv (by omega)
 refine Call.of_wp (I.free _ rfl) Tryz.func124 rfl rfl (zg rfl ?_)
 refine au.b_ s rfl rfl rfl (eU rfl rfl) (fun p1 h s => ?_)
 refine zk 4 rfl (zl rfl (s.b7 (k:=0) rfl bx aS) (zc rfl (v_ I s (kI hk) hX (by decide) (by decide) (by decide) (by omega) (by omega)) ?_))
 rintro r h' ⟨rfl,s⟩
 exact zk 2 rfl (WP.ret ⟨aa,_,rfl,rfl,s.drop⟩)
end
def AW (t:List Bool): List V:=t.map V.bool
theorem YB (t:List Bool)(k:Nat)(b:Bool): (AW t).set k (.bool b)=AW (t.set k b):=by simp[AW,CY]
theorem NF {t:List Bool}(I:k<t.length): nth (AW t) k=some (.bool (t.getD k false)):=by
 rw[gF];simp[AW,aG I]
theorem UJ : zeroT Tryz.prog 257=some (.agg (AW (List.replicate 512 false))):=by kernel_rfl
def markL : Nat→Nat→List Bool→Option (List Bool)
 |0,_,t=>some t
 |n+1,k,t=>if t.getD k false then none else markL n (k+1) (t.set k true)
def cellsL (l:List Nat)(low:Nat): Nat→Nat→List Bool→Bool
 |0,_,_=>true
 |n+1,i,t=>if bw l i<low∨512<bw l i+dS l i then false else match markL (dS l i) (bw l i) t with
  |none=>false
  |some t'=>cellsL l low n (i+1) t'
def cF (l:List Nat): Bool:=decide (l.length=512)&&(decide (l.getD 13 0=0)&&(decide (26+4*jy l≤c9 l∧c9 l≤512)&&cellsL l (c9 l) (jy l) 0 (List.replicate 512 false)))
theorem RR : ∀(n k:Nat) (t t':List Bool),markL n k t=some t'→t'.length=t.length:=by
 intro n
 induction n with
 |zero=>intro k t t' h;simp only[markL] at h;injection h with h;subst h;rfl
 |succ n I =>
  intro k t t' h
  simp only[markL] at h
  split at h
  ·cases h
  ·have:=I _ _ _ h;simpa using this
section
variable {told:cE} {v:V}
theorem tj (I:W told)(s:Sat h S)(hk:getA S k=some X)(hX:cf X (cy v l))(hl:l.length=512)(hi:30+4*i≤512):
  Call ⟨Tryz.prog,told⟩ 121 [.agg [v],.int .i64 (i:Int)] h fun r h'=>r=.aT [.int .i64 (bw l i),.int .i64 (dS l i)]∧Sat h' S:=by
 have hv:=s.aC hk hX
 obtain⟨pi,po,pc,rfl⟩:=iE hv (by omega)
 have e1:(26+4*(i:Int)).toNat=26+4*i:=by omega
 have e2:(26+4*(i:Int)+2).toNat=26+4*i+2:=by omega
 refine Call.of_wp (I.free _ rfl) Tryz.func121 rfl rfl (zg rfl ?_)
 refine au.b_ s rfl rfl rfl (eU rfl rfl) (fun p2 h s => ?_)
 refine zk 6 rfl (zb rfl (by exact jx (aq (by omega) (by omega))) ?_)
 refine zb rfl (by exact aQ (aq (by omega) (by omega))) ?_
 refine zk 3 rfl ?_
 have s0:=s
 refine WP.drawn [af,af,af,some (0,2),some (0,2),some (0,2),af,af,af] rfl (by kernel_rfl) (by kernel_rfl) ?_
 refine zL rfl (s.b7 (k:=0) rfl bx aS) (zM rfl (aB.any rfl rfl rfl rfl (OpR.call rfl rfl rfl rfl (v_ I s (kI hk) hX (by omega) (by decide) (by decide) (by omega) (by omega))) ?_))
 rintro r h' ⟨rfl,s⟩
 rw[e1]
 have s1:=s
 refine zL rfl (s.b7 (k:=0) rfl bx aS) (zM rfl (zO rfl (ak rfl rfl (by exact aQ (aq (by omega) (by omega)))) ?_))
 refine aB.any rfl rfl rfl rfl (OpR.call rfl rfl rfl rfl (v_ I s (kI hk) hX (by omega) (by decide) (by decide) (by omega) (by omega))) ?_
 rintro r h' ⟨rfl,s⟩
 rw[e2]
 refine zA rfl (zA rfl ?_)
 refine aB.nil ⟨⟨aa,aa,aa,fV (.inr ⟨rfl,⟨_,o_load rfl (s0.b7 (k:=0) rfl bx aS)⟩,bg _ rfl⟩) (.inr ⟨rfl,⟨_,o_load rfl (s1.b7 (k:=0) rfl bx aS)⟩,bg _ rfl⟩),fun _ _=>.inr ⟨rfl,⟨_,bV rfl⟩,bg _ rfl⟩,fun _ _=>.inr ⟨rfl,⟨_,ak rfl rfl (by exact aQ (aq (by omega) (by omega)))⟩,bg _ rfl⟩,aa,aa,aa,aa⟩,?_⟩
 refine WP.ret ⟨aa,_,rfl,?_⟩
 exact⟨rfl,s.drop⟩
noncomputable def gdO : Code:=eu [1,1,1,1,1,1,0,1,0,0] ((Tryz.f134.body).getD .skip)
noncomputable def gdI : Code:=eu [1,1,1,1,1,1,0,1,0,0,1,1,0,0,1,1,1,1,0,0] ((Tryz.f134.body).getD .skip)
theorem Px {v3 v4 v5 v35 v36:V}(W5:a+z≤512): ∀(m q:Nat) (t:List Bool) (h:H) (E:List (Nat×V)) (Q:Ex→List (Nat×V)→H→Prop),q+m=a+z→t.length=512 →
  Sat h (pt p6 (.cells 512 (AW t) false)::S)→Has E [(3,v3),(4,v4),(5,v5),(6,.ptr p6 0),(8,.int .i64 (a:Int)),(9,.int .i64 (z:Int)),(10,.int .i64 (q:Int)),(35,v35),(36,v36)] →
  (markL m q t=none→∀E' h',look E' 2=some (.bool false)→Sat h' S→Q .ret E' h') →
  (∀t' E' h',markL m q t=some t'→Has E' [(3,v3),(4,v4),(5,v5),(6,.ptr p6 0),(35,v35),(36,v36)]→Sat h' (pt p6 (.cells 512 (AW t') false)::S)→Q (.exit 2) E' h') →
  WP ⟨Tryz.prog,told⟩ 68 (.loop gdI) E h Q:=by
 intro m
 induction m with
 |zero =>
  intro q t h E Q hq ht s hE hr hx
  refine WP.loop (WP.has hE (zK 6 rfl (zb rfl (by exact aQ (aq (by omega) (by omega))) ?_)))
  refine zC rfl aO (by simp;omega) ?_
  exact zk 2 rfl (WP.exit (hx t _ _ rfl ⟨rfl,rfl,rfl,rfl,rfl,rfl,aa⟩ s))
 |succ m ih =>
  intro q t h E Q hq ht s hE hr hx
  have I:q<t.length:=by omega
  refine WP.loop (WP.has hE (zK 6 rfl (zb rfl (by exact aQ (aq (by omega) (by omega))) ?_)))
  refine zB rfl aO (by simp;omega) ?_
  refine zk 4 rfl (WP.block (zK 4 rfl (zo rfl (bS (r:=.ptr p6 q) rfl rfl (by rw[WW,show(decide ((0:Int)≤(q:Int))&&decide ((q:Int)<((512:Nat):Int)))=true by simp;omega,ah];simp)) ?_)))
  cases hm:t.getD q false with
  |true =>
   refine zt rfl (o_load rfl (s.ld (k:=0) rfl r_ (NF I))) (hm) (zk 6 rfl (WP.ret ?_))
   refine hr ?_ _ _ rfl s.drop
   rw[markL,ay hm]
  |false =>
   refine zh rfl (o_load rfl (s.ld (k:=0) rfl r_ (NF I))) (hm) (zk 5 rfl (zo rfl (bS (r:=.ptr p6 q) rfl rfl (by rw[WW,show(decide ((0:Int)≤(q:Int))&&decide ((q:Int)<((512:Nat):Int)))=true by simp;omega,ah];simp)) ?_))
   refine zS rfl (s.jS (k:=0) rfl BP (by simp[AW,ht]) (by omega) rfl rfl) ?_
   intro h s
   dsimp only[setA] at s
   rw[YB] at s
   refine zv (zr rfl (zm rfl (zb rfl (by exact aQ (aq (by omega) (by omega))) ?_)))
   refine za rfl (zv ?_)
   have e:markL (m+1) q t=markL m (q+1) (t.set q true):=by rw[markL,ai (by rw[hm];decide)]
   rw[e] at hr hx
   exact ih (q+1) (t.set q true) h _ Q (by omega) (by simp[ht]) s ⟨rfl,rfl,rfl,rfl,rfl,rfl,rfl,rfl,rfl,aa⟩ hr hx
theorem Py (hT:W told){p3:Nat}{low:Nat}(hX:cf X (cy x l))(hl:l.length=512)(cq:∀b∈l,b<256)(Iu:x.cells=[x])(hx2:storable x=true)(hn:n=jy l)(oH:26+4*n≤low)(aeH:low≤512): ∀(m i:Nat) (t:List Bool) (h:H) (E:List (Nat×V)) (Q:Ex→List (Nat×V)→H→Prop),i+m=n→t.length=512 →
  Sat h (pt p6 (.cells 512 (AW t) false)::pt p3 (.cells 1 [x] false)::X::S)→Has E [(3,.ptr p3 0),(4,.int .i64 (n:Int)),(5,.int .i64 (low:Int)),(6,.ptr p6 0),(35,.int .i64 (n:Int)),(36,.int .i64 (i:Int))] →
  (cellsL l low m i t=false→∀E' h',look E' 2=some (.bool false)→Sat h' (X::S)→Q .ret E' h') →
  (cellsL l low m i t=true→∀E' h',Sat h' (X::S)→Q (.exit 0) E' h') →
  WP ⟨Tryz.prog,told⟩ 68 (.loop gdO) E h Q:=by
 intro m
 induction m with
 |zero =>
  intro i t h E Q hi ht s hE hr hx
  refine WP.loop (WP.has hE (zg rfl (zC rfl aO (by simp;omega) ?_)))
  exact zk 3 rfl (WP.exit (hx rfl _ _ s.drop.drop))
 |succ m ih =>
  intro i t h E Q hi ht s hE hr hx
  have hf:=F2 (l:=l) (a:=26+4*i) (z:=2) cq
  have hz:=F2 (l:=l) (a:=26+4*i+2) (z:=2) cq
  have ef:bw l i=dI l (26+4*i) 2:=rfl
  have ez:dS l i=dI l (26+4*i+2) 2:=rfl
  refine WP.loop (WP.has hE (zg rfl (zB rfl aO (by simp;omega) ?_)))
  refine zk 5 rfl (WP.block (zK 7 rfl (zl rfl (s.b7 (k:=1) rfl bx aS) (zm rfl (zc rfl (tj (i:=i) hT s (k:=2) rfl hX hl (by omega)) ?_)))))
  rintro r h' ⟨rfl,s⟩
  refine zk 11 rfl ?_
  refine zd rfl (ak rfl rfl aO) ?_ ?_
  ·intro hq
   have hq:bw l i<low:=by simp at hq;omega
   refine zk 12 rfl (WP.ret ?_)
   refine hr ?_ _ _ rfl s.drop.drop
   rw[cellsL,ay (.inl hq)]
  ·intro hq
   have hq:low≤bw l i:=by simp at hq;omega
   refine zk 3 rfl (zb rfl (by exact aQ (aq (by omega) (by omega))) ?_)
   refine zd rfl (ak rfl rfl cV) ?_ ?_
   ·intro I
    have I:512<bw l i+dS l i:=by simp at I;omega
    refine zk 7 rfl (WP.ret ?_)
    refine hr ?_ _ _ rfl s.drop.drop
    rw[cellsL,ay (.inr I)]
   ·intro I
    have I:bw l i+dS l i≤512:=by simp at I;omega
    refine zk 9 rfl (WP.block ?_)
    have e:cellsL l low (m+1) i t=(match markL (dS l i) (bw l i) t with|none=>false|some t'=>cellsL l low m (i+1) t'):=by rw[cellsL,ai (by omega)]
    rw[e] at hr hx
    refine Px I (dS l i) (bw l i) t _ _ _ rfl ht s ⟨rfl,rfl,rfl,rfl,rfl,rfl,rfl,rfl,rfl,aa⟩ (fun hm E' h' h2 s' => ?_) (fun t' E' h' hm eN s' => ?_)
    ·rw[hm] at hr
     exact hr rfl _ _ h2 s'.drop
    ·rw[hm] at hr hx
     refine WP.has eN (zr rfl (zb rfl (by exact aQ (aq (by omega) (by omega))) ?_))
     refine zm rfl (zv ?_)
     exact ih (i+1) t' h' _ Q (by omega) (by rw[RR _ _ _ _ hm,ht]) s' ⟨rfl,rfl,rfl,rfl,rfl,rfl,aa⟩ hr hx
theorem NG (hT:W told)(s:Sat h (X::S))(hX:cf X (cy v l))(iA:l.length<9223372036854775808):
  Call ⟨Tryz.prog,told⟩ 134 [v] h fun r h'=>r=.bool (cF l)∧Sat h' (X::S):=by
 have hv:=s.aC (k:=0) rfl hX
 refine Call.of_wp (hT.free _ rfl) Tryz.func134 rfl rfl (zK 8 rfl (zo rfl (aD rfl rfl rfl (aY aK (s.aC (k:=0) rfl hX))) ?_))
 refine zd rfl (ak rfl rfl aH) ?_ ?_
 ·intro hq
  have hq:l.length≠512:=by simp at hq;omega
  exact zk 12 rfl (WP.ret ⟨aa,_,rfl,by rw[cF,er hq,mq],s⟩)
 ·intro hq
  have hq:l.length=512:=by simp at hq;omega
  have hb:l[13]?=some (l[13]'(by omega)):=aG _
  generalize Q9:(l[13]'(by omega))=b at hb
  have sO:l.getD 13 0=b:=by rw[vj,hb];rfl
  obtain⟨id,off,e1,e2⟩:=fg hv hb
  refine zk 2 rfl (zo rfl (bS (r:=.ptr id off) rfl rfl e1) (zl rfl e2 ?_))
  refine zd rfl (ak rfl rfl aH) ?_ ?_
  ·intro I
   have I:b≠0:=by simp at I;omega
   exact zk 7 rfl (WP.ret ⟨aa,_,rfl,by rw[cF,dB hq,sO,er I,mq,Bool.and_false],s⟩)
  ·intro I
   have I:b=0:=by simp at I;omega
   obtain⟨pi,po,pc,rfl⟩:=iE hv (by omega)
   refine zk 7 rfl (zo rfl (cQ rfl (by rw[Ab];rfl)) ?_)
   refine au.b_ s rfl rfl rfl (cu jo) (fun p3 h s => ?_)
   refine zS rfl (s.gX (j:=0) rfl aS rfl rfl) (fun h s => ?_)
   refine zk 2 rfl ?_
   have s0:=s
   refine WP.drawn [none,none,some (0,2),af,af,af] rfl (by kernel_rfl) (by kernel_rfl) ?_
   refine zL rfl (s.b7 (k:=0) rfl bx aS) (aB.any rfl rfl rfl rfl (OpR.call rfl rfl rfl rfl (f_ hT s (k:=1) rfl hX hq)) ?_)
   rintro r h' ⟨rfl,s⟩
   have s1:=s
   refine zL rfl (s.b7 (k:=0) rfl bx aS) (aB.any rfl rfl rfl rfl (OpR.call rfl rfl rfl rfl (B2 hT s (k:=1) rfl hX hq)) ?_)
   rintro r h' ⟨rfl,s⟩
   refine zA rfl (zA rfl ?_)
   refine aB.nil ⟨⟨aa,aa,fV (.inr ⟨rfl,⟨_,o_load rfl (s0.b7 (k:=0) rfl bx aS)⟩,bg _ rfl⟩) (.inr ⟨rfl,⟨_,o_load rfl (s1.b7 (k:=0) rfl bx aS)⟩,bg _ rfl⟩),aa,aa,aa,aa⟩,?_⟩
   have AO:=F2 (l:=l) (a:=14) (z:=2) hv.1
   have AP:=F2 (l:=l) (a:=16) (z:=2) hv.1
   have ec:jy l=dI l 14 2:=rfl
   have el:c9 l=dI l 16 2:=rfl
   refine zK 4 rfl (zb rfl (by exact jx (aq (by omega) (by omega))) ?_)
   refine zb rfl (by exact aQ (aq (by omega) (by omega))) ?_
   refine zm rfl ?_
   refine zd rfl (ak rfl rfl cV) ?_ ?_
   ·intro rI
    have rI:c9 l<26+4*jy l:=by simp at rI;omega
    exact zk 10 rfl (WP.ret ⟨aa,_,rfl,by rw[cF,dB hq,sO,dB I,er (by omega:¬(26+4*jy l≤c9 l∧c9 l≤512))];rfl,s.drop⟩)
   ·intro rI
    have rI:26+4*jy l≤c9 l:=by simp at rI;omega
    refine zk 2 rfl ?_
    refine zd rfl (ak rfl rfl cV) ?_ ?_
    ·intro rJ
     have rJ:512<c9 l:=by simp at rJ;omega
     exact zk 7 rfl (WP.ret ⟨aa,_,rfl,by rw[cF,dB hq,sO,dB I,er (by omega:¬(26+4*jy l≤c9 l∧c9 l≤512))];rfl,s.drop⟩)
    ·intro rJ
     have rJ:c9 l≤512:=by simp at rJ;omega
     refine zk 6 rfl (au.b_ s rfl rfl rfl (cu UJ) ?_)
     intro p6 h s
     have D4:(AW (List.replicate 512 false)).length=512:=by rw[AW,bX,gd]
     dsimp only[V.cells] at s
     rw[D4] at s
     refine zk 7 rfl (WP.block ?_)
     have hg:cF l=cellsL l (c9 l) (jy l) 0 (List.replicate 512 false):=by
      rw[cF,dB hq,sO,dB I,dB (⟨rI,rJ⟩:26+4*jy l≤c9 l∧c9 l≤512)];rfl
     refine Py hT hX hq hv.1 rfl rfl rfl rI rJ (jy l) 0 (List.replicate 512 false) _ _ _ (by omega) gd s ⟨rfl,rfl,rfl,rfl,rfl,rfl,aa⟩ (fun hc E' h' h2 s' => ?_) (fun hc E' h' s' => ?_)
     ·rw[hg,hc]
      exact⟨aa,_,z_ h2,rfl,s'⟩
     ·rw[hg,hc]
      exact WP.has (F:=[]) aa (zK 4 rfl (WP.ret ⟨aa,_,rfl,rfl,s'⟩))
end
section
variable {told:cE} {v:V}
theorem F3 (I:W told)(s:Sat h (aU v l::S))(hz:z≤8)(hl:l.length+z≤140737488355328):
  Call ⟨Tryz.prog,told⟩ 189 [v,.int .i64 (z:Int),.int .u64 (n:Int)] h fun r h'=>Sat h' (aU r (l++le z n)::S) :=
 (RJ I.W3 s.wf (s.buf (k:=0) rfl) hz hl).mono fun _ _ ⟨h1,h2,h3⟩=>s.Dh h2 h1 h3
theorem nQ (hT:W told)(s:Sat h (aU v l::S))(hz:1≤z)(KK:z≤8)(hl:a+z≤l.length)(iA:l.length≤65536):
  Call ⟨Tryz.prog,told⟩ 130 [.agg [v],.int .i64 (a:Int),.int .i64 (z:Int),.int .u64 (n:Int)] h fun r h'=>r=.aT []∧Sat h' (aU v (az l a (le z n))::S):=by
 obtain⟨I,_,cap,_,rfl,_⟩:=s.eG (by omega)
 refine Call.of_wp (hT.free _ rfl) Tryz.func130 rfl rfl (zg rfl ?_)
 refine au.b_ s rfl rfl rfl (eU rfl rfl) (fun p4 h s => ?_)
 refine zv ?_
 have s0:=s
 refine WP.drawn [some (0,2),some (0,2),some (0,2),some (0,2),some (0,2),some (0,2),some (0,2),af,af,af,af] rfl (by kernel_rfl) (by kernel_rfl) ?_
 refine zF rfl (dW _ _) (zL rfl (s.ld (k:=0) rfl bF rfl) (zM rfl (zM rfl (zM rfl (zO rfl (ak rfl rfl (by exact aQ (aq (by omega) (by omega)))) ?_)))))
 have ez:((a:Int)+(z:Int)).toNat=a+z:=by omega
 have ea:((a:Int)).toNat=a:=by omega
 refine zO rfl (bO (p:=some (.int .i64 (a:Int))) (q:=some (.int .i64 ((a:Int)+(z:Int)))) (m:=none) (p':=some a) (q':=some (a+z)) (m':=none) rfl rfl rfl rfl (by rw[bT (by omega),ea]) (by rw[bT (by omega),ez]) rfl (fE (s.buf (k:=1) rfl).view (by omega) hl).1) ?_
 refine zM rfl (zM rfl (aB.any rfl rfl rfl rfl (OpR.call rfl rfl rfl rfl (F3 hT s.t_ KK (by simp;omega))) ?_))
 intro u h s
 have s:=s.ae [1,1,0]
 dsimp only[List.nil_append,V.cells,List.length_cons,List.length_nil,Nat.reduceAdd,bringA,getA,aL] at s
 have s1:=s
 refine aB.any rfl rfl rfl rfl (OpR.ace rfl (s.ae [1,1]) (aZ _ _) rfl rfl rfl rfl (by omega) hl (by simp[cJ];omega)) ?_
 intro r h s
 have hs:∃q c,slR (V.sl I 0 l.length cap) a (a+z)=.sl I q (a+z-a) c:=by
  cases cap with
  |exact c=>exact⟨_,_,rfl⟩
  |rest e alt=>exact⟨_,_,rfl⟩
 obtain⟨q,c,hs⟩:=hs
 have KL:(slR (V.sl I 0 l.length cap) a (a+z)).beq (slR (V.sl I 0 l.length cap) a (a+z))=true:=by rw[hs];exact z8 _ _ _ _
 refine aB.nil ⟨⟨fun _ _=>.inr ⟨rfl,⟨_,mU rfl (dW _ _)⟩,bg _ rfl⟩,fV (.inr ⟨rfl,⟨_,o_load rfl (s0.ld (k:=0) rfl bF rfl)⟩,bg _ rfl⟩) (.inr ⟨rfl,⟨_,o_load rfl (s1.ld (k:=0) rfl bF rfl)⟩,bg _ rfl⟩),fun _ _=>.inr ⟨rfl,⟨_,bV rfl⟩,bg _ rfl⟩,fun _ _=>.inr ⟨rfl,⟨_,bV rfl⟩,bg _ rfl⟩,fun _ _=>.inr ⟨rfl,⟨_,bV rfl⟩,bg _ rfl⟩,fun _ _=>.inr ⟨rfl,⟨_,ak rfl rfl (by exact aQ (aq (by omega) (by omega)))⟩,bg _ rfl⟩,fV (.inr ⟨rfl,⟨_,bO (p:=some (.int .i64 (a:Int))) (q:=some (.int .i64 ((a:Int)+(z:Int)))) (m:=none) (p':=some a) (q':=some (a+z)) (m':=none) rfl rfl rfl rfl (by rw[bT (by omega),ea]) (by rw[bT (by omega),ez]) rfl (fE (s0.buf (k:=1) rfl).view (by omega) hl).1⟩,KL⟩) (.inr ⟨rfl,⟨_,bO (p:=some (.int .i64 (a:Int))) (q:=some (.int .i64 ((a:Int)+(z:Int)))) (m:=none) (p':=some a) (q':=some (a+z)) (m':=none) rfl rfl rfl rfl (by rw[bT (by omega),ea]) (by rw[bT (by omega),ez]) rfl (fE (s1.buf (k:=1) rfl).view (by omega) hl).1⟩,KL⟩),aa,aa,aa,aa,aa⟩,?_⟩
 refine⟨aa,_,rfl,rfl,?_⟩
 rw[show a+z-a=z by omega,gT (by rw[cJ];omega)] at s
 exact(s.del 1).del 1
theorem ue (hT:W told)(s:Sat h (X::S))(hX:cf X (cy v l))(iA:l.length<9223372036854775808):
  Call ⟨Tryz.prog,told⟩ 185 [v] h fun r h'=>Sat h' (X::S)∧((cF l=true∧r=.aT [.agg [v],.int .i64 0])∨(cF l=false∧r=.aT [.agg [.aR],.int .i64 4])):=by
 have hv:=s.aC (k:=0) rfl hX
 refine Call.of_wp (hT.free _ rfl) Tryz.func185 rfl rfl (zg rfl ?_)
 refine au.b_ s rfl rfl rfl (cu jo) (fun p2 h s => ?_)
 refine zk 6 rfl (zc rfl (NG hT (s.ae [1]) hX iA) ?_)
 rintro r h' ⟨rfl,s⟩
 cases hg:cF l with
 |true =>
  have I:1≤l.length:=by
   have:l.length=512:=by simp only[cF,bQ,jX] at hg;exact hg.1
   omega
  obtain⟨pi,po,pc,rfl⟩:=iE hv I
  refine zo rfl (dZ rfl rfl) (zk 6 rfl (zo rfl (cQ rfl (by rw[Ab];rfl)) ?_))
  refine zS rfl (s.gX (j:=1) rfl aS rfl rfl) (fun h s => ?_)
  refine zk 2 rfl ?_
  refine WP.ret ⟨aa,_,JG rfl (s.b7 (k:=1) rfl bx aS) rfl,?_⟩
  exact⟨s.del 1,.inl ⟨rfl,rfl⟩⟩
 |false =>
  refine zo rfl (dZ rfl rfl) (zk 4 rfl (zo rfl (cQ rfl (by rw[Ab];rfl)) ?_))
  refine zS rfl (s.gX (j:=1) rfl aS rfl rfl) (fun h s => ?_)
  refine zk 2 rfl ?_
  refine WP.ret ⟨aa,_,JG rfl (s.b7 (k:=1) rfl bx aS) rfl,?_⟩
  exact⟨s.del 1,.inr ⟨rfl,rfl⟩⟩
theorem jK (I:cF l=true): l.length=512:=by simp only[cF,bQ,jX] at I;exact I.1
theorem o9 (hT:W told)(s:Sat h (X::S))(hX:cf X (cy v l))(iA:l.length<9223372036854775808):
  Call ⟨Tryz.prog,told⟩ 119 [v] h fun r h'=>(cF l=true∧∃u,r=.aT [.agg [u],.int .i64 0]∧Sat h' (aU u l::X::S))∨(cF l=false∧r=.aT [.agg [.aR],.int .i64 4]∧Sat h' (X::S)):=by
 have hv:=s.aC (k:=0) rfl hX
 refine Call.of_wp (hT.free _ rfl) Tryz.func119 rfl rfl (zg rfl ?_)
 refine au.b_ s rfl rfl rfl (cu jo) (fun p2 h s => ?_)
 refine zk 5 rfl (zc rfl (ue hT (s.ae [1]) hX iA) ?_)
 rintro r h' ⟨s,(⟨I,rfl⟩|⟨I,rfl⟩)⟩
 ·have Pz:=jK I
  obtain⟨pi,po,pc,rfl⟩:=iE hv (by omega)
  refine zk 3 rfl ?_
  refine au.b_ s rfl rfl rfl (cu jo) (fun p4 h s => ?_)
  refine zS rfl (s.gX (j:=0) rfl aS rfl rfl) (fun h s => ?_)
  refine zk 6 rfl (zC rfl aH (rfl) (zk 4 rfl ?_))
  have s0:=s
  refine WP.drawn [af,af,af,af,some (0,2),some (0,2),af,af,af,af] rfl (by kernel_rfl) (by kernel_rfl) ?_
  refine zF rfl (dW _ _) (zL rfl (s.ld (k:=0) rfl bF rfl) (zO rfl (aD rfl rfl rfl (tg rfl aK)) (aB.any rfl rfl rfl rfl (OpR.uc rfl s rfl rfl rfl rfl (by omega)) ?_)))
  intro u h s
  have s:=s.ae [1,1,1,0]
  have s1:=s
  refine zF rfl (dW _ _) (zL rfl (s.ld (k:=0) rfl bF rfl) (aB.any rfl rfl rfl rfl (OpR.qh rfl (s.ae [3,1]) hX rfl rfl rfl rfl (by simp;omega)) ?_))
  intro u2 h s
  rw[dG] at s
  obtain⟨lD,_,cap,_,rfl,_⟩:=s.eG (by omega)
  have s2:=s
  refine zO rfl (cQ rfl (by rw[Ab];rfl)) ?_
  refine aB.mg rfl rfl rfl (OpR.yH rfl rfl rfl (s.gX (j:=3) rfl aS rfl rfl)) ?_
  rintro w h ⟨rfl,s⟩
  have s3:=s
  refine zA rfl ?_
  refine aB.nil ⟨⟨aa,aa,aa,aa,fun _ _=>.inr ⟨rfl,⟨_,mU rfl (dW _ _)⟩,bg _ rfl⟩,fV (.inr ⟨rfl,⟨_,o_load rfl (s0.ld (k:=0) rfl bF rfl)⟩,bg _ rfl⟩) (.inr ⟨rfl,⟨_,o_load rfl (s1.ld (k:=0) rfl bF rfl)⟩,bg _ rfl⟩),aa,aa,aa,aa,aa⟩,?_⟩
  refine WP.ret ⟨aa,_,JG rfl (s.b7 (k:=3) rfl bx aS) rfl,?_⟩
  exact .inl ⟨I,_,rfl,(s.del 2).del 2⟩
 ·skip
  refine zk 3 rfl ?_
  refine au.b_ s rfl rfl rfl (cu jo) (fun p4 h s => ?_)
  refine zS rfl (s.gX (j:=0) rfl aS rfl rfl) (fun h s => ?_)
  refine zk 6 rfl (zB rfl aH (rfl) (zk 4 rfl (zo rfl (cQ rfl (by rw[Ab];rfl)) ?_)))
  refine zm rfl ?_
  refine zS rfl (s.gX (j:=2) rfl aS rfl rfl) (fun h s => ?_)
  refine zk 2 rfl ?_
  refine WP.ret ⟨aa,_,JG rfl (s.b7 (k:=2) rfl bx aS) rfl,?_⟩
  exact .inr ⟨I,rfl,(s.del 2).del 0⟩
def qL (l:List Nat)(n:Nat): List Nat:=az l 4 (le 8 n)
def eO (l:List Nat)(n:Nat): List Nat:=az (qL l n) 0 (le 4 (F0 0 ((qL l n).drop 4)))
theorem Af (hl:l.length=512): (qL l n).length=512:=by rw[qL,bD (by rw[cJ];omega),hl]
theorem YC (I:W told)(s:Sat h (X::S))(hX:cf X (cy v l))(iA:l.length<9223372036854775808):
  Call ⟨Tryz.prog,told⟩ 151 [v,.int .u64 (n:Int)] h fun r h'=>(cF l=true∧∃u,r=.aT [u,.int .i64 0]∧Sat h' (aU u (eO l n)::X::S))∨(cF l=false∧r=.aT [.aR,.int .i64 4]∧Sat h' (X::S)):=by
 refine Call.of_wp (I.free _ rfl) Tryz.func151 rfl rfl (zK 8 rfl (zc rfl (o9 I s hX iA) ?_))
 rintro r h' (⟨hg,u,rfl,s⟩|⟨hg,rfl,s⟩)
 ·have Pz:=jK hg
  have uf:(qL l n).length=512:=Af Pz
  obtain⟨lD,_,cap,_,rfl,_⟩:=s.eG (by omega)
  refine zk 3 rfl ?_
  refine au.b_ s rfl rfl rfl (cu jo) (fun p6 h s => ?_)
  refine zS rfl (s.gX (j:=0) rfl aS rfl rfl) (fun h s => ?_)
  refine zk 6 rfl (zC rfl aH (rfl) (zk 5 rfl (zl rfl (s.b7 (k:=0) rfl bx aS) (zm rfl (zc rfl (nQ (a:=4) (z:=8) I (s.ae [1]) (by decide) (by decide) (by omega) (by omega)) ?_)))))
  rintro r h' ⟨rfl,s⟩
  have s:=s.ae [1,0]
  have s:Sat _ (_::aU _ (qL l n)::_):=s
  refine zk 2 rfl ?_
  have s0:=s
  have RS:=(s.buf (k:=1) rfl).view.1
  have ec:(qL l n).length=l.length:=by omega
  rw[←ec] at *
  refine WP.drawn [some (0,2),af,af,af,af,af,af] rfl (by kernel_rfl) (by kernel_rfl) ?_
  refine zL rfl (s.b7 (k:=0) rfl bx aS) (zF rfl (dW _ _) (zL rfl (s.ld (k:=0) rfl bF rfl) (zO rfl (bO (p:=some (.int .i64 4)) (q:=none) (m:=none) (p':=some 4) (q':=none) (m':=none) rfl rfl rfl rfl rfl rfl rfl (hU (s.buf (k:=1) rfl).view (a:=4) (by omega)).1) ?_)))
  refine aB.any rfl rfl rfl rfl (OpR.call rfl rfl rfl rfl (W4 I s (k:=1) rfl (Nz (aZ _ _) (a:=4) (by omega)) (by simp;omega))) ?_
  rintro r h' ⟨rfl,rfl⟩
  have s1:=s
  have hc:=Es (s:=0) (l:=(qL l n).drop 4) (by decide) (fun x hx=>RS x (jh hx))
  refine aB.op rfl rfl rfl (by simp only[isEff,eM]) (cL rfl (by exact kJ Tryz.underlying260 eM (iD (by omega) (by omega)))) ?_
  refine aB.any rfl rfl rfl rfl (OpR.call rfl rfl rfl rfl (nQ (a:=0) (z:=4) I (s.ae [1]) (by decide) (by decide) (by omega) (by omega))) ?_
  rintro r h ⟨rfl,s⟩
  have s:=s.ae [1,0]
  refine aB.nil ⟨⟨fV (.inr ⟨rfl,⟨_,o_load rfl (s0.b7 (k:=0) rfl bx aS)⟩,bg _ rfl⟩) (.inr ⟨rfl,⟨_,o_load rfl (s1.b7 (k:=0) rfl bx aS)⟩,bg _ rfl⟩),aa,aa,aa,aa,aa,aa,aa⟩,?_⟩
  exact zg rfl (zY s 0 dW bF rfl (zk 3 rfl (WP.ret ⟨aa,_,rfl,.inl ⟨hg,_,rfl,s.drop⟩⟩)))
 ·skip
  refine zk 3 rfl ?_
  refine au.b_ s rfl rfl rfl (cu jo) (fun p6 h s => ?_)
  refine zS rfl (s.gX (j:=0) rfl aS rfl rfl) (fun h s => ?_)
  exact zk 6 rfl (zB rfl aH (rfl) (zk 8 rfl (WP.ret ⟨aa,_,rfl,.inr ⟨hg,rfl,s.drop⟩⟩)))
theorem adn {d:TypeId}{x:Operand}{r:V}(I:bC E x=some v)(hf:arrPtrV P d v=some r): opE P E h (.sliceToArrayPointer d x)=some (r,h):=by simp only[opE,kV,I,hf,bI]
theorem YD {cap:Cap}(I:View h (.sl id off n cap) l)(ht:isAggT P t=some true)(hs:bp P t=some l.length): loadV P h t (.ptr id off)=some (.agg (ofBytes l)):=by
 have:=I.rdN
 obtain⟨rfl,h2⟩:=this
 simp only[loadV,ht,hs,h2,gJ]
theorem Jw : ∀(l m:List Nat),l.length=m.length→intsBeq .u8 (ofBytes l) (ofBytes m)=some (decide (l=m)):=by
 intro l
 induction l with
 |nil=>intro m hm;cases m with
  |nil=>rfl
  |cons x m=>simp at hm
 |cons x l ih=>intro m hm;cases m with
  |nil=>simp at hm
  |cons y m =>
   have hi:=ih m (by simpa using hm)
   simp only[ofBytes,ik] at hi ⊢
   simp only[intsBeq,ikBeq,lN,ah,hi,sq]
   by_cases I:x=y
   ·subst I;simp
   ·have:¬ ((x:Int)=(y:Int)):=by omega
    simp[this,I]
theorem UK : buildV Tryz.prog 269 []=some (.agg (ofBytes (List.replicate 512 0))):=by kernel_rfl
theorem W6 {x:Operand}{m:List Nat}(hu:P.underlying t=some (.array n e))(he:P.underlying e=some (.int .u8))(hs:bp P e=some 1)(hl:l.length=n)(hm:m.length=n):
  binV P h .eql t x y (.agg (ofBytes l)) (.agg (ofBytes m))=some (.bool (decide (l=m))):=by
 simp only[binV,eqArr,hu,he,hs,dx,hl,hm,kE,lN,ah]
 rw[Jw l m (by omega)]
 rfl
def jz (l:List Nat): Int:=if l=List.replicate 512 0 then 0 else if cF l=false then 4 else if dI l 0 4≠F0 0 (l.drop 4) then 8 else 0
theorem KM (hT:W told)(s:Sat h (X::S))(hX:cf X (cy v l))(iA:l.length<9223372036854775808):
  Call ⟨Tryz.prog,told⟩ 149 [v] h fun r h'=>r=.int .i64 (jz l)∧Sat h' (X::S):=by
 have hv:=s.aC (k:=0) rfl hX
 have hz:(List.replicate 512 0).length=512:=gd
 -- what follows when the page is no page of noughts
 refine Call.of_wp (hT.free _ rfl) Tryz.func149 rfl rfl (zK 8 rfl (zo rfl (aD rfl rfl rfl (aY aK (s.aC (k:=0) rfl hX))) ?_))
 refine zd rfl (ak rfl rfl c8) ?_ ?_
 ·intro hq
  have hq:l.length=512:=by simp at hq;omega
  obtain⟨pi,po,pc,rfl⟩:=iE hv (by omega)
  refine zk 2 rfl (zo rfl (adn (r:=.ptr pi po) rfl (by simp only[arrPtrV,KA];rw[hq];rfl)) ?_)
  refine zl rfl (YD hv ab7 (by rw[hq];exact ab6)) ?_
  refine zo rfl (cQ rfl UK) ?_
  by_cases hn:l=List.replicate 512 0
  ·skip
   exact zB rfl (W6 KA Tryz.underlying5 sz5 hq hz) (decide_eq_true hn) (zk 7 rfl (WP.ret ⟨aa,_,rfl,by rw[jz,ay hn],s⟩))
  ·skip
   refine zC rfl (W6 KA Tryz.underlying5 sz5 hq hz) (decide_eq_false hn) (zk 7 rfl (zc rfl (ue hT s hX iA) ?_))
   rintro r h' ⟨s,(⟨hg,rfl⟩|⟨hg,rfl⟩)⟩
   ·refine au.op rfl rfl rfl (bV rfl) ?_
    refine zk 2 rfl ?_
    refine au.b_ s rfl rfl rfl (cu jo) (fun p3 h s => ?_)
    dsimp only[V.cells,List.length_cons,List.length_nil,Nat.reduceAdd] at s
    refine zS rfl (s.gX (j:=0) rfl aS rfl rfl) (fun h s => ?_)
    dsimp only[setA] at s
    refine zk 3 rfl (WP.block (zK 3 rfl (zC rfl aH (rfl) (zk 4 rfl ?_))))
    have s0:=s
    refine WP.drawn [none,none,some (0,2),some (0,2),af,af,af,af] rfl (by kernel_rfl) (by kernel_rfl) ?_
    refine zL rfl (s.b7 (k:=0) rfl bx aS) (aB.any rfl rfl rfl rfl (OpR.call rfl rfl rfl rfl (v_ hT s (k:=1) rfl hX (by decide) (by decide) (by decide) (by omega) (by omega))) ?_)
    rintro r h' ⟨rfl,s⟩
    have s1:=s
    refine zM rfl (zO rfl (bO (p:=some (.int .i64 4)) (q:=none) (m:=none) (p':=some 4) (q':=none) (m':=none) rfl rfl rfl rfl rfl rfl rfl (hU (s.aC (k:=1) rfl hX) (a:=4) (by omega)).1) ?_)
    refine aB.any rfl rfl rfl rfl (OpR.call rfl rfl rfl rfl (W4 hT s (k:=1) rfl (Nz hX (a:=4) (by omega)) (by simp;omega))) ?_
    rintro r h' ⟨rfl,rfl⟩
    have hc:=Es (s:=0) (l:=l.drop 4) (by decide) (fun x hx=>hv.1 x (jh hx))
    have hs:∃q c,slR (V.sl pi po l.length pc) 4 l.length=.sl pi q (l.length-4) c:=by
     cases pc with
     |exact c=>exact⟨_,_,rfl⟩
     |rest e alt=>exact⟨_,_,rfl⟩
    obtain⟨q,c,hs⟩:=hs
    have KL:(slR (V.sl pi po l.length pc) 4 l.length).beq (slR (V.sl pi po l.length pc) 4 l.length)=true:=by rw[hs];exact z8 _ _ _ _
    refine aB.op rfl rfl rfl (by simp only[isEff,cm]) (cL rfl (by exact kJ Tryz.underlying260 cm (aq (by omega) (by omega)))) ?_
    by_cases I:dI l 0 4=F0 0 (l.drop 4)
    ·skip
     refine aB.qb rfl rfl rfl rfl (ak rfl rfl aH) (by simp;exact_mod_cast I) ?_
     refine zA rfl ?_
     refine aB.nil ⟨⟨aa,aa,fun _ _=>.inr ⟨rfl,⟨_,bV rfl⟩,bg _ rfl⟩,fV (.inr ⟨rfl,⟨_,bO (p:=some (.int .i64 4)) (q:=none) (m:=none) (p':=some 4) (q':=none) (m':=none) rfl rfl rfl rfl rfl rfl rfl (hU (s0.aC (k:=1) rfl hX) (a:=4) (by omega)).1⟩,KL⟩) (.inr ⟨rfl,⟨_,bO (p:=some (.int .i64 4)) (q:=none) (m:=none) (p':=some 4) (q':=none) (m':=none) rfl rfl rfl rfl rfl rfl rfl (hU (s1.aC (k:=1) rfl hX) (a:=4) (by omega)).1⟩,KL⟩),aa,aa,aa,aa,aa⟩,?_⟩
     refine zj rfl (WP.skip (zg rfl (za rfl (zv ?_))))
     refine WP.ret ⟨aa,_,rfl,?_⟩
     exact⟨by rw[jz,ai hn,ai (by rw[hg];decide),ai (by simpa using I)],s.drop⟩
    ·skip
     refine aB.uH rfl rfl rfl rfl (ak rfl rfl aH) (by simp;exact_mod_cast I) ?_
     refine zA rfl ?_
     refine aB.nil ⟨⟨aa,aa,fun _ _=>.inr ⟨rfl,⟨_,bV rfl⟩,bg _ rfl⟩,fV (.inr ⟨rfl,⟨_,bO (p:=some (.int .i64 4)) (q:=none) (m:=none) (p':=some 4) (q':=none) (m':=none) rfl rfl rfl rfl rfl rfl rfl (hU (s0.aC (k:=1) rfl hX) (a:=4) (by omega)).1⟩,KL⟩) (.inr ⟨rfl,⟨_,bO (p:=some (.int .i64 4)) (q:=none) (m:=none) (p':=some 4) (q':=none) (m':=none) rfl rfl rfl rfl rfl rfl rfl (hU (s1.aC (k:=1) rfl hX) (a:=4) (by omega)).1⟩,KL⟩),aa,aa,aa,aa,aa⟩,?_⟩
     exact zK 5 rfl (WP.ret ⟨aa,_,rfl,by rw[jz,ai hn,ai (by rw[hg];decide),ay I],s.drop⟩)
   ·skip
    refine zk 3 rfl ?_
    refine au.b_ s rfl rfl rfl (cu jo) (fun p3 h s => ?_)
    refine zS rfl (s.gX (j:=0) rfl aS rfl rfl) (fun h s => ?_)
    exact zk 3 rfl (WP.block (zK 3 rfl (zB rfl aH (rfl) (zk 8 rfl (WP.ret ⟨aa,_,rfl,by rw[jz,ai hn,ay hg],s.drop⟩)))))
 ·intro hq
  have hq:l.length≠512:=by simp at hq;omega
  have hn:l≠List.replicate 512 0:=fun e=>hq (by rw[e,hz])
  have hg:cF l=false:=by rw[cF,er hq,mq]
  refine zk 13 rfl (zc rfl (ue hT s hX iA) ?_)
  rintro r h' ⟨s,(⟨FM,rfl⟩|⟨_,rfl⟩)⟩
  ·rw[hg] at FM;cases FM
  ·refine au.op rfl rfl rfl (bV rfl) ?_
   refine zk 2 rfl ?_
   refine au.b_ s rfl rfl rfl (cu jo) (fun p3 h s => ?_)
   refine zS rfl (s.gX (j:=0) rfl aS rfl rfl) (fun h s => ?_)
   exact zk 3 rfl (WP.block (zK 3 rfl (zB rfl aH (rfl) (zk 8 rfl (WP.ret ⟨aa,_,rfl,by rw[jz,ai hn,ay hg],s.drop⟩)))))
theorem ug {b:Nat}(hv:View h v l)(hb:l[i]?=some b)(he:indexAddrV Tryz.prog 29 v (.int .i64 (i:Int))=some (.ptr id off)): loadV Tryz.prog h 5 (.ptr id off)=some (.int .u8 (b:Int)):=by
 obtain⟨I,off',e1,e2⟩:=fg hv hb
 rw[he] at e1
 have e3:V.ptr id off=V.ptr I off':=bW e1
 rw[e3]
 exact e2
theorem HI (hT:W told)(s:Sat h (X::S))(I:cf X (cy v l))(iA:l.length<9223372036854775808):
  Call ⟨Tryz.prog,told⟩ 159 [v] h fun r h'=>Sat h' (X::S)∧((cF l=true∧r=.aT [.int .i64 (l.getD 12 0:Nat),.int .u64 (dI l 4 8),.int .i64 (dI l 18 4),.int .i64 (dI l 22 4),.int .i64 0]) ∨
   (cF l=false∧r=.aT [.int .i64 0,.int .u64 0,.int .i64 0,.int .i64 0,.int .i64 4])):=by
 have hv:=s.aC (k:=0) rfl I
 refine Call.of_wp (hT.free _ rfl) Tryz.func159 rfl rfl (zK 11 rfl (zc rfl (ue hT s I iA) ?_))
 rintro r h' ⟨s,(⟨hg,rfl⟩|⟨hg,rfl⟩)⟩
 ·have hq:=jK hg
  obtain⟨pi,po,pc,rfl⟩:=iE hv (by omega)
  have hb:l[12]?=some (l[12]'(by omega)):=aG _
  generalize Q9:(l[12]'(by omega))=b at hb
  have qa:b<256:=hv.1 b (aM hb)
  have sO:l.getD 12 0=b:=by rw[vj,hb];rfl
  rw[sO]
  refine zk 3 rfl ?_
  refine au.b_ s rfl rfl rfl (cu jo) (fun p7 h s => ?_)
  refine zS rfl (s.gX (j:=0) rfl aS rfl rfl) (fun h s => ?_)
  refine zk 6 rfl (zC rfl aH (rfl) (zk 4 rfl ?_))
  have s0:=s
  obtain⟨id,off,e1,e2⟩:=fg (s.aC (k:=1) rfl I) hb
  refine WP.drawn [some (0,4),some (0,4),some (0,4),some (0,4),af,af,af,some (0,2),none,some (0,3),af,af,af,af,af,af] rfl (by kernel_rfl) (by kernel_rfl) ?_
  refine zM rfl (zO rfl (bS (r:=.ptr id off) rfl rfl e1) (zL rfl (ug (s.aC (k:=1) rfl I) hb e1) (aB.op rfl rfl rfl (by simp only[isEff,cm]) (cL rfl (by exact kJ Tryz.underlying5 cm (aq (by omega) (by omega)))) ?_)))
  refine zM rfl (zO rfl (bO (p:=some (.int .i64 4)) (q:=some (.int .i64 12)) (m:=none) (p':=some 4) (q':=some 12) (m':=none) rfl rfl rfl rfl rfl rfl rfl (fE (s.aC (k:=1) rfl I) (a:=4) (b:=12) (by omega) (by omega)).1) ?_)
  refine aB.any rfl rfl rfl rfl (OpR.call rfl rfl rfl rfl (HH hT s (k:=1) rfl (Em I (a:=4) (b:=12) (by omega) (by omega)) (by simp;omega))) ?_
  rintro r h' ⟨rfl,rfl⟩
  have s1:=s
  refine zL rfl (s.b7 (k:=0) rfl bx aS) (aB.any rfl rfl rfl rfl (OpR.call rfl rfl rfl rfl (v_ hT s (k:=1) rfl I (by decide) (by decide) (by decide) (by omega) (by omega))) ?_)
  rintro r h' ⟨rfl,s⟩
  have s2:=s
  refine zL rfl (s.b7 (k:=0) rfl bx aS) (aB.any rfl rfl rfl rfl (OpR.call rfl rfl rfl rfl (v_ hT s (k:=1) rfl I (by decide) (by decide) (by decide) (by omega) (by omega))) ?_)
  rintro r h' ⟨rfl,s⟩
  refine zA rfl (zA rfl (zA rfl (zA rfl (zA rfl ?_))))
  refine aB.nil ⟨⟨fun _ _=>.inr ⟨rfl,⟨_,bV rfl⟩,bg _ rfl⟩,fun _ _=>.inr ⟨rfl,⟨_,bS (r:=.ptr id off) rfl rfl e1⟩,bg _ rfl⟩,BO (.inr ⟨rfl,⟨_,o_load rfl (ug (s0.aC (k:=1) rfl I) hb e1)⟩,bg _ rfl⟩) (.inr ⟨rfl,⟨_,o_load rfl (ug (s1.aC (k:=1) rfl I) hb e1)⟩,bg _ rfl⟩) (.inr ⟨rfl,⟨_,o_load rfl (ug (s2.aC (k:=1) rfl I) hb e1)⟩,bg _ rfl⟩) (.inr ⟨rfl,⟨_,o_load rfl (ug (s.aC (k:=1) rfl I) hb e1)⟩,bg _ rfl⟩),fun _ _=>.inr ⟨rfl,⟨_,cL rfl (by exact kJ Tryz.underlying5 cm (aq (by omega) (by omega)))⟩,bg _ rfl⟩,aa,aa,aa,fV (.inr ⟨rfl,⟨_,o_load rfl (s0.b7 (k:=0) rfl bx aS)⟩,bg _ rfl⟩) (.inr ⟨rfl,⟨_,o_load rfl (s1.b7 (k:=0) rfl bx aS)⟩,bg _ rfl⟩),aa,BK (.inr ⟨rfl,⟨_,o_load rfl (s0.b7 (k:=0) rfl bx aS)⟩,bg _ rfl⟩) (.inr ⟨rfl,⟨_,o_load rfl (s1.b7 (k:=0) rfl bx aS)⟩,bg _ rfl⟩) (.inr ⟨rfl,⟨_,o_load rfl (s2.b7 (k:=0) rfl bx aS)⟩,bg _ rfl⟩),aa,aa,aa,aa,aa,aa,aa⟩,?_⟩
  refine WP.ret ⟨aa,_,rfl,?_⟩
  exact⟨s.drop,.inl ⟨hg,rfl⟩⟩
 ·skip
  refine zk 3 rfl ?_
  refine au.b_ s rfl rfl rfl (cu jo) (fun p7 h s => ?_)
  refine zS rfl (s.gX (j:=0) rfl aS rfl rfl) (fun h s => ?_)
  exact zk 6 rfl (zB rfl aH (rfl) (zk 11 rfl (WP.ret ⟨aa,_,rfl,s.drop,.inr ⟨hg,rfl⟩⟩)))
end
structure Lg where
 base:Nat
 b:List Nat
 dJ:List Nat
 forced:Nat
 check:Nat
variable {μ:Lg}
def gB (l:List Nat): List V:=l.map fun(n:Nat)=>V.int .i64 (n:Int)
theorem wY (l:List Nat): (gB l).length=l.length:=by simp[gB]
def lgC (p base:Nat)(bv I:V)(forced check:Nat): List V:=[.ptr p 0,.int .u64 (base:Int),bv,I,.int .i64 (forced:Int),.int .u64 (check:Int)]
def dm (q p:Nat)(μ:Lg): aE:=xs fun bv:V=>xs fun I:V=>star [pt q (.cells 6 (lgC p μ.base bv I μ.forced μ.check) false),aU bv μ.b,.arr 1 I (gB μ.dJ)]
structure Lg.Ok (μ:Lg): Prop where
 size:μ.base+μ.b.length≤1099511627776
 many:μ.dJ.length≤16777216
 low:∀s∈μ.dJ,s<μ.b.length
 HJ:μ.dJ.Pairwise (· < ·)
 forced:μ.forced≤μ.b.length
 len:μ.b.length≤16777216
 check:μ.check≤1099511627776
theorem acj {x:Operand}{b:Nat}(I:a+b<4611686018427387904): binV P h .quo t x y (.int .i64 ((a:Int)+(b:Int))) (.int .i64 2)=some (.int .i64 (((a+b)/2:Nat):Int)):=by
 simp only[binV,ikBeq,ah,intV]
 rw[show intBeq 2 0=false from rfl,aV,Int.tdiv_eq_ediv_of_nonneg (by omega),aq (by omega) (by omega)]
 congr 2
section
variable {told:cE} {p:Nat} {v:V}
theorem jg : Sat h (dm q p μ::S)↔∃bv I,Sat h (pt q (.cells 6 (lgC p μ.base bv I μ.forced μ.check) false)::aU bv μ.b::.arr 1 I (gB μ.dJ)::S):=by
 simp only[dm,jv,cK,fF,dG]
theorem jL {c:V}(s:Sat h S)(hk:getA S k=some (.arr 1 v cs))(hi:cs[i]?=some c)(hu:P.underlying t=some (.slice e))(I:bp P e=some 1):
  ∃id off,indexAddrV P t v (.int .i64 (i:Int))=some (.ptr id off)∧∀t',isAggT P t'=some false→loadV P h t' (.ptr id off)=some c:=by
 have AU:i<cs.length:=(List.getElem?_eq_some_iff.1 hi).1
 obtain⟨m,r,h1,h2,h3⟩:=s.at hk
 rcases h3.2 with⟨_,rfl⟩|⟨id,n,cap,N,rest,rfl,hg,e1,e2,_⟩
 ·simp at hi
 ·refine⟨id,i,?_,fun t' ht=>D1 ht (h1 _ _ hg) ?_⟩
  ·simp only[indexAddrV,hu,I,gU]
   rw[show(decide ((0:Int)≤(i:Int))&&decide ((i:Int)<(n:Int)))=true by simp;omega,ah]
   simp
  ·rw[gF,sU AU,hi]
theorem RT (I:W told)(s:Sat h (dm q p μ::S)): Call ⟨Tryz.prog,told⟩ 106 [.ptr q 0] h fun v h'=>v=.int .u64 (μ.base:Int)∧h'=h:=by
 obtain⟨bv,sv,s⟩:=jg.1 s
 exact Call.of_wp (I.free _ rfl) Tryz.func106 rfl rfl (zK 8 rfl (zY s 0 yL sg rfl (zk 2 rfl (WP.ret ⟨aa,_,rfl,rfl,rfl⟩))))
theorem Mx (I:W told)(s:Sat h (dm q p μ::S)): Call ⟨Tryz.prog,told⟩ 107 [.ptr q 0] h fun v h'=>v=.int .u64 (μ.check:Int)∧h'=h:=by
 obtain⟨bv,sv,s⟩:=jg.1 s
 exact Call.of_wp (I.free _ rfl) Tryz.func107 rfl rfl (zK 8 rfl (zY s 0 Yn sg rfl (zk 2 rfl (WP.ret ⟨aa,_,rfl,rfl,rfl⟩))))
theorem HK (I:W told)(s:Sat h (dm q p μ::S))(hb:μ.base+μ.b.length≤1099511627776): Call ⟨Tryz.prog,told⟩ 39 [.ptr q 0] h fun v h'=>v=.int .u64 ((μ.base:Int)+(μ.b.length:Int))∧h'=h:=by
 obtain⟨bv,sv,s⟩:=jg.1 s
 refine Call.of_wp (I.free _ rfl) Tryz.func39 rfl rfl (zK 5 rfl (WP.drawn [af,af,af,af,af,af,af,af,af,af,af,af] rfl (by kernel_rfl) (by kernel_rfl) ?_))
 refine zM rfl (zN rfl (zF rfl (yL _ _) (zL rfl (s.ld (k:=0) rfl sg rfl) (zM rfl (zN rfl (zF rfl (nO _ _) (zL rfl (s.ld (k:=0) rfl bF rfl) (zO rfl (aD rfl rfl rfl (aY aK (s.aC (k:=1) rfl (aZ _ _)))) (aB.op rfl rfl rfl (by simp only[isEff,eM]) (cL rfl (by exact kJ cm eM (iD (by omega) (by omega)))) ?_)))))))))
 refine zO rfl (ak rfl rfl (by exact aQ (iD (by omega) (by omega)))) ?_
 refine zA rfl ?_
 refine aB.nil ⟨⟨aa,aa,aa,aa,aa,aa,aa,aa,aa,aa,aa,aa,aa⟩,?_⟩
 refine WP.ret ⟨aa,_,rfl,?_⟩
 exact⟨rfl,rfl⟩
theorem PA (I:W told)(s:Sat h (dm q p μ::S))(hb:μ.base+μ.b.length≤1099511627776)(hf:μ.forced≤μ.b.length): Call ⟨Tryz.prog,told⟩ 174 [.ptr q 0] h fun v h'=>v=.int .u64 ((μ.base:Int)+(μ.forced:Int))∧h'=h:=by
 obtain⟨bv,sv,s⟩:=jg.1 s
 refine Call.of_wp (I.free _ rfl) Tryz.func174 rfl rfl (zK 5 rfl (WP.drawn [af,af,af,af,af,af,af,af,af,af,af] rfl (by kernel_rfl) (by kernel_rfl) ?_))
 refine zM rfl (zN rfl (zF rfl (yL _ _) (zL rfl (s.ld (k:=0) rfl sg rfl) (zM rfl (zN rfl (zF rfl (Hy _ _) (zL rfl (s.ld (k:=0) rfl b9 rfl) (aB.op rfl rfl rfl (by simp only[isEff,eM]) (cL rfl (by exact kJ cm eM (iD (by omega) (by omega)))) ?_))))))))
 refine zO rfl (ak rfl rfl (by exact aQ (iD (by omega) (by omega)))) ?_
 refine zA rfl ?_
 refine aB.nil ⟨⟨aa,aa,aa,aa,aa,aa,aa,aa,aa,aa,aa,aa⟩,?_⟩
 refine WP.ret ⟨aa,_,rfl,?_⟩
 exact⟨rfl,rfl⟩
def Split (μ:Lg)(n i:Nat): Prop:=i≤μ.dJ.length∧(∀(j s:Nat),j<i→μ.dJ[j]?=some s→μ.base+s<n)∧(∀(j s:Nat),i≤j→μ.dJ[j]?=some s→n≤μ.base+s)
theorem HL (hr:l.Pairwise (· < ·)){b:Nat}(I:i<j)(ha:l[i]?=some a)(hb:l[j]?=some b): a<b:=by
 obtain⟨h1,rfl⟩:=List.getElem?_eq_some_iff.1 ha
 obtain⟨h2,rfl⟩:=List.getElem?_eq_some_iff.1 hb
 exact List.pairwise_iff_getElem.1 hr _ _ h1 h2 I
noncomputable def lfL : Code:=eu [1,1,0,0,0] ((Tryz.f207.body).getD .skip)
theorem RU {sv:V}(hn:n<18446744073709551616)(I:μ.Ok)(s:Sat h (pt q (.cells 6 (lgC p μ.base bv sv μ.forced μ.check) false)::aU bv μ.b::.arr 1 sv (gB μ.dJ)::S)): ∀(fuel lo hi:Nat) (E:List (Nat×V)) (Q:Ex→List (Nat×V)→H→Prop),hi-lo≤fuel→lo≤hi→hi≤μ.dJ.length →
  (∀(j s:Nat),j<lo→μ.dJ[j]?=some s→μ.base+s<n)→(∀(j s:Nat),hi≤j→μ.dJ[j]?=some s→n≤μ.base+s) →
  Has E [(0,.ptr q 0),(1,.int .u64 (n:Int)),(5,.int .i64 (lo:Int)),(6,.int .i64 (hi:Int))]→(∀E' i,Split μ n i→look E' 5=some (.int .i64 (i:Int))→Q (.exit 0) E' h)→WP ⟨Tryz.prog,told⟩ 39 (.loop lfL) E h Q:=by
 have W7:=I.many
 have PB:=I.size
 intro fuel
 induction fuel with
 |zero =>
  intro lo hi E Q hf h1 h2 h3 h4 hE hq
  refine WP.loop (WP.has hE (zK 5 rfl (zC rfl aO (by simp;omega) ?_)))
  refine zk 2 rfl (WP.exit ?_)
  have e:lo=hi:=by omega
  exact hq _ lo ⟨by omega,h3,by rw[e];exact h4⟩ rfl
 |succ fuel ih =>
  intro lo hi E Q hf h1 h2 h3 h4 hE hq
  by_cases cq:lo<hi
  ·skip
   refine WP.loop (WP.has hE (zK 5 rfl (zB rfl aO (by simp;omega) ?_)))
   refine zk 3 rfl (WP.block (zK 4 rfl (zb rfl (by exact aQ (aq (by omega) (by omega))) ?_)))
   refine zb rfl (acj (by omega)) ?_
   refine zk 3 rfl ?_
   generalize hm:(lo+hi)/2=m
   have l8:lo≤m:=by omega
   have sN:m<hi:=by omega
   obtain⟨st,eD⟩:∃st,μ.dJ[m]?=some st:=⟨_,aG (by omega)⟩
   have sn:=I.low st (aM eD)
   have hlen:=I.len
   have hc:(gB μ.dJ)[m]?=some (.int .i64 (st:Int)):=by simp[gB,eD]
   obtain⟨id,off,e1,e2⟩:=jL (P:=Tryz.prog) s (k:=2) rfl hc gP nY
   refine WP.drawn [af,af,af,af,af,af,af,af,af,af,af,af,af,af,af] rfl (by kernel_rfl) (by kernel_rfl) ?_
   refine zM rfl (zN rfl (zF rfl (yL _ _) (zL rfl (s.ld (k:=0) rfl sg rfl) (zM rfl (zN rfl (zF rfl (s_ _ _) (zL rfl (s.ld (k:=0) rfl Ek rfl) (zM rfl (zO rfl (bS (r:=.ptr id off) rfl rfl e1) (zL rfl (e2 _ b9) (aB.op rfl rfl rfl (by simp only[isEff,eM]) (cL rfl (by exact kJ cm eM (iD (by omega) (by omega)))) ?_)))))))))))
   refine zO rfl (ak rfl rfl (by exact aQ (iD (by omega) (by omega)))) ?_
   refine zM rfl ?_
   by_cases AP:μ.base+st<n
   ·skip
    refine aB.uH rfl rfl rfl rfl (ak rfl rfl aO) (by simp;omega) ?_
    refine aB.nil ⟨⟨aa,aa,aa,aa,aa,aa,aa,aa,aa,aa,aa,aa,aa,aa,aa,aa⟩,?_⟩
    refine zK 3 rfl (zb rfl (by exact aQ (aq (by omega) (by omega))) ?_)
    refine za rfl (zv ?_)
    refine ih (m+1) hi _ Q (by omega) (by omega) h2 (fun j s hj hs => ?_) h4 ⟨rfl,rfl,rfl,rfl,aa⟩ hq
    by_cases hjm:j=m
    ·subst hjm;rw[eD] at hs;injection hs with hs;omega
    ·have:=HL I.HJ (show j<m by omega) hs eD;omega
   ·skip
    refine aB.qb rfl rfl rfl rfl (ak rfl rfl aO) (by simp;omega) ?_
    refine aB.nil ⟨⟨aa,aa,aa,aa,aa,aa,aa,aa,aa,aa,aa,aa,aa,aa,aa,aa⟩,?_⟩
    refine zj rfl (zr rfl (zk 2 rfl (zv ?_)))
    refine ih lo m _ Q (by omega) l8 (by omega) h3 (fun j s hj hs => ?_) ⟨rfl,rfl,rfl,rfl,aa⟩ hq
    by_cases hjm:j=m
    ·subst hjm;rw[eD] at hs;injection hs with hs;omega
    ·have:=HL I.HJ (show m<j by omega) eD hs;omega
  ·skip
   refine WP.loop (WP.has hE (zK 5 rfl (zC rfl aO (by simp;omega) ?_)))
   refine zk 2 rfl (WP.exit ?_)
   have e:lo=hi:=by omega
   exact hq _ lo ⟨by omega,h3,by rw[e];exact h4⟩ rfl
theorem YE (hT:W told)(s:Sat h (dm q p μ::S))(I:μ.Ok)(hn:n<18446744073709551616): Call ⟨Tryz.prog,told⟩ 207 [.ptr q 0,.int .u64 (n:Int)] h fun v h'=>h'=h∧∃i,Split μ n i∧v=.int .i64 (i:Int):=by
 obtain⟨bv,sv,s⟩:=jg.1 s
 refine Call.of_wp (hT.free _ rfl) Tryz.func207 rfl rfl (zK 5 rfl (WP.drawn [af,af,af,af,af,af,af] rfl (by kernel_rfl) (by kernel_rfl) ?_))
 refine zM rfl (zN rfl (zF rfl (s_ _ _) (zL rfl (s.ld (k:=0) rfl Ek rfl) (zO rfl (aD rfl rfl rfl (s.fW (n:=μ.dJ.length) (j:=2) rfl (by rw[wY,dV]) (by decide) gP)) ?_))))
 refine zA rfl (zA rfl ?_)
 refine aB.nil ⟨⟨aa,aa,aa,aa,aa,aa,aa,aa⟩,?_⟩
 refine zw (WP.block ?_)
 refine RU hn I s μ.dJ.length 0 μ.dJ.length _ _ (by omega) (by omega) (by omega) (fun j s hj _=>by omega) (fun j s hj hs => ?_) ⟨rfl,rfl,rfl,rfl,aa⟩ (fun E' i hi eN => ?_)
 ·rw[nm (by omega)] at hs;cases hs
 ·skip
  exact WP.has (F:=[(5,.int .i64 (i:Int))]) ⟨eN,aa⟩ (zK 5 rfl (WP.ret ⟨aa,_,rfl,rfl,i,hi,rfl⟩))
def Lg.hasB (μ:Lg)(n:Nat): Bool:=μ.dJ.any fun s=>decide (μ.base+s=n)
theorem Split.has (hs:Split μ n i)(hr:μ.dJ.Pairwise (· < ·)): μ.hasB n=true↔∃s,μ.dJ[i]?=some s∧μ.base+s=n:=by
 rw[Lg.hasB,List.any_eq_true]
 constructor
 ·rintro⟨s,h1,I⟩
  have I:μ.base+s=n:=by simpa using I
  obtain⟨j,hj⟩:=CN h1
  have qm:i≤j:=by
   rcases sX j i with h|h
   ·have:=hs.2.1 j s h hj;omega
   ·exact h
  by_cases he:i=j
  ·subst he;exact⟨s,hj,I⟩
  ·have IL:=(List.getElem?_eq_some_iff.1 hj).1
   have hi:μ.dJ[i]?=some (μ.dJ[i]'(by omega)):=aG _
   have h3:=hs.2.2 i _ (aI _) hi
   have h4:=HL hr (show i<j by omega) hi hj
   omega
 ·rintro⟨s,h1,I⟩
  exact⟨s,aM h1,by simpa using I⟩
theorem RV {st:Nat}(I:μ.dJ[i]?=some st): (gB μ.dJ)[i]?=some (.int .i64 (st:Int)):=by simp[gB,I]
theorem YF (hT:W told)(s:Sat h (dm q p μ::S))(I:μ.Ok)(hn:n<18446744073709551616): Call ⟨Tryz.prog,told⟩ 181 [.ptr q 0,.int .u64 (n:Int)] h fun v h'=>h'=h∧v=.bool (μ.hasB n):=by
 have s0:=s
 obtain⟨bv,sv,s⟩:=jg.1 s
 have W7:=I.many
 have PB:=I.size
 refine Call.of_wp (hT.free _ rfl) Tryz.func181 rfl rfl (zK 8 rfl (zc rfl (YE hT s0 I hn) ?_))
 rintro v h' ⟨rfl,i,hi,rfl⟩
 have hh:=hi.has I.HJ
 refine zk 3 rfl (WP.drawn [af,af,af,af,af,af,af,af,af,af,af,af,af,af,af,af,af,af,af,af,af,af,af,af,af] rfl (by kernel_rfl) (by kernel_rfl) ?_)
 refine zM rfl (zM rfl (zN rfl (zF rfl (s_ _ _) (zL rfl (s.ld (k:=0) rfl Ek rfl) (zO rfl (aD rfl rfl rfl (s.fW (n:=μ.dJ.length) (j:=2) rfl (by rw[wY,dV]) (by decide) gP)) ?_)))))
 by_cases AU:i<μ.dJ.length
 ·skip
  refine aB.uH rfl rfl rfl rfl (ak rfl rfl aO) (by simp;omega) ?_
  obtain⟨st,eD⟩:∃st,μ.dJ[i]?=some st:=⟨_,aG AU⟩
  have sn:=I.low st (aM eD)
  obtain⟨id,off,e1,e2⟩:=jL (P:=Tryz.prog) s (k:=2) rfl (RV eD) gP nY
  refine zM rfl (zM rfl (zN rfl (zF rfl (yL _ _) (zL rfl (s.ld (k:=0) rfl sg rfl) (zM rfl (zN rfl (zF rfl (s_ _ _) (zL rfl (s.ld (k:=0) rfl Ek rfl) (zM rfl (zO rfl (bS (r:=.ptr id off) rfl rfl e1) (zL rfl (e2 _ b9) (aB.op rfl rfl rfl (by simp only[isEff,eM]) (cL rfl (by exact kJ cm eM (iD (by omega) (by omega)))) ?_))))))))))))
  refine zO rfl (ak rfl rfl (by exact aQ (iD (by omega) (by omega)))) ?_
  refine zM rfl ?_
  by_cases he:μ.base+st=n
  ·skip
   refine aB.uH rfl rfl rfl rfl (ak rfl rfl c8) (by simp;omega) ?_
   refine zO rfl (mw rfl rfl) (zA rfl ?_)
   refine aB.nil ⟨⟨aa,aa,aa,aa,aa,aa,aa,aa,aa,aa,aa,aa,aa,aa,aa,aa,aa,aa,aa,aa,aa,aa,aa,aa,aa,aa⟩,?_⟩
   refine WP.ret ⟨aa,_,rfl,?_⟩
   exact⟨rfl,by rw[hh.2 ⟨st,eD,he⟩]⟩
  ·skip
   refine aB.qb rfl rfl rfl rfl (ak rfl rfl c8) (by simp;omega) ?_
   refine zO rfl (mw rfl rfl) (zA rfl ?_)
   refine aB.nil ⟨⟨aa,aa,aa,aa,aa,aa,aa,aa,aa,aa,aa,aa,aa,aa,aa,aa,aa,aa,aa,aa,aa,aa,aa,aa,aa,aa⟩,?_⟩
   refine WP.ret ⟨aa,_,rfl,?_⟩
   refine⟨rfl,?_⟩
   cases hb:μ.hasB n with
   |false=>rfl
   |true =>
    obtain⟨s',h1,h2⟩:=hh.1 hb
    rw[eD] at h1;have:=bW h1;omega
 ·skip
  refine aB.qb rfl rfl rfl rfl (ak rfl rfl aO) (by simp;omega) ?_
  refine zM rfl (aB.no (e:=false) rfl rfl rfl rfl (aB.no (e:=false) rfl rfl rfl rfl (aB.no (e:=false) rfl rfl rfl rfl (aB.no (e:=false) rfl rfl rfl rfl (aB.no (e:=false) rfl rfl rfl rfl (aB.no (e:=false) rfl rfl rfl rfl (aB.no (e:=false) rfl rfl rfl rfl (aB.no (e:=false) rfl rfl rfl rfl (aB.no (e:=false) rfl rfl rfl rfl (aB.no (e:=false) rfl rfl rfl rfl (aB.no (e:=false) rfl rfl rfl rfl (aB.no (e:=false) rfl rfl rfl (by simp only[isEff,eM]) ?_))))))))))))
  refine aB.no (e:=false) rfl rfl rfl rfl (aB.no (e:=false) rfl rfl rfl rfl (aB.no (e:=false) rfl rfl rfl rfl (zO rfl (pT rfl rfl) (zA rfl ?_))))
  refine aB.nil ⟨⟨aa,aa,aa,aa,aa,aa,aa,aa,aa,aa,aa,aa,aa,aa,aa,aa,aa,aa,aa,aa,aa,aa,aa,aa,aa,aa⟩,?_⟩
  refine WP.ret ⟨aa,_,rfl,?_⟩
  refine⟨rfl,?_⟩
  cases hb:μ.hasB n with
  |false=>rfl
  |true =>
   obtain⟨s',h1,h2⟩:=hh.1 hb
   have:=(List.getElem?_eq_some_iff.1 h1).1
   omega
theorem RW (hT:W told)(s:Sat h (dm q p μ::bZ p δ::S))(I:μ.Ok)(hf:δ.cM<4294967296): Call ⟨Tryz.prog,told⟩ 103 [.ptr q 0,.int .u64 (n:Int)] h fun v h' =>
  (n<μ.base+μ.forced∧v=.int .i64 0∧Sat h' (dm q p μ::bZ p δ::S)) ∨
  (μ.base+μ.forced≤n∧δ.dead=true∧v=.int .i64 9∧Sat h' (dm q p μ::bZ p δ::S)) ∨
  (μ.base+μ.forced≤n∧δ.dead=false∧δ.cM=0∧v=.int .i64 9∧Sat h' (dm q p μ::bZ p δ.die::S)) ∨
  (μ.base+μ.forced≤n∧δ.dead=false∧δ.cM≠0∧v=.int .i64 0∧Sat h' (dm q p { μ with forced:=μ.b.length }::bZ p { δ.fZ with gM:=δ.log.length }::S)):=by
 have PB:=I.size
 have hfo:=I.forced
 have s0:=s
 obtain⟨bv,sv,s⟩:=jg.1 s
 refine Call.of_wp (hT.free _ rfl) Tryz.func103 rfl rfl (zK 9 rfl (zc rfl (PA hT s0 I.size I.forced) ?_))
 rintro v h' ⟨rfl,rfl⟩
 by_cases cq:n<μ.base+μ.forced
 ·skip
  refine zB rfl aO (by simp;omega) ?_
  exact zk 6 rfl (WP.ret ⟨aa,_,rfl,.inl ⟨cq,rfl,s0⟩⟩)
 ·have hle:μ.base+μ.forced≤n:=by omega
  refine zC rfl aO (by simp;omega) ?_
  refine zk 8 rfl (zY s 0 Nr xO rfl (zc rfl (RN hT (s0.ae [1]) hf) ?_))
  rintro v h (⟨hd,rfl,s⟩|⟨hd,h0,rfl,s⟩|⟨hd,h0,rfl,s⟩)
  ·refine au.op rfl rfl rfl (iO rfl) ?_
   exact zk 4 rfl (zB rfl aH (rfl) (zk 7 rfl (WP.ret ⟨aa,_,rfl,.inr (.inl ⟨hle,hd,rfl,s.ae [1]⟩)⟩)))
  ·skip
   exact zk 5 rfl (zB rfl aH (rfl) (zk 7 rfl (WP.ret ⟨aa,_,rfl,.inr (.inr (.inl ⟨hle,hd,h0,rfl,s.ae [1]⟩))⟩)))
  ·skip
   obtain⟨bv,sv,s⟩:=jg.1 (s.ae [1])
   refine zk 5 rfl (zC rfl aH (rfl) (zk 8 rfl (zY s 0 nO bF rfl (zo rfl (aD rfl rfl rfl (aY aK (s.aC (k:=1) rfl (aZ _ _)))) (zn rfl (zf rfl (Hy _ _) ?_))))))
   refine zS rfl (by exact s.jS (k:=0) rfl nY rfl (by decide) rfl rfl) (fun h s => ?_)
   exact zk 5 rfl (WP.ret ⟨aa,_,rfl,.inr (.inr (.inr ⟨hle,hd,h0,rfl,jg.2 ⟨bv,sv,s⟩⟩))⟩)
end
structure fL where
 bM:Int
 pos:Int
 whole:Bool
 b:List Nat
variable {dh:List fL}
def fL.Ok (c:fL): Prop:=0≤c.bM∧c.bM<65536∧0≤c.pos∧c.pos≤512∧(c.b.length:Int)≤512-c.pos∧(c.whole=true→c.pos=0∧c.b.length=512)
instance (c:fL):Decidable c.Ok:=by unfold fL.Ok;infer_instance
def iG (kind:Int)(dh:List fL): Bool:=decide (1≤kind∧kind≤9)&&dh.all fun c=>decide c.Ok
def qc (kd:Int)(tx pv nx:Nat)(dt ch:V): List V:=[.int .i64 kd,.int .u64 (tx:Int),.int .u64 (pv:Int),.int .u64 (nx:Int),dt,ch]
theorem B3 {ch:V}(I:storable dt=true)(hc:storable ch=true): (qc kd tx pv nx dt ch).all storable=true:=by
 simp only[qc,kD,lP,I,hc]
 rfl
def fC : List V→List fL→aE
 |[],[]=>.pu True
 |p::a::w::v::l,x::m=>.an (.an (.pu (p=.int .i64 x.bM∧a=.int .i64 x.pos∧w=.bool x.whole)) (.cg v x.b)) (fC l m)
 |_,_=>.pu False
theorem aJ.sP : ∀(m:List fL) (l:List V),aJ (fC l m):=by
 intro m
 induction m with
 |nil=>intro l;rcases l with _|⟨a,_|⟨b,_|⟨c,_|⟨d,l⟩⟩⟩⟩<;>exact aJ.pu _
 |cons x m I=>intro l;rcases l with _|⟨a,_|⟨b,_|⟨c,_|⟨d,l⟩⟩⟩⟩<;>first|exact aJ.pu _|exact aJ.an (aJ.an (aJ.pu _) (aJ.cg _ _)) (I l)
theorem tq {a b:PM}: ∀ {m:List fL} {l:List V},(fC l m).p a b→l.length=m.length*4:=by
 intro m
 induction m with
 |nil=>intro l h;rcases l with _|⟨x,_|⟨y,_|⟨z,_|⟨d,l⟩⟩⟩⟩<;>first|rfl|exact h.elim
 |cons x m I =>
  intro l h
  rcases l with _|⟨x,_|⟨y,_|⟨z,_|⟨d,l⟩⟩⟩⟩<;>first|exact h.elim|skip
  have:=I h.2
  simp only[bq]
  omega
theorem Eu {a b:PM}: ∀ {m m':List fL} {l I:List V},(fC l m).p a b→(fC I m').p a b→(fC (l++I) (m++m')).p a b:=by
 intro m
 induction m with
 |nil=>intro m' l I h h';rcases l with _|⟨x,_|⟨y,_|⟨z,_|⟨d,l⟩⟩⟩⟩<;>first|exact h'|exact h.elim
 |cons x m ih =>
  intro m' l I h h'
  rcases l with _|⟨x,_|⟨y,_|⟨z,_|⟨d,l⟩⟩⟩⟩<;>first|exact h.elim|exact⟨h.1,ih h.2 h'⟩
theorem KN {a b:PM}: ∀ {m:List fL} {l:List V} {i:Nat} {c:fL},(fC l m).p a b→m[i]?=some c→∃u,(l.drop (i*4)).take 4=[.int .i64 c.bM,.int .i64 c.pos,.bool c.whole,u]∧(aE.cg u c.b).p a b:=by
 intro m
 induction m with
 |nil=>intro l i c h I;simp at I
 |cons x m ih =>
  intro l i c h I
  rcases l with _|⟨p,_|⟨q,_|⟨w,_|⟨v,l⟩⟩⟩⟩<;>first|exact h.elim|skip
  obtain⟨⟨⟨h1,h2,h3⟩,h4⟩,h5⟩:=h
  cases i with
  |zero=>simp at I;subst I;exact⟨v,by rw[h1,h2,h3];rfl,h4⟩
  |succ i =>
   simp at I
   obtain⟨u,e1,e2⟩:=ih h5 I
   refine⟨u,?_,e2⟩
   rw[←e1,show(i+1)*4=i*4+4 by omega]
   rfl
section
variable {told:cE} {p:Nat} {v:V}
theorem RX {ch:V}{m:List fL}{c:fL}(s:Sat h (.arr 4 ch cs::fC cs m::S))(hc:m[i]?=some c):
  ∃id off u,indexAddrV Tryz.prog 45 ch (.int .i64 (i:Int))=some (.ptr id off)∧loadV Tryz.prog h 206 (.ptr id off)=some (.agg [.int .i64 c.bM,.int .i64 c.pos,.bool c.whole,u]) ∧
   u.cells=[u]∧storable u=true∧u.beq u=true∧Sat h (.cg u c.b::.arr 4 ch cs::fC cs m::S):=by
 obtain⟨a,b,q1,q2,q3⟩:=s.at (k:=1) rfl
 have AU:=(List.getElem?_eq_some_iff.1 hc).1
 have hl:=tq q3
 obtain⟨u,e1,e2⟩:=KN q3 hc
 obtain⟨id,off,g1,g2⟩:=aaC (P:=Tryz.prog) (i:=i) s (j:=0) rfl (by omega) (by decide) lX Dp
 have g2:=g2 abY
 rw[e1] at g2
 have s2:Sat h (fC cs m::.arr 4 ch cs::S):=s.ae [1]
 have s3:=(s2.dup (aJ.sP _ _)).dQ (B:=.cg u c.b) fun a b h=>by
  obtain⟨u',I,sB⟩:=KN h hc
  rw[e1] at I
  injection I with _ I
  injection I with _ I
  injection I with _ I
  injection I with I _
  subst I
  exact sB
 have hu:=(s3.aC (k:=0) rfl (bj _ _))
 exact⟨id,off,u,g1,g2,hu.cells.1,hu.cells.2,nM hu,s3.ae [0,1,0]⟩
theorem NH {ch:V}{m:List fL}(s:Sat h S)(I:getA S j1=some (.arr 4 ch cs))(h2:getA S j2=some (fC cs m))(hu:P.underlying t=some (.slice e)): lenV P h t ch=some (.int .i64 m.length):=by
 obtain⟨a,b,q1,q2,q3⟩:=s.at h2
 exact s.fW I (tq q3) (by decide) hu
theorem Sat.B4 {ch:V}{m:List fL}(s:Sat h S)(I:getA S j1=some (.arr 4 ch cs))(h2:getA S j2=some (fC cs m))(hu:P.underlying t=some (.slice e)): lenV P h t ch=some (.int .i64 m.length):=NH s I h2 hu
noncomputable def gwL : Code:=eu [1,1,0,1,0,0] ((Tryz.f190.body).getD .skip)
theorem PC {ch:V}{m:List fL}: ∀(j i:Nat) (h:H) (E:List (Nat×V)) (Q:Ex→List (Nat×V)→H→Prop),i+j=m.length→m.length<4294967296→(∀c∈m,c.b.length<9223372036854775808) →
  (∀c∈m, -4294967296≤c.pos∧c.pos≤4294967296)→Sat h (.arr 4 ch cs::fC cs m::S)→Has E [(1,.ptr p1 0),(14,ch),(15,.int .i64 m.length),(16,.int .i64 i)] →
  ((m.drop i).all (fun c=>decide c.Ok)=false→∀E' h',look E' 2=some (.bool false)→Sat h' (.arr 4 ch cs::fC cs m::S)→Q .ret E' h') →
  ((m.drop i).all (fun c=>decide c.Ok)=true→∀E' h',Sat h' (.arr 4 ch cs::fC cs m::S)→Q (.exit 0) E' h')→WP ⟨Tryz.prog,told⟩ 61 (.loop gwL) E h Q:=by
 intro j
 induction j with
 |zero =>
  intro i h E Q hi hm hb UL s hE hr hx
  refine WP.loop (WP.has hE (zg rfl (zC rfl aO (by simp;omega) ?_)))
  exact zk 3 rfl (WP.exit (hx (by rw[pI (by omega)];rfl) _ _ s))
 |succ j ih =>
  intro i h E Q hi hm hb UL s hE hr hx
  have hc:m[i]?=some (m[i]'(by omega)):=aG _
  generalize (m[i]'(by omega))=c at hc
  have IM:=aM hc
  have D5:=hb c IM
  have hcp:=UL c IM
  have u_:m.drop i=c::m.drop (i+1):=by
   have:=List.getElem?_eq_some_iff.1 hc
   obtain⟨h1,rfl⟩:=this
   exact pH h1
  rw[u_,kD] at hr hx
  obtain⟨id,off,u,e1,e2,u1,u2,u3,s⟩:=RX s hc
  refine WP.loop (WP.has hE (zg rfl (zB rfl aO (by simp;omega) ?_)))
  refine zk 5 rfl (WP.block (zg rfl (zo rfl (bS (r:=.ptr id off) rfl rfl e1) (zl rfl e2 ?_))))
  refine au.b_ s rfl rfl rfl (cu wU) (fun p4 h s => ?_)
  dsimp only[V.cells,List.length_cons,List.length_nil,Nat.reduceAdd] at s
  refine zS rfl (s.gX (j:=0) rfl Dp rfl (by simp only[kD,lP,u2];rfl)) ?_
  intro h s
  dsimp only[setA] at s
  refine zk 4 rfl (zY s 0 Hz b9 rfl ?_)
  refine zd rfl (ak rfl rfl aO) ?_ ?_
  ·intro AN
   have AN:c.bM<0:=by simp at AN;omega
   exact zk 30 rfl (WP.ret (hr (by rw[er (fun q:c.Ok=>by have:=q.1;omega),mq]) _ _ rfl s.drop.drop))
  ·intro AN
   have AN:¬ (c.bM<0):=by simp at AN;omega
   refine zm rfl (zY s 0 Hz b9 rfl ?_)
   refine zd rfl (ak rfl rfl mV) ?_ ?_
   ·intro RY
    have RY:65536≤c.bM:=by simp at RY;omega
    exact zk 26 rfl (WP.ret (hr (by rw[er (fun q:c.Ok=>by have:=q.2.1;omega),mq]) _ _ rfl s.drop.drop))
   ·intro RY
    have RY:¬ (65536≤c.bM):=by simp at RY;omega
    refine zk 2 rfl (zY s 0 vG b9 rfl ?_)
    refine zd rfl (ak rfl rfl aO) ?_ ?_
    ·intro jt
     have jt:c.pos<0:=by simp at jt;omega
     exact zk 21 rfl (WP.ret (hr (by rw[er (fun q:c.Ok=>by have:=q.2.2.1;omega),mq]) _ _ rfl s.drop.drop))
    ·intro jt
     have jt:¬ (c.pos<0):=by simp at jt;omega
     refine zk 2 rfl (zY s 0 vG b9 rfl ?_)
     refine zd rfl (ak rfl rfl cV) ?_ ?_
     ·intro rI
      have rI:512<c.pos:=by simp at rI;omega
      exact zk 16 rfl (WP.ret (hr (by rw[er (fun q:c.Ok=>by have:=q.2.2.2.1;omega),mq]) _ _ rfl s.drop.drop))
     ·intro rI
      have rI:¬ (512<c.pos):=by simp at rI;omega
      refine zk 2 rfl (zY s 0 vH bF rfl (zo rfl (aD rfl rfl rfl (aY aK (s.aC (k:=1) rfl (bj _ _)))) (zY s 0 vG b9 rfl (zb rfl (by exact ew (aq (by omega) (by omega))) ?_))))
      refine zd rfl (ak rfl rfl cV) ?_ ?_
      ·intro rJ
       have rJ:512-c.pos<(c.b.length:Int):=by simp at rJ;omega
       exact zk 7 rfl (WP.ret (hr (by rw[er (fun q:c.Ok=>by have:=q.2.2.2.2.1;omega),mq]) _ _ rfl s.drop.drop))
      ·intro rJ
       have rJ:¬ (512-c.pos<(c.b.length:Int)):=by simp at rJ;omega
       refine zk 6 rfl (zf rfl (Ns _ _) ?_)
       have wK:∀(h:H) (E:List (Nat×V)),c.Ok→Sat h (.arr 4 ch cs::fC cs m::S)→Has E [(1,.ptr p1 0),(14,ch),(15,.int .i64 m.length),(16,.int .i64 ((i:Int)+1))]→WP ⟨Tryz.prog,told⟩ 61 (.loop gwL) E h Q:=by
        intro h E jU s hE
        rw[dB jU,Bool.true_and] at hr hx
        exact ih (i+1) h E Q (by omega) hm hb UL s hE hr hx
       have E7:c.whole=false∨c.whole=true:=by cases c.whole<;>simp
       rcases E7 with hw|hw
       ·skip
        refine zh rfl (o_load rfl (by exact s.ld (k:=0) rfl r_ rfl)) (hw) ?_
        refine zk 11 rfl (zv (zj rfl (WP.skip (zr rfl (zb rfl (by exact aQ (aq (by omega) (by omega))) ?_)))))
        refine zm rfl (zv ?_)
        refine wK _ _ ?_ ?_ ?_
        ·exact⟨by omega,by omega,by omega,by omega,by omega,fun e=>by rw[hw] at e;cases e⟩
        ·exact s.drop.drop
        ·exact⟨rfl,rfl,rfl,rfl,aa⟩
       ·skip
        refine zt rfl (o_load rfl (s.ld (k:=0) rfl r_ rfl)) (hw) (zm rfl (zY s 0 vG b9 rfl ?_))
        refine zd rfl (ak rfl rfl aH) ?_ ?_
        ·intro hp
         have hp:c.pos≠0:=by simp at hp;omega
         exact zk 13 rfl (WP.ret (hr (by rw[er (fun q:c.Ok=>hp (q.2.2.2.2.2 hw).1),mq]) _ _ rfl s.drop.drop))
        ·intro hp
         have hp:c.pos=0:=by simp at hp;omega
         refine zm rfl (zY s 0 vH bF rfl (zo rfl (aD rfl rfl rfl (aY aK (s.aC (k:=1) rfl (bj _ _)))) ?_))
         refine zd rfl (ak rfl rfl aH) ?_ ?_
         ·intro I
          have I:c.b.length≠512:=by simp at I;omega
          exact zk 8 rfl (WP.ret (hr (by rw[er (fun q:c.Ok=>I (q.2.2.2.2.2 hw).2),mq]) _ _ rfl s.drop.drop))
         ·intro I
          have I:c.b.length=512:=by simp at I;omega
          refine zk 2 rfl (zv (zj rfl (WP.skip (zr rfl (zb rfl (by exact aQ (aq (by omega) (by omega))) ?_)))))
          refine zm rfl (zv ?_)
          refine wK _ _ ?_ ?_ ?_
          ·exact⟨by omega,by omega,by omega,by omega,by omega,fun _=>⟨hp,I⟩⟩
          ·exact s.drop.drop
          ·exact⟨rfl,rfl,rfl,rfl,aa⟩
def F4 (m:List fL): Prop:=m.length<4294967296∧(∀c∈m,c.b.length<4294967296)∧(∀c∈m, -4294967296≤c.pos∧c.pos≤4294967296)
theorem UM (hT:W told){ch:V}{m:List fL}(s:Sat h (.arr 4 ch cs::fC cs m::S))(hd:storable dt=true)(hm:F4 m):
  Call ⟨Tryz.prog,told⟩ 190 [.agg (qc kd tx pv nx dt ch)] h fun r h'=>r=.bool (iG kd m)∧Sat h' (.arr 4 ch cs::fC cs m::S):=by
 have we:=s.tf (j:=0) rfl
 have eD:=B3 (kd:=kd) (tx:=tx) (pv:=pv) (nx:=nx) hd we.2.1
 refine Call.of_wp (hT.free _ rfl) Tryz.func190 rfl rfl (zg rfl (au.b_ s rfl rfl rfl (eU rfl eD) ?_))
 intro p1 h s
 refine zk 5 rfl (zY s 0 BR b9 rfl ?_)
 refine zd rfl (ak rfl rfl aO) ?_ ?_
 ·intro hq
  have hq:kd<1:=by simpa using hq
  exact zk 11 rfl (WP.ret ⟨aa,_,rfl,by rw[iG,er (by omega),mq],s.drop⟩)
 ·intro hq
  have hq:1≤kd:=by simpa using hq
  refine zm rfl (zY s 0 BR b9 rfl ?_)
  refine zd rfl (ak rfl rfl cV) ?_ ?_
  ·intro I
   have I:9<kd:=by simpa using I
   exact zk 7 rfl (WP.ret ⟨aa,_,rfl,by rw[iG,er (by omega),mq],s.drop⟩)
  ·intro I
   have I:kd≤9:=by simpa using I
   refine zk 7 rfl (zY s 0 vY Hr rfl (zo rfl (aD rfl rfl rfl (NH s (j1:=1) (j2:=2) rfl rfl lX)) (zk 2 rfl (WP.block ?_))))
   have hg:iG kd m=m.all (fun c=>decide c.Ok):=by rw[iG,dB ⟨hq,I⟩,Bool.true_and]
   refine PC m.length 0 _ _ _ (by omega) hm.1 (fun c hc=>by have:=hm.2.1 c hc;omega) hm.2.2 s.drop ⟨rfl,rfl,rfl,rfl,aa⟩ (fun hf E' h' h2 s' => ?_) (fun hf E' h' s' => ?_)
   ·rw[hg]
    rw[ij] at hf
    rw[hf]
    exact⟨aa,_,z_ h2,rfl,s'⟩
   ·rw[hg]
    rw[ij] at hf
    rw[hf]
    exact WP.has (F:=[]) aa (zK 4 rfl (WP.ret ⟨aa,_,rfl,rfl,s'⟩))
end
def o_ (c:fL): List Nat:=digits 9 c.bM.toNat++digits 9 c.pos.toNat++[if c.whole then 1 else 0]++(digits 9 c.b.length++c.b)
def gR (kd:Int)(tx pv nx:Nat)(data:List Nat)(dh:List fL): List Nat :=
 [kd.toNat]++digits 9 tx++digits 9 pv++digits 9 nx++(digits 9 data.length++data)++digits 9 dh.length++dh.flatMap o_
section
variable {told:cE} {p:Nat} {v:V} {m:List Nat}
theorem rK (I:W told)(s:Sat h (aU v l::S))(hn:n<18446744073709551616)(hl:l.length≤140737488355000):
  Call ⟨Tryz.prog,told⟩ 209 [v,.int .u64 (n:Int)] h fun r h'=>Sat h' (aU r (l++digits 9 n)::S) :=
 (IK I.W3 (k:=9) s.wf (s.buf (k:=0) rfl) (by omega) (by omega) (by omega)).mono fun _ _ ⟨h1,h2,h3⟩=>s.Dh h2 h1 h3
theorem HM (hT:W told)(s:Sat h (aU v l::X::S))(I:cf X (cy w m))(hl:l.length+m.length≤140737488355000):
  Call ⟨Tryz.prog,told⟩ 210 [v,w] h fun r h'=>Sat h' (aU r (l++(digits 9 m.length++m))::X::S) :=
 (Yt hT.W3 (k:=9) s.wf (s.buf (k:=0) rfl) (s.aC (k:=1) rfl I) (s.aaD I) (by omega) (by omega) (by omega)).mono fun _ _ ⟨h1,h2,h3⟩=>by
  rw[dA] at h1
  exact s.Dh h2 h1 h3
noncomputable def bdL : Code:=eu [1,1,1,1,0,1,0,0] ((Tryz.f191.body).getD .skip)
theorem RZ (hT:W told){ch:V}(jU:∀c∈dh,c.Ok)(cU:F4 dh): ∀(j i:Nat) (sv:V) (l:List Nat) (h:H) (E:List (Nat×V)) (Q:Ex→List (Nat×V)→H→Prop),i+j=dh.length →
  l.length+((dh.drop i).flatMap o_).length≤140737488355000 →
  Sat h (aU sv l::.arr 4 ch cs::fC cs dh::S)→Has E [(1,.ptr p1 0),(3,sv),(37,ch),(38,.int .i64 dh.length),(39,.int .i64 i)] →
  (∀E' h' I,look E' 3=some I→Sat h' (aU I (l++(dh.drop i).flatMap o_)::.arr 4 ch cs::fC cs dh::S)→Q (.exit 2) E' h')→WP ⟨Tryz.prog,told⟩ 63 (.loop bdL) E h Q:=by
 intro j
 induction j with
 |zero =>
  intro i sv l h E Q hi hlen s hE hx
  have hm:=cU.1
  refine WP.loop (WP.has hE (zg rfl (zC rfl aO (by simp;omega) ?_)))
  refine zk 3 rfl (WP.exit (hx _ _ sv rfl ?_))
  rw[pI (by omega)]
  simpa using s
 |succ j ih =>
  intro i sv l h E Q hi hlen s hE hx
  have hm:=cU.1
  have hc:dh[i]?=some (dh[i]'(by omega)):=aG _
  generalize (dh[i]'(by omega))=c at hc
  have IM:=aM hc
  have ado:=jU c IM
  have D5:=cU.2.1 c IM
  have u_:dh.drop i=c::dh.drop (i+1):=by
   obtain⟨h1,rfl⟩:=List.getElem?_eq_some_iff.1 hc
   exact pH h1
  rw[u_,gi] at hlen hx
  obtain⟨pg,ps,wh,bb⟩:=c
  obtain⟨q1,q2,q3,q4,_⟩:=ado
  dsimp only at q1 q2 q3 q4 D5
  obtain⟨pg,rfl⟩:∃n:Nat,pg=n:=⟨pg.toNat,by omega⟩
  obtain⟨ps,rfl⟩:∃n:Nat,ps=n:=⟨ps.toNat,by omega⟩
  have UN:o_ ⟨pg,ps,wh,bb⟩=digits 9 pg++digits 9 ps++[if wh then 1 else 0]++(digits 9 bb.length++bb):=by simp[o_]
  have AS:(o_ ⟨pg,ps,wh,bb⟩).length=(digits 9 pg).length+(digits 9 ps).length+1+(digits 9 bb.length).length+bb.length:=by rw[UN];simp;omega
  rw[aX,AS] at hlen
  obtain⟨id,off,u,e1,e2,u1,u2,u3,s⟩:=RX (s.ae [1,1]) hc
  dsimp only at e2
  have s:=s.ae [3,0,0,0]
  dsimp only[aL,bringA,getA] at s
  refine WP.loop (WP.has hE (zg rfl (zB rfl aO (by simp;omega) ?_)))
  refine zk 5 rfl (WP.block (zg rfl (zo rfl (bS (r:=.ptr id off) rfl rfl e1) (zl rfl e2 ?_))))
  refine au.b_ s rfl rfl rfl (cu wU) (fun p7 h s => ?_)
  dsimp only[V.cells,List.length_cons,List.length_nil,Nat.reduceAdd] at s
  refine zS rfl (s.gX (j:=0) rfl Dp rfl (by simp only[kD,lP,u2];rfl)) ?_
  intro h s
  dsimp only[setA] at s
  refine zk 2 rfl ?_
  have s:=s.ae [1,0]
  dsimp only[bringA,getA,aL] at s
  have s0:=s
  refine WP.drawn [af,af,af,af,af,some (0,2),some (0,2),some (0,2),none,none] rfl (by kernel_rfl) (by kernel_rfl) ?_
  refine zM rfl (zF rfl (Hz _ _) (zL rfl (s.ld (k:=1) rfl b9 rfl) (aB.op rfl rfl rfl (by simp only[isEff,eM]) (cL rfl (by exact kJ cm eM (iD (by omega) (by omega)))) ?_)))
  refine aB.any rfl rfl rfl rfl (OpR.call rfl rfl rfl rfl (rK hT s (by omega) (by omega))) ?_
  intro v1 h s
  have s1:=s
  refine zF rfl (vG _ _) (zL rfl (s.ld (k:=1) rfl b9 rfl) (aB.op rfl rfl rfl (by simp only[isEff,eM]) (cL rfl (by exact kJ cm eM (iD (by omega) (by omega)))) ?_))
  refine aB.any rfl rfl rfl rfl (OpR.call rfl rfl rfl rfl (rK hT s (by omega) (by simp;omega))) ?_
  intro v2 h s
  refine zA rfl ?_
  refine aB.nil ⟨⟨aa,aa,aa,aa,aa,fun _ _=>.inr ⟨rfl,⟨_,mU rfl (vG _ _)⟩,bg _ rfl⟩,fV (.inr ⟨rfl,⟨_,o_load rfl (s0.ld (k:=1) rfl b9 rfl)⟩,bg _ rfl⟩) (.inr ⟨rfl,⟨_,o_load rfl (s1.ld (k:=1) rfl b9 rfl)⟩,bg _ rfl⟩),fun _ _=>.inr ⟨rfl,⟨_,cL rfl (by exact kJ cm eM (iD (by omega) (by omega)))⟩,bg _ rfl⟩,aa,aa,aa⟩,?_⟩
  have aaM:∀(h:H) (E:List (Nat×V)) (I:V),Sat h (aU I (l++o_ ⟨pg,ps,wh,bb⟩)::.arr 4 ch cs::fC cs dh::S)→Has E [(1,.ptr p1 0),(3,I),(37,ch),(38,.int .i64 dh.length),(39,.int .i64 ((i:Int)+1))]→WP ⟨Tryz.prog,told⟩ 63 (.loop bdL) E h Q:=by
   intro h E I s hE
   refine ih (i+1) I _ h E Q (by omega) (by rw[aX,AS];omega) s hE (fun E' h' sv2 DW s'=>hx E' h' sv2 DW ?_)
   rw[dA] at s'
   exact s'
  have hlp:=iF 9 pg
  have hlq:=iF 9 ps
  refine zK 7 rfl (zf rfl (Ns _ _) ?_)
  have E7:wh=false∨wh=true:=by cases wh<;>simp
  rcases E7 with hw|hw
  ·skip
   refine zh rfl (o_load rfl (s.ld (k:=1) rfl r_ rfl)) (hw) (zk 3 rfl ?_)
   have s0:=s
   have IF:=nM (s.buf (k:=0) rfl).view
   refine WP.drawn [some (0,2),af,af,af,some (0,3),some (0,3),none,none] rfl (by kernel_rfl) (by kernel_rfl) ?_
   refine zM rfl (zM rfl (aB.any rfl rfl rfl rfl (OpR.JK (n:=0) rfl s rfl rfl rfl (by decide)) ?_))
   intro v3 h s
   have s:=s.ae [1,1,0]
   dsimp only[bringA,getA,aL] at s
   have s1:=s
   refine aB.any rfl rfl rfl rfl (OpR.qh rfl (s.ae [0,1]) (aZ _ _) rfl rfl rfl rfl (by simp;omega)) ?_
   intro v4 h s
   have s:=s.del 1
   dsimp only[aL,bringA] at s
   have s2:=s
   refine zF rfl (vH _ _) (zL rfl (s.ld (k:=1) rfl bF rfl) (aB.any rfl rfl rfl rfl (OpR.call rfl rfl rfl rfl (HM hT (s.ae [0,1]) (bj _ _) (by simp;omega))) ?_))
   intro v5 h s
   dsimp only[aL,bringA] at s
   refine zA rfl ?_
   refine aB.nil ⟨⟨fun _ _=>.inr ⟨rfl,⟨_,bV rfl⟩,IF⟩,aa,aa,aa,fun _ _=>.inr ⟨rfl,⟨_,mU rfl (vH _ _)⟩,bg _ rfl⟩,BK (.inr ⟨rfl,⟨_,o_load rfl (s0.ld (k:=1) rfl bF rfl)⟩,u3⟩) (.inr ⟨rfl,⟨_,o_load rfl (s1.ld (k:=1) rfl bF rfl)⟩,u3⟩) (.inr ⟨rfl,⟨_,o_load rfl (s2.ld (k:=1) rfl bF rfl)⟩,u3⟩),aa,aa,aa⟩,?_⟩
   refine zr rfl (zb rfl (by exact aQ (aq (by omega) (by omega))) ?_)
   refine zm rfl (zv ?_)
   refine aaM _ _ v5 ?_ ?_
   ·rw[UN,hw]
    have s:=(s.del 1).del 1
    dsimp only[aL] at s
    simpa[dA] using s
   ·exact⟨rfl,rfl,rfl,rfl,rfl,aa⟩
  ·skip
   refine zt rfl (o_load rfl (s.ld (k:=1) rfl r_ rfl)) (hw) (zk 5 rfl ?_)
   have s0:=s
   have IF:=nM (s.buf (k:=0) rfl).view
   refine WP.drawn [some (0,2),af,af,af,some (0,3),some (0,3),none,none] rfl (by kernel_rfl) (by kernel_rfl) ?_
   refine zM rfl (zM rfl (aB.any rfl rfl rfl rfl (OpR.JK (n:=1) rfl s rfl rfl rfl (by decide)) ?_))
   intro v3 h s
   have s:=s.ae [1,1,0]
   dsimp only[bringA,getA,aL] at s
   have s1:=s
   refine aB.any rfl rfl rfl rfl (OpR.qh rfl (s.ae [0,1]) (aZ _ _) rfl rfl rfl rfl (by simp;omega)) ?_
   intro v4 h s
   have s:=s.del 1
   dsimp only[aL,bringA] at s
   have s2:=s
   refine zF rfl (vH _ _) (zL rfl (s.ld (k:=1) rfl bF rfl) (aB.any rfl rfl rfl rfl (OpR.call rfl rfl rfl rfl (HM hT (s.ae [0,1]) (bj _ _) (by simp;omega))) ?_))
   intro v5 h s
   dsimp only[aL,bringA] at s
   refine zA rfl ?_
   refine aB.nil ⟨⟨fun _ _=>.inr ⟨rfl,⟨_,bV rfl⟩,IF⟩,aa,aa,aa,fun _ _=>.inr ⟨rfl,⟨_,mU rfl (vH _ _)⟩,bg _ rfl⟩,BK (.inr ⟨rfl,⟨_,o_load rfl (s0.ld (k:=1) rfl bF rfl)⟩,u3⟩) (.inr ⟨rfl,⟨_,o_load rfl (s1.ld (k:=1) rfl bF rfl)⟩,u3⟩) (.inr ⟨rfl,⟨_,o_load rfl (s2.ld (k:=1) rfl bF rfl)⟩,u3⟩),aa,aa,aa⟩,?_⟩
   refine zr rfl (zb rfl (by exact aQ (aq (by omega) (by omega))) ?_)
   refine zm rfl (zv ?_)
   refine aaM _ _ v5 ?_ ?_
   ·rw[UN,hw]
    have s:=(s.del 1).del 1
    dsimp only[aL] at s
    simpa[dA] using s
   ·exact⟨rfl,rfl,rfl,rfl,rfl,aa⟩
theorem UO (hT:W told){kd:Nat}{ch:V}(s:Sat h (X::.arr 4 ch cs::fC cs dh::S))(hX:cf X (cy dt data))(hg:iG kd dh=true)(I:F4 dh)
 (F5:tx<18446744073709551616)(W8:pv<18446744073709551616)(W9:nx<18446744073709551616)(hlen:data.length+(dh.flatMap o_).length≤70368744177664):
  Call ⟨Tryz.prog,told⟩ 191 [.agg (qc kd tx pv nx dt ch)] h fun r h'=>Sat h' (aU r (gR kd tx pv nx data dh)::X::.arr 4 ch cs::fC cs dh::S):=by
 have we:=s.tf (j:=1) rfl
 have AX:=s.aC (k:=0) rfl hX
 have hdb:=nM AX
 have eD:=B3 (kd:=kd) (tx:=tx) (pv:=pv) (nx:=nx) AX.cells.2 we.2.1
 have hk:1≤kd∧kd≤9:=by simp[iG] at hg;omega
 have jU:∀c∈dh,c.Ok:=by
  simp only[iG,bQ,oA,jX] at hg
  exact hg.2
 have hm:=I.1
 have h1:=iF 9 tx
 have h2:=iF 9 pv
 have h3:=iF 9 nx
 have h4:=iF 9 data.length
 have h5:=iF 9 dh.length
 refine Call.of_wp (hT.free _ rfl) Tryz.func191 rfl rfl (zg rfl (au.b_ s rfl rfl rfl (eU rfl eD) ?_))
 intro p1 h s
 dsimp only[V.cells] at s
 refine zk 4 rfl (zY s 0 BR b9 rfl (zo rfl (cL rfl (by exact kJ cm Tryz.underlying5 (vX (by omega) (by omega)))) ?_))
 refine au.any rfl rfl rfl (OpR.JK (n:=kd) rfl s rfl rfl rfl (by omega)) ?_
 intro v3 h s
 refine zk 5 rfl (zY s 1 aav sg rfl (zY s 1 aaw sg rfl (zY s 1 aax sg rfl (zo rfl (cQ rfl (by rw[ab8];rfl)) ?_))))
 refine zk 2 rfl (WP.block (WP.loop (zg rfl (zB rfl aO (by decide) ?_))))
 refine zk 5 rfl (WP.block (zg rfl (zo rfl (BJ rfl rfl (r:=.int .u64 (tx:Int)) (by simp only[indexV,KB,Pd,tF,sg];rfl)) ?_)))
 refine zk 5 rfl (zc rfl (rK hT s (by omega) (by simp only[aX,bq,cj];omega)) ?_)
 intro v3 h s
 refine za rfl (zv (zr rfl (zb rfl (by exact aQ (aq (by omega) (by omega))) ?_)))
 refine zm rfl (zv (WP.loop (zg rfl (zt rfl (ak rfl rfl aO) (by decide) ?_))))
 refine zk 5 rfl (WP.block (zg rfl (zo rfl (BJ rfl rfl (r:=.int .u64 (pv:Int)) (by simp only[indexV,KB,Pd,tF,sg];rfl)) ?_)))
 refine zk 5 rfl (zc rfl (rK hT s (by omega) (by simp only[aX,bq,cj];omega)) ?_)
 intro v3 h s
 refine za rfl (zv (zr rfl (zb rfl (by exact aQ (aq (by omega) (by omega))) ?_)))
 refine zm rfl (zv (WP.loop (zg rfl (zt rfl (ak rfl rfl aO) (by decide) ?_))))
 refine zk 5 rfl (WP.block (zg rfl (zo rfl (BJ rfl rfl (r:=.int .u64 (nx:Int)) (by simp only[indexV,KB,Pd,tF,sg];rfl)) ?_)))
 refine zk 5 rfl (zc rfl (rK hT s (by omega) (by simp only[aX,bq,cj];omega)) ?_)
 intro v3 h s
 refine za rfl (zv (zr rfl (zb rfl (by exact aQ (aq (by omega) (by omega))) ?_)))
 refine zm rfl (zv (WP.loop (zg rfl (zh rfl (ak rfl rfl aO) (by decide) ?_))))
 refine zk 3 rfl (WP.exit (zw ?_))
 have s0:=s
 have m7:=nM (s.buf (k:=0) rfl).view
 refine WP.drawn [af,af,af,af,some (0,2),some (0,2),some (0,2),some (0,2),none,none] rfl (by kernel_rfl) (by kernel_rfl) ?_
 refine zM rfl (zF rfl (aay _ _) (zL rfl (s.ld (k:=1) rfl bF rfl) (aB.any rfl rfl rfl rfl (OpR.call rfl rfl rfl rfl (HM hT (s.ae [0,1]) hX (by simp only[aX,bq,cj];omega))) ?_)))
 intro v4 h s
 have s:=s.ae [0,1,0]
 have s1:=s
 refine zF rfl (vY _ _) (zL rfl (s.ld (k:=1) rfl Hr rfl) (zO rfl (aD rfl rfl rfl (s.B4 (j1:=3) (j2:=4) rfl rfl lX)) (aB.op rfl rfl rfl (by simp only[isEff,eM]) (cL rfl (by exact kJ cm eM (iD (by omega) (by omega)))) ?_)))
 refine aB.any rfl rfl rfl rfl (OpR.call rfl rfl rfl rfl (rK hT s (by omega) (by simp only[aX,bq,cj];omega))) ?_
 intro v5 h s
 refine zA rfl ?_
 refine aB.nil ⟨⟨aa,aa,aa,aa,fun _ _=>.inr ⟨rfl,⟨_,mU rfl (vY _ _)⟩,bg _ rfl⟩,fV (.inr ⟨rfl,⟨_,o_load rfl (s0.ld (k:=1) rfl Hr rfl)⟩,we.2.2⟩) (.inr ⟨rfl,⟨_,o_load rfl (s1.ld (k:=1) rfl Hr rfl)⟩,we.2.2⟩),fV (.inr ⟨rfl,⟨_,aD rfl rfl rfl (s0.B4 (j1:=3) (j2:=4) rfl rfl lX)⟩,bg _ rfl⟩) (.inr ⟨rfl,⟨_,aD rfl rfl rfl (s1.B4 (j1:=3) (j2:=4) rfl rfl lX)⟩,bg _ rfl⟩),fun _ _=>.inr ⟨rfl,⟨_,cL rfl (by exact kJ cm eM (iD (by omega) (by omega)))⟩,bg _ rfl⟩,aa,aa,aa⟩,?_⟩
 refine zK 3 rfl (zY s 1 vY Hr rfl (zo rfl (aD rfl rfl rfl (s.B4 (j1:=3) (j2:=4) rfl rfl lX)) (zk 2 rfl (WP.block ?_))))
 have s:=s.ae [0,2,2,1]
 refine RZ hT jU I dh.length 0 v5 _ _ _ _ (by omega) (by rw[ij];simp only[aX,bq,cj];omega) s ⟨rfl,rfl,rfl,rfl,rfl,aa⟩ (fun E' h' sv' eN s' => ?_)
 refine WP.has (F:=[(3,sv')]) ⟨eN,aa⟩ (zK 5 rfl (WP.ret ⟨aa,_,rfl,?_⟩))
 have s'':=(s'.ae [0,2,0,0]).del 4
 dsimp only[List.cons_append,List.nil_append,List.drop,aL,bringA,getA] at s''
 simpa[gR,dA] using s''
end
def uB (bk:Nat)(b:List Nat): List Nat:=le 4 b.length++le 4 (FX bk b)++b
theorem Ag (bk:Nat)(b:List Nat): (uB bk b).length=8+b.length:=by simp[uB,cJ];omega
theorem KO : ∃i,Tryz.prog.info? 3=some i∧i.size=1∧i.bytes=8 :=
 ⟨_,(show Tryz.prog.info? 3=some ((Tryz.prog.info? 3).getD default) by kernel_rfl),by kernel_rfl,by kernel_rfl⟩
section
variable {told:cE} {p:Nat} {v:V} {m:List Nat}
theorem R1 (I:W told)(s:Sat h S)(hk:getA S k=some X)(hX:cf X (cy v l))(hl:l.length≤4611686018427387904):
  Call ⟨Tryz.prog,told⟩ 192 [.int .u64 (n:Int),v] h fun r h'=>r=.int .u32 (FX n l:Nat)∧Sat h' S :=
 (RK I.W3 s.wf (s.aC hk hX) hl).mono fun _ _ ⟨h1,h2⟩=>⟨h1,s.qg h2⟩
structure F6 (tx pv nx:Nat)(data:List Nat)(dh:List fL): Prop where
 fit:F4 dh
 tx:tx<18446744073709551616
 pv:pv<18446744073709551616
 nx:nx<18446744073709551616
 len:data.length+(dh.flatMap o_).length≤70368744177664
theorem R2 (hT:W told){ch:V}(s:Sat h (X::.arr 4 ch cs::fC cs dh::S))(hX:cf X (cy dt data))(I:F6 tx pv nx data dh):
  Call ⟨Tryz.prog,told⟩ 140 [.agg (qc kd tx pv nx dt ch),.int .u64 (bk:Int)] h fun r h' =>
  (iG kd dh=false∧r=.aT [.aR,.int .i64 1]∧Sat h' (X::.arr 4 ch cs::fC cs dh::S)) ∨
  (iG kd dh=true∧1048576<(gR kd tx pv nx data dh).length∧r=.aT [.aR,.int .i64 2]∧Sat h' (X::.arr 4 ch cs::fC cs dh::S)) ∨
  (iG kd dh=true∧(gR kd tx pv nx data dh).length≤1048576∧∃u,r=.aT [u,.int .i64 0]∧Sat h' (aU u (uB bk (gR kd tx pv nx data dh))::X::.arr 4 ch cs::fC cs dh::S)):=by
 have we:=s.tf (j:=1) rfl
 have AX:=s.aC (k:=0) rfl hX
 have eD:=B3 (kd:=kd) (tx:=tx) (pv:=pv) (nx:=nx) AX.cells.2 we.2.1
 refine Call.of_wp (hT.free _ rfl) Tryz.func140 rfl rfl (zg rfl (au.b_ s rfl rfl rfl (eU rfl eD) ?_))
 intro p1 h s
 dsimp only[V.cells] at s
 refine zk 6 rfl (zl rfl (s.b7 (k:=0) rfl Ht Aa) (zc rfl (UM hT (s.ae [2,2]) AX.cells.2 I.fit) ?_))
 rintro r h' ⟨rfl,s⟩
 cases hg:iG kd dh with
 |false =>
  exact zo rfl (dZ rfl rfl) (zk 7 rfl (WP.ret ⟨aa,_,rfl,.inl ⟨rfl,rfl,(s.ae [3,0,0]).del 3⟩⟩))
 |true =>
  refine zo rfl (dZ rfl rfl) (zk 5 rfl (zl rfl (s.b7 (k:=2) rfl Ht Aa) ?_))
  have hk:∃n:Nat,kd=n:=⟨kd.toNat,by simp[iG] at hg;omega⟩
  obtain⟨kd,rfl⟩:=hk
  refine zc rfl (UO hT (s.ae [3,0,0]) hX hg I.fit I.tx I.pv I.nx I.len) ?_
  intro u h s
  dsimp only[bringA,getA,aL] at s
  have D4:(gR kd tx pv nx data dh).length<9223372036854775808:=by
   have h1:=iF 9 tx
   have h2:=iF 9 pv
   have h3:=iF 9 nx
   have h4:=iF 9 data.length
   have h5:=iF 9 dh.length
   have h6:=I.len
   simp only[gR,aX,bq,cj]
   omega
  generalize Q9:gR kd tx pv nx data dh=bd at s D4 ⊢
  refine zk 6 rfl (zo rfl (aD rfl rfl rfl (aY aK (s.aC (k:=0) rfl (aZ _ _)))) ?_)
  by_cases KP:1048576<bd.length
  ·skip
   refine zB rfl cV (by simp;omega) ?_
   exact zk 7 rfl (WP.ret ⟨aa,_,rfl,.inr (.inl ⟨rfl,KP,rfl,(s.del 4).del 0⟩)⟩)
  ·skip
   refine zC rfl cV (by simp;omega) ?_
   refine zk 6 rfl (zo rfl (aD rfl rfl rfl (aY aK (s.aC (k:=0) rfl (aZ _ _)))) (zb rfl (by exact aQ (aq (by omega) (by omega))) ?_))
   refine au.any rfl rfl rfl (OpR.uc (c:=8+bd.length) rfl s rfl rfl rfl rfl (by omega)) ?_
   intro v h s
   refine zm rfl (zo rfl (aD rfl rfl rfl (aY aK (s.aC (k:=1) rfl (aZ _ _)))) (zo rfl (cL rfl (by exact kJ cm eM (iD (by omega) (by omega)))) ?_))
   refine zc rfl (F3 (z:=4) hT s (by decide) (by simp)) ?_
   intro v h s
   have cq:=(s.buf (k:=1) rfl).1
   refine zk 7 rfl (zc rfl (R1 (n:=bk) hT s (k:=1) rfl (aZ _ _) (by omega)) ?_)
   rintro r h ⟨rfl,s⟩
   have ja:=UF (bk:=bk) cq
   refine zo rfl (cL rfl (by exact kJ Tryz.underlying260 eM (iD (by omega) (by omega)))) ?_
   refine zc rfl (F3 (z:=4) hT s (by decide) (by simp[cJ])) ?_
   intro v h s
   refine zk 6 rfl (au.any rfl rfl rfl (OpR.qh rfl s (aZ _ _) rfl rfl rfl rfl (by simp only[aX,cJ,cj];omega)) ?_)
   intro v h s
   refine zk 3 rfl (WP.ret ⟨aa,_,rfl,?_⟩)
   refine .inr (.inr ⟨rfl,by omega,v,rfl,?_⟩)
   have s:=(s.del 5).del 1
   dsimp only[aL] at s
   simpa[uB,dA] using s
def Lg.app (μ:Lg)(b:List Nat): Lg:={ μ with b:=μ.b++b,dJ:=μ.dJ++[μ.b.length] }
theorem PD (hT:W told){ch:V}(s:Sat h (dm q p μ::bZ p δ::X::.arr 4 ch cs::fC cs dh::S))(hX:cf X (cy dt data))(cU:F6 tx pv nx data dh)
 (va:μ.Ok)(hf:δ.cM<4294967296)(hl:δ.log.length≤16777216)(hr:δ.room≤16777216):
  Call ⟨Tryz.prog,told⟩ 59 [.ptr q 0,.agg (qc kd tx pv nx dt ch)] h fun r h' =>
  (∃e:Int,r=.aT [.int .u64 0,.int .i64 e]∧((iG kd dh=false∧e=1)∨(iG kd dh=true∧1048576<(gR kd tx pv nx data dh).length∧e=2)∨(iG kd dh=true∧(gR kd tx pv nx data dh).length≤1048576∧δ.dead=true∧e=9) ∨
    (iG kd dh=true∧(gR kd tx pv nx data dh).length≤1048576∧δ.dead=false∧δ.room<δ.log.length+(uB (μ.base+μ.b.length) (gR kd tx pv nx data dh)).length∧e=7))∧Sat h' (dm q p μ::bZ p δ::X::.arr 4 ch cs::fC cs dh::S)) ∨
  (iG kd dh=true∧(gR kd tx pv nx data dh).length≤1048576∧δ.dead=false∧δ.log.length+(uB (μ.base+μ.b.length) (gR kd tx pv nx data dh)).length≤δ.room∧δ.cM=0∧r=.aT [.int .u64 0,.int .i64 9] ∧
   Sat h' (dm q p μ::bZ p { δ.die with tail:=uB (μ.base+μ.b.length) (gR kd tx pv nx data dh) }::X::.arr 4 ch cs::fC cs dh::S)) ∨
  (iG kd dh=true∧(gR kd tx pv nx data dh).length≤1048576∧δ.dead=false∧δ.log.length+(uB (μ.base+μ.b.length) (gR kd tx pv nx data dh)).length≤δ.room∧δ.cM≠0∧r=.aT [.int .u64 ((μ.base+μ.b.length:Nat):Int),.int .i64 0] ∧
   Sat h' (dm q p (μ.app (uB (μ.base+μ.b.length) (gR kd tx pv nx data dh)))::bZ p { δ.fZ with log:=δ.log++uB (μ.base+μ.b.length) (gR kd tx pv nx data dh) }::X::.arr 4 ch cs::fC cs dh::S)):=by
 have we:=s.tf (j:=3) rfl
 have AX:=s.aC (k:=2) rfl hX
 have eD:=B3 (kd:=kd) (tx:=tx) (pv:=pv) (nx:=nx) AX.cells.2 we.2.1
 have PB:=va.size
 refine Call.of_wp (hT.free _ rfl) Tryz.func59 rfl rfl (zg rfl (au.b_ s rfl rfl rfl (eU rfl eD) ?_))
 intro p1 h s
 dsimp only[V.cells] at s
 have s:=s.ae [1,0]
 refine zk 6 rfl (zc rfl (HK hT s va.size) ?_)
 rintro v h' ⟨rfl,rfl⟩
 refine zk 4 rfl (zl rfl (s.b7 (k:=1) rfl Ht Aa) (zm rfl (zc rfl (R2 (bk:=μ.base+μ.b.length) hT (s.ae [3,3,3]) hX cU) ?_)))
 generalize hrc:uB (μ.base+μ.b.length) (gR kd tx pv nx data dh)=rc
 have F7:rc.length=8+(gR kd tx pv nx data dh).length:=by rw[←hrc,Ag]
 rintro r h' (⟨hg,rfl,s⟩|⟨hg,KP,rfl,s⟩|⟨hg,yP,u,rfl,s⟩)
 ·dsimp only[bringA,getA,aL] at s
  exact zk 10 rfl (zB rfl aH (rfl) (zk 8 rfl (WP.ret ⟨aa,_,rfl,.inl ⟨1,rfl,.inl ⟨hg,rfl⟩,(s.ae [3,4,0,0,0]).del 5⟩⟩)))
 ·dsimp only[bringA,getA,aL] at s
  exact zk 10 rfl (zB rfl aH (rfl) (zk 8 rfl (WP.ret ⟨aa,_,rfl,.inl ⟨2,rfl,.inr (.inl ⟨hg,KP,rfl⟩),(s.ae [3,4,0,0,0]).del 5⟩⟩)))
 ·dsimp only[bringA,getA,aL] at s
  have cq:=(s.buf (k:=0) rfl).1
  obtain⟨lD,_,cap,_,rfl,_⟩:=s.eG (by omega)
  obtain⟨bv,sv,s⟩:=jg.1 (s.ae [4])
  refine zk 10 rfl (zC rfl aH (rfl) (zk 8 rfl (zY s 0 Nr xO rfl (zm rfl ?_))))
  have s:=s.ae [8,3]
  refine zc rfl (Pv hT s (aZ _ _) (by omega) hf (by omega) (by omega)) ?_
  rintro r h (⟨hd,rfl,s⟩|⟨hd,ve,rfl,s⟩|⟨hd,I,h0,rfl,s⟩|⟨hd,I,h0,rfl,s⟩)
  ·refine au.op rfl rfl rfl (iO rfl) ?_
   exact zk 4 rfl (zB rfl aH (rfl) (zk 8 rfl (WP.ret ⟨aa,_,rfl,.inl ⟨9,rfl,.inr (.inr (.inl ⟨hg,yP,hd,rfl⟩)),(jg.2 ⟨bv,sv,((s.ae [2,2,2,0,1,1,1]).del 8).del 7⟩)⟩⟩)))
  ·skip
   exact zk 5 rfl (zB rfl aH (rfl) (zk 8 rfl (WP.ret ⟨aa,_,rfl,.inl ⟨7,rfl,.inr (.inr (.inr ⟨hg,yP,hd,by omega,rfl⟩)),(jg.2 ⟨bv,sv,((s.ae [2,2,2,0,1,1,1]).del 8).del 7⟩)⟩⟩)))
  ·skip
   exact zk 5 rfl (zB rfl aH (rfl) (zk 8 rfl (WP.ret ⟨aa,_,rfl,.inr (.inl ⟨hg,yP,hd,I,h0,rfl,(jg.2 ⟨bv,sv,((s.ae [2,2,2,0,1,1,1]).del 8).del 7⟩)⟩)⟩)))
  ·skip
   have s:=s.ae [2,2,2,1,0,0,0,0]
   refine zk 5 rfl (zC rfl aH (rfl) (zk 4 rfl ?_))
   have s0:=s
   have hbb:=nM (s.buf (k:=1) rfl).view
   have W_:=(s.tf (j:=2) rfl).2.2
   refine WP.drawn [some (0,3),some (0,2),some (0,2),some (0,2),some (0,2),af,af,af,af,af,af,af,af,af,af] rfl (by kernel_rfl) (by kernel_rfl) ?_
   refine zM rfl (zM rfl (zN rfl (zF rfl (s_ _ _) (zL rfl (s.ld (k:=0) rfl Ek rfl) (zM rfl (zN rfl (zF rfl (nO _ _) (zL rfl (s.ld (k:=0) rfl bF rfl) (zO rfl (aD rfl rfl rfl (aY aK (s.aC (k:=1) rfl (aZ _ _)))) ?_)))))))))
   obtain⟨i1,dy,fy,o8⟩:=KO
   obtain⟨iv,h1,e1,s1⟩:=lR (P:=Tryz.prog) (k:=1) (x:=.int .i64 (μ.b.length:Int)) s gP Rw nY rfl (by decide) (by decide) rfl rfl
   dsimp only[V.cells] at s1
   refine aB.any rfl rfl rfl rfl (OpR.of (R:=fun v h'=>v=iv∧h'=h1) (ku rfl e1) ⟨rfl,rfl⟩) ?_
   rintro v h' ⟨rfl,rfl⟩
   have W7:=va.many
   obtain⟨sv',h2,e2,s2⟩:=h_ (s1.ae [3,0]) gP dy Rw fy (by omega) rfl (by decide) (by simp only[wY,bq,cj];omega)
   refine aB.any rfl rfl rfl rfl (OpR.of (R:=fun v h'=>v=sv'∧h'=h2) (j_ rfl rfl e2) ⟨rfl,rfl⟩) ?_
   rintro v h' ⟨rfl,rfl⟩
   have hv:=s2.tf (j:=0) rfl
   refine zN rfl (zF rfl (s_ _ _) (aB.mg rfl rfl rfl (OpR.yH rfl rfl rfl (s2.jS (k:=2) rfl ac9 rfl (by decide) hv.1 hv.2.1)) ?_))
   rintro v h ⟨rfl,s⟩
   refine aB.nil ⟨⟨fun _ _=>.inr ⟨rfl,⟨_,bV rfl⟩,bg _ rfl⟩,fun _ _=>.inr ⟨rfl,⟨_,bV rfl⟩,bg _ rfl⟩,fun _ _=>.inr ⟨rfl,⟨_,uW rfl⟩,bg _ rfl⟩,fun _ _=>.inr ⟨rfl,⟨_,mU rfl (s_ _ _)⟩,bg _ rfl⟩,fV (.inr ⟨rfl,⟨_,o_load rfl (s0.ld (k:=0) rfl Ek rfl)⟩,W_⟩) (.inr ⟨rfl,⟨_,o_load rfl (s1.ld (k:=1) rfl Ek rfl)⟩,W_⟩),aa,aa,aa,aa,aa,aa,aa,aa,aa,aa,aa⟩,?_⟩
   refine zK 5 rfl (zY s 2 nO bF rfl (zm rfl (au.any rfl rfl rfl (OpR.qh rfl (s.ae [3,3]) (aZ _ _) rfl rfl rfl rfl (by have:=va.len;omega)) ?_)))
   intro bv' h s
   have hv:=(s.buf (k:=0) rfl).view.cells
   refine zn rfl (zf rfl (nO _ _) (zS rfl (s.jS (k:=4) rfl dH rfl (by decide) hv.1 hv.2) ?_))
   intro h s
   refine zk 7 rfl (WP.ret ⟨aa,_,rfl,?_⟩)
   refine .inr (.inr ⟨hg,yP,hd,I,h0,rfl,jg.2 ⟨bv',v,?_⟩⟩)
   have s:=(((s.ae [4,0,1]).del 4).del 3).del 7
   have e:gB (μ.app rc).dJ=gB μ.dJ++[.int .i64 (μ.b.length:Int)]:=by simp[Lg.app,gB]
   rw[e]
   exact s
end
def Dk.jj (δ:Dk): Int×Dk:=if δ.dead=true then(9,δ) else if δ.cM=0 then(9,δ.die) else(0,{ δ.fZ with gM:=δ.log.length })
def Dk.eE (δ:Dk)(n:Int)(b:List Nat): Int×Dk:=if δ.dead=true then(9,δ) else if ¬(0≤n∧n<δ.bG.length∧b.length=512) then(1,δ) else
 if δ.cM=0 then(9,{ δ.die with HG:=some (n.toNat,b) }) else(0,δ.wr n b)
def Dk.tu (δ:Dk)(b:List Nat): Int×Dk:=if δ.dead=true then(9,δ) else if δ.room<δ.log.length+b.length then(7,δ) else if δ.cM=0 then(9,{ δ.die with tail:=b }) else(0,{ δ.fZ with log:=δ.log++b })
def Dk.tM (δ:Dk)(n:Int): Int:=if δ.dead=true then 9 else if ¬(0≤n∧n<δ.bG.length) then 1 else 0
structure Dk.Ok (δ:Dk): Prop where
 cM:δ.cM<4294967296
 len:δ.log.length≤16777216
 room:δ.room≤16777216
 now:∀e∈δ.now,e.2.length=512
 bG:∀(i:Nat) (b:List Nat),δ.bG[i]?=some (some b)→b.length=512
 gM:δ.gM≤δ.log.length
 many:δ.bG.length≤65536
theorem Dk.Ok.fZ (h:δ.Ok): δ.fZ.Ok:=⟨by have:=h.cM;simp only[Dk.fZ];split<;>omega,h.len,h.room,h.now,h.bG,h.gM,h.many⟩
theorem Dk.Ok.die (h:δ.Ok): δ.die.Ok:=⟨h.cM,h.len,h.room,h.now,h.bG,h.gM,h.many⟩
theorem Dk.Ok.jj (h:δ.Ok): δ.jj.2.Ok:=by
 unfold Dk.jj
 split
 ·exact h
 ·split
  ·exact h.die
  ·exact⟨h.fZ.cM,h.len,h.room,h.now,h.bG,aI _,h.many⟩
theorem nZ {n:Int}{x:α}: ∀ {l:List (Int×α)},lookL n l=some x→(n,x)∈l:=by
 intro l
 induction l<;>grind[lookL]
theorem Dk.Ok.at (I:δ.Ok)(n:Int): (δ.at n).length=512:=by
 unfold Dk.at
 cases h1:lookL n δ.now with
 |some b=>exact I.now _ (nZ h1)
 |none =>
  cases h2:δ.bG[n.toNat]? with
  |none=>grind
  |some o =>
   cases o with
   |none=>grind
   |some b=>exact I.bG _ _ h2
section
variable {told:cE} {p:Nat} {v:V}
theorem YG (I:W told){n:Int}(s:Sat h (bZ p δ::X::S))(hX:cf X (cy x b))(hb:b.length<1073741824)(hf:δ.cM<4294967296)(hw:δ.waiting.length≤268435456):
  Call ⟨Tryz.prog,told⟩ 183 [.ptr p 0,.int .i64 n,x] h fun v h'=>v=.int .i64 (δ.eE n b).1∧Sat h' (bZ p (δ.eE n b).2::X::S):=by
 refine(RO I s hX hb hf hw).mono fun v h' hr => ?_
 grind[Dk.eE]
theorem R3 (hT:W told){n:Int}(s:Sat h (bZ p δ::S))(I:δ.Ok): Call ⟨Tryz.prog,told⟩ 148 [.ptr p 0,.int .i64 n] h fun v h' =>
  (δ.tM n≠0∧v=.aT [.aR,.int .i64 (δ.tM n)]∧Sat h' (bZ p δ::S))∨(δ.tM n=0∧∃u,v=.aT [u,.int .i64 0]∧Sat h' (aU u (δ.at n)::bZ p δ::S)):=by
 refine(UG hT s (I.at n)).mono fun v h' hr => ?_
 grind[Dk.tM]
end
abbrev LD := Lg×Dk
def cO (x:LD)(n:Nat): Int×LD:=if n<x.1.base+x.1.forced then(0,x) else if x.2.jj.1≠0 then(x.2.jj.1,(x.1,x.2.jj.2)) else(0,({ x.1 with forced:=x.1.b.length },x.2.jj.2))
def iH (μ:Lg)(kd:Int)(tx pv nx:Nat)(data:List Nat)(dh:List fL): List Nat:=uB (μ.base+μ.b.length) (gR kd tx pv nx data dh)
def b6 (x:LD)(kd:Int)(tx pv nx:Nat)(data:List Nat)(dh:List fL): (Nat×Int)×LD :=
 if iG kd dh=false then((0,1),x) else if 1048576<(gR kd tx pv nx data dh).length then((0,2),x) else
 if (x.2.tu (iH x.1 kd tx pv nx data dh)).1≠0 then((0,(x.2.tu (iH x.1 kd tx pv nx data dh)).1),(x.1,(x.2.tu (iH x.1 kd tx pv nx data dh)).2)) else
 ((x.1.base+x.1.b.length,0),(x.1.app (iH x.1 kd tx pv nx data dh),(x.2.tu (iH x.1 kd tx pv nx data dh)).2))
theorem My : δ.jj.2.waiting=δ.waiting:=by
 unfold Dk.jj
 split
 ·rfl
 ·split<;>rfl
theorem B5 {x:LD}: (cO x n).2.2.waiting=x.2.waiting:=by
 grind[cO,My]
theorem Dk.Ok.eE {n:Int}(h:δ.Ok): (δ.eE n b).2.Ok:=by
 unfold Dk.eE
 split
 ·exact h
 ·split
  ·exact h
  ·split
   ·exact⟨h.cM,h.len,h.room,h.now,h.bG,h.gM,h.many⟩
   ·refine⟨h.fZ.cM,h.len,h.room,fun e he => ?_,h.bG,h.gM,h.many⟩
    have:∀l:List (Int×List Nat),(∀e∈l,e.2.length=512)→∀e∈cD n b l,e.2.length=512:=by
     intro l
     induction l<;>grind[cD]
    exact this δ.now h.now e he
theorem vf {x:LD}(h:x.2.Ok): (cO x n).2.2.Ok:=by
 unfold cO
 split
 ·exact h
 ·split
  ·exact h.jj
  ·exact h.jj
theorem Lg.Ok.YH (h:μ.Ok): ({ μ with forced:=μ.b.length }:Lg).Ok:=⟨h.size,h.many,h.low,h.HJ,aI _,h.len,h.check⟩
theorem Mz {x:LD}(h:x.1.Ok): (cO x n).2.1.Ok:=by
 unfold cO
 split
 ·exact h
 ·split
  ·exact h
  ·exact h.YH
section
variable {told:cE} {p:Nat} {v:V}
theorem YI (hT:W told)(s:Sat h (dm q p μ::bZ p δ::S))(I:μ.Ok)(hf:δ.cM<4294967296): Call ⟨Tryz.prog,told⟩ 103 [.ptr q 0,.int .u64 (n:Int)] h fun v h' =>
  v=.int .i64 (cO (μ,δ) n).1∧Sat h' (dm q p (cO (μ,δ) n).2.1::bZ p (cO (μ,δ) n).2.2::S):=by
 refine(RW hT s I hf).mono fun v h' hr => ?_
 grind[cO,Dk.jj]
theorem UP (hT:W told){ch:V}(s:Sat h (dm q p μ::bZ p δ::X::.arr 4 ch cs::fC cs dh::S))(hX:cf X (cy dt data))(cU:F6 tx pv nx data dh)(va:μ.Ok)(I:δ.Ok):
  Call ⟨Tryz.prog,told⟩ 59 [.ptr q 0,.agg (qc kd tx pv nx dt ch)] h fun r h' =>
  r=.aT [.int .u64 ((b6 (μ,δ) kd tx pv nx data dh).1.1:Nat),.int .i64 (b6 (μ,δ) kd tx pv nx data dh).1.2] ∧
  Sat h' (dm q p (b6 (μ,δ) kd tx pv nx data dh).2.1::bZ p (b6 (μ,δ) kd tx pv nx data dh).2.2::X::.arr 4 ch cs::fC cs dh::S):=by
 refine(PD hT s hX cU va I.cM I.len I.room).mono fun v h' hr => ?_
 grind[b6,Dk.tu,iH]
end
structure Fm where
 bM:Int
 b:List Nat
 pins:Int
 gN:Bool
 changed:Bool
structure Pl where
 aj:List Fm
 bY:List (Int×Int)
 dU:List (Int×(Nat×Bool))
 hand:Nat
variable {π cz:Pl}
def ir (f:Fm)(v:V): List V:=[.int .i64 f.bM,v,.int .i64 f.pins,.bool f.gN,.bool f.changed]
def wg : List V→List Fm→aE
 |[],[]=>.pu True
 |a::v::c::d::e::l,x::m=>.an (.an (.pu (a=.int .i64 x.bM∧c=.int .i64 x.pins∧d=.bool x.gN∧e=.bool x.changed)) (.cg v x.b)) (wg l m)
 |_,_=>.pu False
theorem aJ.fm : ∀(m:List Fm) (l:List V),aJ (wg l m):=by
 intro m
 induction m with
 |nil=>intro l;rcases l with _|⟨a,_|⟨b,_|⟨c,_|⟨d,_|⟨e,l⟩⟩⟩⟩⟩<;>exact aJ.pu _
 |cons x m I=>intro l;rcases l with _|⟨a,_|⟨b,_|⟨c,_|⟨d,_|⟨e,l⟩⟩⟩⟩⟩<;>first|exact aJ.pu _|exact aJ.an (aJ.an (aJ.pu _) (aJ.cg _ _)) (I l)
theorem B6 {a b:PM}: ∀ {m:List Fm} {l:List V} {i:Nat} {f:Fm},(wg l m).p a b→m[i]?=some f→∃pre v post,l=pre++(ir f v++post)∧pre.length=i*5∧(aE.cg v f.b).p a b ∧
  (∀(f':Fm) (v':V) (I b':PM),(aE.cg v' f'.b).p I b'→PM.le a I→PM.le b b'→(wg (pre++(ir f' v'++post)) (m.set i f')).p I b'):=by
 intro m
 induction m with
 |nil=>intro l i f h hc;simp at hc
 |cons x m ih =>
  intro l i f h hc
  rcases l with _|⟨p,_|⟨q,_|⟨w,_|⟨d,_|⟨e,l⟩⟩⟩⟩⟩<;>first|exact h.elim|skip
  obtain⟨⟨⟨h1,h2,h3,h4⟩,h5⟩,h6⟩:=h
  cases i with
  |zero =>
   simp at hc
   subst hc
   refine⟨[],q,l,?_,rfl,h5,fun f' v' I b' hv ha hb=>⟨⟨⟨rfl,rfl,rfl,rfl⟩,hv⟩,(wg l m).mono _ _ _ _ ha hb h6⟩⟩
   rw[h1,h2,h3,h4];rfl
  |succ i =>
   simp at hc
   obtain⟨pre,v,post,e1,e2,e3,e4⟩:=ih h6 hc
   refine⟨p::q::w::d::e::pre,v,post,?_,?_,e3,fun f' v' I b' hv ha hb=>⟨⟨⟨h1,h2,h3,h4⟩,aE.mono _ _ _ _ _ ha hb h5⟩,e4 f' v' I b' hv ha hb⟩⟩
   ·rw[e1];rfl
   ·simp only[bq,e2];omega
theorem YJ {a b:PM}: ∀ {m:List Fm} {l:List V},(wg l m).p a b→l.length=m.length*5:=by
 intro m
 induction m with
 |nil=>intro l h;rcases l with _|⟨a,_|⟨b,_|⟨c,_|⟨d,_|⟨e,l⟩⟩⟩⟩⟩<;>first|rfl|exact h.elim
 |cons x m I =>
  intro l h
  rcases l with _|⟨a,_|⟨b,_|⟨c,_|⟨d,_|⟨e,l⟩⟩⟩⟩⟩<;>first|exact h.elim|skip
  have:=I h.2
  simp only[bq]
  omega
def fT (dO:Nat)(m:List Fm): aE:=xs fun cs:List V=>star [pt dO (.cells (m.length*5) cs false),wg cs m]
abbrev KQ (v:V)(m:List (Int×Int)): aE:=uA (fun v x=>.pu (v=.int .i64 x)) v m
abbrev NI (v:V)(m:List (Int×(Nat×Bool))): aE:=uA (fun v x=>.pu (v=.agg [.int .u64 (x.1:Int),.bool x.2])) v m
def sC (p q dO n:Nat)(wh di:V)(hand:Nat): List V:=[.ptr p 0,.ptr q 0,.sl dO 0 n (.exact n),wh,di,.int .i64 (hand:Int)]
def gn (r p q:Nat)(π:Pl): aE:=xs fun dO:Nat=>xs fun wh:V=>xs fun di:V =>
 star [pt r (.cells 6 (sC p q dO π.aj.length wh di π.hand) false),fT dO π.aj,KQ wh π.bY,NI di π.dU]
section
variable {p:Nat} {v:V} {m:List Fm}
theorem gO : Sat h (gn r p q π::S)↔∃dO wh di,Sat h (pt r (.cells 6 (sC p q dO π.aj.length wh di π.hand) false)::fT dO π.aj::KQ wh π.bY::NI di π.dU::S):=by
 simp only[gn,jv,cK,fF,dG]
theorem lE : Sat h (fT dO m::S)↔∃cs,Sat h (pt dO (.cells (m.length*5) cs false)::wg cs m::S):=by
 simp only[fT,jv,cK,fF,dG]
theorem ke {f:Fm}(s:Sat h (fT dO m::S))(hf:m[i]?=some f): ∃pre v post,pre.length=i*5∧(pre++(ir f v++post)).length=m.length*5 ∧
  Sat h (pt dO (.cells (m.length*5) (pre++(ir f v++post)) false)::wg (pre++(ir f v++post)) m::.cg v f.b::S):=by
 obtain⟨cs,s⟩:=lE.1 s
 obtain⟨a,b,q1,q2,q3⟩:=s.at (k:=1) rfl
 obtain⟨pre,v,post,e1,e2,e3,_⟩:=B6 q3 hf
 have hl:=YJ q3
 subst e1
 refine⟨pre,v,post,e2,hl,?_⟩
 have s1:Sat h (wg (pre++(ir f v++post)) m::pt dO (.cells (m.length*5) (pre++(ir f v++post)) false)::S):=s.ae [1]
 have s2:=(s1.dup (aJ.fm _ _)).dQ (B:=.cg v f.b) fun a' b' h'=>by
  obtain⟨adp,v',I,wj,sB,e3',_⟩:=B6 h' hf
  have:=G4 wj (by omega)
  obtain⟨_,h5⟩:=this
  have h6:=dn (fun l=>l[1]?) h5
  simp[ir] at h6
  subst h6
  exact e3'
 exact s2.ae [2,1,0]
theorem iB {f f':Fm}{pre:List V}(s:Sat h (pt dO (.cells n (pre++(ir f' v'++post)) false)::wg (pre++(ir f v++post)) m::.cg v' f'.b::S))(hn:n=m.length*5)(hf:m[i]?=some f)(hp:pre.length=i*5): Sat h (fT dO (m.set i f')::S):=by
 subst hn
 have s1:Sat h (wg (pre++(ir f v++post)) m::.cg v' f'.b::pt dO (.cells (m.length*5) (pre++(ir f' v'++post)) false)::S):=s.ae [1,1,0]
 have s2:=s1.two (C:=wg (pre++(ir f' v'++post)) (m.set i f')) (aJ.fm _ _) (aJ.cg _ _) fun a b h1 h2=>by
  obtain⟨adp,v0,I,wj,sB,e3',e4'⟩:=B6 h1 hf
  obtain⟨h3,h4⟩:=G4 wj (by omega)
  subst h3
  have h5:post=I:=by
   have:=G4 h4 (by simp[ir])
   exact this.2
  subst h5
  exact e4' f' v' a b h2 (PM.le_refl _) (PM.le_refl _)
 refine lE.2 ⟨pre++(ir f' v'++post),?_⟩
 rw[cI]
 exact s2.ae [1]
theorem jM {pre row:List V}(hp:pre.length=a)(I:nth row j=some x): nth (pre++(row++post)) (a+j)=some x:=by
 rw[gF] at I ⊢
 have IL:=(List.getElem?_eq_some_iff.1 I).1
 rw[ie (by omega),show a+j-pre.length=j by omega,sU IL,I]
theorem YK {pre row:List V}(hp:pre.length=a)(I:j<row.length): (pre++(row++post)).set (a+j) x=pre++(row.set j x++post):=by
 rw[List.set_append_right _ _ (by omega),show a+j-pre.length=j by omega,List.set_append_left _ _ I]
theorem Sat.stM {pre row:List V}(s:Sat h S)(hk:getA S k=some (pt id (.cells n (pre++(row++post)) false)))(hs:bp P t=some 1)(hp:pre.length=a)(hl:(pre++(row++post)).length=n)(hj:j<row.length)(hv:x.cells=[x])(I:storable x=true):
  ∃h₁,jR P h t (.ptr id (a+j)) x=some h₁∧Sat h₁ (setA S k (pt id (.cells n (pre++(row.set j x++post)) false))):=by
 have:=s.jS (P:=P) (t:=t) (off:=a+j) (v:=x) hk hs hl (by rw[←hl];simp;omega) hv I
 rwa [YK hp hj] at this
theorem Sat.Xa {pre row row':List V}(s:Sat h S)(hk:getA S k=some (pt id (.cells n (pre++(row++post)) false)))(hs:bp P t=some row'.length)(hp:pre.length=a)(hl:(pre++(row++post)).length=n)(hr:row'.length=row.length)(I:row'.all storable=true):
  ∃h₁,jR P h t (.ptr id a) (.agg row')=some h₁∧Sat h₁ (setA S k (pt id (.cells n (pre++(row'++post)) false))):=by
 have:=s.stN (P:=P) (t:=t) (off:=a) (l:=row') hk hs hl (by rw[←hl];simp;omega) I
 have e:(pre++(row++post)).take a++(row'++(pre++(row++post)).drop (a+row'.length))=pre++(row'++post):=by
  rw[gq hp,yj,pI (by omega),dG,show a+row'.length-pre.length=row.length by omega,vq rfl]
 rwa [e] at this
theorem ldF {pre row:List V}(s:Sat h S)(I:getA S k=some (pt id (.cells n (pre++(row++post)) false)))(ht:isAggT P t=some true)(hs:bp P t=some row.length)(hp:pre.length=a)(hl:(pre++(row++post)).length=n): loadV P h t (.ptr id a)=some (.agg row):=by
 rw[ldN ht hs (s.row I) hl (by rw[←hl];simp;omega),vq hp,gq rfl]
end
abbrev bE := Pl×LD
variable {ε ag:bE}
def vJ (π:Pl)(n:Int): Nat:=match lookL n π.dU with
 |some x=>x.1
 |none=>0
def outF (ε:bE)(i:Nat): Int×bE:=match ε.1.aj[i]? with
 |none=>(0,ε)
 |some f=>if f.bM<0∨f.changed=false then(0,ε) else if cF f.b=false then(4,ε) else
  if (cO ε.2 (dI f.b 4 8)).1≠0 then((cO ε.2 (dI f.b 4 8)).1,(ε.1,(cO ε.2 (dI f.b 4 8)).2)) else
  if ((cO ε.2 (dI f.b 4 8)).2.2.eE f.bM f.b).1≠0 then(((cO ε.2 (dI f.b 4 8)).2.2.eE f.bM f.b).1,(ε.1,((cO ε.2 (dI f.b 4 8)).2.1,((cO ε.2 (dI f.b 4 8)).2.2.eE f.bM f.b).2))) else
  (0,({ ε.1 with aj:=ε.1.aj.set i { f with changed:=false },dU:=cD f.bM (vJ ε.1 f.bM,false) ε.1.dU },((cO ε.2 (dI f.b 4 8)).2.1,((cO ε.2 (dI f.b 4 8)).2.2.eE f.bM f.b).2)))
section
variable {told:cE} {p:Nat} {v:V}
theorem aaN (hT:W told){f:Fm}(s:Sat h (pt r (.cells 6 (sC p q dO π.aj.length wh di π.hand) false)::fT dO π.aj::KQ wh π.bY::NI di π.dU::dm q p μ::bZ p δ::S))(hi:π.aj[i]?=some f)(va:μ.Ok)(UQ:δ.Ok)(ko:f.b.length<1073741824)(hw:δ.waiting.length≤268435456):
  Call ⟨Tryz.prog,told⟩ 147 [.ptr r 0,.ptr dO (i*5)] h fun v h'=>v=.int .i64 (outF (π,μ,δ) i).1 ∧
   Sat h' (pt r (.cells 6 (sC p q dO (outF (π,μ,δ) i).2.1.aj.length wh di (outF (π,μ,δ) i).2.1.hand) false)::fT dO (outF (π,μ,δ) i).2.1.aj::KQ wh (outF (π,μ,δ) i).2.1.bY::NI di (outF (π,μ,δ) i).2.1.dU::dm q p (outF (π,μ,δ) i).2.2.1::bZ p (outF (π,μ,δ) i).2.2.2::S):=by
 have s00:=s
 obtain⟨pre,fv,post,I,hlen,s⟩:=ke (s.ae [1]) hi
 have hfv:=(s.aC (k:=2) rfl (bj _ _))
 refine Call.of_wp (hT.free _ rfl) Tryz.func147 rfl rfl (zK 9 rfl (zf rfl (rG _ _) (zl rfl (s.ld (k:=0) rfl b9 (jM I rfl)) ?_)))
 refine zd rfl (ak rfl rfl aO) ?_ ?_
 ·intro hq
  have hq:f.bM<0:=by simpa using hq
  have he:outF (π,μ,δ) i=(0,(π,μ,δ)):=by simp only[outF,hi];rw[ay (.inl hq)]
  rw[he]
  exact zk 13 rfl (WP.ret ⟨aa,_,rfl,rfl,s00⟩)
 ·intro hq
  have hq:¬ f.bM<0:=by simpa using hq
  refine zk 3 rfl (zf rfl (HC _ _) (zl rfl (s.ld (k:=0) rfl r_ (jM I rfl)) ?_))
  have RC:f.changed=false∨f.changed=true:=by cases f.changed<;>simp
  rcases RC with hc|hc
  ·have he:outF (π,μ,δ) i=(0,(π,μ,δ)):=by simp only[outF,hi];rw[ay (.inr hc)]
   rw[he]
   refine zt rfl (dZ rfl rfl) (by rw[hc];rfl) ?_
   exact zk 7 rfl (WP.ret ⟨aa,_,rfl,rfl,s00⟩)
  ·have he:outF (π,μ,δ) i=(if cF f.b=false then(4,(π,μ,δ)) else
    if (cO (μ,δ) (dI f.b 4 8)).1≠0 then((cO (μ,δ) (dI f.b 4 8)).1,(π,(cO (μ,δ) (dI f.b 4 8)).2)) else
    if ((cO (μ,δ) (dI f.b 4 8)).2.2.eE f.bM f.b).1≠0 then(((cO (μ,δ) (dI f.b 4 8)).2.2.eE f.bM f.b).1,(π,((cO (μ,δ) (dI f.b 4 8)).2.1,((cO (μ,δ) (dI f.b 4 8)).2.2.eE f.bM f.b).2))) else
    (0,({ π with aj:=π.aj.set i { f with changed:=false },dU:=cD f.bM (vJ π f.bM,false) π.dU },((cO (μ,δ) (dI f.b 4 8)).2.1,((cO (μ,δ) (dI f.b 4 8)).2.2.eE f.bM f.b).2)))):=by
    simp only[outF,hi];rw[ai (by rw[hc];simp;omega)]
   rw[he]
   refine zh rfl (dZ rfl rfl) (by rw[hc];rfl) ?_
   refine zk 8 rfl (zf rfl (Ds _ _) (zl rfl (s.ld (k:=0) rfl bF (jM I rfl)) (zc rfl (HI hT (s.ae [2]) (bj _ _) (by omega)) ?_)))
   rintro w h ⟨s,(⟨hg,rfl⟩|⟨hg,rfl⟩)⟩
   ·dsimp only[bringA,getA,aL] at s
    rw[ai (by rw[hg];decide)]
    have UR:(cO (μ,δ) (dI f.b 4 8)).2.2.Ok:=vf UQ
    have hxw:(cO (μ,δ) (dI f.b 4 8)).2.2.waiting.length≤268435456:=by rw[B5];exact hw
    have Fy:=YI (n:=dI f.b 4 8) hT (s.ae [6,6]) va UQ.cM
    generalize cO (μ,δ) (dI f.b 4 8)=x at Fy UR hxw ⊢
    obtain⟨xe,xl,xd⟩:=x
    dsimp only at Fy UR hxw ⊢
    refine zk 16 rfl (zC rfl aH (rfl) (zk 8 rfl (zY s 3 Yp Uq rfl (zm rfl (zc rfl (Fy) ?_)))))
    rintro w h ⟨rfl,s⟩
    refine zk 5 rfl ?_
    by_cases hx:xe=0
    ·subst hx
     rw[ai (by decide)]
     refine zC rfl aH (rfl) ?_
     have FN:=fun(s:Sat h (bZ p xd::.cg fv f.b::dm q p xl::pt dO (.cells (π.aj.length*5) (pre++(ir f fv++post)) false)::wg (pre++(ir f fv++post)) π.aj::pt r (.cells 6 (sC p q dO π.aj.length wh di π.hand) false)::KQ wh π.bY::NI di π.dU::S))=>YG (n:=f.bM) hT s (bj fv f.b) ko UR.cM hxw
     generalize xd.eE f.bM f.b=y at FN ⊢
     obtain⟨ye,yd⟩:=y
     dsimp only at FN ⊢
     have s:=s.ae [1,1,0]
     refine zk 5 rfl (WP.drawn [af,af,af,af,af,af,af,af,af,af,af,af,af,af] rfl (by kernel_rfl) (by kernel_rfl) ?_)
     refine zM rfl (zN rfl (zF rfl (Dr _ _) (zL rfl (s.ld (k:=5) rfl xO rfl) (zM rfl (zN rfl (zF rfl (rG _ _) (zL rfl (s.ld (k:=3) rfl b9 (jM I rfl)) (zM rfl (zN rfl (zF rfl (Ds _ _) (zL rfl (s.ld (k:=3) rfl bF (jM I rfl)) (aB.any rfl rfl rfl rfl (OpR.call rfl rfl rfl rfl (FN s)) ?_))))))))))))
     rintro w h ⟨rfl,s⟩
     refine zA rfl ?_
     refine aB.nil ⟨⟨aa,aa,aa,aa,aa,aa,aa,aa,aa,aa,aa,aa,aa,aa,aa⟩,?_⟩
     refine zK 3 rfl ?_
     by_cases hy:ye=0
     ·subst hy
      rw[ai (by decide)]
      refine zC rfl aH (rfl) (zk 7 rfl (zf rfl (HC _ _) (zS rfl (s.stM (k:=3) (j:=4) rfl BP I hlen (by simp[ir]) rfl rfl) ?_)))
      intro h s
      have e5:(ir f fv).set 4 (.bool false)=ir { f with changed:=false } fv:=rfl
      rw[e5] at s
      have s:=s.ae [7,3,4]
      refine zk 2 rfl (WP.drawn [af,af,af,af,af,af,af,af,af,af,af,af,af,af,af,af,af,af,af,af] rfl (by kernel_rfl) (by kernel_rfl) ?_)
      refine zM rfl (zN rfl (zF rfl (vI _ _) (zL rfl (s.ld (k:=2) rfl Dq rfl) (zM rfl (zN rfl (zF rfl (rG _ _) (zL rfl (s.ld (k:=1) rfl b9 (jM I rfl)) (zM rfl (zN rfl (zF rfl (vI _ _) (zL rfl (s.ld (k:=2) rfl Dq rfl) (zM rfl (zN rfl (zF rfl (rG _ _) (zL rfl (s.ld (k:=1) rfl b9 (jM I rfl)) ?_)))))))))))))))
      have PE:∃b,gL Tryz.prog h 213 di (.int .i64 f.bM) false=some (.agg [.int .u64 (vJ π f.bM:Nat),.bool b]):=by
       rcases rH (f:=fun v (x:Nat×Bool)=>.pu (v=.agg [.int .u64 (x.1:Int),.bool x.2])) (n:=f.bM) (fun _ _=>aJ.pu _) s FU cm Du with⟨g1,_,g3⟩|⟨u,x,g1,_,g3,s'⟩
       ·exact⟨false,by rw[g3];simp only[vJ,g1];rfl⟩
       ·obtain⟨rfl,_⟩:=r8.1 s'
        exact⟨x.2,by rw[g3];simp only[vJ,g1]⟩
      obtain⟨lb,PE⟩:=PE
      refine zO rfl (lW rfl rfl PE) (zO rfl (abM rfl (abO (Yq _) rfl)) (zO rfl (cQ rfl (by rw[ab3];rfl)) ?_))
      refine aB.mg rfl rfl rfl (OpR.mapUpdate rfl rfl rfl rfl (qK (f:=fun v (x:Nat×Bool)=>.pu (v=.agg [.int .u64 (x.1:Int),.bool x.2])) (x:=(vJ π f.bM,false)) (fun _ _=>aJ.pu _) (s.gQ rfl) FU cm)) ?_
      intro w h s
      refine aB.nil ⟨⟨aa,aa,aa,aa,aa,aa,aa,aa,aa,aa,aa,aa,aa,aa,aa,aa,aa,aa,aa,aa,aa⟩,?_⟩
      refine zK 4 rfl (WP.ret ⟨aa,_,rfl,?_⟩)
      refine⟨rfl,?_⟩
      have s:=iB (i:=i) (f':={ f with changed:=false }) (s.ae [1,5,3]) rfl hi I
      have e6:(π.aj.set i { f with changed:=false }).length=π.aj.length:=cI
      rw[e6]
      exact s.ae [2,0,3,0,1,0]
     ·rw[ay hy]
      refine zB rfl aH (by simp;exact hy) ?_
      refine zk 7 rfl (WP.ret ⟨aa,_,rfl,?_⟩)
      refine⟨rfl,?_⟩
      have s:=lE.2 ⟨_,s.ae [3,3]⟩
      exact(s.del 2).ae [3,0,2,2,1,0]
    ·rw[ay hx]
     refine zB rfl aH (by simp;exact hx) ?_
     refine zk 7 rfl (WP.ret ⟨aa,_,rfl,?_⟩)
     refine⟨rfl,?_⟩
     have s:=lE.2 ⟨_,s.ae [3,3]⟩
     exact(s.del 3).ae [3,0,2,2,0,0]
   ·dsimp only[bringA,getA,aL] at s
    rw[ay hg]
    refine zk 16 rfl (zB rfl aH (rfl) (zk 7 rfl (WP.ret ⟨aa,_,rfl,?_⟩)))
    refine⟨rfl,?_⟩
    have s:=lE.2 ⟨_,s.ae [1,1]⟩
    exact(s.del 1).ae [1,0]
end
structure gY (π cz:Pl): Prop where
 bY:cz.bY=π.bY
 dU:cz.dU=π.dU
 len:cz.aj.length=π.aj.length
 get:∀(i:Nat) (f:Fm),π.aj[i]?=some f→∃t,cz.aj[i]?=some { f with gN:=t }
theorem gY.refl (π:Pl): gY π π:=⟨rfl,rfl,rfl,fun _ f h=>⟨f.gN,h⟩⟩
theorem gY.trans {I:Pl}(a:gY π cz)(b:gY cz I): gY π I:=by
 refine⟨b.bY.trans a.bY,b.dU.trans a.dU,b.len.trans a.len,fun i f h => ?_⟩
 obtain⟨t,ht⟩:=a.get i f h
 obtain⟨t',ht'⟩:=b.get i _ ht
 exact⟨t',ht'⟩
theorem gY.hand : gY π { π with hand:=n }:=⟨rfl,rfl,rfl,fun _ f h=>⟨f.gN,h⟩⟩
theorem gY.YL {f:Fm}(hi:π.aj[i]?=some f): gY π { π with aj:=π.aj.set i { f with gN:=false } }:=by
 refine⟨rfl,rfl,cI,fun j g I => ?_⟩
 by_cases h:i=j
 ·subst h
  rw[hi] at I
  have:=bW I
  subst this
  have hl:=(List.getElem?_eq_some_iff.1 hi).1
  exact⟨false,by simp[vl,hl]⟩
 ·exact⟨g.gN,by simp only[vl,ai h];exact I⟩
theorem PF {x:Operand}{b:Nat}(I:0<b): binV P h .rem t x y (.int .i64 (a:Int)) (.int .i64 (b:Int))=some (.int .i64 ((a%b:Nat):Int)):=by
 simp only[binV,ikBeq,ah,intV]
 have:intBeq (b:Int) 0=false:=by rw[sq];simp;omega
 rw[this,aV,Int.tmod_eq_emod_of_nonneg (by omega)]
 rfl
section
variable {told:cE} {p:Nat} {v:V} {m:List Fm}
theorem pn (hi:i<n): indexAddrV Tryz.prog 211 (.sl dO 0 n (.exact n)) (.int .i64 (i:Int))=some (.ptr dO (i*5)):=by
 rw[abZ,show(decide ((0:Int)≤(i:Int))&&decide ((i:Int)<(n:Int)))=true by simp;omega,ah]
 simp
theorem MA (I:W told){f:Fm}(s:Sat h S)(hv:storable v=true): Call ⟨Tryz.prog,told⟩ 198 [.agg (ir f v)] h fun w h'=>w=.bool (decide (f.pins=0))∧Sat h' S:=by
 refine Call.of_wp (I.free _ rfl) Tryz.func198 rfl rfl (zg rfl (au.b_ s rfl rfl rfl (eU rfl (by simp only[V.cells,ir,kD,lP,hv];rfl)) ?_))
 intro p1 h s
 dsimp only[V.cells,ir] at s
 exact zk 4 rfl (zY s 0 tc b9 rfl (zb rfl c8 (zk 2 rfl (WP.ret ⟨aa,_,rfl,rfl,s.drop⟩))))
theorem US (hT:W told){f:Fm}(s:Sat h (fT dO m::S))(h0:m[0]?=some f)(hp:f.pins=0): Call ⟨Tryz.prog,told⟩ 223 [.sl dO 0 m.length (.exact m.length),.fn (.func 198) [] []] h fun w h'=>w=.int .i64 0∧Sat h' (fT dO m::S):=by
 have hl:=(List.getElem?_eq_some_iff.1 h0).1
 obtain⟨pre,fv,post,I,hlen,s⟩:=ke s h0
 have eD:=(s.aC (k:=2) rfl (bj _ _)).cells.2
 refine Call.of_wp (hT.free _ rfl) Tryz.func223 rfl rfl (zK 8 rfl (zo rfl (aD rfl rfl rfl (tg rfl BY)) (zk 2 rfl (WP.block (WP.loop (zg rfl (zB rfl aO (by simp;omega) ?_)))))))
 refine zk 5 rfl (WP.block (zK 10 rfl (zo rfl (bS rfl rfl (pn (i:=0) hl)) (zl rfl (ldF s (k:=0) rfl ab1 FL I hlen) (zc rfl (MA hT s eD) ?_)))))
 rintro w h ⟨rfl,s⟩
 rw[dB hp]
 exact zk 7 rfl (WP.ret ⟨aa,_,rfl,rfl,(lE.2 ⟨_,s⟩).del 1⟩)
theorem MB (I:W told){f:Fm}(s:Sat h (fT dO m::S))(h0:m[0]?=some f)(hp:f.pins=0): Call ⟨Tryz.prog,told⟩ 197 [.sl dO 0 m.length (.exact m.length),.fn (.func 198) [] []] h fun w h'=>w=.bool true∧Sat h' (fT dO m::S):=by
 refine Call.of_wp (I.free _ rfl) Tryz.func197 rfl rfl (zK 8 rfl (zc rfl (US I s h0 hp) ?_))
 rintro w h ⟨rfl,s⟩
 refine zB rfl mV (by decide) ?_
 exact zk 2 rfl (WP.ret ⟨aa,_,rfl,rfl,s⟩)
noncomputable def fdA : Code:=eu [1,0,0,1,0,0] ((Tryz.f146.body).getD .skip)
noncomputable def fdB : Code:=eu [1,0,1,1,1,0,0] ((Tryz.f146.body).getD .skip)
theorem MC {hand:Nat}: ∀(j i:Nat) (h:H) (E:List (Nat×V)) (Q:Ex→List (Nat×V)→H→Prop),i+j=m.length→m.length<4294967296 →
  Sat h (pt r (.cells 6 (sC p q dO m.length wh di hand) false)::fT dO m::S)→Has E [(0,.ptr r 0),(10,.int .i64 m.length),(11,.int .i64 i)] →
  (∀E' (i:Nat) (f:Fm),m[i]?=some f→f.bM<0→look E' 2=some (.int .i64 (i:Int))→Q .ret E' h) →
  (∀E',Has E' [(0,.ptr r 0)]→Q (.exit 0) E' h)→WP ⟨Tryz.prog,told⟩ 70 (.loop fdA) E h Q:=by
 intro j
 induction j with
 |zero =>
  intro i h E Q hi hm s hE hr hx
  refine WP.loop (WP.has hE (zg rfl (zC rfl aO (by simp;omega) ?_)))
  exact zk 3 rfl (WP.exit (hx _ ⟨rfl,aa⟩))
 |succ j ih =>
  intro i h E Q hi hm s hE hr hx
  have hc:m[i]?=some (m[i]'(by omega)):=aG _
  generalize (m[i]'(by omega))=f at hc
  obtain⟨pre,fv,post,I,hlen,s'⟩:=ke (s.ae [1]) hc
  refine WP.loop (WP.has hE (zg rfl (zB rfl aO (by simp;omega) ?_)))
  refine zk 5 rfl (WP.block (zK 9 rfl (zY s 0 nP sj rfl (zm rfl (zo rfl (bS rfl rfl (pn (i:=i) (by omega))) ?_)))))
  refine zf rfl (rG _ _) (zl rfl (s'.ld (k:=0) rfl b9 (jM I rfl)) ?_)
  refine zd rfl (ak rfl rfl aO) ?_ ?_
  ·intro hq
   have hq:f.bM<0:=by simpa using hq
   exact zk 7 rfl (WP.ret (hr _ i f hc hq rfl))
  ·intro hq
   refine zv (zj rfl (WP.skip (zr rfl (zb rfl (by exact aQ (aq (by omega) (by omega))) ?_))))
   refine zm rfl (zv ?_)
   exact ih (i+1) h _ Q (by omega) hm s ⟨rfl,rfl,rfl,aa⟩ hr hx
def tv (m:List Fm): Nat:=(m.filter fun f=>f.gN).length
theorem D6 {f:Fm}: ∀ {m:List Fm} {i:Nat},m[i]?=some f→f.gN=true→tv (m.set i { f with gN:=false })+1=tv m:=by
 intro m
 induction m with
 |nil=>intro i h;simp at h
 |cons g m ih =>
  intro i h I
  cases i with
  |zero=>simp at h;subst h;simp[tv,I]
  |succ i =>
   rw[ow] at h
   have:=ih h I
   simp only[tv,List.set_cons_succ,List.filter_cons] at this ⊢
   split<;>(try simp only[bq])<;>omega
theorem F8 {f:Fm}(hf:π.aj[π.hand]?=some f)(hm:π.aj.length<4294967296)(hp:f.pins=0)
 (s:Sat h (pt r (.cells 6 (sC p q dO π.aj.length wh di π.hand) false)::fT dO π.aj::S))(hE:Has E [(0,.ptr r 0)])
 (hr:f.gN=false→∀E' h',look E' 2=some (.int .i64 (π.hand:Int))→Sat h' (pt r (.cells 6 (sC p q dO π.aj.length wh di ((π.hand+1)%π.aj.length)) false)::fT dO π.aj::S)→Q .ret E' h')
 (hx:f.gN=true→∀E' h',Has E' [(0,.ptr r 0)]→Sat h' (pt r (.cells 6 (sC p q dO (π.aj.set π.hand { f with gN:=false }).length wh di ((π.hand+1)%π.aj.length)) false)::fT dO (π.aj.set π.hand { f with gN:=false })::S)→WP ⟨Tryz.prog,told⟩ 70 (.loop fdB) E' h' Q):
  WP ⟨Tryz.prog,told⟩ 70 (.loop fdB) E h Q:=by
 have hl:=(List.getElem?_eq_some_iff.1 hf).1
 refine WP.loop (WP.has hE (WP.block (zK 4 rfl (zY s 0 HA b9 rfl (zk 6 rfl (zY s 0 nP sj rfl (zm rfl (zo rfl (bS rfl rfl (pn (i:=π.hand) hl)) (zk 3 rfl (WP.drawn [af,af,af,af,af,af,af,af,af,af,af,af,af,af,af] rfl (by kernel_rfl) (by kernel_rfl) ?_))))))))))
 refine zM rfl (zM rfl (zN rfl (zF rfl (HA _ _) (zL rfl (s.ld (k:=0) rfl b9 rfl) (zO rfl (ak rfl rfl (by exact aQ (aq (by omega) (by omega)))) ?_)))))
 refine zM rfl (zN rfl (zF rfl (nP _ _) (zL rfl (s.ld (k:=0) rfl sj rfl) (zO rfl (aD rfl rfl rfl (tg rfl BY)) (zO rfl (ak rfl rfl (PF (a:=π.hand+1) (by omega))) ?_)))))
 refine zN rfl (zF rfl (HA _ _) (aB.mg rfl rfl rfl (OpR.yH rfl rfl rfl (s.jS (k:=0) rfl nY rfl (by decide) rfl rfl)) ?_))
 rintro v h ⟨rfl,s⟩
 have s:Sat h (pt r (.cells 6 (sC p q dO π.aj.length wh di ((π.hand+1)%π.aj.length)) false)::fT dO π.aj::S):=s
 refine aB.nil ⟨⟨aa,aa,aa,aa,aa,aa,aa,aa,aa,aa,aa,aa,aa,aa,aa,aa⟩,?_⟩
 obtain⟨pre,fv,post,I,hlen,s⟩:=ke (s.ae [1]) hf
 refine zw (WP.block (zK 4 rfl (zf rfl (tc _ _) (zl rfl (s.ld (k:=0) rfl b9 (jM I rfl)) (zC rfl cV (by rw[hp];decide) ?_)))))
 refine zk 7 rfl (zf rfl (HB _ _) (zl rfl (s.ld (k:=0) rfl r_ (jM I rfl)) (zk 2 rfl ?_)))
 have IN:f.gN=false∨f.gN=true:=by cases f.gN<;>simp
 rcases IN with ht|ht
 ·refine WP.WU rfl (ht) ?_
  refine zK 5 rfl (WP.ret (hr ht _ _ rfl ?_))
  have s:=lE.2 ⟨_,s.ae [0,0]⟩
  exact(s.del 1).ae [1,0]
 ·skip
  refine WP.O_ rfl (ht) (zK 3 rfl (zf rfl (HB _ _) (zS rfl (s.stM (k:=0) (j:=3) rfl BP I hlen (by simp[ir]) rfl rfl) ?_)))
  intro h s
  have e5:(ir f fv).set 3 (.bool false)=ir { f with gN:=false } fv:=rfl
  rw[e5] at s
  refine zv (WP.exit (hx ht _ _ ⟨rfl,aa⟩ ?_))
  have s:=iB (i:=π.hand) (f':={ f with gN:=false }) s rfl hf I
  rw[cI]
  exact s.ae [1,0]
theorem MD : ∀(fuel:Nat) (π:Pl) (h:H) (E:List (Nat×V)) (Q:Ex→List (Nat×V)→H→Prop),tv π.aj≤fuel→π.hand<π.aj.length→π.aj.length<4294967296→(∀f∈π.aj,f.pins=0) →
  Sat h (pt r (.cells 6 (sC p q dO π.aj.length wh di π.hand) false)::fT dO π.aj::S)→Has E [(0,.ptr r 0)] →
  (∀E' h' (i:Nat) (cz:Pl) (f:Fm),gY π cz→cz.aj[i]?=some f→cz.hand<cz.aj.length→look E' 2=some (.int .i64 (i:Int))→Sat h' (pt r (.cells 6 (sC p q dO cz.aj.length wh di cz.hand) false)::fT dO cz.aj::S)→Q .ret E' h') →
  WP ⟨Tryz.prog,told⟩ 70 (.loop fdB) E h Q:=by
 intro fuel
 induction fuel with
 |zero =>
  intro π h E Q ht hh hm hp s hE hr
  have I:π.aj[π.hand]?=some (π.aj[π.hand]'hh):=aG _
  generalize (π.aj[π.hand]'hh)=f at I
  refine F8 I hm (hp f (aM I)) s hE (fun h1 E' h' h2 s' => ?_) (fun h1 => ?_)
  ·exact hr E' h' π.hand { π with hand:=(π.hand+1)%π.aj.length } f gY.hand I (C5 _ (by omega)) h2 s'
  ·have:=D6 I h1
   omega
 |succ fuel ih =>
  intro π h E Q ht hh hm hp s hE hr
  have I:π.aj[π.hand]?=some (π.aj[π.hand]'hh):=aG _
  generalize (π.aj[π.hand]'hh)=f at I
  refine F8 I hm (hp f (aM I)) s hE (fun h1 E' h' h2 s' => ?_) (fun h1 E' h' eN s' => ?_)
  ·exact hr E' h' π.hand { π with hand:=(π.hand+1)%π.aj.length } f gY.hand I (C5 _ (by omega)) h2 s'
  ·have vS:=D6 I h1
   have hn:gY π { π with aj:=π.aj.set π.hand { f with gN:=false },hand:=(π.hand+1)%π.aj.length }:=(gY.YL I).trans gY.hand
   refine ih { π with aj:=π.aj.set π.hand { f with gN:=false },hand:=(π.hand+1)%π.aj.length } h' E' Q (by show tv (π.aj.set π.hand { f with gN:=false })≤fuel;omega) ?_ (by simp only[cI];exact hm) (fun g hg => ?_) s' eN (fun E2 h2 i cz g ZB hg hh2 hl s2=>hr E2 h2 i cz g (hn.trans ZB) hg hh2 hl s2)
   ·simp only[cI];exact C5 _ (by omega)
   ·rcases mj hg with hg|rfl
    ·exact hp g hg
    ·exact hp f (aM I)
theorem UT (hT:W told)(s:Sat h (pt r (.cells 6 (sC p q dO π.aj.length wh di π.hand) false)::fT dO π.aj::S))(hh:π.hand<π.aj.length)(hm:π.aj.length<4294967296)(hp:∀f∈π.aj,f.pins=0):
  Call ⟨Tryz.prog,told⟩ 146 [.ptr r 0] h fun v h'=>∃(i:Nat) (cz:Pl) (f:Fm),v=.int .i64 (i:Int)∧gY π cz∧cz.aj[i]?=some f∧cz.hand<cz.aj.length ∧
   Sat h' (pt r (.cells 6 (sC p q dO cz.aj.length wh di cz.hand) false)::fT dO cz.aj::S):=by
 have I:π.aj[0]?=some (π.aj[0]'(by omega)):=aG _
 generalize (π.aj[0]'(by omega))=f0 at I
 have s0:=s
 refine Call.of_wp (hT.free _ rfl) Tryz.func146 rfl rfl (zK 4 rfl (WP.scope (zK 5 rfl (zY s 0 nP sj rfl (zo rfl (aD rfl rfl rfl (tg rfl BY)) (zk 2 rfl (WP.block ?_)))))))
 refine MC π.aj.length 0 _ _ _ (by omega) hm s ⟨rfl,rfl,rfl,aa⟩ (fun E' i f hf _ h2 => ?_) (fun E' eN => ?_)
 ·exact⟨aa,_,z_ h2,i,π,f,rfl,gY.refl π,hf,hh,s⟩
 ·skip
  refine WP.has eN (zK 5 rfl (zY s 0 nP sj rfl (zc rfl (MB hT (s.ae [1]) I (hp f0 (aM I))) ?_)))
  rintro w h ⟨rfl,s⟩
  refine zo rfl (dZ rfl rfl) (zk 4 rfl (WP.label (WP.block ?_)))
  refine MD (tv π.aj) π _ _ _ (aI _) hh hm hp (s.ae [1,0]) ⟨rfl,aa⟩ (fun E' h' i cz f hn hf hh2 h2 s' => ?_)
  exact⟨aa,_,z_ h2,i,cz,f,rfl,hn,hf,hh2,s'⟩
end
structure Pl.Ok (π:Pl): Prop where
 hand:π.hand<π.aj.length
 many:π.aj.length≤1024
 bY:∀e∈π.bY,0≤e.2∧e.2<π.aj.length
 len:∀f∈π.aj,f.b.length≤512
 pins:∀f∈π.aj,0≤f.pins∧f.pins≤4294967296
theorem Pl.Ok.at (h:π.Ok){n i:Int}(hl:lookL n π.bY=some i): ∃(k:Nat) (f:Fm),i=k∧π.aj[k]?=some f:=by
 have I:=h.bY _ (nZ hl)
 exact⟨i.toNat,π.aj[i.toNat]'(by omega),by omega,aG _⟩
def heldI (π:Pl)(n:Int): Option Nat:=match lookL n π.bY with
 |none=>none
 |some i=>match π.aj[i.toNat]? with
  |none=>none
  |some f=>if f.pins=0 then none else some i.toNat
def unpinF (π:Pl)(n:Int): Int×Pl:=match heldI π n with
 |none=>(18,π)
 |some i=>match π.aj[i]? with
  |none=>(18,π)
  |some f=>(0,{ π with aj:=π.aj.set i { f with pins:=f.pins-1 } })
def oo (π:Pl)(n:Int)(bk:Nat): Nat:=match lookL n π.dU with
 |some x=>x.1
 |none=>bk
def mW (π:Pl)(n:Int)(b:List Nat)(bk:Nat): Int×Pl:=match heldI π n with
 |none=>(18,π)
 |some i=>match π.aj[i]? with
  |none=>(18,π)
  |some f=>if cF b=false then(4,π) else(0,{ π with aj:=π.aj.set i { f with b:=eO b bk,changed:=true },dU:=cD n (oo π n bk,true) π.dU })
section
variable {told:cE} {p:Nat} {v:V} {m:List Fm}
theorem NJ {n:Int}{j:Nat}(s:Sat h (KQ wh π.bY::S)): (lookL n π.bY=none∧gL Tryz.prog h 212 wh (.int .i64 n) true=some (.aT [.int .i64 0,.bool false])) ∨
  ∃i,lookL n π.bY=some i∧gL Tryz.prog h 212 wh (.int .i64 n) true=some (.aT [.int .i64 i,.bool true]):=by
 grind[rH,aJ.pu,Tryz.underlying212,Tryz.underlying3,Rw,r8]
theorem NK {n:Int}(s:Sat h (NI di π.dU::S)): (lookL n π.dU=none∧gL Tryz.prog h 213 di (.int .i64 n) true=some (.aT [.agg [.int .u64 0,.bool false],.bool false])∧gL Tryz.prog h 213 di (.int .i64 n) false=some (.agg [.int .u64 0,.bool false])) ∨
  ∃x,lookL n π.dU=some x∧gL Tryz.prog h 213 di (.int .i64 n) true=some (.aT [.agg [.int .u64 (x.1:Int),.bool x.2],.bool true])∧gL Tryz.prog h 213 di (.int .i64 n) false=some (.agg [.int .u64 (x.1:Int),.bool x.2]):=by
 grind[rH,aJ.pu,Tryz.underlying213,Tryz.underlying3,Du,r8]
theorem NL (hT:W told){n:Int}(s:Sat h (pt r (.cells 6 (sC p q dO π.aj.length wh di π.hand) false)::fT dO π.aj::KQ wh π.bY::S))(Jx:π.Ok):
  Call ⟨Tryz.prog,told⟩ 150 [.ptr r 0,.int .i64 n] h fun v h'=>h'=h∧((heldI π n=none∧v=.aT [.b8,.int .i64 18])∨∃(i:Nat) (f:Fm),heldI π n=some i∧π.aj[i]?=some f∧v=.aT [.ptr dO (i*5),.int .i64 0]):=by
 refine Call.of_wp (hT.free _ rfl) Tryz.func150 rfl rfl (zK 9 rfl (zY s 0 yM FK rfl (zm rfl ?_)))
 rcases NJ (n:=n) (j:=0) (s.ae [2]) with⟨g1,g2⟩|⟨i,g1,g2⟩
 ·refine au.op rfl rfl rfl (lW rfl rfl g2) ?_
  exact zk 10 rfl (zt rfl (dZ rfl rfl) (rfl) (zk 18 rfl (WP.ret ⟨aa,_,rfl,rfl,.inl ⟨by simp only[heldI,g1],rfl⟩⟩)))
 ·obtain⟨i,f,rfl,hf⟩:=Jx.at g1
  have hl:=(List.getElem?_eq_some_iff.1 hf).1
  have hh:heldI π n=if f.pins=0 then none else some i:=by grind[heldI]
  obtain⟨pre,fv,post,I,hlen,s'⟩:=ke (s.ae [1]) hf
  refine zo rfl (lW rfl rfl g2) (zk 10 rfl (zh rfl (dZ rfl rfl) (rfl) (zk 3 rfl (zY s 0 nP sj rfl (zm rfl (zo rfl (bS rfl rfl (pn (i:=i) hl)) (zf rfl (tc _ _) (zl rfl (s'.ld (k:=0) rfl b9 (jM I rfl)) ?_))))))))
  refine zd rfl (ak rfl rfl c8) ?_ ?_
  ·intro hq
   have hq:f.pins=0:=by grind
   exact zk 8 rfl (WP.ret ⟨aa,_,rfl,rfl,.inl ⟨by grind,rfl⟩⟩)
  ·intro hq
   have hq:f.pins≠0:=by grind
   exact zk 8 rfl (zY s 0 nP sj rfl (zm rfl (zo rfl (bS rfl rfl (pn (i:=i) hl)) (zk 3 rfl (WP.ret ⟨aa,_,rfl,rfl,.inr ⟨i,f,by grind,hf,rfl⟩⟩)))))
theorem KR (hT:W told){n:Int}(s:Sat h (gn r p q π::S))(Jx:π.Ok):
  Call ⟨Tryz.prog,told⟩ 65 [.ptr r 0,.int .i64 n] h fun v h'=>v=.int .i64 (unpinF π n).1∧Sat h' (gn r p q (unpinF π n).2::S):=by
 have s0:=s
 obtain⟨dO,wh,di,s⟩:=gO.1 s
 refine Call.of_wp (hT.free _ rfl) Tryz.func65 rfl rfl (zK 8 rfl (zc rfl (NL (n:=n) hT s Jx) ?_))
 rintro v h' ⟨rfl,(⟨hh,rfl⟩|⟨i,f,hh,hf,rfl⟩)⟩
 ·have he:unpinF π n=(18,π):=by simp only[unpinF,hh]
  rw[he]
  exact zk 10 rfl (zB rfl aH (rfl) (zk 7 rfl (WP.ret ⟨aa,_,rfl,rfl,s0⟩)))
 ·have he:unpinF π n=(0,{ π with aj:=π.aj.set i { f with pins:=f.pins-1 } }):=by simp only[unpinF,hh,hf]
  rw[he]
  obtain⟨pre,fv,post,I,hlen,s⟩:=ke (s.ae [1]) hf
  have HN:=Jx.pins f (aM hf)
  refine zk 10 rfl (zC rfl aH (rfl) (zk 7 rfl (zf rfl (tc _ _) (zl rfl (s.ld (k:=0) rfl b9 (jM I rfl)) (zb rfl (by exact ew (aq (by omega) (by omega))) ?_)))))
  refine zn rfl (zf rfl (tc _ _) (zS rfl (s.stM (k:=0) (j:=2) rfl nY I hlen (by simp[ir]) rfl rfl) ?_))
  intro h s
  have e5:(ir f fv).set 2 (.int .i64 (f.pins-1))=ir { f with pins:=f.pins-1 } fv:=rfl
  rw[e5] at s
  refine zk 5 rfl (WP.ret ⟨aa,_,rfl,?_⟩)
  refine⟨rfl,gO.2 ⟨dO,wh,di,?_⟩⟩
  have s:=iB (i:=i) (f':={ f with pins:=f.pins-1 }) s rfl hf I
  rw[cI]
  exact s.ae [1,0]
theorem YM (hT:W told){n:Int}(s:Sat h (gn r p q π::X::S))(hX:cf X (cy bv b))(Jx:π.Ok)(hb:b.length<9223372036854775808):
  Call ⟨Tryz.prog,told⟩ 64 [.ptr r 0,.int .i64 n,bv,.int .u64 (bk:Int)] h fun v h'=>v=.int .i64 (mW π n b bk).1∧Sat h' (gn r p q (mW π n b bk).2::X::S):=by
 have s0:=s
 obtain⟨dO,wh,di,s⟩:=gO.1 s
 refine Call.of_wp (hT.free _ rfl) Tryz.func64 rfl rfl (zK 8 rfl (zc rfl (NL (n:=n) hT s Jx) ?_))
 rintro v h' ⟨rfl,(⟨hh,rfl⟩|⟨i,f,hh,hf,rfl⟩)⟩
 ·have he:mW π n b bk=(18,π):=by simp only[mW,hh]
  rw[he]
  exact zk 10 rfl (zB rfl aH (rfl) (zk 7 rfl (WP.ret ⟨aa,_,rfl,rfl,s0⟩)))
 ·have he:mW π n b bk=(if cF b=false then(4,π) else(0,{ π with aj:=π.aj.set i { f with b:=eO b bk,changed:=true },dU:=cD n (oo π n bk,true) π.dU })):=by simp only[mW,hh,hf]
  rw[he]
  refine zk 10 rfl (zC rfl aH (rfl) (zk 7 rfl (zc rfl (YC (n:=bk) hT (s.ae [4]) hX hb) ?_)))
  rintro v h (⟨hg,u,rfl,s⟩|⟨hg,rfl,s⟩)
  ·rw[ai (by grind)]
   have sQ:(eO b bk).length=512:=by
    grind[Af,jK,eO,bD,cJ]
   obtain⟨lD,_,cap,_,rfl,_⟩:=s.eG (by omega)
   have s:=s.eW
   obtain⟨pre,fv,post,I,hlen,s⟩:=ke (s.ae [3]) hf
   refine zk 10 rfl (zC rfl aH (rfl) (zk 9 rfl (zf rfl (Ds _ _) (zS rfl (s.stM (k:=0) (j:=1) rfl dH I hlen (by simp[ir]) rfl rfl) ?_))))
   intro h s
   refine zn rfl (zf rfl (HC _ _) (zS rfl (s.stM (k:=0) (j:=4) rfl BP I (by grind) (by simp[ir]) rfl rfl) ?_))
   intro h s
   have e5:((ir f fv).set 1 (.sl lD 0 (eO b bk).length cap)).set 4 (.bool true)=ir { f with b:=eO b bk,changed:=true } (.sl lD 0 (eO b bk).length cap):=rfl
   rw[e5] at s
   have s:=iB (i:=i) (f':={ f with b:=eO b bk,changed:=true }) (s.ae [0,0,1]) rfl hf I
   have s:=s.ae [3,4,0]
   refine zk 5 rfl (zY s 0 vI Dq rfl (zm rfl ?_))
   rcases NK (n:=n) (s.ae [1]) with⟨g1,g2,_⟩|⟨x,g1,g2,_⟩
   ·refine au.op rfl rfl rfl (lW rfl rfl g2) ?_
    refine zk 3 rfl ?_
    refine au.b_ s rfl rfl rfl (cu Du) (fun D7 h s => ?_)
    refine zS rfl (s.gX (j:=0) rfl Dt rfl rfl) (fun h s => ?_)
    refine zk 6 rfl (zo rfl (dZ rfl rfl) (zk 4 rfl (zf rfl (HD _ _) ?_)))
    refine zS rfl (by exact s.jS (k:=0) rfl Pd rfl (by decide) rfl rfl) (fun h s => ?_)
    refine zk 3 rfl (zf rfl (Nt _ _) ?_)
    refine zS rfl (by exact s.jS (k:=0) rfl BP rfl (by decide) rfl rfl) (fun h s => ?_)
    refine zk 2 rfl (WP.drawn [af,af,af,af,af,af,af] rfl (by kernel_rfl) (by kernel_rfl) ?_)
    refine zM rfl (zN rfl (zF rfl (vI _ _) (zL rfl (s.ld (k:=1) rfl Dq rfl) (zM rfl (zL rfl (s.b7 (k:=0) rfl WV Dt) (aB.mg rfl rfl rfl (OpR.mapUpdate rfl rfl rfl rfl (qK (f:=fun v (x:Nat×Bool)=>.pu (v=.agg [.int .u64 (x.1:Int),.bool x.2])) (x:=(bk,true)) (fun _ _=>aJ.pu _) ((s.ae [2]).gQ rfl) FU cm)) ?_))))))
    intro w h s
    refine aB.nil ⟨⟨aa,aa,aa,aa,aa,aa,aa,aa⟩,?_⟩
    refine zK 4 rfl (WP.ret ⟨aa,_,rfl,?_⟩)
    have ed:oo π n bk=bk:=by simp only[oo,g1]
    rw[ed]
    refine⟨rfl,gO.2 ⟨dO,wh,di,?_⟩⟩
    have e6:(π.aj.set i { f with b:=eO b bk,changed:=true }).length=π.aj.length:=cI
    show Sat h (pt r (.cells 6 (sC p q dO (π.aj.set i { f with b:=eO b bk,changed:=true }).length wh di π.hand) false)::_)
    rw[e6]
    exact((s.ae [2,2,4,0,2]).del 6).del 5
   ·skip
    refine zo rfl (lW rfl rfl g2) (zk 3 rfl ?_)
    refine au.b_ s rfl rfl rfl (cu Du) (fun D7 h s => ?_)
    refine zS rfl (s.gX (j:=0) rfl Dt rfl rfl) (fun h s => ?_)
    refine zk 6 rfl (zo rfl (dZ rfl rfl) (zk 5 rfl (zf rfl (Nt _ _) ?_)))
    refine zS rfl (by exact s.jS (k:=0) rfl BP rfl (by decide) rfl rfl) (fun h s => ?_)
    refine zk 2 rfl (WP.drawn [af,af,af,af,af,af,af] rfl (by kernel_rfl) (by kernel_rfl) ?_)
    refine zM rfl (zN rfl (zF rfl (vI _ _) (zL rfl (s.ld (k:=1) rfl Dq rfl) (zM rfl (zL rfl (s.b7 (k:=0) rfl WV Dt) (aB.mg rfl rfl rfl (OpR.mapUpdate rfl rfl rfl rfl (qK (f:=fun v (x:Nat×Bool)=>.pu (v=.agg [.int .u64 (x.1:Int),.bool x.2])) (x:=(x.1,true)) (fun _ _=>aJ.pu _) ((s.ae [2]).gQ rfl) FU cm)) ?_))))))
    intro w h s
    refine aB.nil ⟨⟨aa,aa,aa,aa,aa,aa,aa,aa⟩,?_⟩
    refine zK 4 rfl (WP.ret ⟨aa,_,rfl,?_⟩)
    have ed:oo π n bk=x.1:=by simp only[oo,g1]
    rw[ed]
    refine⟨rfl,gO.2 ⟨dO,wh,di,?_⟩⟩
    have e6:(π.aj.set i { f with b:=eO b bk,changed:=true }).length=π.aj.length:=cI
    show Sat h (pt r (.cells 6 (sC p q dO (π.aj.set i { f with b:=eO b bk,changed:=true }).length wh di π.hand) false)::_)
    rw[e6]
    exact((s.ae [2,2,4,0,2]).del 6).del 5
  ·rw[ay hg]
   exact zk 10 rfl (zB rfl aH (rfl) (zk 7 rfl (WP.ret ⟨aa,_,rfl,rfl,gO.2 ⟨dO,wh,di,s.ae [1,1,1,1,0]⟩⟩)))
theorem aaO (hT:W told){n:Int}(s:Sat h (gn r p q π::S)): Call ⟨Tryz.prog,told⟩ 138 [.ptr r 0,.int .i64 n] h fun v h'=>v=.aT [.int .u64 (oo π n 0:Nat),.bool (lookL n π.dU).isSome]∧Sat h' (gn r p q π::S):=by
 obtain⟨dO,wh,di,s⟩:=gO.1 s
 refine Call.of_wp (hT.free _ rfl) Tryz.func138 rfl rfl (zK 9 rfl (zY s 0 vI Dq rfl (zm rfl ?_)))
 rcases NK (n:=n) (s.ae [3]) with⟨I,g2,_⟩|⟨x,I,g2,_⟩
 ·refine au.op rfl rfl rfl (lW rfl rfl g2) ?_
  refine zk 3 rfl ?_
  refine au.b_ s rfl rfl rfl (cu Du) (fun p6 h s => ?_)
  refine zS rfl (s.gX (j:=0) rfl Dt rfl rfl) (fun h s => ?_)
  exact zk 4 rfl (zY s 0 HD sg rfl (zk 4 rfl (WP.ret ⟨aa,_,rfl,by simp only[oo,I];rfl,gO.2 ⟨dO,wh,di,s.drop⟩⟩)))
 ·skip
  refine zo rfl (lW rfl rfl g2) (zk 3 rfl ?_)
  refine au.b_ s rfl rfl rfl (cu Du) (fun p6 h s => ?_)
  refine zS rfl (s.gX (j:=0) rfl Dt rfl rfl) (fun h s => ?_)
  exact zk 4 rfl (zY s 0 HD sg rfl (zk 4 rfl (WP.ret ⟨aa,_,rfl,by simp only[oo,I];rfl,gO.2 ⟨dO,wh,di,s.drop⟩⟩)))
def fX : Fm:=⟨-1,[],0,false,false⟩
def eA (π:Pl)(i:Nat)(f:Fm): Pl:={ π with aj:=π.aj.set i fX,bY:=if f.bM<0 then π.bY else qi f.bM π.bY }
def kx (π:Pl)(i:Nat)(n:Int)(b:List Nat): Pl:={ π with aj:=π.aj.set i ⟨n,b,1,true,false⟩,bY:=cD n (i:Int) π.bY }
inductive gZ (ε:bE)(n:Int): Int→List Nat→bE→Prop where
 |arg (h:¬(0≤n∧n<ε.2.2.bG.length)):gZ ε n 1 [] ε
 |IP (i:Nat) (f:Fm) (h1:0≤n) (h2:n<ε.2.2.bG.length) (hl:lookL n ε.1.bY=some (i:Int)) (hf:ε.1.aj[i]?=some f):gZ ε n 0 f.b ({ ε.1 with aj:=ε.1.aj.set i { f with gN:=true,pins:=f.pins+1 } },ε.2)
 |out (cz:Pl) (i:Nat) (f:Fm) (h1:0≤n) (h2:n<ε.2.2.bG.length) (hl:lookL n ε.1.bY=none) (hn:gY ε.1 cz) (hf:cz.aj[i]?=some f) (hh:cz.hand<cz.aj.length) (he:(outF (cz,ε.2) i).1≠0):gZ ε n (outF (cz,ε.2) i).1 [] (outF (cz,ε.2) i).2
 |read (cz:Pl) (i:Nat) (f:Fm) (h1:0≤n) (h2:n<ε.2.2.bG.length) (hl:lookL n ε.1.bY=none) (hn:gY ε.1 cz) (hf:cz.aj[i]?=some f) (hh:cz.hand<cz.aj.length) (he:(outF (cz,ε.2) i).1=0)
   (hr:(outF (cz,ε.2) i).2.2.2.tM n≠0):gZ ε n ((outF (cz,ε.2) i).2.2.2.tM n) [] (eA (outF (cz,ε.2) i).2.1 i f,(outF (cz,ε.2) i).2.2)
 |bad (cz:Pl) (i:Nat) (f:Fm) (h1:0≤n) (h2:n<ε.2.2.bG.length) (hl:lookL n ε.1.bY=none) (hn:gY ε.1 cz) (hf:cz.aj[i]?=some f) (hh:cz.hand<cz.aj.length) (he:(outF (cz,ε.2) i).1=0)
   (hr:(outF (cz,ε.2) i).2.2.2.tM n=0) (hc:jz ((outF (cz,ε.2) i).2.2.2.at n)≠0):gZ ε n (jz ((outF (cz,ε.2) i).2.2.2.at n)) [] (eA (outF (cz,ε.2) i).2.1 i f,(outF (cz,ε.2) i).2.2)
 |load (cz:Pl) (i:Nat) (f:Fm) (h1:0≤n) (h2:n<ε.2.2.bG.length) (hl:lookL n ε.1.bY=none) (hn:gY ε.1 cz) (hf:cz.aj[i]?=some f) (hh:cz.hand<cz.aj.length) (he:(outF (cz,ε.2) i).1=0)
   (hr:(outF (cz,ε.2) i).2.2.2.tM n=0) (hc:jz ((outF (cz,ε.2) i).2.2.2.at n)=0):gZ ε n 0 ((outF (cz,ε.2) i).2.2.2.at n) (kx (eA (outF (cz,ε.2) i).2.1 i f) i n ((outF (cz,ε.2) i).2.2.2.at n),(outF (cz,ε.2) i).2.2)
theorem Ev (h:ε.2.2.Ok): (outF ε i).2.2.2.Ok:=by
 unfold outF
 split
 ·exact h
 ·split
  ·exact h
  ·split
   ·exact h
   ·split
    ·exact vf h
    ·split
     ·exact(vf h).eE
     ·exact(vf h).eE
theorem UU (h:ε.2.1.Ok): (outF ε i).2.2.1.Ok:=by
 grind[outF,Mz]
theorem pW {f:Fm}(I:ε.1.aj[i]?=some f): ∃c,(outF ε i).2.1.aj[i]?=some { f with changed:=c }:=by
 have hl:=(List.getElem?_eq_some_iff.1 I).1
 unfold outF
 rw[I]
 dsimp only
 split
 ·exact⟨f.changed,I⟩
 ·split
  ·exact⟨f.changed,I⟩
  ·split
   ·exact⟨f.changed,I⟩
   ·split
    ·exact⟨f.changed,I⟩
    simp_all
theorem R4 (hT:W told){n:Int}(s:Sat h (gn r p q π::dm q p μ::bZ p δ::S))(Jx:π.Ok)(HN:∀f∈π.aj,f.pins=0)(va:μ.Ok)(UQ:δ.Ok)(hw:δ.waiting.length≤268435456):
  Call ⟨Tryz.prog,told⟩ 63 [.ptr r 0,.int .i64 n] h fun v h'=>∃(e:Int) (b:List Nat) (ε:bE),gZ (π,μ,δ) n e b ε ∧
   ((e≠0∧v=.aT [.aR,.int .i64 e]∧Sat h' (gn r p q ε.1::dm q p ε.2.1::bZ p ε.2.2::S))∨(e=0∧∃u,v=.aT [u,.int .i64 0]∧Sat h' (aU u b::gn r p q ε.1::dm q p ε.2.1::bZ p ε.2.2::S))):=by
 have s0:=s
 obtain⟨dO,wh,di,s⟩:=gO.1 s
 refine Call.of_wp (hT.free _ rfl) Tryz.func63 rfl rfl (zK 9 rfl ?_)
 refine zd rfl (ak rfl rfl aO) ?_ ?_
 ·intro hq
  have hq:n<0:=by grind
  exact zk 16 rfl (WP.ret ⟨aa,_,rfl,1,[],(π,μ,δ),.arg (fun q=>by omega),.inl ⟨by decide,rfl,s0⟩⟩)
 ·intro hq
  have hq:0≤n:=by grind
  refine zk 4 rfl (zY s 0 Dr xO rfl (zc rfl (Et hT (s.ae [5])) ?_))
  rintro v h' ⟨rfl,rfl⟩
  refine zd rfl (ak rfl rfl mV) ?_ ?_
  ·intro jt
   have jt:¬ n<δ.bG.length:=by grind
   exact zk 8 rfl (WP.ret ⟨aa,_,rfl,1,[],(π,μ,δ),.arg (fun q=>jt q.2),.inl ⟨by decide,rfl,s0⟩⟩)
  ·intro jt
   have jt:n<δ.bG.length:=by grind
   refine zk 9 rfl (zY s 0 yM FK rfl (zm rfl ?_))
   rcases NJ (n:=n) (j:=0) (s.ae [2]) with⟨g1,g2⟩|⟨i,g1,g2⟩
   ·refine au.op rfl rfl rfl (lW rfl rfl g2) ?_
    refine zk 15 rfl (zc rfl (UT hT s Jx.hand (by have:=Jx.many;omega) HN) ?_)
    rintro v h ⟨i,cz,f,rfl,sD,hf,hh,s⟩
    have hl:=(List.getElem?_eq_some_iff.1 hf).1
    rw[←sD.bY,←sD.dU] at s
    have hfb:f.b.length≤512:=by
     have h1:π.aj[i]?=some (π.aj[i]'(by have:=sD.len;omega)):=aG _
     generalize (π.aj[i]'(by grind))=f0 at h1
     obtain⟨t,ht⟩:=sD.get i f0 h1
     rw[hf] at ht
     have:=bW ht
     rw[this]
     exact Jx.len f0 (aM h1)
    refine zk 6 rfl (zC rfl aO (by rfl) ?_)
    refine zk 7 rfl (zY s 0 nP sj rfl (zm rfl (zo rfl (bS rfl rfl (pn (i:=i) hl)) (zk 7 rfl (zc rfl (aaN (π:=cz) hT s hf va UQ (by omega) hw) ?_)))))
    rintro v h ⟨rfl,s⟩
    obtain⟨c,uI⟩:=pW (ε:=(cz,μ,δ)) hf
    have HO:=Ev (ε:=(cz,μ,δ)) (i:=i) UQ
    refine zk 5 rfl ?_
    by_cases he:(outF (cz,μ,δ) i).1=0
    ·generalize ho:outF (cz,μ,δ) i=o at he s uI HO ⊢
     obtain⟨oe,I,μ1,B7⟩:=o
     dsimp only at he s uI HO ⊢
     subst he
     have B8:(outF (cz,μ,δ) i).1=0:=by rw[ho]
     have yQ:(outF (cz,μ,δ) i).2=(I,μ1,B7):=by rw[ho]
     refine zC rfl aH (by decide) ?_
     obtain⟨pre,fv,post,oI,hlen,s⟩:=ke (s.ae [1]) uI
     refine zk 8 rfl (zf rfl (rG _ _) (zl rfl (s.ld (k:=0) rfl b9 (jM oI rfl)) ?_))
     refine zd rfl (ak rfl rfl mV) ?_ ?_
     ·intro fO
      have fO:¬ f.bM<0:=by grind
      refine zk 2 rfl (WP.drawn [af,af,af,af,af,af,af,af,af] rfl (by kernel_rfl) (by kernel_rfl) ?_)
      refine zM rfl (zN rfl (zF rfl (yM _ _) (zL rfl (s.ld (k:=3) rfl FK rfl) (zM rfl (zN rfl (zF rfl (rG _ _) (zL rfl (s.ld (k:=0) rfl b9 (jM oI rfl)) (aB.mg rfl rfl rfl (OpR.delete rfl rfl rfl rfl (UB (s.ae [4]) FR cm)) ?_))))))))
      intro v h s
      have s:=s.ae [1,1,1,1,0]
      refine aB.nil ⟨⟨aa,aa,aa,aa,aa,aa,aa,aa,aa,aa⟩,?_⟩
      refine zK 3 rfl (zo rfl (cQ rfl (by rw[JI];rfl)) ?_)
      refine zn rfl (zS rfl (s.Xa (k:=0) (row':=ir fX .aR) rfl FL oI hlen (by rfl) rfl) ?_)
      intro h s
      have Dy:(pre++(ir fX .aR++post)).length=I.aj.length*5:=by simpa[ir] using hlen
      have tY:(eA I i f).bY=qi f.bM I.bY:=by grind[eA]
      refine zk 5 rfl (zY s 3 Dr xO rfl (zm rfl (zc rfl (R3 (n:=n) hT (s.ae [7]) HO) ?_)))
      rintro v h (⟨hr,rfl,s⟩|⟨hr,u,rfl,s⟩)
      ·dsimp only[bringA,getA,aL] at s
       refine zk 10 rfl (zB rfl aH (by grind) ?_)
       refine zk 8 rfl (WP.ret ⟨aa,_,rfl,?_⟩)
       have s:=iB (i:=i) (f':=fX) (v':=.aR) (s.uY.ae [2,2,0]) rfl uI oI
       have e6:(I.aj.set i fX).length=I.aj.length:=cI
       rw[←e6,←tY] at s
       have s:=(gO (π:=eA I i f)).2 ⟨dO,wh,di,s.ae [3,0,2,2]⟩
       have hR:=gZ.read (ε:=(π,μ,δ)) cz i f hq jt g1 sD hf hh B8 (by grind)
       rw[yQ] at hR
       exact⟨_,[],_,hR,.inl ⟨hr,rfl,(s.del 2).ae [0,1,0]⟩⟩
      ·have ack:=HO.at n
       obtain⟨lD,_,cap,_,rfl,_⟩:=s.eG (by omega)
       refine zk 10 rfl (zC rfl aH (rfl) (zk 7 rfl (zc rfl (KM hT s (aZ _ _) (by omega)) ?_)))
       rintro v h ⟨rfl,s⟩
       refine zk 5 rfl ?_
       by_cases hc:jz (B7.at n)=0
       ·skip
        refine zC rfl aH (by grind) ?_
        have s:=s.eW.ae [2,2,0,2,2,2,2,0,0]
        refine zk 8 rfl (zo rfl (cQ rfl (by rw[JI];rfl)) ?_)
        refine zn rfl (zS rfl (s.Xa (k:=0) (row':=ir ⟨n,B7.at n,1,true,false⟩ (.sl lD 0 (B7.at n).length cap)) rfl FL oI Dy (by rfl) rfl) ?_)
        intro h s
        refine zk 5 rfl (zY s 3 yM FK rfl (zk 2 rfl (au.mg rfl rfl (OpR.mapUpdate rfl rfl rfl rfl (qK (f:=fun v (x:Int)=>.pu (v=.int .i64 x)) (x:=(i:Int)) (fun _ _=>aJ.pu _) ((s.ae [4]).gQ rfl) FR cm)) ?_)))
        intro w h s
        refine zk 4 rfl (zc rfl (Ae hT (s.ae [3]) (bj _ _) (by omega)) ?_)
        intro u h s
        refine zk 3 rfl (WP.ret ⟨aa,_,rfl,?_⟩)
        have s:=iB (i:=i) (f':=⟨n,B7.at n,1,true,false⟩) (s.ae [3,3,1]) rfl uI oI
        have e6:(I.aj.set i ⟨n,B7.at n,1,true,false⟩).length=I.aj.length:=cI
        have e7:(kx (eA I i f) i n (B7.at n)).aj=I.aj.set i ⟨n,B7.at n,1,true,false⟩:=by simp[kx,eA]
        rw[←e6,←e7,←tY] at s
        have s:=(gO (π:=kx (eA I i f) i n (B7.at n))).2 ⟨dO,wh,di,s.ae [3,0,1,1]⟩
        have hR:=gZ.load (ε:=(π,μ,δ)) cz i f hq jt g1 sD hf hh B8 (by grind) (by grind)
        rw[yQ] at hR
        exact⟨_,_,_,hR,.inr ⟨rfl,u,rfl,(s.del 4).ae [1,0]⟩⟩
       ·skip
        refine zB rfl aH (by grind) ?_
        refine zk 8 rfl (WP.ret ⟨aa,_,rfl,?_⟩)
        have s:=s.drop
        have s:=iB (i:=i) (f':=fX) (v':=.aR) (s.uY.ae [2,2,0]) rfl uI oI
        dsimp only[bringA,getA,aL] at s
        have e6:(I.aj.set i fX).length=I.aj.length:=cI
        rw[←e6,←tY] at s
        have s:=(gO (π:=eA I i f)).2 ⟨dO,wh,di,s.ae [3,0,2,2]⟩
        dsimp only[bringA,getA,aL] at s
        have hR:=gZ.bad (ε:=(π,μ,δ)) cz i f hq jt g1 sD hf hh B8 (by grind) (by grind)
        rw[yQ] at hR
        exact⟨_,[],_,hR,.inl ⟨hc,rfl,(s.del 2).ae [0,1,0]⟩⟩
     ·intro fO
      have fO:f.bM<0:=by grind
      refine zk 6 rfl (zo rfl (cQ rfl (by rw[JI];rfl)) ?_)
      refine zn rfl (zS rfl (s.Xa (k:=0) (row':=ir fX .aR) rfl FL oI hlen (by rfl) rfl) ?_)
      intro h s
      dsimp only[setA] at s
      have Dy:(pre++(ir fX .aR++post)).length=I.aj.length*5:=by simpa[ir] using hlen
      have tY:(eA I i f).bY=I.bY:=by grind[eA]
      refine zk 5 rfl (zY s 3 Dr xO rfl (zm rfl (zc rfl (R3 (n:=n) hT (s.ae [7]) HO) ?_)))
      rintro v h (⟨hr,rfl,s⟩|⟨hr,u,rfl,s⟩)
      ·dsimp only[bringA,getA,aL] at s
       refine zk 10 rfl (zB rfl aH (by grind) ?_)
       refine zk 8 rfl (WP.ret ⟨aa,_,rfl,?_⟩)
       have s:=iB (i:=i) (f':=fX) (v':=.aR) (s.uY.ae [2,2,0]) rfl uI oI
       dsimp only[bringA,getA,aL] at s
       have e6:(I.aj.set i fX).length=I.aj.length:=cI
       rw[←e6,←tY] at s
       have s:=(gO (π:=eA I i f)).2 ⟨dO,wh,di,s.ae [3,0,2,2]⟩
       dsimp only[bringA,getA,aL] at s
       have hR:=gZ.read (ε:=(π,μ,δ)) cz i f hq jt g1 sD hf hh B8 (by grind)
       rw[yQ] at hR
       exact⟨_,[],_,hR,.inl ⟨hr,rfl,(s.del 2).ae [0,1,0]⟩⟩
      ·have ack:=HO.at n
       obtain⟨lD,_,cap,_,rfl,_⟩:=s.eG (by omega)
       refine zk 10 rfl (zC rfl aH (rfl) (zk 7 rfl (zc rfl (KM hT s (aZ _ _) (by omega)) ?_)))
       rintro v h ⟨rfl,s⟩
       refine zk 5 rfl ?_
       by_cases hc:jz (B7.at n)=0
       ·skip
        refine zC rfl aH (by grind) ?_
        have s:=s.eW.ae [2,2,0,2,2,2,2,0,0]
        dsimp only[bringA,getA,aL] at s
        refine zk 8 rfl (zo rfl (cQ rfl (by rw[JI];rfl)) ?_)
        refine zn rfl (zS rfl (s.Xa (k:=0) (row':=ir ⟨n,B7.at n,1,true,false⟩ (.sl lD 0 (B7.at n).length cap)) rfl FL oI Dy (by rfl) rfl) ?_)
        intro h s
        dsimp only[setA] at s
        refine zk 5 rfl (zY s 3 yM FK rfl (zk 2 rfl (au.mg rfl rfl (OpR.mapUpdate rfl rfl rfl rfl (qK (f:=fun v (x:Int)=>.pu (v=.int .i64 x)) (x:=(i:Int)) (fun _ _=>aJ.pu _) ((s.ae [4]).gQ rfl) FR cm)) ?_)))
        intro w h s
        dsimp only[bringA,getA,aL] at s
        refine zk 4 rfl (zc rfl (Ae hT (s.ae [3]) (bj _ _) (by omega)) ?_)
        intro u h s
        dsimp only[bringA,getA,aL] at s
        refine zk 3 rfl (WP.ret ⟨aa,_,rfl,?_⟩)
        have s:=iB (i:=i) (f':=⟨n,B7.at n,1,true,false⟩) (s.ae [3,3,1]) rfl uI oI
        dsimp only[bringA,getA,aL] at s
        have e6:(I.aj.set i ⟨n,B7.at n,1,true,false⟩).length=I.aj.length:=cI
        have e7:(kx (eA I i f) i n (B7.at n)).aj=I.aj.set i ⟨n,B7.at n,1,true,false⟩:=by simp[kx,eA]
        rw[←e6,←e7,←tY] at s
        have s:=(gO (π:=kx (eA I i f) i n (B7.at n))).2 ⟨dO,wh,di,s.ae [3,0,1,1]⟩
        dsimp only[bringA,getA,aL] at s
        have hR:=gZ.load (ε:=(π,μ,δ)) cz i f hq jt g1 sD hf hh B8 (by grind) (by grind)
        rw[yQ] at hR
        exact⟨_,_,_,hR,.inr ⟨rfl,u,rfl,(s.del 4).ae [1,0]⟩⟩
       ·skip
        refine zB rfl aH (by grind) ?_
        refine zk 8 rfl (WP.ret ⟨aa,_,rfl,?_⟩)
        have s:=s.drop
        have s:=iB (i:=i) (f':=fX) (v':=.aR) (s.uY.ae [2,2,0]) rfl uI oI
        dsimp only[bringA,getA,aL] at s
        have e6:(I.aj.set i fX).length=I.aj.length:=cI
        rw[←e6,←tY] at s
        have s:=(gO (π:=eA I i f)).2 ⟨dO,wh,di,s.ae [3,0,2,2]⟩
        dsimp only[bringA,getA,aL] at s
        have hR:=gZ.bad (ε:=(π,μ,δ)) cz i f hq jt g1 sD hf hh B8 (by grind) (by grind)
        rw[yQ] at hR
        exact⟨_,[],_,hR,.inl ⟨hc,rfl,(s.del 2).ae [0,1,0]⟩⟩
    ·skip
     refine zB rfl aH (by grind) ?_
     exact zk 8 rfl (WP.ret ⟨aa,_,rfl,_,[],_,.out cz i f hq jt g1 sD hf hh he,.inl ⟨he,rfl,gO.2 ⟨dO,wh,di,s⟩⟩⟩)
   ·obtain⟨i,f,rfl,hf⟩:=Jx.at g1
    have hl:=(List.getElem?_eq_some_iff.1 hf).1
    obtain⟨pre,fv,post,oI,hlen,s⟩:=ke (s.ae [1]) hf
    have wP:=HN f (aM hf)
    have ko:=Jx.len f (aM hf)
    refine zo rfl (lW rfl rfl g2) (zk 15 rfl (zY s 3 nP sj rfl (zm rfl (zo rfl (bS rfl rfl (pn (i:=i) hl)) (zk 6 rfl (zf rfl (HB _ _) (zS rfl (s.stM (k:=0) (j:=3) rfl BP oI hlen (by simp[ir]) rfl rfl) ?_)))))))
    intro h s
    dsimp only[setA] at s
    refine zk 5 rfl (zf rfl (tc _ _) (zl rfl (s.ld (k:=0) rfl b9 (jM oI rfl)) (zb rfl (by exact aQ (aq (by omega) (by omega))) ?_)))
    refine zn rfl (zf rfl (tc _ _) (zS rfl (s.stM (k:=0) (j:=2) rfl nY oI (by grind) (by simp[ir]) rfl rfl) ?_))
    intro h s
    have e5:((ir f fv).set 3 (.bool true)).set 2 (.int .i64 (f.pins+1))=ir { f with gN:=true,pins:=f.pins+1 } fv:=rfl
    rw[e5] at s
    refine zk 5 rfl (zf rfl (Ds _ _) (zl rfl (s.ld (k:=0) rfl bF (jM oI rfl)) (zc rfl (Ae hT (s.ae [2]) (bj _ _) (by omega)) ?_)))
    intro u h s
    refine zk 3 rfl (WP.ret ⟨aa,_,rfl,?_⟩)
    have s:=iB (i:=i) (f':={ f with gN:=true,pins:=f.pins+1 }) (s.ae [2,2,1]) rfl hf oI
    refine⟨0,f.b,_,.IP i f hq jt g1 hf,.inr ⟨rfl,u,rfl,?_⟩⟩
    have e6:(π.aj.set i { f with gN:=true,pins:=f.pins+1 }).length=π.aj.length:=cI
    rw[←e6] at s
    exact((gO (π:={ π with aj:=π.aj.set i { f with gN:=true,pins:=f.pins+1 } })).2 ⟨dO,wh,di,s.ae [2,0,1,1]⟩).ae [1,0]
end
def F9 : Fm:=⟨0,[],0,false,false⟩
def Pl.fresh (n:Nat): Pl:=⟨List.replicate n fX,[],[],0⟩
theorem YN : ∃i,Tryz.prog.info? 218=some i∧i.size=5∧i.bytes=48 :=
 ⟨_,(show Tryz.prog.info? 218=some ((Tryz.prog.info? 218).getD default) by kernel_rfl),by kernel_rfl,by kernel_rfl⟩
theorem UW {a b:PM}: ∀n:Nat,(wg (repeatL [.int .i64 0,.aR,.int .i64 0,.bool false,.bool false] n) (List.replicate n F9)).p a b:=by
 intro n
 induction n with
 |zero=>trivial
 |succ n I=>exact⟨⟨⟨rfl,rfl,rfl,rfl⟩,⟨(by intro b hb;cases hb),.inl ⟨.inl rfl,rfl⟩⟩⟩,I⟩
section
variable {told:cE} {p:Nat} {v:V} {m:List Fm}
noncomputable def pnL : Code:=eu [1,1,1,0,1,0,0] ((Tryz.f105.body).getD .skip)
theorem R5 (hn:n<4294967296): ∀(j i:Nat) (m:List Fm) (h:H) (E:List (Nat×V)) (Q:Ex→List (Nat×V)→H→Prop),i+j=n→m=List.replicate i fX++List.replicate j F9 →
  Sat h (pt r (.cells 6 (sC p q dO n wh di 0) false)::fT dO m::S)→Has E [(8,.ptr r 0),(28,.int .i64 n),(29,.int .i64 i)] →
  (∀E' h',Has E' [(8,.ptr r 0)]→Sat h' (pt r (.cells 6 (sC p q dO n wh di 0) false)::fT dO (List.replicate n fX)::S)→Q (.exit 0) E' h')→WP ⟨Tryz.prog,told⟩ 41 (.loop pnL) E h Q:=by
 intro j
 induction j with
 |zero =>
  intro i m h E Q hi hm s hE hx
  refine WP.loop (WP.has hE (zg rfl (zC rfl aO (by simp<;>omega) ?_)))
  refine zk 3 rfl (WP.exit (hx _ _ ⟨rfl,aa⟩ ?_))
  rw[hm] at s
  have:i=n:=by omega
  subst this
  simpa using s
 |succ j ih =>
  intro i m h E Q hi hm s hE hx
  have F_:m.length=n:=by rw[hm];simp;omega
  have hf:m[i]?=some F9:=by rw[hm,ie (by simp)];simp[GW]
  obtain⟨pre,fv,post,I,hlen,s⟩:=ke (s.ae [1]) hf
  dsimp only[bringA,getA,aL] at s
  refine WP.loop (WP.has hE (zg rfl (zB rfl aO (by simp<;>omega) ?_)))
  refine zk 5 rfl (WP.block (zK 8 rfl (zY s 3 nP sj rfl (zm rfl (zo rfl (bS rfl rfl (pn (i:=i) (by omega))) ?_)))))
  refine zf rfl (rG _ _) (zS rfl (s.stM (k:=0) (j:=0) rfl nY I hlen (by simp[ir]) rfl rfl) ?_)
  intro h s
  dsimp only[setA] at s
  have e5:(ir F9 fv).set 0 (.int .i64 (-1))=ir fX fv:=rfl
  rw[e5] at s
  refine zv (zr rfl (zb rfl (by exact aQ (aq (by omega) (by omega))) ?_))
  refine zm rfl (zv ?_)
  have s:=iB (i:=i) (f':=fX) s rfl hf I
  refine ih (i+1) (m.set i fX) h _ Q (by omega) ?_ (s.ae [1,0]) ⟨rfl,rfl,rfl,aa⟩ hx
  rw[hm,List.set_append_right _ _ (by simp),gd,gV,GW,List.set_cons_zero,List.replicate_succ',dA]
  rfl
theorem YO (hT:W told){n:Int}(s:Sat h S): Call ⟨Tryz.prog,told⟩ 105 [.ptr p 0,.ptr q 0,.int .i64 n] h fun v h' =>
  (¬(1≤n∧n≤1024)∧v=.aT [.b8,.int .i64 1]∧Sat h' S)∨(1≤n∧n≤1024∧∃r,v=.aT [.ptr r 0,.int .i64 0]∧Sat h' (gn r p q (Pl.fresh n.toNat)::S)):=by
 refine Call.of_wp (hT.free _ rfl) Tryz.func105 rfl rfl (zK 9 rfl ?_)
 refine zd rfl (ak rfl rfl aO) ?_ ?_
 ·intro hq
  have hq:n<1:=by simpa using hq
  exact zk 11 rfl (WP.ret ⟨aa,_,rfl,.inl ⟨fun q=>by omega,rfl,s⟩⟩)
 ·intro hq
  have hq:1≤n:=by simp at hq;omega
  refine zk 2 rfl ?_
  refine zd rfl (ak rfl rfl cV) ?_ ?_
  ·intro I
   have I:1024<n:=by simpa using I
   exact zk 8 rfl (WP.ret ⟨aa,_,rfl,.inl ⟨fun q=>by omega,rfl,s⟩⟩)
  ·intro I
   have I:n≤1024:=by simp at I;omega
   obtain⟨n,rfl⟩:∃k:Nat,n=k:=⟨n.toNat,by omega⟩
   refine zk 9 rfl ?_
   obtain⟨i1,dy,fy,o8⟩:=YN
   obtain⟨id,h1,e1,s1⟩:=II (P:=Tryz.prog) s BY dy ab2 fy (by omega) rfl (by decide) (n:=n) (by omega)
   refine au.any rfl rfl rfl (OpR.of (R:=fun v h'=>v=.sl id 0 n (.exact n)∧h'=h1) (Dg rfl rfl e1) ⟨rfl,rfl⟩) ?_
   rintro v h ⟨rfl,rfl⟩
   have s:Sat h (fT id (List.replicate n F9)::S):=lE.2 ⟨_,by rw[gd];exact((s1.gQ (φ:=True) aa).dQ fun a b _=>UW n).ae [1]⟩
   refine au.Hq s rfl rfl rfl rfl (fun p20 h s => ?_)
   refine au.Hq s rfl rfl rfl rfl (fun p21 h s => ?_)
   refine zo rfl (cQ rfl (by rw[ab0];rfl)) ?_
   refine au.b_ s rfl rfl rfl (eU rfl rfl) (fun p23 h s => ?_)
   refine zk 7 rfl (zY s 0 nP sj rfl (zo rfl (aD rfl rfl rfl (tg rfl BY)) (zk 2 rfl (WP.block ?_))))
   have s:=v8 (f:=fun v (x:Nat×Bool)=>.pu (v=.agg [.int .u64 (x.1:Int),.bool x.2])) (s.ae [1])
   have s:=v8 (f:=fun v (x:Int)=>.pu (v=.int .i64 x)) (s.ae [2])
   have s:=s.ae [2,2,0,0]
   refine R5 (n:=n) (by omega) n 0 _ _ _ _ (by omega) rfl s ⟨rfl,rfl,rfl,aa⟩ (fun E' h' eN s' => ?_)
   refine WP.has eN (zK 6 rfl (WP.ret ⟨aa,_,rfl,?_⟩))
   refine .inr ⟨hq,I,_,rfl,(gO (π:=Pl.fresh n)).2 ⟨id,.map p20,.map p21,?_⟩⟩
   have e6:(Pl.fresh n).aj.length=n:=by simp[Pl.fresh]
   rw[e6]
   exact s'
end
theorem R6 {c:Nat}: ∀ {l:jf} {b:Nat},sr c b l→bornUp c b (l.map RD)=true:=by
 intro l
 induction l with
 |nil=>intro b _;rfl
 |cons e l I =>
  intro b h
  obtain⟨h1,h2,h3⟩:=h
  simp only[ik,RD,BW,bornUp]
  rw[show(Nat.ble b e.2.2&&Nat.blt e.2.2 c)=true by rw[bQ,aW];exact⟨h1,by rw[Nat.blt];exact aW.2 h2⟩,ah]
  exact I h3
theorem PG : ∀ {l:jf},(∀e∈l,(Lit.int .i64 e.1).wf=true)→keyInts (l.map RD)=some (l.map (·.1)):=by
 intro l
 induction l with
 |nil=>intro _;rfl
 |cons e l I =>
  intro h
  simp only[ik,RD,BW,keyInts]
  rw[h e bB,ah]
  have:=I (fun e he=>h e (bA _ he))
  rw[this]
theorem ME {x:Int}: ∀ {l:List Int},l.Pairwise (· < ·)→x∉l→(insI x l).Pairwise (· < ·):=by
 intro l
 induction l with
 |nil=>intro _ _;simp[insI]
 |cons y l ih =>
  intro h hx
  simp only[yg,gj,not_or] at h hx
  simp only[insI]
  by_cases Xb:x≤y
  ·rw[dB Xb,ah]
   have:x<y:=by omega
   simp only[yg,gj]
   refine⟨fun z I => ?_,h⟩
   rcases I with rfl|I
   ·exact this
   ·have:=h.1 z I;omega
  ·rw[er Xb,aV]
   simp only[yg]
   refine⟨fun z I => ?_,ih h.2 hx.2⟩
   have:=(BH x l).mem_iff.1 I
   rcases List.mem_cons.1 this with rfl|I
   ·omega
   ·exact h.1 z I
theorem MF : ∀ {l:List Int},l.Nodup→(oG l).Pairwise (· < ·):=by
 intro l
 induction l with
 |nil=>intro _;exact List.Pairwise.nil
 |cons x l I =>
  intro h
  simp only[oC] at h
  exact ME (I h.2) (fun hx=>h.1 ((iT l).mem_iff.1 hx))
theorem UX : ∀ {l:List Int},l.Pairwise (· < ·)→tX l=true:=by
 intro l
 induction l with
 |nil=>intro _;rfl
 |cons x l I =>
  intro h
  simp only[yg] at h
  simp only[tX,bQ,oA,jX]
  exact⟨h.1,I h.2⟩
section
variable {f:V→α→aE} {told:cE} {mv:V} {m:List (Int×α)} {b:Nat}
def gC (m:List (Int×α)): List Int:=oG (m.map (·.1))
theorem uh {n:Int}: n∈gC m↔n∈m.map (·.1):=(iT _).mem_iff
theorem UY (l:List Int): (jl l).all storable=true:=by simp[jl,storable]
theorem B9 (hT:W told)(s:Sat h (pt b (.cells 1 [mv] false)::uA f mv m::S))(hg:zI Dw g=true)(hm:m.length≤1048576)(hk:∀n∈m.map (·.1),(Lit.int .i64 n).wf=true):
  Call ⟨Tryz.prog,told⟩ 61 [.fn (.func g) [] [.ptr b 0]] h fun v h'=>Sat h' (.arr 1 v (jl (gC m))::pt b (.cells 1 [mv] false)::uA f mv m::S):=by
 obtain⟨id,l,c,rfl,hb,hn,s1⟩:=wX.1 (s.ae [1])
 have s1:Sat h (Kw id l c::jq f l m::pt b (.cells 1 [.map id] false)::S):=s1
 obtain⟨q1,q2,q3,q4,q5⟩:=s1.at (k:=1) rfl
 have I:=FQ q5
 have hlen:l.length=m.length:=by have:=dn List.length I;simpa using this
 have oX:=s1.row (k:=0) rfl
 have adq:=s1.row (k:=2) rfl
 have oN:∀e∈l,(Lit.int .i64 e.1).wf=true:=fun e he=>hk e.1 (by rw[←I];exact oz he)
 have hri:tX (oG (l.map (·.1)))=true:=UX (MF (by rw[I];exact hn))
 have acm:∃v h',toldSorted Dw [.fn (.func g) [] [.ptr b 0]] h=some (v,h')∧Sat h' (.arr 1 v (jl (gC m))::pt b (.cells 1 [.map id] false)::uA f (.map id) m::S):=by
  simp only[toldSorted,adq,oX,bX,hg,R6 hb,PG oN,hri]
  rw[show(Nat.beq 1 1&&true&&true&&Nat.ble l.length 1048576)=true by rw[aW.2 (by omega)];rfl,ah]
  simp only[ah]
  cases hl:l.map (·.1) with
  |nil =>
   refine⟨_,_,rfl,?_⟩
   have:gC m=[]:=by rw[gC,←I,hl];rfl
   rw[this]
   exact s.mJ
  |cons x xs =>
   refine⟨_,_,rfl,?_⟩
   have e1:gC m=oG (x::xs):=by rw[gC,←I,hl]
   have e2:(oG (x::xs)).length=(x::xs).length:=(iT _).length_eq
   have e3:(x::xs).length=l.length:=by rw[←hl,bX]
   rw[e1,←e3]
   refine(s.new (.cells (jl (oG (x::xs))).length (jl (oG (x::xs))) false)).dQ fun a r DZ=>⟨UY _,.inr ⟨h.next,(x::xs).length,.rest 1 0,(jl (oG (x::xs))).length,[],rfl,?_,?_,by simp,rfl,rfl,rfl,rfl,by simp⟩⟩
   ·rw[fe];exact DZ
   ·simp only[jl,bX,e2,dV]
 obtain⟨v,h',e1,e2⟩:=acm
 exact⟨v,h',iL.told hT.sorted Tryz.func61 rfl e1,e2⟩
end
structure B_ (ε:bE): Prop where
 pl:ε.1.Ok
 lg:ε.2.1.Ok
 dk:ε.2.2.Ok
theorem UZ (h:ε.1.Ok): (outF ε i).2.1.Ok:=by
 unfold outF
 split
 ·exact h
 ·rename_i f hf
  have hm:=aM hf
  split
  ·exact h
  ·split
   ·exact h
   ·split
    ·exact h
    ·split
     ·exact h
     ·refine⟨by simp only[cI];exact h.hand,by simp only[cI];exact h.many,fun e he=>by simp only[cI];exact h.bY e he,fun g I => ?_,fun g I => ?_⟩
      ·rcases mj I with I|rfl
       ·exact h.len g I
       ·exact h.len f hm
      ·rcases mj I with I|rfl
       ·exact h.pins g I
       ·exact h.pins f hm
theorem Ah (h:B_ ε): B_ (outF ε i).2:=⟨UZ h.pl,UU h.lg,Ev h.dk⟩
theorem MG {n:Int}: (δ.eE n b).2.waiting.length≤δ.waiting.length+1:=by
 unfold Dk.eE
 split
 ·exact rq _
 ·split
  ·exact rq _
  ·split
   ·exact rq _
   ·exact Nat.le_of_eq (by simp[Dk.wr])
end Go.Proofs.YtdonpgpfplgigaaGreat.Am
namespace Go.Proofs.YtdonpgpfplgigaaGreat.Am
open Go
variable {X:aE} {C:gE} {δ:Dk} {ε ag:bE} {Q:Ex→List (Nat×V)→H→Prop} {h:H} {kd pg:Int} {μ:Lg} {now:List (Int×List Nat)} {E:List (Nat×V)} {S:List aE} {dh:List fL} {l b data:List Nat} {cs post args:List V} {g n k i size bk a d z p6 id off q j tx pv nx j1 j2 p1 r dO aN:Nat} {y:Operand} {π cz:Pl} {P:Program} {α:Type} {t e:TypeId} {x u bv dt w v' wh di:V}
open Classical in
noncomputable def qz (P:Program)(f:FuncId)(l9:List V→H→V×H→Prop)(args:List V)(h:H): Option (V×H) :=
 if I:∃r,l9 args h r∧∀(c:Ctx) (w:World),Rel c h w→(∀x∈args,wf c x)→ki P f args c w r.1 r.2 then some I.choose else none
theorem R7 {f : FuncId} {l9 : List V → H → V × H → Prop} (I : ∃ fn, P.funcs[f]? = some fn ∧ fn.body.isSome = true ∧ (fn.name == "runtime.NumGoroutine") = false) : M4 P f (qz P f l9) := by
 refine .inl ⟨I, fun args σ v eP hr c w h hw => ?_⟩
 unfold qz at hr
 split at hr
 ·rename_i hx
  have := hx.choose_spec.2 c w h hw
  injection hr with hr
  rw [hr] at this
  exact this
 ·cases hr
theorem wZ {f:FuncId}{l9:List V→H→V×H→Prop}{r:V×H}(h1:l9 args h r)(h2:∀(c:Ctx) (w:World),Rel c h w→(∀x∈args,wf c x)→ki P f args c w r.1 r.2):
  ∃r,qz P f l9 args h=some r∧l9 args h r:=by
 have I:∃r,l9 args h r∧∀(c:Ctx) (w:World),Rel c h w→(∀x∈args,wf c x)→ki P f args c w r.1 r.2:=⟨r,h1,h2⟩
 refine⟨I.choose,?_,I.choose_spec.1⟩
 unfold qz
 rw[dif_pos I]
noncomputable def tN (f:Nat): Option (List V→H→Option (V×H)) :=
 cond (Nat.beq f 61) (some (toldSorted Dw)) (cond (Nat.beq f 211) (some toldMore) none)
noncomputable abbrev CB : gE:=⟨Tryz.prog,tN⟩
theorem Ca : Tryz.prog.follows .mixedOrders=true:=by kernel_rfl
theorem Ai : iK CB:=by
 intro f g I
 simp only[CB,tN] at I ⊢
 by_cases h1:f=61
 ·subst h1
  rw[rS rfl,ah] at I
  simp only[aA] at I
  subst I
  exact .inl ⟨⟨_,Tryz.func61,rfl,by decide⟩,fun args σ v eP hr c w h _=>Ju cm RI hr h⟩
 ·rw[fH h1,aV] at I
  by_cases h2:f=211
  ·subst h2
   rw[rS rfl,ah] at I
   simp only[aA] at I
   subst I
   exact .inl ⟨⟨_,Fk,rfl,by decide⟩,fun args σ v eP hr c w h hw=>Ms (C:=CB) rfl Ca hr h hw⟩
  ·rw[fH h2,aV] at I
   cases I
theorem W.base : W tN:=by
 refine⟨fun f I => ?_,rfl,rfl⟩
 have h1:f≠61:=fun e=>by subst e;revert I;decide
 have h2:f≠211:=fun e=>by subst e;revert I;decide
 simp only[tN,fH h1,fH h2,aV]
theorem iL.det {f:FuncId}{v:V}{h₁ I:H}(a:iL C f args h v h₁)(b:iL C f args h v' I): v=v'∧h₁=I:=by
 obtain⟨N,hN⟩:=a
 obtain⟨M,hM⟩:=b
 have e1:=rX (iC (qX N M)) hN
 have e2:=rX (iC (qW N M)) hM
 rw[e1] at e2
 simp only[aA,bN] at e2
 exact e2
theorem gY.aj (I:gY π cz): ∀g∈cz.aj,∃f∈π.aj,∃t,g={ f with gN:=t }:=by
 intro g hg
 obtain⟨i,hi,rfl⟩:=List.mem_iff_getElem.1 hg
 have hf:π.aj[i]?=some (π.aj[i]'(by rw[←I.len];exact hi)):=aG _
 obtain⟨t,ht⟩:=I.get i _ hf
 rw[aG hi] at ht
 exact⟨_,CT _,t,bW ht⟩
theorem gY.ok (I:gY π cz)(h:π.Ok)(hh:cz.hand<cz.aj.length): cz.Ok:=by
 refine⟨hh,by rw[I.len];exact h.many,by rw[I.bY,I.len];exact h.bY,fun g hg => ?_,fun g hg => ?_⟩
 ·obtain⟨f,hf,t,rfl⟩:=I.aj g hg
  exact h.len f hf
 ·obtain⟨f,hf,t,rfl⟩:=I.aj g hg
  exact h.pins f hf
theorem Pl.Ok.set {f:Fm}{w:List (Int×Int)}{d:List (Int×(Nat×Bool))}(h:π.Ok)(hw:∀e∈w,0≤e.2∧e.2<π.aj.length)(hl:f.b.length≤512)(hp:0≤f.pins∧f.pins≤4294967296): Pl.Ok { π with aj:=π.aj.set i f,bY:=w,dU:=d }:=by
 refine⟨by simp only[cI];exact h.hand,by simp only[cI];exact h.many,fun e he=>by simp only[cI];exact hw e he,fun g I => ?_,fun g I => ?_⟩
 ·rcases mj I with I|rfl
  ·exact h.len g I
  ·exact hl
 ·rcases mj I with I|rfl
  ·exact h.pins g I
  ·exact hp
theorem YP {n:Int}: ∀ {l:List (Int×α)} {e:Int×α},e∈qi n l→e∈l:=by
 intro l
 induction l with
 |nil=>intro e h;exact h
 |cons x l I =>
  intro e h
  simp only[qi] at h
  split at h
  ·exact bA _ h
  ·rcases List.mem_cons.1 h with rfl|h
   ·exact bB
   ·exact bA _ (I h)
theorem YQ {n:Int}{x:α}: ∀ {l:List (Int×α)} {e:Int×α},e∈cD n x l→e=(n,x)∨e∈l:=by
 intro l
 induction l with
 |nil=>intro e h;simp only[cD,List.mem_singleton] at h;exact .inl h
 |cons y l I =>
  intro e h
  simp only[cD] at h
  split at h
  ·rcases List.mem_cons.1 h with rfl|h
   ·exact .inl rfl
   ·exact .inr (bA _ h)
  ·rcases List.mem_cons.1 h with rfl|h
   ·exact .inr bB
   ·rcases I h with h|h
    ·exact .inl h
    ·exact .inr (bA _ h)
theorem Ew {f:Fm}(h:π.Ok): (eA π i f).Ok:=by
 unfold eA
 refine h.set (fun e he => ?_) (by simp[fX]) (by simp[fX])
 split at he
 ·exact h.bY e he
 ·exact h.bY e (YP he)
theorem gZ.ok {n e:Int}(hr:gZ ε n e b ag)(h:B_ ε)(hp:∀f∈ε.1.aj,f.pins=0): B_ ag:=by
 cases hr with
 |arg _=>exact h
 |IP i f h1 h2 hl hf =>
  have hm:=aM hf
  exact⟨h.pl.set h.pl.bY (h.pl.len f hm) (by have:=hp f hm;simp only;omega),h.lg,h.dk⟩
 |out cz i f h1 h2 hl I hf hh he=>exact Ah (ε:=(cz,ε.2)) ⟨I.ok h.pl hh,h.lg,h.dk⟩
 |read cz i f h1 h2 hl I hf hh he hr =>
  have:=Ah (i:=i) (ε:=(cz,ε.2)) ⟨I.ok h.pl hh,h.lg,h.dk⟩
  exact⟨Ew this.pl,this.lg,this.dk⟩
 |bad cz i f h1 h2 hl I hf hh he hr hc =>
  have:=Ah (i:=i) (ε:=(cz,ε.2)) ⟨I.ok h.pl hh,h.lg,h.dk⟩
  exact⟨Ew this.pl,this.lg,this.dk⟩
 |load cz i f h1 h2 hl I hf hh he hr hc =>
  have:=Ah (i:=i) (ε:=(cz,ε.2)) ⟨I.ok h.pl hh,h.lg,h.dk⟩
  have h3:=Ew (i:=i) (f:=f) this.pl
  have hlen:i<(eA (outF (cz,ε.2) i).2.1 i f).aj.length:=by
   obtain⟨c,hc⟩:=pW (ε:=(cz,ε.2)) hf
   have:=(List.getElem?_eq_some_iff.1 hc).1
   simpa[eA] using this
  refine⟨h3.set (fun e he => ?_) (by simp only;rw[this.dk.at];omega) (by simp),this.lg,this.dk⟩
  rcases YQ he with rfl|he
  ·simp only;omega
  ·exact h3.bY e he
theorem IQ {n:Int}(h:π.Ok): (unpinF π n).2.Ok:=by
 unfold unpinF
 split
 ·exact h
 ·rename_i i hi
  split
  ·exact h
  ·rename_i f I
   have hm:=aM I
   refine h.set h.bY (h.len f hm) ?_
   have:=h.pins f hm
   have eZ:f.pins≠0:=by
    unfold heldI at hi
    split at hi
    ·cases hi
    ·split at hi
     ·cases hi
     ·rename_i g hg
      split at hi
      ·cases hi
      ·rename_i hp
       have:=bW hi
       subst this
       rw[hg] at I
       have:=bW I
       subst this
       exact hp
   simp only;omega
inductive oQ (ε:bE)(n:Int): Int→List Nat→bE→Prop where
 |dead (h:ε.2.2.dead=true):oQ ε n 9 [] ε
 |l9 (e:Int) (b:List Nat) (ag:bE) (h:ε.2.2.dead=false) (hr:gZ ε n e b ag) (he:e≠0):oQ ε n e [] ag
 |Aj (b:List Nat) (ag:bE) (h:ε.2.2.dead=false) (hr:gZ ε n 0 b ag) (he:(unpinF ag.1 n).1≠0):oQ ε n (unpinF ag.1 n).1 [] ((unpinF ag.1 n).2,ag.2)
 |read (b:List Nat) (ag:bE) (h:ε.2.2.dead=false) (hr:gZ ε n 0 b ag) (he:(unpinF ag.1 n).1=0):oQ ε n 0 b ((unpinF ag.1 n).2,ag.2)
theorem oQ.ok {n e:Int}(hr:oQ ε n e b ag)(h:B_ ε)(I:∀f∈ε.1.aj,f.pins=0): B_ ag:=by
 cases hr with
 |dead _=>exact h
 |l9 e b ag hd hr he=>exact hr.ok h I
 |Aj b ag hd hr he=>have:=hr.ok h I;exact⟨IQ this.pl,this.lg,this.dk⟩
 |read b ag hd hr he=>have:=hr.ok h I;exact⟨IQ this.pl,this.lg,this.dk⟩
def NM (a p q r:Nat)(op dv:V)(aN:Nat): List V:=[.ptr p 0,.ptr q 0,.ptr r 0,op,dv,.int .u64 (aN:Int)]
def gD (a p q r:Nat)(op:V)(data:List Nat)(aN:Nat): aE:=xs fun dv:V=>star [pt a (.cells 6 (NM a p q r op dv aN) false),.cg dv data]
def iI (g a:Nat)(now:List (Int×List Nat))(cG:Bool): aE:=xs fun I:V=>star [pt g (.cells 3 [.ptr a 0,I,.bool cG] false),uA (fun v b=>.cg v b) I now]
section
variable {told:cE} {p:Nat} {op v:V} {m:List Fm} {cG:Bool}
theorem eB : Sat h (gD a p q r op data aN::S)↔∃dv,Sat h (pt a (.cells 6 (NM a p q r op dv aN) false)::.cg dv data::S):=by
 simp only[gD,jv,cK,fF,dG]
theorem fN : Sat h (iI g a now cG::S)↔∃I,Sat h (pt g (.cells 3 [.ptr a 0,I,.bool cG] false)::uA (fun v b=>.cg v b) I now::S):=by
 simp only[iI,jv,cK,fF,dG]
theorem Ey (hT:W told){n:Int}(s:Sat h (gD a p q r op data aN::gn r p q π::dm q p μ::bZ p δ::S))(I:B_ (π,μ,δ))(HN:∀f∈π.aj,f.pins=0)(hw:δ.waiting.length≤268435456):
  Call ⟨Tryz.prog,told⟩ 137 [.ptr a 0,.int .i64 n] h fun v h'=>∃(e:Int) (b:List Nat) (ε:bE),oQ (π,μ,δ) n e b ε ∧
   ((e≠0∧v=.aT [.aR,.int .i64 e]∧Sat h' (gD a p q r op data aN::gn r p q ε.1::dm q p ε.2.1::bZ p ε.2.2::S)) ∨
    (e=0∧∃u,v=.aT [u,.int .i64 0]∧Sat h' (aU u b::gD a p q r op data aN::gn r p q ε.1::dm q p ε.2.1::bZ p ε.2.2::S))):=by
 have s0:=s
 obtain⟨dv,s⟩:=eB.1 s
 refine Call.of_wp (hT.free _ rfl) Tryz.func137 rfl rfl (zK 10 rfl (zY s 0 Dl xO rfl (zc rfl (KH hT (s.ae [4])) ?_)))
 rintro v h ⟨rfl,rfl⟩
 refine zv ?_
 cases hd:δ.dead with
 |true =>
  exact zK 6 rfl (WP.ret ⟨aa,_,rfl,9,[],_,.dead hd,.inl ⟨by decide,rfl,s0⟩⟩)
 |false =>
  refine zK 6 rfl (zY s 0 vD Dj rfl (zm rfl (zc rfl (R4 (n:=n) hT (s.ae [2,2,2]) I.pl HN I.lg I.dk hw) ?_)))
  rintro v h ⟨e,b,ε,hr,(⟨he,rfl,s⟩|⟨rfl,u,rfl,s⟩)⟩
  ·dsimp only[bringA,getA,aL] at s
   refine zk 10 rfl (zB rfl aH (by simp;exact he) ?_)
   exact zk 8 rfl (WP.ret ⟨aa,_,rfl,e,[],ε,.l9 e b ε hd hr he,.inl ⟨he,rfl,eB.2 ⟨dv,s.ae [3,3,0,0,0]⟩⟩⟩)
  ·dsimp only[bringA,getA,aL] at s
   refine zk 10 rfl (zC rfl aH (rfl) ?_)
   have s:=s.ae [4,4,0,0,0,0]
   refine zk 8 rfl (zY s 0 vD Dj rfl (zm rfl ?_))
   have jU:=hr.ok I HN
   refine zc rfl (KR (n:=n) hT (s.ae [3]) jU.pl) ?_
   rintro v h ⟨rfl,s⟩
   refine zk 5 rfl ?_
   by_cases he:(unpinF ε.1 n).1=0
   ·skip
    refine zC rfl aH (by simp;exact he) ?_
    exact zk 9 rfl (WP.ret ⟨aa,_,rfl,0,b,_,.read b ε hd hr he,.inr ⟨rfl,u,rfl,(eB.2 ⟨dv,s.ae [1,1,0,1,1,0]⟩).ae [4,0,0,0,0]⟩⟩)
   ·skip
    refine zB rfl aH (by simp;exact he) ?_
    exact zk 8 rfl (WP.ret ⟨aa,_,rfl,_,[],_,.Aj b ε hd hr he,.inl ⟨he,rfl,(eB.2 ⟨dv,(s.ae [1,1,0,1,1,0]).del 5⟩)⟩⟩)
end
structure Pl.Full (π:Pl): Prop where
 nodup:(π.bY.map (·.1)).Nodup
 pq:∀n i,lookL n π.bY=some i→0≤n∧∃f,π.aj[i.toNat]?=some f∧f.bM=n∧f.b.length=512
structure kR (ε:bE): Prop where
 ok:B_ ε
 pins:∀f∈ε.1.aj,f.pins=0
 full:ε.1.Full
theorem Pl.Full.set {f g:Fm}{d:List (Int×(Nat×Bool))}(h:π.Full)(hf:π.aj[i]?=some f)(hp:g.bM=f.bM)(hl:f.b.length=512→g.b.length=512): Pl.Full { π with aj:=π.aj.set i g,dU:=d }:=by
 refine⟨h.nodup,fun n j hj => ?_⟩
 obtain⟨h1,f',h2,h3,h4⟩:=h.pq n j hj
 refine⟨h1,?_⟩
 by_cases I:i=j.toNat
 ·subst I
  rw[hf] at h2
  have:=bW h2
  subst this
  exact⟨g,jF (List.getElem?_eq_some_iff.1 hf).1,hp.trans h3,hl h4⟩
 ·exact⟨f',by simp only[lG I];exact h2,h3,h4⟩
theorem gY.full (I:gY π cz)(h:π.Full): cz.Full:=by
 refine⟨by rw[I.bY];exact h.nodup,fun n j hj => ?_⟩
 rw[I.bY] at hj
 obtain⟨h1,f',h2,h3,h4⟩:=h.pq n j hj
 obtain⟨t,ht⟩:=I.get _ _ h2
 exact⟨h1,_,ht,h3,h4⟩
theorem w6 (h:ε.1.Full): (outF ε i).2.1.Full:=by
 unfold outF
 split
 ·exact h
 ·rename_i f I
  split
  ·exact h
  ·split
   ·exact h
   ·split
    ·exact h
    ·split
     ·exact h
     ·exact h.set I rfl fun hl=>hl
theorem Ak {f g:Fm}(h:π.Full)(hg:π.aj[i]?=some g)(hp:g.bM=f.bM): (eA π i f).Full∧∀n j,lookL n (eA π i f).bY=some j→j.toNat≠i:=by
 have key:∀n j,lookL n (eA π i f).bY=some j→lookL n π.bY=some j∧j.toNat≠i:=by
  intro n j I
  by_cases hf:f.bM<0
  ·have hw:(eA π i f).bY=π.bY:=by simp only[eA,ay hf]
   rw[hw] at I
   refine⟨I,fun hi => ?_⟩
   obtain⟨h1,f',h2,h3,_⟩:=h.pq n j I
   rw[hi,hg] at h2
   have:=bW h2
   subst this
   omega
  ·have hw:(eA π i f).bY=qi f.bM π.bY:=by simp only[eA,ai hf]
   rw[hw,IJ h.nodup] at I
   by_cases hn:f.bM=n
   ·rw[ay hn] at I;cases I
   ·rw[ai hn] at I
    refine⟨I,fun hi => ?_⟩
    obtain⟨h1,f',h2,h3,_⟩:=h.pq n j I
    rw[hi,hg] at h2
    have:=bW h2
    subst this
    omega
 refine⟨⟨?_,fun n j I => ?_⟩,fun n j I=>(key n j I).2⟩
 ·unfold eA
  simp only
  split
  ·exact h.nodup
  ·exact Ac h.nodup
 ·obtain⟨h1,h2⟩:=key n j I
  obtain⟨h3,f',h4,h5,h6⟩:=h.pq n j h1
  exact⟨h3,f',by simp only[eA,lG (jH h2)];exact h4,h5,h6⟩
theorem MH {n:Int}(h:π.Full)(hi:i<π.aj.length)(eZ:∀n j,lookL n π.bY=some j→j.toNat≠i)(hn:0≤n)(hb:b.length=512): (kx π i n b).Full:=by
 refine⟨n_ h.nodup,fun m j I => ?_⟩
 simp only[kx,o6] at I
 by_cases hm:n=m
 ·rw[ay hm] at I
  have:=bW I
  subst this;subst hm
  exact⟨hn,⟨n,b,1,true,false⟩,jF hi,rfl,hb⟩
 ·rw[ai hm] at I
  obtain⟨h3,f',h4,h5,h6⟩:=h.pq m j I
  exact⟨h3,f',by simp only[kx,lG (jH (eZ m j I))];exact h4,h5,h6⟩
theorem gZ.full {n e:Int}(hr:gZ ε n e b ag)(hd:ε.2.2.Ok)(h:ε.1.Full): ag.1.Full∧(e=0→b.length=512):=by
 cases hr with
 |arg _=>exact⟨h,fun h=>(by cases h)⟩
 |IP i f h1 h2 hl hf =>
  refine⟨h.set hf rfl fun hl=>hl,fun _ => ?_⟩
  obtain⟨_,f',h4,_,h6⟩:=h.pq n i hl
  rw[gU,hf] at h4
  have:=bW h4
  subst this
  exact h6
 |out cz i f h1 h2 hl hn hf hh he=>exact⟨w6 (ε:=(cz,ε.2)) (hn.full h),fun h=>absurd h he⟩
 |read cz i f h1 h2 hl hn hf hh he hr =>
  obtain⟨c,I⟩:=pW (ε:=(cz,ε.2)) hf
  exact⟨(Ak (f:=f) (w6 (ε:=(cz,ε.2)) (hn.full h)) I rfl).1,fun h=>absurd h hr⟩
 |bad cz i f h1 h2 hl hn hf hh he hr hc =>
  obtain⟨c,I⟩:=pW (ε:=(cz,ε.2)) hf
  exact⟨(Ak (f:=f) (w6 (ε:=(cz,ε.2)) (hn.full h)) I rfl).1,fun h=>absurd h hc⟩
 |load cz i f h1 h2 hl hn hf hh he hr hc =>
  obtain⟨c,I⟩:=pW (ε:=(cz,ε.2)) hf
  have hi:=(List.getElem?_eq_some_iff.1 I).1
  obtain⟨k1,k2⟩:=Ak (f:=f) (w6 (ε:=(cz,ε.2)) (hn.full h)) I rfl
  have rL:=(Ev (ε:=(cz,ε.2)) (i:=i) hd).at n
  exact⟨MH k1 (by simp only[eA,cI];exact hi) k2 h1 rL,fun _=>rL⟩
theorem D8 {n:Int}(h:π.Full): (unpinF π n).2.Full:=by
 unfold unpinF
 split
 ·exact h
 ·split
  ·exact h
  ·rename_i f I
   exact h.set I rfl fun hl=>hl
theorem gY.pins (I:gY π cz)(h:∀f∈π.aj,f.pins=0): ∀f∈cz.aj,f.pins=0:=fun g hg=>by
 obtain⟨f,hf,t,rfl⟩:=I.aj g hg
 exact h f hf
theorem w8 (h:∀f∈ε.1.aj,f.pins=0): ∀f∈(outF ε i).2.1.aj,f.pins=0:=by
 unfold outF
 split
 ·exact h
 ·rename_i f hf
  have hm:=aM hf
  split
  ·exact h
  ·split
   ·exact h
   ·split
    ·exact h
    ·split
     ·exact h
     ·intro g I
      rcases mj I with I|rfl
      ·exact h g I
      ·exact h f hm
theorem Al {f:Fm}(h:∀f∈π.aj,f.pins=0): ∀f∈(eA π i f).aj,f.pins=0:=by
 intro g I
 rcases mj I with I|rfl
 ·exact h g I
 ·rfl
theorem gZ.NN {n e:Int}(hr:gZ ε n e b ag)(he:e≠0)(hp:∀f∈ε.1.aj,f.pins=0): ∀f∈ag.1.aj,f.pins=0:=by
 cases hr with
 |arg _=>exact hp
 |IP i f h1 h2 hl hf=>exact absurd rfl he
 |out cz i f h1 h2 hl I hf hh he=>exact w8 (ε:=(cz,ε.2)) (I.pins hp)
 |read cz i f h1 h2 hl I hf hh he hr=>exact Al (f:=f) (w8 (ε:=(cz,ε.2)) (I.pins hp))
 |bad cz i f h1 h2 hl I hf hh he hr hc=>exact Al (f:=f) (w8 (ε:=(cz,ε.2)) (I.pins hp))
 |load cz i f h1 h2 hl I hf hh he hr hc=>exact absurd rfl he
theorem KS {m:List Fm}{f g:Fm}(h:∀f∈m,f.pins=0)(hg:g.pins=0): ∀x∈(m.set i f).set i g,x.pins=0:=by
 intro x I
 rw[List.set_set] at I
 rcases mj I with I|rfl
 ·exact h x I
 ·exact hg
theorem wk {n:Int}{f:Fm}(hl:lookL n π.bY=some (i:Int))(I:π.aj[i]?=some f)(hp:f.pins=1): heldI π n=some i∧unpinF π n=(0,{ π with aj:=π.aj.set i { f with pins:=0 } }):=by
 have h1:heldI π n=some i:=by
  simp only[heldI,hl,gU,I,hp]
  rfl
 refine⟨h1,?_⟩
 simp only[unpinF,h1,I,hp]
 rfl
theorem U0 {n:Int}{x:α}{l:List (Int×α)}: lookL n (cD n x l)=some x:=by rw[o6,ay rfl]
theorem gZ.at {n:Int}(hr:gZ ε n 0 b ag)(hp:∀f∈ε.1.aj,f.pins=0):
  ∃(i:Nat) (f:Fm),lookL n ag.1.bY=some (i:Int)∧ag.1.aj[i]?=some f∧f.pins=1∧f.b=b∧∀g:Fm,g.pins=0→∀x∈ag.1.aj.set i g,x.pins=0:=by
 generalize I:(0:Int)=e at hr
 cases hr with
 |arg _=>cases I
 |IP i f h1 h2 hl hf =>
  have hi:=(List.getElem?_eq_some_iff.1 hf).1
  refine⟨i,{ f with gN:=true,pins:=f.pins+1 },hl,by simp[hi],by have:=hp f (aM hf);show f.pins+1=1;omega,rfl,fun g hg=>KS hp hg⟩
 |out cz i f h1 h2 hl hn hf hh he=>exact absurd I.symm he
 |read cz i f h1 h2 hl hn hf hh he hr=>exact absurd I.symm hr
 |bad cz i f h1 h2 hl hn hf hh he hr hc=>exact absurd I.symm hc
 |load cz i f h1 h2 hl hn hf hh he hr hc =>
  obtain⟨c,RB⟩:=pW (ε:=(cz,ε.2)) hf
  have hi:=(List.getElem?_eq_some_iff.1 RB).1
  refine⟨i,⟨n,_,1,true,false⟩,U0,jF (by show i<(List.set _ i _).length;rw[cI];exact hi),rfl,rfl,fun g hg=>KS (Al (f:=f) (w8 (ε:=(cz,ε.2)) (hn.pins hp))) hg⟩
theorem gZ.Ez {n:Int}(hr:gZ ε n 0 b ag)(I:∀f∈ε.1.aj,f.pins=0): (unpinF ag.1 n).1=0∧∀f∈(unpinF ag.1 n).2.aj,f.pins=0:=by
 obtain⟨i,f,h1,h2,h3,h4,h5⟩:=hr.at I
 rw[(wk h1 h2 h3).2]
 exact⟨rfl,h5 _ rfl⟩
theorem oQ.qA {n e:Int}(hr:oQ ε n e b ag)(h:kR ε): kR ag:=by
 refine⟨hr.ok h.ok h.pins,?_,?_⟩
 ·cases hr with
  |dead _=>exact h.pins
  |l9 e b ag I hr he=>exact hr.NN he h.pins
  |Aj b ag I hr he=>exact(hr.Ez h.pins).2
  |read b ag I hr he=>exact(hr.Ez h.pins).2
 ·cases hr with
  |dead _=>exact h.full
  |l9 e b ag I hr he=>exact(hr.full h.ok.dk h.full).1
  |Aj b ag I hr he=>exact D8 (hr.full h.ok.dk h.full).1
  |read b ag I hr he=>exact D8 (hr.full h.ok.dk h.full).1
theorem oQ.len {n:Int}(hr:oQ ε n 0 b ag)(h:kR ε): b.length=512:=by
 generalize I:(0:Int)=e at hr
 cases hr with
 |dead _=>cases I
 |l9 e b ag hd hr he=>exact absurd I.symm he
 |Aj b ag hd hr he=>exact absurd I.symm he
 |read b ag hd hr he=>exact(hr.full h.ok.dk h.full).2 rfl
inductive GRd (ε:bE)(now:List (Int×List Nat))(cG:Bool)(n:Int): Int→List Nat→bE→Prop where
 |arg (h:¬(0≤n∧n<ε.2.2.bG.length)):GRd ε now cG n 1 [] ε
 |cG (h1:0≤n) (h2:n<ε.2.2.bG.length) (h:cG=true):GRd ε now cG n 18 [] ε
 |own (b:List Nat) (h1:0≤n) (h2:n<ε.2.2.bG.length) (h:cG=false) (hl:lookL n now=some b):GRd ε now cG n 0 b ε
 |read (e:Int) (b:List Nat) (ag:bE) (h1:0≤n) (h2:n<ε.2.2.bG.length) (h:cG=false) (hl:lookL n now=none) (hr:oQ ε n e b ag):GRd ε now cG n e b ag
theorem GRd.qA {cG:Bool}{n e:Int}(hr:GRd ε now cG n e b ag)(h:kR ε): kR ag:=by
 cases hr with
 |arg _=>exact h
 |cG _ _ _=>exact h
 |own _ _ _ _ _=>exact h
 |read e b ag I h2 h3 hl hr=>exact hr.qA h
theorem OpR.invoke {o:Oper}{cl:Go.Call}{x:Operand}{m:String}{k:FuncId}{R:V→H→Prop}(rW:o.op=.call cl)(hc:cl.callee=.invoke x m)
 (hx:bC E x=some (.iface t u))(hm:methV C.P t m=some k)(ha:lookArgs E cl.args.toList=some args)(I:Am.Call C k (u::args) h R): OpR C E h o R:=by
 obtain⟨v,h₁,⟨N,hN⟩,hr⟩:=I
 exact⟨v,h₁,hr,fun env hE=>⟨N,by simp only[evOp,rW,evCall,oE hE ha,hc,cC hE hx,hm];exact hN⟩⟩
theorem NO : methV Tryz.prog 32 "Read" = some 255 := by kernel_rfl
theorem YR : methV Tryz.prog 24 "Read" = some 137 := by kernel_rfl
theorem Xc {x:Operand}(hu:Tryz.prog.underlying t=some (.pointer e)): binV Tryz.prog h .neq t x y .b8 .b8=some (.bool false):=by simp only[binV,eqV,hu];rfl
theorem acn {x:Operand}{o:Nat}(hu:Tryz.prog.underlying t=some (.pointer e)): binV Tryz.prog h .neq t x y (.ptr i o) .b8=some (.bool true):=by simp only[binV,eqV,hu];rfl
theorem Ao {x:Operand}{o:Nat}(hu:Tryz.prog.underlying t=some (.pointer e)): binV Tryz.prog h .eql t x y (.ptr i o) .b8=some (.bool false):=by simp only[binV,eqV,hu];rfl
theorem aco {x:Operand}{o:Nat}(hu:Tryz.prog.underlying t=some (.pointer e)): binV Tryz.prog h .eql t x y .b8 (.ptr i o)=some (.bool false):=by simp only[binV,eqV,hu];rfl
theorem acp {k:TypeId}{x:Operand}{m:Nat}{ds:List V}(hu:Tryz.prog.underlying t=some (.pointer e))(I:bp Tryz.prog e=some k)(h1:1≤k)(hi:T.get h.tr i=some (.cells n cs false))(hj:T.get h.tr j=some (.cells m ds false))(hn:1≤n)(hm:1≤m):
  binV Tryz.prog h .eql t x y (.ptr i 0) (.ptr j 0)=some (.bool (Nat.beq i j)):=by
 simp only[binV,eqV,hu,I,aW.2 h1,ah,hi,hj,aW.2 hn,aW.2 hm,lN,kE,Bool.and_true,gJ]
section
variable {told:cE} {p:Nat} {op v:V} {m:List Fm} {cG:Bool}
theorem IS (I:W told)(s:Sat h (gD a p q r .b8 data aN::S)): Call ⟨Tryz.prog,told⟩ 43 [.ptr a 0] h fun v h'=>∃g,v=.aT [.ptr g 0,.int .i64 0]∧Sat h' (iI g a [] false::gD a p q r (.ptr g 0) data aN::S):=by
 obtain⟨dv,s⟩:=eB.1 s
 refine Call.of_wp (I.free _ rfl) Tryz.func43 rfl rfl (zK 10 rfl (zY s 0 vE Pc rfl (zC rfl (Xc jT) (rfl) (zk 7 rfl ?_))))
 refine au.Hq s rfl rfl rfl rfl (fun IT h s => ?_)
 refine zo rfl (cQ rfl (by rw[abQ];rfl)) ?_
 refine au.b_ s rfl rfl rfl (eU rfl rfl) (fun p13 h s => ?_)
 refine zn rfl (zf rfl (vE _ _) ?_)
 refine zS rfl (by exact s.jS (k:=2) rfl aat rfl (by decide) rfl rfl) (fun h s => ?_)
 refine zk 5 rfl (zY s 2 vE Pc rfl (zk 3 rfl (WP.ret ⟨aa,_,rfl,?_⟩)))
 have s1:=v8 (f:=fun v (b:List Nat)=>.cg v b) (s.ae [1])
 have s:=fN.2 ⟨_,s1.ae [1]⟩
 exact⟨_,rfl,(eB.2 ⟨dv,s.ae [1,1,0]⟩).ae [1]⟩
theorem KT (hT:W told){n:Int}(s:Sat h (iI g a now cG::gD a p q r op data aN::gn r p q π::dm q p μ::bZ p δ::S))(cA:kR (π,μ,δ))(hw:δ.waiting.length≤268435456)(qM:∀e∈now,e.2.length=512):
  Call ⟨Tryz.prog,told⟩ 255 [.ptr g 0,.int .i64 n] h fun v h'=>∃(e:Int) (b:List Nat) (ε:bE),GRd (π,μ,δ) now cG n e b ε ∧
   ((e≠0∧v=.aT [.aR,.int .i64 e]∧Sat h' (iI g a now cG::gD a p q r op data aN::gn r p q ε.1::dm q p ε.2.1::bZ p ε.2.2::S)) ∨
    (e=0∧∃u,v=.aT [u,.int .i64 0]∧Sat h' (aU u b::iI g a now cG::gD a p q r op data aN::gn r p q ε.1::dm q p ε.2.1::bZ p ε.2.2::S))):=by
 have s0:=s
 obtain⟨nv,s⟩:=fN.1 s
 obtain⟨dv,s⟩:=eB.1 (s.ae [2])
 dsimp only[bringA,getA,aL] at s
 refine Call.of_wp (hT.free _ rfl) Tryz.func255 rfl rfl (zK 6 rfl (WP.block (zK 3 rfl ?_)))
 refine zd rfl (ak rfl rfl aO) ?_ ?_
 ·intro hq
  have hq:n<0:=by simpa using hq
  exact zk 20 rfl (WP.ret ⟨aa,_,rfl,1,[],_,.arg (by simp only;omega),.inl ⟨by decide,rfl,s0⟩⟩)
 ·intro hq
  have hq:0≤n:=by simp at hq;omega
  refine zk 4 rfl (zY s 2 rD BQ rfl (zn rfl (zY s 0 Dl xO rfl (zc rfl (Et hT (s.ae [6])) ?_))))
  rintro v h ⟨rfl,rfl⟩
  refine zd rfl (ak rfl rfl mV) ?_ ?_
  ·intro I
   have I:(δ.bG.length:Int)≤n:=by simpa using I
   exact zk 9 rfl (WP.ret ⟨aa,_,rfl,1,[],_,.arg (by simp only;omega),.inl ⟨by decide,rfl,s0⟩⟩)
  ·intro I
   have I:n<(δ.bG.length:Int):=by simp at I;omega
   refine zk 8 rfl (zf rfl (Di _ _) ?_)
   cases cG with
   |true =>
    exact zt rfl (o_load rfl (s.ld (k:=2) rfl r_ rfl)) (rfl) (zk 8 rfl (WP.ret ⟨aa,_,rfl,18,[],_,.cG hq I rfl,.inl ⟨by decide,rfl,s0⟩⟩))
   |false =>
    refine zh rfl (o_load rfl (by exact s.ld (k:=2) rfl r_ rfl)) (rfl) ?_
    refine za rfl (zv (zj rfl (WP.skip (zw (zg rfl (zk 2 rfl (zf rfl (s8 _ _) (zl rfl (by exact s.ld (k:=2) rfl qG rfl) ?_))))))))
    refine zm rfl ?_
    rcases rH (n:=n) (fun _ _=>aJ.cg _ _) (s.ae [3]) ud cm lq with⟨g1,g2,_⟩|⟨u,b,g1,g2,_,s2⟩
    ·refine au.op rfl rfl rfl (lW rfl rfl g2) ?_
     refine zk 5 rfl (zv (zg rfl (zm rfl (zv (zj rfl (WP.skip (zg rfl (zk 2 rfl (zf rfl (rD _ _) (zl rfl (by exact s.ld (k:=2) rfl BQ rfl) ?_))))))))))
     refine zm rfl (zc rfl (Ey (n:=n) hT (s0.ae [1,1,1,1]) cA.ok cA.pins hw) ?_)
     rintro v h ⟨e,b,ε,hr,(⟨he,rfl,s⟩|⟨rfl,u,rfl,s⟩)⟩
     ·dsimp only[bringA,getA,aL] at s
      exact zk 5 rfl (WP.ret ⟨aa,_,rfl,e,b,ε,.read e b ε hq I rfl g1 hr,.inl ⟨he,rfl,s.ae [4]⟩⟩)
     ·dsimp only[bringA,getA,aL] at s
      exact zk 5 rfl (WP.ret ⟨aa,_,rfl,0,b,ε,.read 0 b ε hq I rfl g1 hr,.inr ⟨rfl,u,rfl,s.ae [0,4]⟩⟩)
    ·dsimp only[bringA,getA,aL] at s2
     refine zo rfl (lW rfl rfl g2) (zk 14 rfl ?_)
     have hb:=qM _ (nZ g1)
     refine zc rfl (u9 hT s2 (bj _ _) (by simp only at hb;omega)) ?_
     intro v h s
     refine zk 3 rfl (WP.ret ⟨aa,_,rfl,?_⟩)
     have s:=eB.2 ⟨dv,s.ae [3,3,0,0,0,0,0,0,0]⟩
     have s:=fN.2 ⟨nv,s.ae [4,3]⟩
     exact⟨0,b,_,.own b hq I rfl g1,.inr ⟨rfl,v,rfl,((s.ae [2,0,0,1,1,1]).del 6)⟩⟩
end
inductive wm (ε:bE)(now:List (Int×List Nat))(cG:Bool)(n:Int)(b:List Nat): Int→List (Int×List Nat)→bE→Prop where
 |may (e:Int) (c:List Nat) (ag:bE) (hr:GRd ε now cG n e c ag) (he:e≠0):wm ε now cG n b e now ag
 |bad (c:List Nat) (ag:bE) (hr:GRd ε now cG n 0 c ag) (hg:cF b=false):wm ε now cG n b 4 now ag
 |done (c:List Nat) (ag:bE) (hr:GRd ε now cG n 0 c ag) (hg:cF b=true):wm ε now cG n b 0 (cD n b now) ag
theorem wm.qA {aF:List (Int×List Nat)}{cG:Bool}{n e:Int}(hr:wm ε now cG n b e aF ag)(h:kR ε): kR ag:=by
 cases hr with
 |may e c ag hr he=>exact hr.qA h
 |bad c ag hr I=>exact hr.qA h
 |done c ag hr I=>exact hr.qA h
section
variable {told:cE} {p:Nat} {op v:V} {m:List Fm} {cG:Bool}
theorem aaP (hT:W told){n:Int}(s:Sat h (iI g a now cG::gD a p q r op data aN::gn r p q π::dm q p μ::bZ p δ::S))(cA:kR (π,μ,δ))(hw:δ.waiting.length≤268435456)(I:∀e∈now,e.2.length=512):
  Call ⟨Tryz.prog,told⟩ 133 [.iface 32 (.ptr g 0),.int .i64 n] h fun v h'=>∃(e:Int) (b:List Nat) (ε:bE),GRd (π,μ,δ) now cG n e b ε∧v=.int .i64 e ∧
   Sat h' (iI g a now cG::gD a p q r op data aN::gn r p q ε.1::dm q p ε.2.1::bZ p ε.2.2::S):=by
 refine Call.of_wp (hT.free _ rfl) Tryz.func133 rfl rfl (zK 8 rfl (au.any rfl rfl rfl (OpR.invoke rfl rfl rfl NO rfl (KT (n:=n) hT s cA hw I)) ?_))
 rintro v h ⟨e,b,ε,hr,(⟨he,rfl,s⟩|⟨rfl,u,rfl,s⟩)⟩
 ·refine au.op rfl rfl rfl (bV rfl) ?_
  exact zk 10 rfl (WP.ret ⟨aa,_,rfl,e,b,ε,hr,rfl,s⟩)
 ·skip
  exact zk 11 rfl (WP.ret ⟨aa,_,rfl,0,b,ε,hr,rfl,s.drop⟩)
theorem IU (hT:W told){n:Int}(s:Sat h (iI g a now cG::gD a p q r op data aN::gn r p q π::dm q p μ::bZ p δ::X::S))(hX:cf X (cy x b))(hb:b.length<9223372036854775808)(cA:kR (π,μ,δ))(hw:δ.waiting.length≤268435456)(qM:∀e∈now,e.2.length=512):
  Call ⟨Tryz.prog,told⟩ 55 [.ptr g 0,.int .i64 n,x] h fun v h'=>∃(e:Int) (aF:List (Int×List Nat)) (ε:bE),wm (π,μ,δ) now cG n b e aF ε∧v=.int .i64 e ∧
   Sat h' (iI g a aF cG::gD a p q r op data aN::gn r p q ε.1::dm q p ε.2.1::bZ p ε.2.2::X::S):=by
 refine Call.of_wp (hT.free _ rfl) Tryz.func55 rfl rfl (zK 8 rfl (zo rfl (mI rfl (mki_of jT rfl)) (zm rfl (zc rfl (aaP (n:=n) hT s cA hw qM) ?_))))
 rintro v h ⟨e,c,ε,hr,rfl,s⟩
 refine zk 5 rfl ?_
 by_cases he:e=0
 ·skip
  subst he
  refine zC rfl aH (rfl) (zk 7 rfl (zc rfl (NG hT (s.ae [5]) hX hb) ?_))
  rintro v h ⟨rfl,s⟩
  refine zo rfl (dZ rfl rfl) (zv ?_)
  by_cases I:cF b=true
  ·skip
   refine WP.WU rfl (by rw[I];rfl) ?_
   have Pz:=jK I
   obtain⟨nv,s⟩:=fN.1 (s.ae [1])
   have s:=s.ae [2,0,0]
   obtain⟨wo,rfl⟩:=Kx s (j:=2) rfl
   refine zK 2 rfl ?_
   have s0:=s
   refine WP.drawn [some (0,2),some (0,2),some (0,2),some (0,2),some (0,2),af,af,af] rfl (by kernel_rfl) (by kernel_rfl) ?_
   refine zM rfl (zN rfl (zF rfl (s8 _ _) (zL rfl (s.ld (k:=1) rfl qG rfl) (zM rfl (zM rfl (aB.any rfl rfl rfl rfl (OpR.call rfl rfl rfl rfl (u9 hT s hX (by omega))) ?_))))))
   intro u h s
   obtain⟨lD,_,cap,_,rfl,_⟩:=s.eG (by omega)
   have s:=s.eW
   have s1:=s
   refine aB.mg rfl rfl rfl (OpR.mapUpdate rfl rfl rfl rfl (qK (f:=fun v b=>aE.cg v b) (x:=b) (fun _ _=>aJ.cg _ _) (s.ae [0,2]) ud cm)) ?_
   intro w h s
   refine aB.nil ⟨⟨fun _ _=>.inr ⟨rfl,⟨_,bV rfl⟩,bg _ rfl⟩,fun _ _=>.inr ⟨rfl,⟨_,uW rfl⟩,bg _ rfl⟩,fun _ _=>.inr ⟨rfl,⟨_,mU rfl (s8 _ _)⟩,bg _ rfl⟩,fV (.inr ⟨rfl,⟨_,o_load rfl (s0.ld (k:=1) rfl qG rfl)⟩,bg _ rfl⟩) (.inr ⟨rfl,⟨_,o_load rfl (s1.ld (k:=2) rfl qG rfl)⟩,bg _ rfl⟩),fun _ _=>.inr ⟨rfl,⟨_,bV rfl⟩,bg _ rfl⟩,aa,aa,aa,aa⟩,?_⟩
   exact zK 4 rfl (WP.ret ⟨aa,_,rfl,0,_,ε,.done c ε hr I,rfl,fN.2 ⟨.map wo,s.ae [2,0,1,1,1,1,0]⟩⟩)
  ·have I:cF b=false:=by simpa using I
   refine WP.O_ rfl (by rw[I];rfl) ?_
   exact zK 4 rfl (WP.ret ⟨aa,_,rfl,4,_,ε,.bad c ε hr I,rfl,s.ae [1,1,1,1,1,0]⟩)
 ·skip
  refine zB rfl aH (by simp;exact he) ?_
  exact zk 7 rfl (WP.ret ⟨aa,_,rfl,e,_,ε,.may e c ε hr he,rfl,s⟩)
theorem R8 (I:W told)(s:Sat h (iI g a now cG::gD a p q r (.ptr g 0) data aN::S)): Call ⟨Tryz.prog,told⟩ 60 [.ptr g 0] h fun v h'=>v=.aT []∧Sat h' (iI g a now true::gD a p q r .b8 data aN::S):=by
 obtain⟨nv,s⟩:=fN.1 s
 obtain⟨dv,s⟩:=eB.1 (s.ae [2])
 refine Call.of_wp (I.free _ rfl) Tryz.func60 rfl rfl (zK 4 rfl (zf rfl (Di _ _) ?_))
 refine zS rfl (by exact s.jS (k:=2) rfl BP rfl (by decide) rfl rfl) (fun h s => ?_)
 refine zk 5 rfl (zY s 2 rD BQ rfl (zn rfl (zY s 0 vE Pc rfl (zm rfl (zB rfl (acp jT abP (by decide) (s.row (k:=2) rfl) (s.row (k:=2) rfl) (by decide) (by decide)) (kE g) ?_)))))
 refine zk 5 rfl (zY s 2 rD BQ rfl (zn rfl (zf rfl (vE _ _) ?_)))
 refine zS rfl (by exact s.jS (k:=0) rfl aat rfl (by decide) rfl rfl) (fun h s => ?_)
 refine zv ?_
 have s:=fN.2 ⟨nv,(eB.2 ⟨dv,s⟩).ae [1,1]⟩
 exact⟨aa,_,rfl,rfl,s⟩
theorem MI (I:W told)(s:Sat h (iI g a now cG::gD a p q r .b8 data aN::S)): Call ⟨Tryz.prog,told⟩ 60 [.ptr g 0] h fun v h'=>v=.aT []∧Sat h' (iI g a now true::gD a p q r .b8 data aN::S):=by
 obtain⟨nv,s⟩:=fN.1 s
 obtain⟨dv,s⟩:=eB.1 (s.ae [2])
 dsimp only[bringA,getA,aL] at s
 refine Call.of_wp (I.free _ rfl) Tryz.func60 rfl rfl (zK 4 rfl (zf rfl (Di _ _) ?_))
 refine zS rfl (by exact s.jS (k:=2) rfl BP rfl (by decide) rfl rfl) (fun h s => ?_)
 dsimp only[NM,Nat.reduceAdd,List.set,setA] at s
 refine zv (zg rfl (zk 2 rfl (zf rfl (rD _ _) (zl rfl (by exact s.ld (k:=2) rfl BQ rfl) ?_))))
 refine zn rfl (zf rfl (vE _ _) (zl rfl (by exact s.ld (k:=0) rfl Pc rfl) ?_))
 refine zm rfl (zh rfl (ak rfl rfl (aco jT)) (rfl) (zv (zj rfl (WP.skip ?_))))
 have s:=fN.2 ⟨nv,(eB.2 ⟨dv,s⟩).ae [1,1]⟩
 exact⟨aa,_,rfl,rfl,s⟩
theorem PI (I:W told)(s:Sat h (iI g a now cG::gD a p q r .b8 data aN::S)): Call ⟨Tryz.prog,told⟩ 20 [.ptr g 0] h fun v h'=>v=.aT []∧Sat h' (iI g a now true::gD a p q r .b8 data aN::S):=by
 refine Call.of_wp (I.free _ rfl) Tryz.func20 rfl rfl (zK 2 rfl (zc rfl (MI I s) ?_))
 rintro v h ⟨rfl,s⟩
 exact zv ⟨aa,_,rfl,rfl,s⟩
end
inductive AY (bM:Int)(was now:List Nat): Nat→List fL→Prop where
 |done (i:Nat) (h:now.length≤i):AY bM was now i []
 |skip (i:Nat) (l:List fL) (h:i<now.length) (he:was[i]?=now[i]?) (hr:AY bM was now (i+1) l):AY bM was now i l
 |take (i e:Nat) (l:List fL) (h1:i<e) (h2:e≤now.length) (h3:was[i]?≠now[i]?) (h4:∀k,e≤k→k<e+8→was[k]?=now[k]?) (hr:AY bM was now e l):AY bM was now i (⟨bM,i,false,(now.take e).drop i⟩::l)
def R9 (bM:Int)(was now:List Nat)(c:List fL): Prop:=∃l,AY bM was now 12 l∧c=if l=[] then[⟨bM,0,false,[]⟩] else l
theorem EA : ∃i,Tryz.prog.info? 206=some i∧i.size=4∧i.bytes=48 :=
 ⟨_,(show Tryz.prog.info? 206=some ((Tryz.prog.info? 206).getD default) by kernel_rfl),by kernel_rfl,by kernel_rfl⟩
section
variable {told:cE} {Y:aE} {p:Nat} {op v:V} {was now:List Nat}
noncomputable def rgO : Code:=eu [1,1,0,1,0,0] ((Tryz.f139.body).getD .skip)
noncomputable def rgI : Code:=eu [1,1,0,1,0,0,1,0,1,1,0,1,0,0] ((Tryz.f139.body).getD .skip)
theorem U1 {I:Nat}{t7:V}{k1 k2:Nat}(s:Sat h S)(lS:getA S k1=some X)(hX:cf X (cy u was))(mK:getA S k2=some Y)(hY:cf Y (cy v now))(uf:was.length=512)(iA:now.length=512): ∀(j i e:Nat) (E:List (Nat×V)) (Q:Ex→List (Nat×V)→H→Prop),i+j=512→I<e→e≤i→(∀k,e≤k→k<i→was[k]?=now[k]?) →
  Has E [(0,.int .i64 pg),(1,u),(2,v),(7,t7),(8,.int .i64 (I:Int)),(9,.int .i64 (e:Int)),(10,.int .i64 (i:Int))] →
  (∀e' E',I<e'→e'≤512→(∀k,e'≤k→k<e'+8→was[k]?=now[k]?)→Has E' [(0,.int .i64 pg),(1,u),(2,v),(7,t7),(8,.int .i64 (I:Int)),(9,.int .i64 (e':Int))]→Q (.exit 2) E' h) →
  WP ⟨Tryz.prog,told⟩ 71 (.loop rgI) E h Q:=by
 have hv:=s.aC mK hY
 have hu:=s.aC lS hX
 have hlen:lenV Tryz.prog h 29 v=some (.int .i64 now.length):=aY aK hv
 intro j
 induction j with
 |zero =>
  intro i e E Q hi h1 h2 hg hE hq
  refine WP.loop (WP.has hE (zK 5 rfl (zo rfl (aD rfl rfl rfl hlen) (zC rfl aO (by grind) ?_))))
  refine zk 8 rfl (WP.exit ?_)
  refine hq e _ h1 (by omega) (fun k k1 _ => ?_) ⟨rfl,rfl,rfl,rfl,rfl,rfl,aa⟩
  by_cases hk:k<i
  ·grind
  ·grind
 |succ j ih =>
  intro i e E Q hi h1 h2 hg hE hq
  have hb:now[i]?=some (now[i]'(by omega)):=aG _
  generalize (now[i]'(by omega))=b at hb
  have hc:was[i]?=some (was[i]'(by omega)):=aG _
  generalize (was[i]'(by omega))=c at hc
  obtain⟨id,off,e1,e2⟩:=fg hv hb
  obtain⟨wI,off',e3,e4⟩:=fg hu hc
  refine WP.loop (WP.has hE (zK 5 rfl (zo rfl (aD rfl rfl rfl hlen) (zB rfl aO (by grind) ?_))))
  refine zk 3 rfl (zb rfl (by exact aQ (aq (by omega) (by omega))) ?_)
  by_cases hd:i<e+8
  ·skip
   refine zB rfl aO (by grind) ?_
   refine zk 5 rfl (WP.block (zw ?_))
   have s0:=s
   refine WP.drawn [af,af,af,af,af,af,af,af,af] rfl (by kernel_rfl) (by kernel_rfl) ?_
   refine zM rfl (zM rfl (zO rfl (bS (r:=.ptr wI off') rfl rfl e3) (zL rfl e4 (zM rfl (zM rfl (zO rfl (bS (r:=.ptr id off) rfl rfl e1) (zL rfl e2 ?_)))))))
   by_cases hbc:c=b
   ·skip
    refine aB.qb rfl rfl rfl rfl (ak rfl rfl aH) (by grind) ?_
    refine aB.nil ⟨⟨aa,aa,aa,aa,aa,aa,aa,aa,aa,aa⟩,?_⟩
    refine zj rfl (WP.skip (zr rfl (zm rfl (zb rfl (by exact aQ (aq (by omega) (by omega))) ?_))))
    refine za rfl (zv ?_)
    exact ih (i+1) e _ Q (by omega) h1 (by omega) (fun k k1 k2=>(by
     grind)) ⟨rfl,rfl,rfl,rfl,rfl,rfl,rfl,aa⟩ hq
   ·skip
    refine aB.uH rfl rfl rfl rfl (ak rfl rfl aH) (by grind) ?_
    refine aB.nil ⟨⟨aa,aa,aa,aa,aa,aa,aa,aa,aa,aa⟩,?_⟩
    refine zK 3 rfl (zb rfl (by exact aQ (aq (by omega) (by omega))) ?_)
    refine za rfl (zv (zr rfl (zm rfl (zb rfl (by exact aQ (aq (by omega) (by omega))) ?_))))
    refine za rfl (zv ?_)
    exact ih (i+1) (i+1) _ Q (by omega) (by omega) (by omega) (fun k k1 k2=>absurd k2 (by omega)) ⟨rfl,rfl,rfl,rfl,rfl,rfl,rfl,aa⟩ hq
  ·skip
   refine zC rfl aO (by grind) ?_
   exact zk 3 rfl (WP.exit (hq e _ h1 (by omega) (fun k k1 k2=>hg k k1 (by omega)) ⟨rfl,rfl,rfl,rfl,rfl,rfl,aa⟩))
theorem U2 (hT:W told)(hX:cf X (cy u was))(hY:cf Y (cy v now))(uf:was.length=512)(iA:now.length=512): ∀(j i:Nat) (acc:List fL) (av:V) (cs:List V) (h:H) (E:List (Nat×V)) (Q:Ex→List (Nat×V)→H→Prop),512≤i+j→i≤512→acc.length≤i →
  Sat h (.arr 4 av cs::fC cs acc::X::Y::S)→(∀l,AY pg was now i l→AY pg was now 12 (acc++l)) →
  Has E [(0,.int .i64 pg),(1,u),(2,v),(7,av),(8,.int .i64 (i:Int))] →
  (∀w9 cs' l E' h',AY pg was now 12 l→l.length≤512→Sat h' (.arr 4 w9 cs'::fC cs' l::X::Y::S)→Has E' [(0,.int .i64 pg),(7,w9)]→Q (.exit 0) E' h') →
  WP ⟨Tryz.prog,told⟩ 71 (.loop rgO) E h Q:=by
 intro j
 induction j with
 |zero =>
  intro i acc av cs h E Q hj hi Rr s I hE hq
  have hlen:lenV Tryz.prog h 29 v=some (.int .i64 now.length):=aY aK (s.aC (k:=3) rfl hY)
  refine WP.loop (WP.has hE (zK 5 rfl (zo rfl (aD rfl rfl rfl hlen) (zC rfl aO (by grind) ?_))))
  refine zk 2 rfl (WP.exit ?_)
  have:=I [] (.done _ (by omega))
  rw[fe] at this
  exact hq av cs acc _ _ this (by omega) s ⟨rfl,rfl,aa⟩
 |succ j ih =>
  intro i acc av cs h E Q hj hi Rr s I hE hq
  have hv:=s.aC (k:=3) rfl hY
  have hu:=s.aC (k:=2) rfl hX
  have hlen:lenV Tryz.prog h 29 v=some (.int .i64 now.length):=aY aK hv
  by_cases cq:i<512
  ·have hb:now[i]?=some (now[i]'(by omega)):=aG _
   generalize (now[i]'(by omega))=b at hb
   have hc:was[i]?=some (was[i]'(by omega)):=aG _
   generalize (was[i]'(by omega))=c at hc
   obtain⟨id,off,e1,e2⟩:=fg hv hb
   obtain⟨wI,off',e3,e4⟩:=fg hu hc
   refine WP.loop (WP.has hE (zK 5 rfl (zo rfl (aD rfl rfl rfl hlen) (zB rfl aO (by grind) ?_))))
   refine zk 3 rfl (WP.block (zK 2 rfl ?_))
   have s0:=s
   refine WP.drawn [af,af,af,af,af,af,af,af,af] rfl (by kernel_rfl) (by kernel_rfl) ?_
   refine zM rfl (zM rfl (zO rfl (bS (r:=.ptr wI off') rfl rfl e3) (zL rfl e4 (zM rfl (zM rfl (zO rfl (bS (r:=.ptr id off) rfl rfl e1) (zL rfl e2 ?_)))))))
   by_cases hbc:c=b
   ·skip
    refine aB.uH rfl rfl rfl rfl (ak rfl rfl c8) (by grind) ?_
    refine aB.nil ⟨⟨aa,aa,aa,aa,aa,aa,aa,aa,aa,aa⟩,?_⟩
    refine zK 4 rfl (zb rfl (by exact aQ (aq (by omega) (by omega))) ?_)
    exact zk 2 rfl (WP.exit (ih (i+1) acc av cs h _ Q (by omega) (by omega) (by omega) s (fun l hl=>I l (.skip i l (by omega) (by grind) hl)) ⟨rfl,rfl,rfl,rfl,rfl,aa⟩ hq))
   ·skip
    refine aB.qb rfl rfl rfl rfl (ak rfl rfl c8) (by grind) ?_
    refine aB.nil ⟨⟨aa,aa,aa,aa,aa,aa,aa,aa,aa,aa⟩,?_⟩
    refine zK 5 rfl (zb rfl (by exact aQ (aq (by omega) (by omega))) ?_)
    refine zk 8 rfl (WP.block ?_)
    refine U1 s (k1:=2) (k2:=3) rfl hX rfl hY uf iA (512-(i+1)) (i+1) (i+1) _ _ (by omega) (vn i) (aI _) (fun k k1 k2=>absurd k2 (by omega)) ⟨rfl,rfl,rfl,rfl,rfl,rfl,rfl,aa⟩ (fun e' E' he1 KU he3 eN => ?_)
    refine WP.has eN ?_
    have hsv:=fE hv (a:=i) (b:=e') (by omega) (by omega)
    refine zK 8 rfl (zo rfl (bO (p:=some (.int .i64 (i:Int))) (q:=some (.int .i64 (e':Int))) (m:=none) (p':=some i) (q':=some e') (m':=none) rfl rfl rfl rfl (by rfl) (by rfl) rfl hsv.1) ?_)
    refine zc rfl (u9 hT (s.ae [3]) (Em hY (a:=i) (b:=e') (by omega) (by omega)) (by grind)) ?_
    intro w h s
    dsimp only[bringA,getA,aL] at s
    obtain⟨wid,_,Cb,_,rfl,_⟩:=s.eG (by grind)
    have s:=s.eW
    generalize WH:(now.take e').drop i=bs at s
    refine zo rfl (cQ rfl (by rw[Pm];rfl)) ?_
    obtain⟨rv,h1,wj,s1⟩:=lR (P:=Tryz.prog) (k:=4) (x:=.agg [.int .i64 pg,.int .i64 (i:Int),.bool false,.sl wid 0 bs.length Cb]) s lX wU Dp rfl (by decide) (by decide) rfl rfl
    dsimp only[V.cells] at s1
    refine au.any rfl rfl rfl (OpR.of (R:=fun v h'=>v=rv∧h'=h1) (ku rfl wj) ⟨rfl,rfl⟩) ?_
    rintro v' h' ⟨rfl,rfl⟩
    obtain⟨i1,dy,fy,o8⟩:=EA
    have gy:cs.length=acc.length*4:=by
     obtain⟨a,b,q1,q2,q3⟩:=s1.at (k:=4) rfl
     exact tq q3
    obtain⟨w9,h2,sB,s2⟩:=h_ (s1.ae [3,0]) lX dy wU fy (by omega) rfl (by decide) (by grind)
    dsimp only[bringA,getA,aL] at s2
    refine au.any rfl rfl rfl (OpR.of (R:=fun v h'=>v=w9∧h'=h2) (j_ rfl rfl sB) ⟨rfl,rfl⟩) ?_
    rintro v' h' ⟨rfl,rfl⟩
    refine za rfl (zv (zr rfl (zk 2 rfl (zv ?_))))
    have s3:Sat _ (fC cs acc::.cg (.sl wid 0 bs.length Cb) bs::_):=s2.ae [4,2]
    have s4:=s3.two (C:=fC (cs++[.int .i64 pg,.int .i64 (i:Int),.bool false,.sl wid 0 bs.length Cb]) (acc++[⟨pg,i,false,bs⟩])) (aJ.sP _ _) (aJ.cg _ _) fun a b q1 q2=>Eu q1 ⟨⟨⟨rfl,rfl,rfl⟩,q2⟩,aa⟩
    have s5:=(s4.ae [1,0,2,1]).del 4
    dsimp only[bringA,getA,aL] at s5
    refine ih e' (acc++[⟨pg,(i:Int),false,bs⟩]) _ _ _ _ Q (by omega) KU (by grind) s5 (fun l hl => ?_) ⟨rfl,rfl,rfl,rfl,rfl,aa⟩ hq
    have:=I _ (.take i e' l he1 (by omega) (fun hx=>by grind) he3 hl)
    rw[WH] at this
    rwa [dA]
  ·have hi5:i=512:=by omega
   refine WP.loop (WP.has hE (zK 5 rfl (zo rfl (aD rfl rfl rfl hlen) (zC rfl aO (by simp<;>omega) ?_))))
   refine zk 2 rfl (WP.exit ?_)
   have:=I [] (.done _ (by omega))
   rw[fe] at this
   exact hq av cs acc _ _ this (by omega) s ⟨rfl,rfl,aa⟩
theorem R_ (hT:W told)(s:Sat h (X::Y::S))(hX:cf X (cy u was))(hY:cf Y (cy v now))(I:was.length=512)(iA:now.length=512):
  Call ⟨Tryz.prog,told⟩ 139 [.int .i64 pg,u,v] h fun w h'=>∃cs l,R9 pg was now l∧l.length≤512∧Sat h' (.arr 4 w cs::fC cs l::X::Y::S):=by
 refine Call.of_wp (hT.free _ rfl) Tryz.func139 rfl rfl (zK 13 rfl (WP.block ?_))
 refine U2 hT (pg:=pg) hX hY I iA 500 12 [] .aR [] _ _ _ (by omega) (by omega) (by simp) ((s.gQ aa).mJ) (fun l hl=>hl) ⟨rfl,rfl,rfl,rfl,rfl,aa⟩ (fun w9 cs' l E' h' hr w_ s' eN => ?_)
 have s:=s'
 have hlen:=s.B4 (j1:=0) (j2:=1) rfl rfl lX
 have NP:=s.tf (j:=0) rfl
 refine WP.has eN (zK 4 rfl (zo rfl (aD rfl rfl rfl hlen) ?_))
 by_cases Bz:l=[]
 ·skip
  refine zB rfl c8 (by grind) ?_
  refine zk 5 rfl (zo rfl (cQ rfl (by rw[Pm];rfl)) ?_)
  obtain⟨rv,h1,wj,s1⟩:=lR (P:=Tryz.prog) (k:=4) (x:=.agg [.int .i64 pg,.int .i64 0,.bool false,.aR]) s lX wU Dp rfl (by decide) (by decide) rfl rfl
  dsimp only[V.cells] at s1
  refine au.any rfl rfl rfl (OpR.of (R:=fun v h'=>v=rv∧h'=h1) (ku rfl wj) ⟨rfl,rfl⟩) ?_
  rintro v' h' ⟨rfl,rfl⟩
  refine zk 2 rfl (WP.ret ⟨aa,_,rfl,?_⟩)
  refine⟨[.int .i64 pg,.int .i64 0,.bool false,.aR],[⟨pg,0,false,[]⟩],⟨l,hr,by grind⟩,by simp,?_⟩
  have s2:=(s1.del 2).del 1
  have s3:Sat _ (.cg .aR []::.arr 4 v' _::X::Y::S):=s2.uY
  have s4:=s3.dQ (B:=fC [.int .i64 pg,.int .i64 0,.bool false,.aR] [⟨pg,0,false,[]⟩]) fun a b q=>⟨⟨⟨rfl,rfl,rfl⟩,q⟩,aa⟩
  exact s4.ae [1,0]
 ·skip
  refine zC rfl c8 (by simp_all) ?_
  exact zk 8 rfl (WP.ret ⟨aa,_,rfl,_,l,⟨l,hr,by grind⟩,w_,s⟩)
end
end Go.Proofs.YtdonpgpfplgigaaGreat.Am

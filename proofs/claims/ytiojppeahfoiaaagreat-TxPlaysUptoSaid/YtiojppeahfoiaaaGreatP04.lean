/- TxPlays: a part of its proof; conditions: its statement's. -/
import Derived.Test.YtiojppeahfoiaaaGreatP02
import Derived.Test.YtiojppeahfoiaaaGreatP03
set_option linter.defProp false
namespace Go.Proofs.YtiojppeahfoiaaaGreat.Am
open Go Go.Maps Go.Sort Go.Shelf Go.RowKit Proofs.Tryz
def jg:=@underlying106
def js:=@underlying102
def Cn:=@underlying214
def Co:=@underlying207
def Cp:=@func117
def LA:=@underlying281
def LB:=@underlying334
abbrev af {α:Type}:Option α:=none
variable {X:aH} {C:eP} {es:cg} {a8:Ex->List (Nat×V)->H->Prop} {h h₁ h':H} {κ:IntKind} {E:List (Nat×V)} {L:List (V×H)} {S:List aH} {ks:List Int} {l b data seen:List Nat} {cs post args:List V} {g n k s i size aL a d z p6 r id off q j tx pv nx j1 j2 p1 cR c mid clock im N:Nat} {o:Oper} {y:Operand} {P:Program} {α:Type} {t e:TypeId} {x bv dt v' wh di kv:V}
theorem afs (m:Nat): AnyZI.SortsIn prog sorted106_ren Fence.wide m :=
 ⟨λlP off cap ss W hH I J=>callsIn_wide.2 (AnyM.slices_Sort_int sort176 lP off cap ss W hH I J),
  λp cap W=>callsIn_wide.2 (AnyM.slices_Sort_int_none sort176 p cap W)⟩
theorem Iw (eg:∀args w,(callFunc g args).run prog w=.ok (.enter g args) w){Bm:Nat}{D0:DataW Unit}{w:World}(mu:Maps.size D0<=maxLen)(I:Maps.size D0*8<=140737488355328)
 (agB:SeqGives Fence.wide 2 prog g #[.pointer (some ⟨Bm,0,none⟩)] encZ (λJ=>J.Perm (intKeys D0)) (Maps.size D0) w):
  Calls prog 106 #[.func (.func g) #[] #[.pointer (some ⟨Bm,0,none⟩)]] w λe w'=>∃(v:Value) (J:List Int),e=.returned v/\J.Perm (intKeys D0) /\
   w'.ownsRow w.heap.size 3 1 v J.length ((J.mergeSort (λx y=>decide (x<=y))).map encZ)/\(v=.slice none 0 0↔J=[])/\Below w.heap.size w w' :=
 (callsIn_wide (n:=5)).1 (AnyZI.sorted_in sorted106 Fence.wide 5 aa aa aa aa U Y (afs _) (enters_of func176 (by rfl) U) g _ aa eg _ _ mu I _ agB)
def D6 : List Nat:=[177,187,218]
theorem Tp : Jt prog 106 3 D6:=by
 intro g hg Bm b nn D0 w hB hm J mu I;simp only[D6,rO,oD,tZ] at hg;rcases hg with rfl|rfl|rfl
 .exact Iw (enters_of func177 (by rfl) U) mu I (AnyZI.keys_gives (ρ:=keys107_ren) { keys107 with } Fence.wide _ aa U Y Bm b nn D0 w hB hm J)
 .exact Iw (enters_of func187 (by rfl) U) mu I (AnyZI.keys_gives (ρ:=keys115_ren) { keys115 with } Fence.wide _ aa U Y Bm b nn D0 w hB hm J)
 .exact Iw (enters_of func218 (by rfl) U) mu I (AnyZI.keys_gives (ρ:=keys181_ren) { keys181 with } Fence.wide _ aa U Y Bm b nn D0 w hB hm J)
end Go.Proofs.YtiojppeahfoiaaaGreat.Am
namespace Go.Proofs.YtiojppeahfoiaaaGreat.Am
open Go Proofs.Tryz
variable {X:aH} {C:eP} {es:cg} {a8:Ex->List (Nat×V)->H->Prop} {h h₁ h':H} {κ:IntKind} {E:List (Nat×V)} {L:List (V×H)} {S:List aH} {ks:List Int} {l b data seen:List Nat} {cs post args:List V} {g n k s i size aL a d z p6 r id off q j tx pv nx j1 j2 p1 cR c mid clock im N:Nat} {o:Oper} {y:Operand} {P:Program} {α:Type} {t e:TypeId} {x bv dt v' wh di kv:V}
def LC : List Nat:=[71,235,236,212,211,180,190,163]
structure Std (told:bU): Prop where
 free:∀f,inL LC f=true->told f=none
 more:told 217=some toldMore
theorem wrap_u64 (h:n<18446744073709551616): IntKind.wrap .u64 (n:Int)=(n:Int):=by
 grind[IntKind.wrap,IntKind.bits,IntKind.signed]
theorem wrap_u8 (n:Nat): IntKind.wrap .u8 (n:Int)=((n%256:Nat):Int):=by
 rfl
def digits : Nat->Nat->List Nat
 |0,n=>[n%128]
 |k+1,n=>if n<128 then[n] else(n%128+128)::digits k (n/128)
set_option maxRecDepth 10000 in
theorem aft (h:n<256): Nat.lor n 128=n%128+128:=by
 have:∀m:Fin 256,Nat.lor m.1 128=m.1%128+128:=O;exact this ⟨n,h⟩
theorem QY (h:n<256): intV .or .u8 (n:Int) 128=some (.int .u8 ((n%128+128:Nat):Int)):=by
 have h1:((n:Int)%(2^(IntKind.u8).bits:Int)).toNat=n:=by grind[IntKind.bits]
 have h2:((128:Int)%(2^(IntKind.u8).bits:Int)).toNat=128:=by rfl
 grind[intV,bitsV,aft,wrap_u8]
theorem agC : shiftV .shr .u64 (n:Int) 7=some (.int .u64 ((n/128:Nat):Int)):=by
 grind[shiftV,IntKind.bits]
section
variable {told:bU}
noncomputable def vtX : Code:=unloop (unblk (leftC (cM ((f235.body).getD .skip))))
theorem yS : convV prog h 32 5 (.int .u64 (n:Int))=some (.int .u8 ((n%256:Nat):Int),h):=by
 simp[convV,wrap_u8]
theorem sX (h:n<128): digits k n=[n]:=by
 cases k<;>grind[digits]
theorem GK (J:n<128)(h1:look E 1=some (.int .u64 (n:Int)))
 (I:a8 (.exit 0) ((6,.bool false)::(5,.int .u64 (n:Int))::E) h): WP ⟨prog,told⟩ 20 (.loop vtX) E h a8:=by
 exact WP.loop (WP.seq (WP.seq (WP.region U<|zo U (aD h1) (zo U (ag (v:=.int .u64 (n:Int)) (u:=.int .u64 128) (r:=.bool false) U U (by simp only[binV,ikBeq,ak,intV];congr 2;simp;omega))<|aq.nil (WP.cond (t:=false) U (WP.exit I))))))
theorem NV : ∀(k n:Nat) (l:List Nat) (s:V) (h:H) (E:List (Nat×V)) (a8:Ex->List (Nat×V)->H->Prop),lB h->j3 h s l->n<128^(k+1)->k<=9->l.length+k+1<=140737488355328 ->
  look E 0=some s->look E 1=some (.int .u64 (n:Int)) ->
  (∀E' h' s' l' (m:Nat),look E' 0=some s'->look E' 1=some (.int .u64 (m:Int))->m<128->l'++[m]=l++digits k n->j3 h' s' l'->ew (2*k) (rowIds s) h h'->(∀i∈rowIds s',i∈rowIds s\/h.next<=i)->a8 (.exit 0) E' h') ->
  WP ⟨prog,told⟩ 20 (.loop vtX) E h a8:=by
 intro k;induction k with
 |zero =>
  intro n l s h E a8 hw hs hn _ _ h0 h1 hq;have I:n<128:=Y;exact GK I h1 (hq _ h s l n h0 h1 I (by rw[sX I]) hs (ew.refl hw _) (λi hi=>.inl hi))
 |succ k ih =>
  intro n l s h E a8 hw hs hn hk hl h0 h1 hq;by_cases I:n<128
  .exact GK I h1 (hq _ h s l n h0 h1 I (by rw[sX I]) hs ((ew.refl hw _).mono (dz _) (λ_ h=>h)) (λi hi=>.inl hi))
  .have hd:n/128<128^(k+1):=by
    omega
   refine WP.loop (WP.seq (WP.seq (WP.region U<|zo U (aD h1) (zo U (ag (v:=.int .u64 (n:Int)) (u:=.int .u64 128) (r:=.bool true) U U (by simp only[binV,ikBeq,ak,intV];congr 2;simp;omega))<|aq.nil (WP.cond (t:=true) U (WP.skip<|WP.block (WP.seq (WP.region U<|zo U (aD h0) (zo U (aD h1) (zo U (bQ (v:=.int .u64 (n:Int)) U yS) (zo U (ag (v:=.int .u8 ((n%256:Nat):Int)) (u:=.int .u8 128) (r:=.int .u8 ((n%256%128+128:Nat):Int)) U U (by exact QY Y))<|aq.QC (b:=n%256%128+128) U hw U U U U U U Y (λv h₁ b1 k1 f1=>?_))))))))))));have gC:j3 h₁ s l:=hs.iF hw k1 (λi _=>oD);refine aq.app (s:=s) (x:=v) U k1.wf U U U U U U U gC b1.view Q (λv2 J b2 k2 f2=>?_);have BC:ew 2 (rowIds s) h J:=(k1.mono (az _) (λi hi=>Q)).trans k2 (λi hi=>.inl hi);refine za U<|aq.nil (WP.region U<|zo U (aD h1) (zo U (ag (v:=.int .u64 (n:Int)) (u:=.int .u64 7) (r:=.int .u64 ((n/128:Nat):Int)) U U agC) (zk 2 U<|ih (n/128) (l++[n%256%128+128]) v2 J _ a8 BC.wf b2 hd Y Q U U (λE' h' s' l' m q1 q2 q3 q4 q5 q6 q7=>(hq E' h' s' l' m q1 q2 q3 ?_ q5 ?_ (λi hi=>?_))))))
   .grind[digits]
   .exact(BC.trans q6 (λi hi=>(f2 i hi).imp_right (λh=>b7 k1.le h))).mono Y (λi hi=>hi)
   .rcases q7 i hi with h3|h3
    .exact(f2 i h3).imp_right (λh=>b7 k1.le h)
    .exact .inr (b7 BC.le h3)
theorem JA (hT:Std told){s:V}(hw:lB h)(hs:j3 h s l)(hn:n<128^(k+1))(hk:k<=9)(hl:l.length+k+1<=140737488355328):
  Call ⟨prog,told⟩ 235 [s,.int .u64 (n:Int)] h λv h'=>j3 h' v (l++digits k n)/\ew (2*k+2) (rowIds s) h h'/\∀i∈rowIds v,i∈rowIds s\/h.next<=i:=by
 refine Call.of_wp (hT.free _ U) func235 U U<|WP.seq (WP.region U (aq.op U U U (eZ U) (aq.nil<|WP.seq (WP.block<|NV k n l s h _ _ hw hs hn hk hl U U (λE' h' s' l' m q1 q2 q3 q4 q5 I q7=>?_)))));have B2:l'.length=l.length+(digits k n).length-1:=by
  have:=gY List.length q4;simp at this;omega
 have J:∀(k n:Nat),(digits k n).length<=k+1:=by
  intro k;induction k<;>grind[digits]
 have aiF:=J k n;refine WP.seq (WP.region U<|zo U (aD q1) (zo U (aD q2) (zo U (bQ (v:=.int .u64 (m:Int)) U yS)<|aq.QC (b:=m%256) U I.wf U U U U U U Y (λv h₁ b1 k1 f1=>?_))));have gC:j3 h₁ s' l':=q5.iF I.wf k1 (λi _=>oD);refine aq.app (s:=s') (x:=v) U k1.wf U U U U U U U gC b1.view Q (λv2 adm b2 k2 f2=>(za U<|aq.nil (WP.ret ⟨aa,v2,U,?_,?_,λi hi=>?_⟩)))
 .grind
 .refine((I.trans k1 (λi hi=>Q)).trans k2 (λi hi=>?_)).mono Y (λi hi=>hi)<;>grind
 .rcases f2 i hi with h3|h3
  .grind
  .exact .inr (by have:=I.le;have:=k1.le;omega)
theorem LF (I:n<18446744073709551616): convV prog h 3 32 (.int .i64 (n:Int))=some (.int .u64 (n:Int),h):=by
 simp_all[convV,wrap_u64]
theorem iz : ∀(k n:Nat),(digits k n).length<=k+1:=by
 intro k;induction k<;>grind[digits]
theorem aaP (I:Std told){s:V}{m:List Nat}(hw:lB h)(hs:j3 h s l)(J:View h x m)(hd:∀i∈rowIds x,i∉rowIds s)(hn:m.length<128^(k+1))(hk:k<=9)(hl:l.length+k+1+m.length<=140737488355328):
  Call ⟨prog,told⟩ 236 [s,x] h λv h'=>j3 h' v (l++digits k m.length++m)/\ew (2*k+3) (rowIds s) h h'/\∀i∈rowIds v,i∈rowIds s\/h.next<=i:=by
 refine Call.of_wp (I.free _ U) func236 U U<|WP.seq (WP.region U (aq.op U U U (eZ U) (aq.nil<|WP.seq (WP.region U<|zk 2 U (zo U (aO (v:=x) U U U J.len) (zo U (bQ (v:=.int .i64 (m.length:Int)) U (LF Y))<|aq.call U U U U U U U (JA I (k:=k) hw hs hn hk Y) (λv h₁ ⟨b1,k1,f1⟩=>(zm U ?_))))))));have yw:=iz k m.length;refine aq.app (s:=v) (x:=x) U k1.wf U U U U U U U b1 (J.iF hw k1 hd) Q (λv2 adm b2 k2 f2=>(aq.op U U U (eZ U) (aq.nil (WP.ret ⟨aa,v2,U,b2,(k1.trans k2 f1).mono Y (λi hi=>hi),λi hi=>?_⟩))));rcases f2 i hi with h3|h3
 .grind
 .exact .inr (b7 k1.le h3)
def le : Nat->Nat->List Nat
 |0,_=>[]
 |k+1,n=>(n%256)::le k (n/256)
theorem dI : ∀(k n:Nat),(le k n).length=k:=by
 intro k;induction k<;>grind[le]
theorem QZ : ∀(k n:Nat),∀b∈le k n,b<256:=by
 intro k;induction k with
 |zero=>intro n b I;cases I
 |succ k J =>
  intro n b I;rcases List.mem_cons.1 I with rfl|I<;>grind
noncomputable def lyX : Code:=unloop (unblk (cM (leftC (cM ((f71.body).getD .skip)))))
theorem agD (hi:i<=8): shiftV .shr .u64 (n:Int) ((8*i:Nat):Int)=some (.int .u64 ((n/256^i:Nat):Int)):=by
 simp only[shiftV,IntKind.bits,cN];rw[show min (8*i) 64=8*i by omega,show decide (((8*i:Nat):Int)<0)=false by rfl,bq];rw[Int.fdiv_eq_ediv_of_nonneg _ (Int.pow_nonneg Y)];rw[show(256:Nat)^i=2^(8*i) by rw[Nat.pow_mul]]
 push_cast
 rfl
theorem WL (eR:size<=8): ∀(j i:Nat) (l:List Nat) (s:V) (h:H) (E:List (Nat×V)) (a8:Ex->List (Nat×V)->H->Prop),lB h->j3 h s l->i+j=size->l.length+j<=140737488355328 ->
  look E 0=some s->look E 2=some (.int .u64 (n:Int))->look E 8=some (.int .i64 (size:Int))->look E 9=some (.int .i64 (i:Int)) ->
  (∀E' h' s',look E' 0=some s'->j3 h' s' (l++le j (n/256^i))->ew (2*j) (rowIds s) h h'->(∀i∈rowIds s',i∈rowIds s\/h.next<=i)->a8 (.exit 0) E' h') ->
  WP ⟨prog,told⟩ 22 (.loop lyX) E h a8:=by
 intro j;induction j with
 |zero =>
  intro i l s h E a8 hw hs hi _ h0 h2 h8 h9 hq;exact WP.loop (WP.seq (WP.region U<|zo U (ag (v:=.int .i64 (i:Int)) (u:=.int .i64 (size:Int)) (r:=.bool false) h9 h8 (by simp_all[binV,ikBeq,intV]))<|aq.nil (WP.seq (WP.cond (t:=false) U (WP.exit<|hq _ h s h0 (by simpa[le] using hs) (ew.refl hw _) (λi hi=>.inl hi))))))
 |succ j ih =>
  refine λi l s h E a8 hw hs hi hl h0 h2 h8 h9 hq=>WP.loop (WP.seq (WP.region U<|zo U (ag (v:=.int .i64 (i:Int)) (u:=.int .i64 (size:Int)) (r:=.bool true) h9 h8 (by simp only[binV,ikBeq,ak,intV];congr 2;simp;omega))<|aq.nil (WP.seq (WP.cond (t:=true) U (WP.skip<|WP.seq (WP.block (WP.seq (WP.region U<|zo U (aD h9)<|aq.op U U U (eZ U) (aq.nil (WP.region U<|zo U (aD h0) (zo U (aD h2) (zm U ?_))))))))))));refine aq.op U U U (ag (v:=.int .i64 8) (u:=.int .i64 (i:Int)) (r:=.int .i64 ((8*i:Nat):Int)) U U (by
   simp only[binV,ikBeq,ak,intV];rw[show(8:Int)*(i:Int)=((8*i:Nat):Int) by rfl,wrap_i64 Y])) ?_
  refine zo U (ag (v:=.int .u64 (n:Int)) (u:=.int .i64 ((8*i:Nat):Int)) (r:=.int .u64 ((n/256^i:Nat):Int)) U U (by exact agD Y))<|zo U (bQ (v:=.int .u64 ((n/256^i:Nat):Int)) U yS)<|aq.QC (b:=n/256^i%256) U hw U U U U U U Y (λv h₁ b1 k1 f1=>?_);have gC:j3 h₁ s l:=hs.iF hw k1 (λi _=>oD);refine aq.app (s:=s) (x:=v) U k1.wf U U U U U U U gC b1.view Q (λv2 I b2 k2 f2=>?_);have J:ew 2 (rowIds s) h I:=(k1.mono (az _) (λi hi=>Q)).trans k2 (λi hi=>.inl hi);refine aq.op U U U (eZ U) (aq.nil (WP.region U<|zo U (ag (v:=.int .i64 (i:Int)) (u:=.int .i64 1) h9 U (by simp only[binV,ikBeq,ak];exact B8 Y))<|aq.op U U U (aD U) (aq.nil<|ih (i+1) (l++[n/256^i%256]) v2 I _ a8 J.wf b2 Y Q U h2 h8 U (λE' h' s' q1 q2 q3 q4=>(hq E' h' s' q1 ?_ ?_ (λi hi=>?_))))))
  .grind[Nat.div_div_eq_div_mul,le]
  .exact(J.trans q3 (λi hi=>(f2 i hi).imp_right (λh=>b7 k1.le h))).mono Y (λi hi=>hi)
  .rcases q4 i hi with h3|h3
   .exact(f2 i h3).imp_right (λh=>b7 k1.le h)
   .exact .inr (b7 J.le h3)
theorem Tq (J:Std told){s:V}(hw:lB h)(hs:j3 h s l)(I:size<=8)(hl:l.length+size<=140737488355328):
  Call ⟨prog,told⟩ 71 [s,.int .i64 (size:Int),.int .u64 (n:Int)] h λv h'=>j3 h' v (l++le size n)/\ew (2*size) (rowIds s) h h'/\∀i∈rowIds v,i∈rowIds s\/h.next<=i:=by
 exact Call.of_wp (J.free _ U) func71 U U<|WP.seq (WP.region U (aq.op U U U (eZ U) (aq.nil<|WP.seq (WP.seq (WP.region U<|zm U<|aq.op U U U (aD U) (aq.nil (WP.block<|WL I size 0 l s h _ _ hw hs Y hl U U U U (λE' h' s' q1 q2 q3 q4=>(WP.seq (WP.region U<|zo U (aD q1)<|aq.op U U U (eZ U) (aq.nil (WP.ret ⟨aa,s',U,Q,q3,q4⟩))))))))))))
theorem Q0 : ∀(l:List Nat),(∀b∈l,b<256)->bytesIn (ofBytes l)=some l:=by
 intro l;induction l<;>grind[List.mem_cons_self,bytesIn,ofBytes]
def Fs (s:Nat)(l:List Nat): Nat:=Nat.xor (crcL (Nat.xor s 4294967295) l) 4294967295
theorem Iy (hs:s<4294967296)(I:∀b∈l,b<256): Fs s l<4294967296:=qK (Ie l _ (qK hs) I)
theorem Pe (hT:Std told)(J:View h x l)(hl:l.length<=4611686018427387904)(hs:s<4294967296):
  eY ⟨prog,told⟩ 217 [.int .u32 (s:Int),x] h (.int .u32 (Fs s l:Nat)) h:=by
 refine eY.told hT.more Ga U ?_;have I:=J;obtain⟨hb,I⟩:=I;rcases I with⟨rfl|⟨ea,rfl⟩,rfl⟩|⟨id,off,cap,n,cs,st,rfl,hg,h1,h2,h3,h4⟩
 .simp only[toldMore];rw[show(decide ((0:Int)<=(s:Int))&&decide ((s:Int)<4294967296))=true by grind];rfl
 .simp only[toldMore];rw[show(decide ((0:Int)<=(s:Int))&&decide ((s:Int)<4294967296))=true by grind];rfl
 .simp only[toldMore];rw[show(decide ((0:Int)<=(s:Int))&&decide ((s:Int)<4294967296)&&Nat.ble l.length 4611686018427387904)=true by simp[aN];omega,ak,(View.rdN J).2];simp only[Q0 l hb];rfl
theorem afu (I:Std told)(J:View h x l)(hl:l.length<=4611686018427387904):
  Call ⟨prog,told⟩ 180 [x] h λv h'=>v=.int .u32 (Fs 0 l:Nat)/\h'=h:=by
 refine Call.of_wp (I.free _ U) func180 U U<|WP.seq (WP.region U (aq.op U U U (eZ U) (aq.nil<|WP.seq (WP.region U<|zm U<|aq.call (AN:=λv h'=>v=.int .u32 (Fs 0 l:Nat)/\h'=h) U U U U U U U ⟨_,_,Pe (s:=0) I J hl Y,U,U⟩ (λv h₁ ⟨e1,e2⟩=>?_)))));subst e1;subst e2;exact aq.op U U U (eZ U) (aq.nil (WP.ret ⟨aa,_,U,U,U⟩))
def we (aL:Nat)(l:List Nat): Nat:=Fs (Fs 0 (le 8 aL)) l
theorem LG (I:∀b∈l,b<256): we aL l<4294967296:=Iy (Iy Y (QZ 8 aL)) I
theorem Tr (J:Std told)(hw:lB h)(hx:View h x l)(hl:l.length<=4611686018427387904):
  Call ⟨prog,told⟩ 190 [.int .u64 (aL:Int),x] h λv h'=>v=.int .u32 (we aL l:Nat)/\ew 16 [] h h':=by
 refine Call.of_wp (J.free _ U) func190 U U<|WP.seq (WP.region U (aq.op U U U (eZ U) (aq.nil<|WP.seq (WP.region U<|zm U<|aq.call U U U U U U U (Tq (size:=8) (s:=.aP) (l:=[]) (n:=aL) J hw ⟨cb,.inl ⟨U,U⟩⟩ Y cb) (λv h₁ ⟨b1,k1,f1⟩=>?_)))));rw[iQ] at b1;refine aq.call U U U U U U U (afu J b1.view (by rw[dI];omega)) (λv2 I ⟨e1,e2⟩=>?_);subst e1;subst e2;refine zm U ?_;refine aq.call (AN:=λv h'=>v=.int .u32 (we aL l:Nat)/\h'=I) U U U U U U U
  ⟨_,_,Pe (s:=Fs 0 (le 8 aL)) J (hx.iF hw k1 (λi _ hi=>by simp[rowIds] at hi)) hl (Iy Y (QZ 8 aL)),U,U⟩ (λv3 Qy ⟨e3,e4⟩=>?_)
 subst e3;subst e4;exact aq.op U U U (eZ U) (aq.nil (WP.ret ⟨aa,_,U,U,k1.mono (az _) (λi hi=>by simp[rowIds] at hi)⟩))
end
def adn : List Nat:=[11]
def ado : List Nat:=[79]
def adp : List Nat:=[]
def adq : List Nat:=[76,136,159,208,82,37,77,33]
def ads : List Nat:=[80,26]
def adt : List Nat:=[]
def LH : List Nat:=adn++(ado++(adp++(adq++(ads++(adt++[217,106,191,117,118])))))
structure W (told:bU): Prop where
 free:∀f,inL LH f=false->told f=none
 more:told 217=some toldMore
 sorted:told 106=some (toldSorted D6)
theorem W.ZE {told:bU}(I:W told): Std told:=by
 refine⟨λf J=>I.free f ?_,I.more⟩;have:∀f∈LC,inL LH f=false:=O;grind[SE]
def tK (v:V): Option (List Nat)->aH
 |none=>.pu (v=.aP)
 |some b=>.an (.pu (v≠.aP)) (.dL v b)
theorem bg.tK (v:V)(o:Option (List Nat)): bg (Am.tK v o):=by
 cases o with
 |none=>exact bg.pu _
 |some b=>exact bg.an (bg.pu _) (bg.dL _ _)
def each {α:Type}(f:V->α->aH): List V->List α->aH
 |[],[]=>.pu True
 |v::l,x::m=>.an (f v x) (each f l m)
 |_,_=>.pu False
theorem bg.each {f:V->α->aH}(I:∀v x,bg (f v x)): ∀(l:List V) (m:List α),bg (Am.each f l m):=by
 intro l;induction l with
 |nil=>intro m;cases m<;>exact bg.pu _
 |cons v l J=>intro m;cases m with
  |nil=>exact bg.pu _
  |cons x m=>exact bg.an (I _ _) (J m)
section
variable {f:V->α->aH} {a b:PM}
theorem Ft : ∀ {l:List V} {m:List α},(each f l m).p a b->l.length=m.length:=by
 intro l;induction l with
 |nil=>intro m h;cases m with
  |nil=>rfl
  |cons x m=>exact h.elim
 |cons v l I=>intro m h;cases m with
  |nil=>exact h.elim
  |cons x m=>simp only[cK,I h.2]
theorem LI : ∀ {l:List V} {m:List α} {i:Nat} {v:V} {x:α},(each f l m).p a b->l[i]?=some v->m[i]?=some x->(f v x).p a b:=by
 intro l;induction l with
 |nil=>simp
 |cons u l ih=>intro m i v x h I J;cases m with
  |nil=>grind
  |cons y m =>
   cases i with
   |zero=>simp at I J;subst I;subst J;exact h.1
   |succ i=>exact ih h.2 I J
theorem WM : ∀ {l:List V} {m:List α} {i:Nat} {v:V} {x:α},(each f l m).p a b->(f v x).p a b->(each f (l.set i v) (m.set i x)).p a b:=by
 intro l;induction l with
 |nil=>intro m i v x h I;cases m with
  |nil=>exact h
  |cons x m=>exact h.elim
 |cons u l J=>intro m i v x h I;cases m with
  |nil=>exact h.elim
  |cons y m =>
   cases i with
   |zero=>exact⟨I,h.2⟩
   |succ i=>exact⟨h.1,J h.2 I⟩
theorem aaQ {us:List V}{cs:List α}{c:α}(J:∀v x,bg (f v x))(s:Sat h (each f us cs::S))(I:cs[i]?=some c): ∃u,us[i]?=some u/\Sat h (f u c::each f us cs::S):=by
 obtain⟨a,b,q1,q2,q3⟩:=s.at (k:=0) U;have hl:=Ft q3;have hi:=(List.getElem?_eq_some_iff.1 I).1;have hu:us[i]?=some (us[i]' Y):=aI _;exact⟨_,hu,(s.dup (bg.each J _ _)).iX λa b h=>LI h hu I⟩
end
abbrev Wr := Nat×List Nat
structure Dk where
 room:Nat
 aU:List (Option (List Nat))
 waiting:List Wr
 now:List (Int×List Nat)
 log:List Nat
 bP:Nat
 mark:List Nat
 a_:Int
 dead:Bool
 sY:Option Wr
 tail:List Nat
variable {δ:Dk}
def GL (room:Nat)(pg wt nw lg:V)(ct:Nat)(mk:V)(I ops:Int)(dead:Bool)(J tl:V): List V :=
 [.int .i64 (room:Int),pg,wt,nw,lg,.int .i64 (ct:Int),mk,.int .i64 I,.int .i64 ops,.bool dead,J,tl]
def GM : List V->List Wr->aH
 |[],[]=>.pu True
 |p::v::l,x::m=>.an (.an (.pu (p=.int .i64 (x.1:Int)/\v≠.aP)) (.dL v x.2)) (GM l m)
 |_,_=>.pu False
theorem bg.wr : ∀(m:List Wr) (l:List V),bg (GM l m):=by
 intro m;induction m with
 |nil=>intro l;cases l with
  |nil=>exact bg.pu _
  |cons v l=>cases l<;>exact bg.pu _
 |cons x m I=>intro l;cases l with
  |nil=>exact bg.pu _
  |cons v l=>cases l with
   |nil=>exact bg.pu _
   |cons u l=>exact bg.an (bg.an (bg.pu _) (bg.dL _ _)) (I l)
theorem aaR {a b:PM}: ∀ {m:List Wr} {l:List V} {x:Wr} {v:V},(GM l m).p a b->v≠.aP->(aH.dL v x.2).p a b->(GM (l++[.int .i64 (x.1:Int),v]) (m++[x])).p a b:=by
 intro m;induction m with
 |nil=>intro l x v h I J;cases l with
  |nil=>exact⟨⟨⟨U,I⟩,J⟩,aa⟩
  |cons u l=>cases l<;>exact h.elim
 |cons y m ih=>intro l x v h I J;cases l with
  |nil=>exact h.elim
  |cons u l=>cases l with
   |nil=>exact h.elim
   |cons w l=>exact⟨h.1,ih h.2 I J⟩
theorem aaS {a b:PM}: ∀ {m:List Wr} {l:List V},(GM l m).p a b->l.length=m.length*2:=by
 intro m;induction m with
 |nil=>intro l h;cases l with
  |nil=>rfl
  |cons u l=>cases l<;>exact h.elim
 |cons y m I=>intro l h;cases l with
  |nil=>exact h.elim
  |cons u l=>cases l with
   |nil=>exact h.elim
   |cons w l=>have:=I h.2;simp only[cK];omega
def qR (v:V)(m:List (Option (List Nat))): aH:=xs λid:Nat=>xs λcs:List V=>star [.pu (v=.sl id 0 m.length (.exact m.length)),pt id (.cells m.length cs false),each tK cs m]
def D7 (v:V)(m:List Wr): aH:=xs λcs:List V=>star [.arr 2 v cs,GM cs m]
def GN (v:V): Option Wr->aH
 |none=>.pu (v=.aW)
 |some x=>xs λid:Nat=>xs λu:V=>star [.pu (v=.ptr id 0),pt id (.cells 2 [.int .i64 (x.1:Int),u] false),.dL u x.2]
def aS (p:Nat)(δ:Dk): aH:=xs λpg:V=>xs λwt:V=>xs λnw:V=>xs λlg:V=>xs λmk:V=>xs λI:V=>xs λJ:V=>xs λops:Int =>
 star [pt p (.cells 12 (GL δ.room pg wt nw lg δ.bP mk δ.a_ ops δ.dead I J) false),qR pg δ.aU,D7 wt δ.waiting,ux (λv b=>.dL v b) nw δ.now,bu lg δ.log,Gr mk δ.mark,GN I δ.sY,Gr J δ.tail]
section
variable {p:Nat}
theorem cj : Sat h (aS p δ::S)↔∃pg wt nw lg mk I J ops,Sat h (pt p (.cells 12 (GL δ.room pg wt nw lg δ.bP mk δ.a_ ops δ.dead I J) false)::qR pg δ.aU::D7 wt δ.waiting::ux (λv b=>.dL v b) nw δ.now::bu lg δ.log::Gr mk δ.mark::GN I δ.sY::Gr J δ.tail::S):=by
 simp[aS,gh,aX]
theorem mO {v:V}{m:List (Option (List Nat))}: Sat h (qR v m::S)↔∃id cs,v=.sl id 0 m.length (.exact m.length)/\Sat h (pt id (.cells m.length cs false)::each tK cs m::S):=by
 simp[qR,gh,aX,j4]
theorem yx {v:V}{m:List Wr}: Sat h (D7 v m::S)↔∃cs,Sat h (.arr 2 v cs::GM cs m::S):=by
 grind[D7,gh,aX]
end
section
variable {told:bU} {v:V}
def GO (s:Nat)(l:List Nat): Nat:=Nat.xor (crcL (Nat.xor s 4294967295) l) 4294967295
theorem Fu (hs:s<4294967296)(I:∀b∈l,b<256): GO s l<4294967296:=qK (Ie _ _ (qK hs) I)
theorem aaT (hT:W told)(sa:Sat h S)(hk:getA S k=some X)(hX:cQ X (cT v l))(hs:s<4294967296)(hl:l.length<=4611686018427387904):
  Call ⟨prog,told⟩ 217 [.int .u32 (s:Int),v] h λr h'=>r=.int .u32 (GO s l:Nat)/\h'=h:=by
 have I:=sa.aQ _ hk hX;refine⟨_,_,eY.told hT.more Ga U ?_,U,U⟩;have J:Ai (s:Int) l=.int .u32 (GO s l:Nat):=by rfl
 have hv':=I;rcases hv'.2 with⟨rfl|⟨ea,rfl⟩,rfl⟩|⟨id,off,cap,n,cs,st,rfl,_⟩
 .grind[toldMore]
 .grind[toldMore]
 .simp only[toldMore];rw[show(decide ((0:Int)<=(s:Int))&&decide ((s:Int)<4294967296)&&Nat.ble l.length 4611686018427387904)=true by simp;omega,ak,I.rdN.2];simp only;have:∀l:List Nat,(∀b∈l,b<256)->bytesIn (ofBytes l)=some l:=by
   intro l;induction l<;>grind[ofBytes,bytesIn,List.mem_cons_self]
  rw[this l I.1];simp only[J]
end
section
variable {told:bU} {p:Nat}
theorem kY (J:W told)(s:Sat h (X::S))(I:cQ X (cT x l))(hl:l.length<1073741824):
  Call ⟨prog,told⟩ 62 [x] h λv h'=>Sat h' (bu v l::X::S):=by
 exact Call.of_wp (J.free _ U) func62 U U (zK 7 U (zo U (aO U U U (bC aZ (s.aQ 0 U I))) (aq.any U U U (OpR.xx U s U U U U hl) λv h s=>zm U (aq.any U U U (OpR.sW U s I U U U U (by simp;omega)) λv h s=>zk 2 U (zR U s)))))
theorem AY (J:W told)(s:Sat h (X::S))(I:cQ X (cT x l))(hl:l.length<1073741824):
  Call ⟨prog,told⟩ 164 [x] h λv h'=>Sat h' (bu v l::X::S):=by
 exact Call.of_wp (J.free _ U) func164 U U (zK 7 U (zo U (aO U U U (bC aZ (s.aQ 0 U I))) (aq.any U U U (OpR.xx U s U U U U hl) λv h s=>zm U (aq.any U U U (OpR.sW U s I U U U U (by simp;omega)) λv h s=>zk 2 U (zR U s)))))
theorem qo (J:W told)(s:Sat h (X::S))(I:cQ X (cT x l))(hl:l.length<1073741824):
  Call ⟨prog,told⟩ 67 [x] h λv h'=>Sat h' (bu v l::X::S):=by
 exact Call.of_wp (J.free _ U) func67 U U (zK 7 U (zo U (aO U U U (bC aZ (s.aQ 0 U I))) (aq.any U U U (OpR.xx U s U U U U hl) λv h s=>zm U (aq.any U U U (OpR.sW U s I U U U U (by simp;omega)) λv h s=>zk 2 U (zR U s)))))
theorem Fv (I:W told)(s:Sat h (aS p δ::S)): Call ⟨prog,told⟩ 132 [.ptr p 0] h λv h'=>v=.int .i64 (δ.aU.length:Int)/\h'=h:=by
 obtain⟨pg,wt,nw,lg,mk,J,tl,ops,s⟩:=cj.1 s;obtain⟨id,cs,rfl,s'⟩:=mO.1 (s.ae [1]);exact Call.of_wp (I.free _ U) func132 U U (zK 8 U (zY s 0 DQ KA U (zo U (aO U U U (ur U jg)) (zk 2 U (zR U ⟨U,U⟩)))))
theorem Ts (hT:W told){n:Int}(s:Sat h (aS p δ::S)): Call ⟨prog,told⟩ 193 [.ptr p 0,.int .i64 n] h λv h'=>h'=h/\((0<=n/\n<δ.aU.length/\v=.bool true)\/(¬(0<=n/\n<δ.aU.length)/\v=.bool false)):=by
 obtain⟨pg,wt,nw,lg,mk,tn,tl,ops,s⟩:=cj.1 s;obtain⟨id,cs,rfl,s'⟩:=mO.1 (s.ae [1]);refine Call.of_wp (hT.free _ U) func193 U U (zK 7 U<|zd U (ag U U dO) ?_ ?_)
 .intro J;have J:0<=n:=Q;refine zk 4 U (zY s 0 DQ KA U (zo U (aO U U U (ur U jg))<|zd U (ag U U aG) ?_ ?_))
  .intro I;have I:n<δ.aU.length:=Q;exact zk 3 U (zR U ⟨U,.inl ⟨J,I,U⟩⟩)
  .intro I;have I:¬ n<δ.aU.length:=Q;exact zk 3 U (zR U ⟨U,.inr ⟨λh=>I h.2,U⟩⟩)
 .intro J;have J:¬ 0<=n:=Q;exact zk 11 U (zR U ⟨U,.inr ⟨λh=>J h.1,U⟩⟩)
def Dk.ZF (δ:Dk): Nat:=δ.room
def Dk.WN (δ:Dk): Nat:=δ.bP
def Dk.bZ (δ:Dk): Dk:={ δ with a_:=if 0<δ.a_ then δ.a_-1 else δ.a_ }
def Dk.die (δ:Dk): Dk:={ δ with dead:=true }
theorem pL (hT:W told)(s:Sat h (aS p δ::S))(hf:δ.a_<4294967296):
  Call ⟨prog,told⟩ 188 [.ptr p 0] h λv h'=>(δ.a_=0/\v=.bool false/\Sat h' (aS p δ.die::S))\/(δ.a_≠0/\v=.bool true/\Sat h' (aS p δ.bZ::S)):=by
 obtain⟨pg,wt,nw,lg,mk,tn,tl,ops,s⟩:=cj.1 s;refine Call.of_wp (hT.free _ U) func188 U U (zK 9 U (zY s 0 DT cW U<|zd U (ag U U bH) ?_ ?_))
 .refine λJ=>zk 6 U (zf U (lJ _ _)<|zS U (by exact s.cS (k:=0) U BB U O U U) (λh s=>(zk 5 U (WP.ret ⟨aa,_,U,?_⟩))));have J:δ.a_=0:=Q;exact .inl ⟨J,U,cj.2 ⟨pg,wt,nw,lg,mk,tn,tl,ops,s⟩⟩
 .intro J;have J:δ.a_≠0:=Q;refine zk 8 U (zY s 0 DT cW U<|zd U (ag U U dc) ?_ ?_)
  .intro I;have I:0<δ.a_:=Q;exact zk 5 U (zY s 0 DT cW U (zb U (by exact gz ay)<|zn U (zf U (DT _ _)<|zS U (by exact s.cS (k:=0) U kr U O U U) (λh s=>(zk 5 U (zY s 0 DU cW U (zb U (by rfl)<|zn U (zf U (DU _ _)<|zS U (by exact s.cS (k:=0) U kr U O U U) (λh s=>(zk 5 U (zR U (.inr ⟨J,U,cj.2 ⟨pg,wt,nw,lg,mk,tn,tl,_,by simp only[Dk.bZ,bk I];exact s⟩⟩))))))))))))
  .intro I;have I:¬ 0<δ.a_:=Q;exact zk 7 U (zY s 0 DU cW U (zb U (by rfl)<|zn U (zf U (DU _ _)<|zS U (by exact s.cS (k:=0) U kr U O U U) (λh s=>(zk 5 U (zR U (.inr ⟨J,U,cj.2 ⟨pg,wt,nw,lg,mk,tn,tl,_,by simp only[Dk.bZ,ax I];exact s⟩⟩)))))))
def Dk.at (δ:Dk)(n:Int): List Nat:=match lookL n δ.now with
 |some b=>b
 |none=>match δ.aU[n.toNat]? with
  |some (some b)=>b
  |_=>List.replicate 512 0
theorem Q1 {v:V}{m:List (Option (List Nat))}(s:Sat h (qR v m::S))(hi:i<m.length):
  ∃id u,v=.sl id 0 m.length (.exact m.length)/\(∀(P:Program) (t:TypeId),isAggT P t=some false->loadV P h t (.ptr id i)=some u)/\Sat h (tK u m[i]::qR v m::S):=by
 obtain⟨id,cs,rfl,s1⟩:=mO.1 s;obtain⟨a,b,q1,q2,I⟩:=s1.at (k:=1) U;have hl:=Ft I;have hu:cs[i]?=some (cs[i]' Y):=aI _;have s2:Sat h (each tK cs m::pt id (.cells m.length cs false)::S):=s1.ae [1];have J:=s2.dup (bg.each bg.tK cs m);have s4:Sat h (tK (cs[i]' Y) m[i]::each tK cs m::pt id (.cells m.length cs false)::S):=J.iX λa b h=>LI h hu (aI hi);refine⟨id,cs[i]' Y,U,λP t ht=>S8 ht (s1.row (k:=0) U) (by rw[iD,hu]),?_⟩;have s5:Sat h (pt id (.cells m.length cs false)::each tK cs m::tK (cs[i]' Y) m[i]::S):=s4.ae [2,1];exact(mO.2 ⟨id,cs,U,s5⟩:Sat h (qR _ m::tK (cs[i]' Y) m[i]::S)).ae [1]
theorem WQ (hT:W told){n:Int}(s:Sat h (aS p δ::S))(hl:(δ.at n).length=512): Call ⟨prog,told⟩ 167 [.ptr p 0,.int .i64 n] h λv h' =>
  (δ.dead=true/\v=.aR [.aP,.int .i64 9]/\Sat h' (aS p δ::S)) \/
  (δ.dead=false/\¬(0<=n/\n<δ.aU.length)/\v=.aR [.aP,.int .i64 1]/\Sat h' (aS p δ::S)) \/
  (δ.dead=false/\0<=n/\n<δ.aU.length/\∃b,v=.aR [b,.int .i64 0]/\Sat h' (bu b (δ.at n)::aS p δ::S)):=by
 have s0:=s;obtain⟨pg,wt,nw,lg,mk,tn,tl,ops,s⟩:=cj.1 s;refine Call.of_wp (hT.free _ U) func167 U U (zK 6 U (WP.block (zK 4 U (zY s 0 lJ nO U (zk 2 U<|WP.split U ?_ ?_)))))
 .exact λhd=>zK 5 U (WP.ret ⟨aa,_,U,.inl ⟨hd,U,s0⟩⟩)
 .refine λhd=>zK 4 U (zc U (Ts hT s0) ?_);rintro v h' ⟨rfl,(⟨J,xz,rfl⟩|⟨hn,rfl⟩)⟩
  .skip;refine zo U (cI U U) (za U (zv (zj U (WP.skip (zg U (zk 2 U (zf U (DS _ _) (zl U (by exact s.ld 0 U oX U)<|zm U ?_))))))));have s1:Sat h' (ux (λv b=>.dL v b) nw δ.now::pt p (.cells 12 (GL δ.room pg wt nw lg δ.bP mk δ.a_ ops δ.dead tn tl) false)::qR pg δ.aU::D7 wt δ.waiting::bu lg δ.log::Gr mk δ.mark::GN tn δ.sY::Gr tl δ.tail::S):=s.ae [3];rcases lC (n:=n) (λ_ _=>bg.dL _ _) s1 qQ bB vE with⟨g1,g2,_⟩|⟨u,b,g1,g2,_,s2⟩
   .refine aq.op U U U (e_ U U g2)<|zk 10 U (zo U (cI U U) (zk 5 U (zY s 0 DQ KA U (zm U ?_))));have hi:n.toNat<δ.aU.length:=Y;obtain⟨id,u,rfl,g3,s3⟩:=Q1 (s.ae [1]) hi;refine zo U (aJ (.ptr id n.toNat) U U (by rw[Zt,show(decide (0<=n)&&decide (n<((δ.aU.length:Nat):Int)))=true by simp;omega,ak];simp)) ?_;refine zl U (g3 _ _ cF) (zk 6 U ?_);have I:δ.at n=match δ.aU[n.toNat] with|some b=>b|none=>List.replicate 512 0:=by
     grind[Dk.at]
    cases hp:δ.aU[n.toNat] with
    |none =>
     rw[hp] at s3 I;obtain⟨rfl,_⟩:=j4.1 s3;exact zt U ((by exact ag U U (by simp only[binV,eqV,aZ];rfl))) (U)<|zk 4 U (aq.any U U U (OpR.GD U s0 U U U U O) λv h s=>zk 3 U (WP.ret ⟨aa,_,U,.inr (.inr ⟨hd,J,xz,v,U,Q⟩)⟩))
    |some b =>
     rw[hp] at s3 I;have I:δ.at n=b:=I;have s4:Sat h' (aH.an (.pu (u≠.aP)) (.dL u b)::qR _ δ.aU::_):=s3;have s5:Sat h' (.dL u b::aS p δ::S):=by
      have s6:=s4.iX (B:=.dL u b) λa b h=>h.2;exact(cj.2 ⟨_,wt,nw,lg,mk,tn,tl,ops,s6.ae [2,1,1,1,1,1,1,1]⟩:Sat h' (aS p δ::.dL u b::S)).ae [1]
     have tL:∃a b c d,u=.sl a b c d:=by
      rcases (s5.aQ 0 U (fX _ _)).2 with⟨_,e⟩|⟨a,b,c,_,_,_,e,_⟩<;>grind
     obtain⟨a,b',c,d,rfl⟩:=tL;exact zh U ((by exact ag U U (by simp only[binV,eqV,aZ];rfl))) (U)<|zk 6 U (zc U (kY hT s5 (fX _ _) Q) λv h s=>zk 3 U (zR U (.inr (.inr ⟨hd,J,xz,v,U,by rw[I];exact s.del 1⟩))))
   .skip;refine zo U (e_ U U g2) (zk 10 U (zo U (cI U U) (zk 7 U ?_)));have I:δ.at n=b:=by simp only[Dk.at,g1]
    have tL:∃a b c d,u=.sl a b c d:=by
     rcases (s2.aQ 0 U (fX _ _)).2 with⟨_,e⟩|⟨a,b,c,_,_,_,e,_⟩<;>grind
    obtain⟨a,b',c,d,rfl⟩:=tL;refine zh U ((by exact ag U U (by simp only[binV,eqV,aZ];rfl))) (U)<|zk 6 U (zc U (kY hT s2 (fX _ _) Q) λv h s=>zk 3 U (zR U ?_));have s:=cj.2 ⟨pg,wt,nw,lg,mk,tn,tl,ops,s.ae [3,3,3,2,2,2,2,2]⟩;exact .inr (.inr ⟨hd,J,xz,v,U,by rw[I];exact(s.del 2).ae [1,0]⟩)
  .skip;exact zo U (cI U U) (zk 8 U (WP.ret ⟨aa,_,U,.inr (.inl ⟨hd,hn,U,s0⟩)⟩))
theorem WS (I:W told)(s:Sat h (aS p δ::S)): Call ⟨prog,told⟩ 142 [.ptr p 0] h λv h'=>v=.int .i64 (δ.ZF:Int)/\h'=h:=by
 obtain⟨pg,wt,nw,lg,mk,J,tl,ops,s⟩:=cj.1 s;exact Call.of_wp (I.free _ U) func142 U U (zK 8 U (zY s 0 O6 cW U (zk 2 U (zR U ⟨U,U⟩))))
theorem NX (I:W told)(s:Sat h (aS p δ::S)): Call ⟨prog,told⟩ 127 [.ptr p 0] h λv h'=>v=.int .i64 (δ.WN:Int)/\h'=h:=by
 obtain⟨pg,wt,nw,lg,mk,J,tl,ops,s⟩:=cj.1 s;exact Call.of_wp (I.free _ U) func127 U U (zK 8 U (zY s 0 Ao cW U (zk 2 U (zR U ⟨U,U⟩))))
theorem AZ (I:W told)(s:Sat h (aS p δ::S)): Call ⟨prog,told⟩ 17 [.ptr p 0] h λv h'=>v=.bool δ.dead/\h'=h:=by
 obtain⟨pg,wt,nw,lg,mk,J,tl,ops,s⟩:=cj.1 s;exact Call.of_wp (I.free _ U) func17 U U (zK 8 U (zY s 0 lJ nO U (zk 2 U (zR U ⟨U,U⟩))))
theorem Tt (J:W told)(s:Sat h (aS p δ::S))(hf:δ.a_<4294967296): Call ⟨prog,told⟩ 128 [.ptr p 0] h λv h' =>
  (δ.dead=true/\v=.int .i64 9/\Sat h' (aS p δ::S))\/(δ.dead=false/\δ.a_=0/\v=.int .i64 9/\Sat h' (aS p δ.die::S)) \/
  (δ.dead=false/\δ.a_≠0/\v=.int .i64 0/\Sat h' (aS p { δ.bZ with bP:=δ.log.length }::S)):=by
 have s0:=s;obtain⟨pg,wt,nw,lg,mk,tn,tl,ops,s⟩:=cj.1 s;refine Call.of_wp (J.free _ U) func128 U U (zK 9 U (zf U (lJ _ _)<|zd U (o_load U (s.ld 0 U nO U)) ?_ ?_))
 .exact λhd=>zk 11 U (WP.ret ⟨aa,_,U,.inl ⟨hd,U,s0⟩⟩)
 .refine λhd=>zk 2 U (zc U (pL J s0 hf) ?_);rintro v h (⟨I,rfl,s⟩|⟨I,rfl,s⟩)
  .skip;exact zo U (cI U U) (zk 7 U (WP.ret ⟨aa,_,U,.inr (.inl ⟨hd,I,U,s⟩)⟩))
  .skip;obtain⟨pg,wt,nw,lg,mk,tn,tl,ops,s⟩:=cj.1 s;dsimp only[Dk.bZ] at s;exact zo U (cI U U) (zk 9 U (zY s 0 ud cF U (zo U (aO U U U (bC aZ (s.aQ 4 U (bh _ _)))) (zn U (zf U (Ao _ _)<|zS U (by exact s.cS (k:=0) U kr U O U U) (λh s=>(zk 5 U (zR U (.inr (.inr ⟨hd,I,U,cj.2 ⟨pg,wt,nw,lg,mk,tn,tl,ops,s⟩⟩))))))))))
theorem Q3 (hT:W told)(s:Sat h (aS p δ::X::S))(hX:cQ X (cT x b))(hb:b.length<1073741824)(hf:δ.a_<4294967296)(hl:δ.log.length<=4294967296)(hr:δ.room<=4294967296):
  Call ⟨prog,told⟩ 174 [.ptr p 0,x] h λv h' =>
  (δ.dead=true/\v=.int .i64 9/\Sat h' (aS p δ::X::S))\/(δ.dead=false/\δ.room<δ.log.length+b.length/\v=.int .i64 7/\Sat h' (aS p δ::X::S)) \/
  (δ.dead=false/\δ.log.length+b.length<=δ.room/\δ.a_=0/\v=.int .i64 9/\Sat h' (aS p { δ.die with tail:=b }::X::S)) \/
  (δ.dead=false/\δ.log.length+b.length<=δ.room/\δ.a_≠0/\v=.int .i64 0/\Sat h' (aS p { δ.bZ with log:=δ.log++b }::X::S)):=by
 have s0:=s;obtain⟨pg,wt,nw,lg,mk,tn,tl,ops,s⟩:=cj.1 s;refine Call.of_wp (hT.free _ U) func174 U U (zK 5 U (WP.block (zK 4 U (zf U (lJ _ _)<|zd U (o_load U (s.ld 0 U nO U)) ?_ ?_))))
 .exact λhd=>zk 7 U (WP.ret ⟨aa,_,U,.inl ⟨hd,U,s0⟩⟩)
 .refine λhd=>zk 4 U (WP.drawn [af,af,af,af,af,af,af,af,af,af,af,af,af,af] U bo bo<|zM U (zO U (aO U U U (bC aZ (s.aQ 8 U hX))) (zM U (zN U (zF U (O6 _ _) (zL U (s.ld 0 U cW U) (zM U (zN U (zF U (ud _ _) (zL U (s.ld 0 U cF U) (zO U (aO U U U (bC aZ (s.aQ 4 U (bh _ _)))) (zO U (ag U U (by exact gz ay))<|ah.opB U U U U (ag U U dc) ?_ ?_))))))))))))
  .intro I;have I:δ.room<δ.log.length+b.length:=Q;exact zA U<|ah.nil ⟨(dq 15),zK 5 U (WP.ret ⟨aa,_,U,.inr (.inl ⟨hd,I,U,s0⟩)⟩)⟩
  .intro I;have I:δ.log.length+b.length<=δ.room:=Q;refine zA U<|ah.nil ⟨(dq 15),zK 4 U (zc U (pL hT s0 hf) ?_)⟩;rintro v h (⟨h0,rfl,s⟩|⟨h0,rfl,s⟩)
   .skip;refine zo U (cI U U) (zk 7 U (zc U (kY hT (s.ae [1]) hX hb) λv h s=>?_));have s:=(s.ic).ae [2,0,0];obtain⟨pg,wt,nw,lg,mk,tn,tl,ops,s⟩:=cj.1 s;have J:=(s.aQ 8 U (fX _ _)).cells;exact zn U (zf U (WD _ _) (zS U (s.cS (k:=0) U jN U O J.1 J.2) λh s=>zk 5 U (WP.ret ⟨aa,_,U,.inr (.inr (.inl ⟨hd,I,h0,U,cj.2 ⟨pg,wt,nw,lg,mk,tn,v,ops,s.del 7⟩⟩))⟩)))
   .skip;obtain⟨pg,wt,nw,lg,mk,tn,tl,ops,s⟩:=cj.1 s;dsimp only[Dk.bZ] at s;refine zo U (cI U U) (za U (zv (zj U (WP.skip (zg U (zk 3 U (zf U (ud _ _) (zl U (by exact s.ld 0 U cF U)<|zm U (aq.any U U U (OpR.sW U (s.ae [4,7]) hX U U U U Y) λv h s=>?_)))))))));have J:=(s.buf (k:=0) U).view.cells;exact zn U (zf U (ud _ _) (zS U (s.cS (k:=2) U jN U O J.1 J.2) λh s=>zk 5 U (zR U (.inr (.inr (.inr ⟨hd,I,h0,U,cj.2 ⟨pg,wt,nw,v,mk,tn,tl,ops,s.ae [2,2,2,2,0,1,1,1]⟩⟩))))))
end
section
variable {told:bU} {p:Nat}
def Dk.wr (δ:Dk)(n:Int)(b:List Nat): Dk:={ δ.bZ with waiting:=δ.waiting++[(n.toNat,b)],now:=dM n b δ.now }
theorem aaU : ∃i,prog.info? 128=some i/\i.size=2/\i.bytes=32 :=
 ⟨_,(show prog.info? 128=some ((prog.info? 128).getD default) by kernel_rfl),bo,bo⟩
theorem Sat.adu {m:List Wr}{u:V}{x:Wr}(s:Sat h (.dL u x.2::GM cs m::S))(hu:u≠.aP): Sat h (GM (cs++[.int .i64 (x.1:Int),u]) (m++[x])::S) :=
 s.two (bg.dL _ _) (bg.wr _ _) λ_ _ h1 h2=>aaR h2 hu h1
theorem Tu (hT:W told){n:Int}(s:Sat h (aS p δ::X::S))(hX:cQ X (cT x b))(hb:b.length<1073741824)(hf:δ.a_<4294967296)(hw:δ.waiting.length<=268435456):
  Call ⟨prog,told⟩ 133 [.ptr p 0,.int .i64 n,x] h λv h' =>
  (δ.dead=true/\v=.int .i64 9/\Sat h' (aS p δ::X::S)) \/
  (δ.dead=false/\¬(0<=n/\n<δ.aU.length/\b.length=512)/\v=.int .i64 1/\Sat h' (aS p δ::X::S)) \/
  (δ.dead=false/\0<=n/\n<δ.aU.length/\b.length=512/\δ.a_=0/\v=.int .i64 9/\Sat h' (aS p { δ.die with sY:=some (n.toNat,b) }::X::S)) \/
  (δ.dead=false/\0<=n/\n<δ.aU.length/\b.length=512/\δ.a_≠0/\v=.int .i64 0/\Sat h' (aS p (δ.wr n b)::X::S)):=by
 have I:=s;obtain⟨pg,wt,nw,lg,mk,tn,tl,ops,s⟩:=cj.1 s;refine Call.of_wp (hT.free _ U) func133 U U (zK 5 U (WP.block (zK 4 U (zf U (lJ _ _)<|zd U (o_load U (s.ld 0 U nO U)) ?_ ?_))))
 .exact λhd=>zk 7 U (WP.ret ⟨aa,_,U,.inl ⟨hd,U,I⟩⟩)
 .refine λhd=>zk 7 U (zc U (Ts hT I) ?_);rintro v h' ⟨rfl,(⟨tM,xz,rfl⟩|⟨hn,rfl⟩)⟩
  .skip;refine zo U (cI U U) (zk 2 U (zo U (aO U U U (bC aZ (s.aQ 8 U hX)))<|zd U (ag U U aE) ?_ ?_))
   .intro J;have J:b.length≠512:=Q;exact zk 8 U (WP.ret ⟨aa,_,U,.inr (.inl ⟨hd,λq=>J q.2.2,U,I⟩)⟩)
   .intro J;have J:b.length=512:=Q;refine zk 2 U (zv (zj U (WP.skip (zg U (zk 2 U (zc U (kY hT (I.ae [1]) hX hb) λu h s=>?_))))));obtain⟨Ar,_,cap,_,rfl,_⟩:=s.g8 Y;have s:=s.ic;have hnc:((n.toNat:Nat):Int)=n:=Y;refine zo U (cE U (by rw[aeW];rfl)) ?_;refine aq.bG s U U U (bK QH) (λp7 h s=>(zS U (s.dS (j:=0) U QG U U) (λh s=>(zk 5 U (zc U (pL hT (s.ae [3]) hf) ?_)))));rintro v h (⟨h0,rfl,s⟩|⟨h0,rfl,s⟩)
    .skip;obtain⟨pg,wt,nw,lg,mk,tn,tl,ops,s⟩:=cj.1 s;refine zo U (cI U U) (zk 6 U (zf U (WB _ _)<|zS U (by exact s.cS (k:=0) U aeR U O U U) (λh s=>?_)));dsimp only[GL,V.cells,List.length_cons,List.length_nil,Nat.reduceAdd,aB,bringA,List.take,List.drop,List.cons_append,List.nil_append,setA,List.set] at s;refine zk 5 U (WP.ret ⟨aa,_,U,?_⟩);have s1:=s.ae [8,8,8];have s2:Sat h (GN _ (some (n.toNat,b))::_):=gh.2 ⟨_,gh.2 ⟨_,aX.2 (j4.2 ⟨U,by rw[hnc];exact s1⟩)⟩⟩;have s3:=(s2.del 8).ae [2,2,2,2,2,2,0,1,0];exact .inr (.inr (.inl ⟨hd,tM,xz,J,h0,U,cj.2 ⟨_,_,_,_,_,_,_,_,s3⟩⟩))
    .skip;obtain⟨pg,wt,nw,lg,mk,tn,tl,ops,s⟩:=cj.1 s;dsimp only[Dk.bZ] at s;obtain⟨cs,sw⟩:=yx.1 (s.ae [2]);have s:=sw.ae [2,8,0,0];dsimp only[GL,V.cells,List.length_cons,List.length_nil,Nat.reduceAdd,aB,bringA,List.take,List.drop,List.cons_append,List.nil_append,setA,getA] at s;have I:=s;have lD:=(s.cz 2 U).2.2;refine zo U (cI U U) (zk 4 U (WP.drawn [some (0,3),some (0,2),some (0,2),some (0,2),some (0,2),af,af,af,af,af,af] U bo bo ?_));refine zM U (zM U (zN U (zF U (DR _ _) (zL U (s.ld 0 U QF U) (zL U (s.bW (k:=1) U aeV QG) ?_)))));obtain⟨i1,gD,fH,gu⟩:=aaU;obtain⟨sv,h1,e1,s1⟩:=fP prog (x:=.agg [.int .i64 n,.sl Ar 0 b.length cap]) s underlying107 QH QG U O O U U;dsimp only[V.cells] at s1;refine ah.any U U U U (OpR.of (R:=λv h'=>v=sv/\h'=h1) (jj U e1) ⟨U,U⟩) ?_;rintro v h' ⟨rfl,rfl⟩;have jE:cs.length=δ.waiting.length*2:=by
      obtain⟨a,b,q1,q2,q3⟩:=s.at (k:=3) U;exact aaS q3
     obtain⟨wt',h2,e2,s2⟩:=dV (s1.ae [3,0]) underlying107 gD QH fH Y U O Q;dsimp only[aB,bringA] at s2;refine ah.any U U U U (OpR.of (R:=λv h'=>v=wt'/\h'=h2) (fN U U e2) ⟨U,U⟩) ?_;rintro v h' ⟨rfl,rfl⟩;have hv:=s2.cz 0 U;refine zN U (zF U (DR _ _) (ah.cy U U U (OpR.dX U U U (s2.cS (k:=2) U Zu U O hv.1 hv.2.1)) ?_));rintro v h ⟨rfl,s⟩;dsimp only[Nat.reduceAdd,List.set,setA] at s;refine ah.nil ⟨⟨λ_ _=>.inr ⟨U,⟨_,aD U⟩,aA _ U⟩,λ_ _=>.inr ⟨U,⟨_,aD U⟩,aA _ U⟩,λ_ _=>.inr ⟨U,⟨_,jq U⟩,aA _ U⟩,λ_ _=>.inr ⟨U,⟨_,gy U (DR _ _)⟩,aA _ U⟩,cY (.inr ⟨U,⟨_,o_load U (I.ld 0 U QF U)⟩,lD⟩) (.inr ⟨U,⟨_,o_load U (s1.ld 1 U QF U)⟩,lD⟩),dq 7⟩,zw (WP.drawn [af,af,af,af,af,af,af,af] U bo bo ?_)⟩;refine zM U (zN U (zF U (DS _ _) (zL U (s.ld 2 U oX U) (zM U (zF U (aaF _ _) (zL U (s.ld 3 U cF U) (ah.cy U U U (OpR.mapUpdate U U U U (nZ (f:=λv b=>aH.dL v b) (x:=b) (λ_ _=>bg.dL _ _) (((s.ae [11]).dup (bg.dL _ _)).ae [0,7]) qQ bB)) λv h s=>?_)))))));dsimp only[aB,bringA] at s;refine ah.nil ⟨(dq 9),zK 4 U (zR U ?_)⟩;have s1:=(s.ae [1,5]).adu (x:=(n.toNat,b)) cb;rw[hnc] at s1;have s2:=((yx.2 ⟨_,s1.ae [2,0]⟩).del 4).del 2;exact .inr (.inr (.inr ⟨hd,tM,xz,J,h0,U,cj.2 ⟨_,_,_,_,_,_,_,_,s2.ae [2,2,0,0,0,0,0,0,0]⟩⟩))
  .skip;exact zo U (cI U U) (zk 12 U (WP.ret ⟨aa,_,U,.inr (.inl ⟨hd,λq=>hn ⟨q.1,q.2.1⟩,U,I⟩)⟩))
theorem aaV (I:W told)(s:Sat h (aS p δ::S))(J:δ.log.length<1073741824): Call ⟨prog,told⟩ 124 [.ptr p 0] h λv h' =>
  (δ.dead=true/\v=.aR [.aP,.int .i64 9]/\Sat h' (aS p δ::S))\/(δ.dead=false/\∃b,v=.aR [b,.int .i64 0]/\Sat h' (bu b δ.log::aS p δ::S)):=by
 have s0:=s;obtain⟨pg,wt,nw,lg,mk,tn,tl,ops,s⟩:=cj.1 s;refine Call.of_wp (I.free _ U) func124 U U (zK 10 U (zf U (lJ _ _)<|zd U (o_load U (s.ld 0 U nO U)) ?_ ?_))
 .exact λhd=>zk 7 U (WP.ret ⟨aa,_,U,.inl ⟨hd,U,s0⟩⟩)
 .exact λhd=>zk 7 U (zY s 0 ud cF U (zc U (kY I (s.ae [4]) (bh _ _) J) λv h s=>zk 3 U (zR U (.inr ⟨hd,v,U,(cj.2 ⟨pg,wt,nw,lg,mk,tn,tl,ops,s.ae [2,2,2,2,1,1,1,1,0]⟩).ae [1]⟩))))
theorem Q4 (I:W told)(s:Sat h (aS p δ::S))(hl:δ.mark.length<=64): Call ⟨prog,told⟩ 123 [.ptr p 0] h λv h' =>
  (δ.dead=true/\v=.aR [.aP,.int .i64 9]/\Sat h' (aS p δ::S))\/(δ.dead=false/\∃b,v=.aR [b,.int .i64 0]/\Sat h' (bu b δ.mark::aS p δ::S)):=by
 have J:=s;obtain⟨pg,wt,nw,lg,mk,tn,tl,ops,s⟩:=cj.1 s;refine Call.of_wp (I.free _ U) func123 U U (zK 10 U (zf U (lJ _ _)<|zd U (o_load U (s.ld 0 U nO U)) ?_ ?_))
 .exact λhd=>zk 7 U (WP.ret ⟨aa,_,U,.inl ⟨hd,U,J⟩⟩)
 .exact λhd=>zk 7 U (zY s 0 Im cF U (zc U (kY I (s.ae [5]) (fX _ _) Y) λv h s=>zk 3 U (zR U (.inr ⟨hd,v,U,(cj.2 ⟨pg,wt,nw,lg,mk,tn,tl,ops,s.ae [2,2,2,2,2,1,1,1,0]⟩).ae [1]⟩))))
theorem WU (J:W told)(s:Sat h (aS p δ::X::S))(hX:cQ X (cT x b))(hf:δ.a_<4294967296):
  Call ⟨prog,told⟩ 182 [.ptr p 0,x] h λv h' =>
  (δ.dead=true/\v=.int .i64 9/\Sat h' (aS p δ::X::S))\/(δ.dead=false/\64<b.length/\v=.int .i64 1/\Sat h' (aS p δ::X::S)) \/
  (δ.dead=false/\b.length<=64/\δ.a_=0/\v=.int .i64 9/\Sat h' (aS p δ.die::X::S)) \/
  (δ.dead=false/\b.length<=64/\δ.a_≠0/\v=.int .i64 0/\Sat h' (aS p { δ.bZ with mark:=b }::X::S)):=by
 have s0:=s;obtain⟨pg,wt,nw,lg,mk,tn,tl,ops,s⟩:=cj.1 s;refine Call.of_wp (J.free _ U) func182 U U (zK 5 U (WP.block (zK 4 U (zf U (lJ _ _)<|zd U (o_load U (s.ld 0 U nO U)) ?_ ?_))))
 .exact λhd=>zk 7 U (WP.ret ⟨aa,_,U,.inl ⟨hd,U,s0⟩⟩)
 .refine λhd=>zk 6 U (zo U (aO U U U (bC aZ (s.aQ 8 U hX)))<|zd U (ag U U dc) ?_ ?_)
  .intro I;have I:64<b.length:=Q;exact zk 7 U (WP.ret ⟨aa,_,U,.inr (.inl ⟨hd,I,U,s0⟩)⟩)
  .intro I;have I:b.length<=64:=Q;refine zk 6 U (zc U (pL J s0 hf) ?_);rintro v h (⟨h0,rfl,s⟩|⟨h0,rfl,s⟩)
   .skip;exact zo U (cI U U) (zk 7 U (WP.ret ⟨aa,_,U,.inr (.inr (.inl ⟨hd,I,h0,U,s⟩))⟩))
   .skip;refine zo U (cI U U) (za U (zv (zj U (WP.skip (zg U (zk 2 U (zc U (kY J (s.ae [1]) hX Y) λv h s=>?_)))))));have s:=(s.ic).ae [2,0,0];obtain⟨pg,wt,nw,lg,mk,tn,tl,ops,s⟩:=cj.1 s;dsimp only[Dk.bZ] at s;have hv:=(s.aQ 8 U (fX _ _)).cells;exact zn U (zf U (Im _ _) (zS U (s.cS (k:=0) U jN U O hv.1 hv.2) λh s=>zk 5 U (zR U (.inr (.inr (.inr ⟨hd,I,h0,U,cj.2 ⟨pg,wt,nw,lg,v,tn,tl,ops,(s.del 5).ae [0,0,0,0,0,2,0,0,0]⟩⟩))))))
theorem aaW (hT:W told){n:Int}(s:Sat h (aS p δ::X::S))(hX:cQ X (cT x b))(hf:δ.a_<4294967296)(hl:δ.log.length<1073741824)(hc:δ.bP<=δ.log.length):
  Call ⟨prog,told⟩ 185 [.ptr p 0,.int .i64 n,x] h λv h' =>
  (δ.dead=true/\v=.int .i64 9/\Sat h' (aS p δ::X::S))\/(δ.dead=false/\¬(0<=n/\n<=δ.bP/\b.length<=64)/\v=.int .i64 1/\Sat h' (aS p δ::X::S)) \/
  (δ.dead=false/\0<=n/\n<=δ.bP/\b.length<=64/\δ.a_=0/\v=.int .i64 9/\Sat h' (aS p δ.die::X::S)) \/
  (δ.dead=false/\0<=n/\n<=δ.bP/\b.length<=64/\δ.a_≠0/\v=.int .i64 0/\Sat h' (aS p { δ.bZ with log:=δ.log.drop n.toNat,bP:=δ.bP-n.toNat,mark:=b }::X::S)):=by
 have s0:=s;obtain⟨pg,wt,nw,lg,mk,tn,tl,ops,s⟩:=cj.1 s;refine Call.of_wp (hT.free _ U) func185 U U (zK 5 U (WP.block (zK 4 U (zf U (lJ _ _)<|zd U (o_load U (s.ld 0 U nO U)) ?_ ?_))))
 .exact λhd=>zk 7 U (WP.ret ⟨aa,_,U,.inl ⟨hd,U,s0⟩⟩)
 .refine λhd=>zk 6 U<|zd U (ag U U aG) ?_ ?_
  .intro hq;have hq:n<0:=Q;exact zk 20 U (WP.ret ⟨aa,_,U,.inr (.inl ⟨hd,λq=>Y,U,s0⟩)⟩)
  .intro hq;have hq:0<=n:=Q;refine zk 4 U (zY s 0 Ao cW U<|zd U (ag U U dc) ?_ ?_)
   .intro I;have I:(δ.bP:Int)<n:=Q;exact zk 13 U (WP.ret ⟨aa,_,U,.inr (.inl ⟨hd,λq=>Y,U,s0⟩)⟩)
   .intro I;have I:n<=δ.bP:=Q;refine zk 3 U (zo U (aO U U U (bC aZ (s.aQ 8 U hX)))<|zd U (ag U U dc) ?_ ?_)
    .intro J;have J:64<b.length:=Q;exact zk 8 U (WP.ret ⟨aa,_,U,.inr (.inl ⟨hd,λq=>Y,U,s0⟩)⟩)
    .intro J;have J:b.length<=64:=Q;refine zk 7 U (zc U (pL hT s0 hf) ?_);rintro v h (⟨h0,rfl,s⟩|⟨h0,rfl,s⟩)
     .skip;exact zo U (cI U U) (zk 7 U (WP.ret ⟨aa,_,U,.inr (.inr (.inl ⟨hd,hq,I,J,h0,U,s⟩))⟩))
     .skip;obtain⟨pg,wt,nw,lg,mk,tn,tl,ops,s⟩:=cj.1 s;dsimp only[Dk.bZ] at s;obtain⟨k,rfl⟩:∃k:Nat,n=k:=⟨n.toNat,Y⟩;refine zo U (cI U U) (za U (zv (zj U (WP.skip (zg U (zk 3 U (zf U (ud _ _) (zl U (by exact s.ld 0 U cF U) ?_))))))));refine zm U (zo U (bR (p:=some (.int .i64 (k:Int))) (q:=none) (m:=none) (p':=some k) (q':=none) (m':=none) U U U U (by rfl) U U (iy (s.buf (k:=4) U).view (a:=k) Y).1) ?_);refine zc U (kY hT (s.ae [4]) (uq (bh _ _) (a:=k) Y) Q) ?_;intro v h s;have hv:=(s.buf (k:=0) U).view.cells;refine zn U (zf U (ud _ _) (zS U (s.cS (k:=2) U jN U O hv.1 hv.2) λh s=>?_));have s:=(s.del 1).ae [1,1,1,1,0,0,0,0];refine zk 5 U (zY s 0 Ao cW U (zm U (zb U (by exact gz ay) ?_)));refine zn U (zf U (Ao _ _)<|zS U (by exact s.cS (k:=0) U kr U O U U) (λh s=>?_));refine zk 5 U (zc U (kY hT (s.ae [8]) hX Y) λu h s=>?_);have s:=s.ic;have hu:=(s.aQ 0 U (fX _ _)).cells;refine zn U (zf U (Im _ _) (zS U (s.cS (k:=2) U jN U O hu.1 hu.2) λh s=>zk 5 U (zR U ?_)));have s:=(s.del 7).ae [2,2,2,2,2,0,1,1,0];dsimp only[GL,aB,bringA,Nat.reduceAdd,List.set,setA,getA] at s;have e:(δ.bP:Int)-(k:Int)=((δ.bP-k:Nat):Int):=Y;rw[e] at s;exact .inr (.inr (.inr ⟨hd,hq,I,J,h0,U,cj.2 ⟨pg,wt,nw,v,u,tn,tl,ops,s⟩⟩))
def Dk.fresh (aU room:Nat): Dk:={ room:=room,aU:=List.replicate aU none,waiting:=[],now:=[],log:=[],bP:=0,mark:=[],a_ := -1,dead:=false,sY:=none,tail:=[] }
theorem aaX : ∃i,prog.info? 23=some i/\i.size=1/\i.bytes=24 :=
 ⟨_,(show prog.info? 23=some ((prog.info? 23).getD default) by kernel_rfl),bo,bo⟩
theorem NY (v:V): ∀n:Nat,repeatL [v] n=List.replicate n v:=by
 intro n;induction n<;>grind[repeatL]
theorem Tv {a b:PM}: ∀n:Nat,(each tK (List.replicate n .aP) (List.replicate n none)).p a b:=by
 intro n;induction n with
 |zero=>trivial
 |succ n I=>exact⟨U,I⟩
theorem WV (hT:W told){m:Nat}(s:Sat h S)(hn:n<1073741824): Call ⟨prog,told⟩ 60 [.int .i64 (n:Int),.int .i64 (m:Int)] h λv h'=>∃p,v=.ptr p 0/\Sat h' (aS p (Dk.fresh n m)::S):=by
 refine Call.of_wp (hT.free _ U) func60 U U (zK 8 U ?_);obtain⟨i1,I,J,gu⟩:=aaX;obtain⟨id,h1,e1,s1⟩:=Ck (P:=prog) s jg I vE J Y U O hn;refine aq.any U U U (OpR.of (R:=λv h'=>v=.sl id 0 n (.exact n)/\h'=h1) (uL U U e1) ⟨U,U⟩) ?_;rintro v h ⟨rfl,rfl⟩;have s:=s1;dsimp only[V.cells] at s;rw[gF,NY] at s;refine aq.Cg s U U U U (λp8 h s=>(zo U (cE U (by rw[aeS];rfl))<|aq.bG s U U U (c7 U U) (λTw h s=>(zk 2 U (zR U ?_)))));have s:=(uy (f:=λv b=>aH.dL v b) (s.ae [1]));have s:=s.yu.yu.pK;have s:Sat _ (D7 .aP []::_):=yx.2 ⟨[],(s.eF (φ:=True) aa).jr⟩;have s:Sat _ (GN .aW none::_):=s.eF U;have s:=s.ae [6,6];have hp:Sat _ (qR (.sl id 0 n (.exact n)) (List.replicate n none)::_):=mO.2 ⟨id,List.replicate n .aP,cb,by
  rw[lF];exact(((s.ae [1]).eF (φ:=True) aa).iX λa b _=>Tv n).ae [1]⟩
 dsimp only[V.cells,List.take,List.length_cons,List.length_nil,Nat.reduceAdd,List.drop,List.cons_append,List.nil_append,aB,bringA,getA] at hp;exact⟨_,U,cj.2 ⟨_,_,_,_,_,_,_,_,hp.ae [1,0,1,4,1,1,0,0]⟩⟩
theorem aaY (hT:W told){n m:Int}(s:Sat h S): Call ⟨prog,told⟩ 30 [.int .i64 n,.int .i64 m] h λv h' =>
  (¬(1<=n/\n<=65536/\0<=m/\m<=16777216)/\v=.aR [.aW,.int .i64 1]/\Sat h' S) \/
  (1<=n/\n<=65536/\0<=m/\m<=16777216/\∃p,v=.aR [.ptr p 0,.int .i64 0]/\Sat h' (aS p (Dk.fresh n.toNat m.toNat)::S)):=by
 refine Call.of_wp (hT.free _ U) func30 U U (zK 9 U<|zd U (ag U U aG) ?_ ?_)
 .intro hq;have hq:n<1:=Q;exact zk 19 U (WP.ret ⟨aa,_,U,.inl ⟨λq=>Y,U,s⟩⟩)
 .intro hq;have hq:1<=n:=Q;refine zk 2 U<|zd U (ag U U dc) ?_ ?_
  .intro I;have I:65536<n:=Q;exact zk 16 U (WP.ret ⟨aa,_,U,.inl ⟨λq=>Y,U,s⟩⟩)
  .intro I;have I:n<=65536:=Q;refine zk 3 U<|zd U (ag U U aG) ?_ ?_
   .intro J;have J:m<0:=Q;exact zk 12 U (WP.ret ⟨aa,_,U,.inl ⟨λq=>Y,U,s⟩⟩)
   .intro J;have J:0<=m:=Q;refine zk 3 U<|zd U (ag U U dc) ?_ ?_
    .intro As;have As:16777216<m:=Q;exact zk 8 U (WP.ret ⟨aa,_,U,.inl ⟨λq=>Y,U,s⟩⟩)
    .intro As;have As:m<=16777216:=Q;refine zk 8 U ?_;obtain⟨n,rfl⟩:∃k:Nat,n=k:=⟨n.toNat,Y⟩;obtain⟨m,rfl⟩:∃k:Nat,m=k:=⟨m.toNat,Y⟩;refine zc U (WV hT s Y) ?_;rintro v h ⟨p,rfl,s⟩;exact zk 3 U (zR U (.inr ⟨hq,I,J,As,p,U,s⟩))
end
def leN : List Nat->Nat
 |[]=>0
 |b::l=>b+256*leN l
theorem WW : ∀(l:List Nat) (b:Nat),leN (l++[b])=leN l+b*256^l.length:=by
 intro l;induction l<;>grind[leN]
theorem GP : ∀(l:List Nat),(∀b∈l,b<256)->leN l<256^l.length:=by
 intro l;induction l<;>grind[leN,List.mem_cons_self]
theorem LJ (i:Nat): (256:Nat)^i=2^(8*i):=by rw[Nat.pow_mul]
theorem agE {x:Operand}(hd:d<256)(hi:i<=7): binV P h .shl t x y (.int .u64 (d:Int)) (.int .i64 (8*(i:Int)))=some (.int .u64 ((d*256^i:Nat):Int)):=by
 have J:(256:Nat)^i<=256^7:=tU Y hi;have I:d*256^i<18446744073709551616:=by
  have:d*256^i<=255*256^7:=m9 Y J;omega
 simp only[binV,shiftV,IntKind.bits];have e:(8*(i:Int)).toNat=8*i:=Y;rw[e,show min (8*i) 64=8*i by omega,show decide (8*(i:Int)<0)=false by rfl,bq];have:(d:Int)*2^(8*i)=((d*256^i:Nat):Int):=by rw[LJ];push_cast;rfl
 simp only[this,wrap_u64 I]
theorem or8 {x:Operand}(I:a<256^i)(hd:d<256)(hi:i<=7): binV P h .or t x y (.int .u64 (a:Int)) (.int .u64 ((d*256^i:Nat):Int))=some (.int .u64 ((a+d*256^i:Nat):Int)):=by
 have J:(256:Nat)^i<=256^7:=tU Y hi;have hm:d*256^i<=255*256^7:=m9 Y J;have h1:((a:Int)%(2^(IntKind.u64).bits:Int)).toNat=a:=by grind[IntKind.bits]
 have h2:(((d*256^i:Nat):Int)%(2^(IntKind.u64).bits:Int)).toNat=d*256^i:=by grind[IntKind.bits]
 have h3:Nat.lor a (d*256^i)=a+d*256^i:=by
  have e:d*256^i=2^(8*i)*d:=by rw[<-LJ,Nat.mul_comm]
  have:=OH (i:=8*i) (b:=a) (by rw[<-LJ];exact I) d;simp_all[Nat.add_comm,Nat.or_comm]
 simp only[binV,ikBeq,ak,intV,bitsV,h1,h2,h3];rw[wrap_u64 Y]
section
variable {told:bU} {v:V}
noncomputable def wdL : Code:=aV [1,1,0,1,0,0] ((f68.body).getD .skip)
theorem Tx (J:View h v l)(hl:l.length<=8): ∀(j i:Nat) (E:List (Nat×V)) (a8:Ex->List (Nat×V)->H->Prop),i+j=l.length ->
  Has E [(3,.int .u64 (leN (l.take i))),(6,v),(7,.int .i64 l.length),(8,.int .i64 i)]->(∀E',look E' 3=some (.int .u64 (leN l))->a8 (.exit 0) E' h)->WP ⟨prog,told⟩ 22 (.loop wdL) E h a8:=by
 intro j;induction j with
 |zero =>
  refine λi E a8 hi hE hq=>WP.loop (WP.has hE (zg U (zC U aG Q<|zk 3 U (WP.exit (hq _ ?_)))));rw[kg Y];rfl
 |succ j ih =>
  intro i E a8 hi hE hq;have hb:l[i]?=some (l[i]' Y):=aI _;generalize Zg:(l[i]' Y)=b at hb;have I:b<256:=J.1 b (bz hb);obtain⟨id,off,e1,e2⟩:=gG J hb;have ht:l.take (i+1)=l.take i++[b]:=by grind[List.take_add_one]
  have bY:leN (l.take i)<256^i:=by
   have:=GP (l.take i) (λx hx=>J.1 x (lG hx));grind
  refine WP.loop (WP.has hE (zg U (zB U aG Q<|zk 5 U (WP.block (zK 3 U (zo U (aJ (.ptr id off) U U e1) (zl U e2 (zk 6 U (zo U (bQ U (by exact ie underlying5 bS eB))<|zm U (zb U (by exact jM ay)<|zb U (agE I Y)<|zb U (or8 bY I Y)<|za U (zv (zr U (zb U (by exact aT ay)<|zm U (zv<|ih (i+1) _ _ Y ?_ hq))))))))))))));rw[ht,WW,wD,Nat.min_eq_left Y];exact⟨U,U,U,U,aa⟩
theorem rZ (hT:W told)(s:Sat h S)(hk:getA S k=some X)(hX:cQ X (cT v l))(hl:l.length<=8): Call ⟨prog,told⟩ 68 [v] h λr h'=>r=.int .u64 (leN l)/\h'=h:=by
 have J:=s.aQ _ hk hX;exact Call.of_wp (hT.free _ U) func68 U U (zK 12 U (zo U (aO U U U (bC aZ J)) (zk 2 U (WP.block<|Tx J hl l.length 0 _ _ Y ⟨U,U,U,U,aa⟩ (λE' I=>(WP.has (F:=[(3,.int .u64 (leN l))]) ⟨I,aa⟩ (zK 5 U (zR U ⟨U,U⟩))))))))
theorem ZG (I:W told)(s:Sat h S)(J:getA S k=some X)(hX:cQ X (cT v l))(hl:l.length<=4611686018427387904): Call ⟨prog,told⟩ 180 [v] h λr h'=>r=.int .u32 (GO 0 l:Nat)/\h'=h:=by
 refine Call.of_wp (I.free _ U) func180 U U (zK 7 U (zc U (aaT (s:=0) I s J hX O hl) ?_));rintro v h' ⟨rfl,rfl⟩;exact zk 2 U (zR U ⟨U,U⟩)
def dU (l:List Nat)(a z:Nat): Nat:=leN ((l.take (a+z)).drop a)
theorem xA (hT:W told){a z:Int}(s:Sat h S)(J:getA S k=some X)(hX:cQ X (cT v l))(ha:0<=a)(hz:1<=z)(hz2:z<=7)(hl:a+z<=l.length)(ir:l.length<=65536):
  Call ⟨prog,told⟩ 179 [.agg [v],.int .i64 a,.int .i64 z] h λr h'=>r=.int .i64 (dU l a.toNat z.toNat)/\Sat h' S:=by
 have hv:=s.aQ _ J hX;obtain⟨pi,po,pc,rfl⟩:=jf hv;refine Call.of_wp (hT.free _ U) func179 U U (zg U<|aq.bG s U U U (c7 U U) (λp3 h s=>(zk 4 U (zY s 0 iT cF U (zk 3 U (zb U (by exact aT ay)<|zk 2 U (zb U (by exact aT ay) ?_)))))));have kI:=EJ (s.aQ _ (oG J) hX) (a:=a.toNat) (b:=(a+z).toNat) (c:=(a+z).toNat) Y Y Y Y;refine zo U (bR (p:=some (.int .i64 a)) (q:=some (.int .i64 (a+z))) (m:=some (.int .i64 (a+z))) U U U U (fb ha) fb fb kI) ?_;have hlen:((l.take (a+z).toNat).drop a.toNat).length=z.toNat:=Q;refine zc U (rZ hT s (oG J) (Jy hX (a:=a.toNat) (b:=(a+z).toNat) (c:=(a+z).toNat) Y Y Y Y) Y) ?_;rintro r h' ⟨rfl,rfl⟩;have I:=GP ((l.take (a+z).toNat).drop a.toNat) (λx hx=>hv.1 x (lG (oC hx)));have hp:256^z.toNat<=256^7:=tU Y Y;rw[hlen] at I;have e:(a+z).toNat=a.toNat+z.toNat:=Y;rw[e] at I ⊢;exact zo U (bQ U (by exact ie bS bB ay))<|zk 2 U (zR U ⟨U,s.drop⟩)
theorem Cq (I:∀b∈l,b<256): dU l a z<256^z:=by
 have:=GP ((l.take (a+z)).drop a) (λx J=>I x (lG (oC J)));have h2:((l.take (a+z)).drop a).length<=z:=Q;exact gW this (tU Y h2)
def oU (l:List Nat): Nat:=dU l 14 2
def mW (l:List Nat): Nat:=dU l 16 2
def ej (l:List Nat)(i:Nat): Nat:=dU l (26+4*i) 2
def jW (l:List Nat)(i:Nat): Nat:=dU l (26+4*i+2) 2
theorem mX (I:W told)(s:Sat h S)(J:getA S k=some X)(hX:cQ X (cT v l))(hl:l.length=512):
  Call ⟨prog,told⟩ 160 [.agg [v]] h λr h'=>r=.int .i64 (oU l)/\Sat h' S:=by
 have hv:=s.aQ _ J hX;obtain⟨pi,po,pc,rfl⟩:=jf hv;refine Call.of_wp (I.free _ U) func160 U U (zg U<|aq.bG s U U U (c7 U U) (λp1 h s=>(zk 4 U (zl U (s.bW (k:=0) U cG bN) (zc U (xA I s (oG J) hX O O O Y Y) ?_)))));rintro r h' ⟨rfl,s⟩;exact zk 2 U (zR U ⟨U,s.drop⟩)
theorem LK (I:W told)(s:Sat h S)(J:getA S k=some X)(hX:cQ X (cT v l))(hl:l.length=512):
  Call ⟨prog,told⟩ 161 [.agg [v]] h λr h'=>r=.int .i64 (mW l)/\Sat h' S:=by
 have hv:=s.aQ _ J hX;obtain⟨pi,po,pc,rfl⟩:=jf hv;refine Call.of_wp (I.free _ U) func161 U U (zg U<|aq.bG s U U U (c7 U U) (λp1 h s=>(zk 4 U (zl U (s.bW (k:=0) U cG bN) (zc U (xA I s (oG J) hX O O O Y Y) ?_)))));rintro r h' ⟨rfl,s⟩;exact zk 2 U (zR U ⟨U,s.drop⟩)
end
def BD (t:List Bool): List V:=t.map V.bool
theorem aaZ (t:List Bool)(k:Nat)(b:Bool): (BD t).set k (.bool b)=BD (t.set k b):=by simp[BD,qd]
theorem Pf {t:List Bool}(I:k<t.length): nth (BD t) k=some (.bool (t.getD k false)):=by
 grind[iD,BD]
theorem WY : zeroT prog 264=some (.agg (BD (List.replicate 512 false))):=bo
def markL : Nat->Nat->List Bool->Option (List Bool)
 |0,_,t=>some t
 |n+1,k,t=>if t.getD k false then none else markL n (k+1) (t.set k true)
def cellsL (l:List Nat)(low:Nat): Nat->Nat->List Bool->Bool
 |0,_,_=>true
 |n+1,i,t=>if ej l i<low\/512<ej l i+jW l i then false else match markL (jW l i) (ej l i) t with
  |none=>false
  |some t'=>cellsL l low n (i+1) t'
def cH (l:List Nat): Bool:=decide (l.length=512)&&(decide (l.getD 13 0=0)&&(decide (26+4*oU l<=mW l/\mW l<=512)&&cellsL l (mW l) (oU l) 0 (List.replicate 512 false)))
theorem Ty : ∀(n k:Nat) (t t':List Bool),markL n k t=some t'->t'.length=t.length:=by
 intro n;induction n<;>grind[markL]
section
variable {told:bU} {v:V}
theorem D8 (I:W told)(s:Sat h S)(J:getA S k=some X)(hX:cQ X (cT v l))(hl:l.length=512)(hi:30+4*i<=512):
  Call ⟨prog,told⟩ 162 [.agg [v],.int .i64 (i:Int)] h λr h'=>r=.aR [.int .i64 (ej l i),.int .i64 (jW l i)]/\Sat h' S:=by
 have hv:=s.aQ _ J hX;obtain⟨pi,po,pc,rfl⟩:=jf hv;have e1:(26+4*(i:Int)).toNat=26+4*i:=Y;have e2:(26+4*(i:Int)+2).toNat=26+4*i+2:=Y;refine Call.of_wp (I.free _ U) func162 U U (zg U<|aq.bG s U U U (c7 U U) (λp2 h s=>(zk 6 U (zb U (by exact jM ay)<|zb U (by exact aT ay)<|zk 3 U ?_))));have s0:=s;refine WP.drawn [af,af,af,some (0,2),some (0,2),some (0,2),af,af,af] U bo bo<|zL U (s.bW (k:=0) U cG bN) (zM U (ah.any U U U U (OpR.call U U U U (xA I s (oG J) hX Y O O Y Y)) ?_));rintro r h' ⟨rfl,s⟩;rw[e1];have s1:=s;refine zL U (s.bW (k:=0) U cG bN) (zM U (zO U (ag U U (by exact aT ay))<|ah.any U U U U (OpR.call U U U U (xA I s (oG J) hX Y O O Y Y)) ?_));rintro r h' ⟨rfl,s⟩;rw[e2];exact zA U (zA U<|ah.nil ⟨⟨aa,aa,aa,cY (.inr ⟨U,⟨_,o_load U (s0.bW (k:=0) U cG bN)⟩,aA _ U⟩) (.inr ⟨U,⟨_,o_load U (s1.bW (k:=0) U cG bN)⟩,aA _ U⟩),λ_ _=>.inr ⟨U,⟨_,aD U⟩,aA _ U⟩,λ_ _=>.inr ⟨U,⟨_,ag U U (by exact aT ay)⟩,aA _ U⟩,dq 4⟩,WP.ret ⟨aa,_,U,⟨U,s.drop⟩⟩⟩)
noncomputable def gdO : Code:=aV [1,1,1,1,1,1,0,1,0,0] ((f90.body).getD .skip)
noncomputable def gdI : Code:=aV [1,1,1,1,1,1,0,1,0,0,1,1,0,0,1,1,1,1,0,0] ((f90.body).getD .skip)
theorem Q5 {v3 v4 v5 v35 v36:V}(haz:a+z<=512): ∀(m q:Nat) (t:List Bool) (h:H) (E:List (Nat×V)) (a8:Ex->List (Nat×V)->H->Prop),q+m=a+z->t.length=512 ->
  Sat h (pt p6 (.cells 512 (BD t) false)::S)->Has E [(3,v3),(4,v4),(5,v5),(6,.ptr p6 0),(8,.int .i64 (a:Int)),(9,.int .i64 (z:Int)),(10,.int .i64 (q:Int)),(35,v35),(36,v36)] ->
  (markL m q t=none->∀E' h',look E' 2=some (.bool false)->Sat h' S->a8 .ret E' h') ->
  (∀t' E' h',markL m q t=some t'->Has E' [(3,v3),(4,v4),(5,v5),(6,.ptr p6 0),(35,v35),(36,v36)]->Sat h' (pt p6 (.cells 512 (BD t') false)::S)->a8 (.exit 2) E' h') ->
  WP ⟨prog,told⟩ 68 (.loop gdI) E h a8:=by
 intro m;induction m with
 |zero =>
  exact λq t h E a8 hq ht s hE J hx=>WP.loop (WP.has hE (zK 6 U (zb U (by exact aT ay)<|zC U aG Q<|zk 2 U (WP.exit (hx t _ _ U ⟨U,U,U,U,U,U,aa⟩ s)))))
 |succ m ih =>
  intro q t h E a8 hq ht s hE J hx;have I:q<t.length:=Y;refine WP.loop (WP.has hE (zK 6 U (zb U (by exact aT ay)<|zB U aG Q ?_)));refine zk 4 U (WP.block (zK 4 U (zo U (aJ (.ptr p6 q) U U (by rw[Zx,show(decide ((0:Int)<=(q:Int))&&decide ((q:Int)<((512:Nat):Int)))=true by simp;omega,ak];simp)) ?_)));cases hm:t.getD q false with
  |true =>
   refine zt U (o_load U (s.ld 0 U nO (Pf I))) (hm) (zk 6 U (WP.ret<|J ?_ _ _ U s.drop));rw[markL,bk hm]
  |false =>
   refine zh U (o_load U (s.ld 0 U nO (Pf I))) (hm) (zk 5 U (zo U (aJ (.ptr p6 q) U U (by rw[Zx,show(decide ((0:Int)<=(q:Int))&&decide ((q:Int)<((512:Nat):Int)))=true by simp;omega,ak];simp)) ?_));refine zS U (s.cS (k:=0) U BB (by simp[BD,ht]) Y U U) λh s=>?_;dsimp only[setA] at s;rw[aaZ] at s;refine zv (zr U (zm U (zb U (by exact aT ay)<|za U (zv ?_))));have e:markL (m+1) q t=markL m (q+1) (t.set q true):=by grind[markL]
   rw[e] at J hx;exact ih (q+1) (t.set q true) h _ a8 Y Q s ⟨U,U,U,U,U,U,U,U,U,aa⟩ J hx
theorem Q6 (hT:W told){p3:Nat}{low:Nat}(hX:cQ X (cT x l))(hl:l.length=512)(bY:∀b∈l,b<256)(Le:x.cells=[x])(hx2:storable x=true)(hn:n=oU l)(A0:26+4*n<=low)(aif:low<=512): ∀(m i:Nat) (t:List Bool) (h:H) (E:List (Nat×V)) (a8:Ex->List (Nat×V)->H->Prop),i+m=n->t.length=512 ->
  Sat h (pt p6 (.cells 512 (BD t) false)::pt p3 (.cells 1 [x] false)::X::S)->Has E [(3,.ptr p3 0),(4,.int .i64 (n:Int)),(5,.int .i64 (low:Int)),(6,.ptr p6 0),(35,.int .i64 (n:Int)),(36,.int .i64 (i:Int))] ->
  (cellsL l low m i t=false->∀E' h',look E' 2=some (.bool false)->Sat h' (X::S)->a8 .ret E' h') ->
  (cellsL l low m i t=true->∀E' h',Sat h' (X::S)->a8 (.exit 0) E' h') ->
  WP ⟨prog,told⟩ 68 (.loop gdO) E h a8:=by
 intro m;induction m with
 |zero =>
  exact λi t h E a8 hi ht s hE J hx=>WP.loop (WP.has hE (zg U (zC U aG Q<|zk 3 U (WP.exit (hx U _ _ s.drop.drop)))))
 |succ m ih =>
  intro i t h E a8 hi ht s hE J hx;have hf:=Cq (l:=l) (a:=26+4*i) (z:=2) bY;have hz:=Cq (l:=l) (a:=26+4*i+2) (z:=2) bY;have ef:ej l i=dU l (26+4*i) 2:=rfl;have ez:jW l i=dU l (26+4*i+2) 2:=rfl;refine WP.loop (WP.has hE (zg U (zB U aG Q<|zk 5 U (WP.block (zK 7 U (zl U (s.bW (k:=1) U cG bN) (zm U (zc U (D8 (i:=i) hT s (k:=2) U hX hl Y) ?_))))))));rintro r h' ⟨rfl,s⟩;refine zk 11 U<|zd U (ag U U aG) ?_ ?_
  .intro hq;have hq:ej l i<low:=Q;refine zk 12 U (WP.ret<|J ?_ _ _ U s.drop.drop);rw[cellsL,bk (.inl hq)]
  .intro hq;have hq:low<=ej l i:=Q;refine zk 3 U (zb U (by exact aT ay)<|zd U (ag U U dc) ?_ ?_)
   .intro I;have I:512<ej l i+jW l i:=Q;refine zk 7 U (WP.ret<|J ?_ _ _ U s.drop.drop);rw[cellsL,bk (.inr I)]
   .intro I;have I:ej l i+jW l i<=512:=Q;refine zk 9 U (WP.block ?_);have e:cellsL l low (m+1) i t=(match markL (jW l i) (ej l i) t with|none=>false|some t'=>cellsL l low m (i+1) t'):=by rw[cellsL,ax Y]
    rw[e] at J hx;refine Q5 I (jW l i) (ej l i) t _ _ _ U ht s ⟨U,U,U,U,U,U,U,U,U,aa⟩ (λhm E' h' h2 s'=>?_) (λt' E' h' hm fg s'=>?_)
    .rw[hm] at J;exact J U _ _ h2 s'.drop
    .rw[hm] at J hx;exact WP.has fg (zr U (zb U (by exact aT ay)<|zm U (zv<|ih (i+1) t' h' _ a8 Y (by rw[Ty _ _ _ _ hm,ht]) s' ⟨U,U,U,U,U,U,aa⟩ J hx)))
theorem Pg (hT:W told)(s:Sat h (X::S))(hX:cQ X (cT v l))(ir:l.length<9223372036854775808):
  Call ⟨prog,told⟩ 90 [v] h λr h'=>r=.bool (cH l)/\Sat h' (X::S):=by
 have hv:=s.aQ 0 U hX;refine Call.of_wp (hT.free _ U) func90 U U (zK 8 U (zo U (aO U U U (bC aZ (s.aQ 0 U hX)))<|zd U (ag U U aE) ?_ ?_))
 .intro hq;have hq:l.length≠512:=Q;exact zk 12 U (WP.ret ⟨aa,_,U,by grind[cH],s⟩)
 .intro hq;have hq:l.length=512:=Q;have hb:l[13]?=some (l[13]' Y):=aI _;generalize Zg:(l[13]' Y)=b at hb;have LL:l.getD 13 0=b:=Q;obtain⟨id,off,e1,e2⟩:=gG hv hb;refine zk 2 U (zo U (aJ (.ptr id off) U U e1) (zl U e2<|zd U (ag U U aE) ?_ ?_))
  .intro I;have I:b≠0:=Q;exact zk 7 U (WP.ret ⟨aa,_,U,by rw[cH,lH hq,LL,mE I,rN,Bool.and_false],s⟩)
  .intro I;have I:b=0:=Q;obtain⟨pi,po,pc,rfl⟩:=jf hv;refine zk 7 U (zo U (cE U (by rw[DY];rfl)) ?_);refine aq.bG s U U U (bK kW) (λp3 h s=>(zS U (s.dS (j:=0) U bN U U) (λh s=>(zk 2 U ?_))));have s0:=s;refine WP.drawn [none,none,some (0,2),af,af,af] U bo bo ?_;refine zL U (s.bW (k:=0) U cG bN) (ah.any U U U U (OpR.call U U U U (mX hT s (k:=1) U hX hq)) ?_);rintro r h' ⟨rfl,s⟩;have s1:=s;refine zL U (s.bW (k:=0) U cG bN) (ah.any U U U U (OpR.call U U U U (LK hT s (k:=1) U hX hq)) ?_);rintro r h' ⟨rfl,s⟩;refine zA U (zA U<|ah.nil ⟨⟨aa,aa,cY (.inr ⟨U,⟨_,o_load U (s0.bW (k:=0) U cG bN)⟩,aA _ U⟩) (.inr ⟨U,⟨_,o_load U (s1.bW (k:=0) U cG bN)⟩,aA _ U⟩),dq 4⟩,?_⟩);have Ev:=Cq (l:=l) (a:=14) (z:=2) hv.1;have sH:=Cq (l:=l) (a:=16) (z:=2) hv.1;have ec:oU l=dU l 14 2:=rfl;have el:mW l=dU l 16 2:=rfl;refine zK 4 U (zb U (by exact jM ay) ?_);refine zb U (by exact aT ay) ?_;refine zm U<|zd U (ag U U dc) ?_ ?_
   .intro J;have J:mW l<26+4*oU l:=Q;exact zk 10 U (WP.ret ⟨aa,_,U,by grind[cH],s.drop⟩)
   .intro J;have J:26+4*oU l<=mW l:=Q;refine zk 2 U<|zd U (ag U U dc) ?_ ?_
    .intro As;have As:512<mW l:=Q;exact zk 7 U (WP.ret ⟨aa,_,U,by grind[cH],s.drop⟩)
    .intro As;have As:mW l<=512:=Q;refine zk 6 U (aq.bG s U U U (bK WY) λp6 h s=>?_);have yy:(BD (List.replicate 512 false)).length=512:=by grind[BD]
     dsimp only[V.cells] at s;rw[yy] at s;refine zk 7 U (WP.block ?_);have hg:cH l=cellsL l (mW l) (oU l) 0 (List.replicate 512 false):=by
      grind[cH]
     refine Q6 hT hX hq hv.1 U U U J As (oU l) 0 (List.replicate 512 false) _ _ _ Y lF s ⟨U,U,U,U,U,U,aa⟩ (λhc E' h' h2 s'=>?_) (λhc E' h' s'=>?_)
     .rw[hg,hc];exact⟨aa,_,jk h2,U,s'⟩
     .rw[hg,hc];exact WP.has (F:=[]) aa (zK 4 U (zR U ⟨U,s'⟩))
end
section
variable {told:bU} {v:V}
theorem qS (I:W told)(s:Sat h (bu v l::S))(J:z<=8)(hl:l.length+z<=140737488355328):
  Call ⟨prog,told⟩ 71 [v,.int .i64 (z:Int),.int .u64 (n:Int)] h λr h'=>Sat h' (bu r (l++le z n)::S) :=
 (Tq I.ZE s.wf (s.buf (k:=0) U) J hl).mono λ_ _ ⟨h1,h2,h3⟩=>s.DM h2 h1 h3
theorem sZ (hT:W told)(s:Sat h (bu v l::S))(hz:1<=z)(hz2:z<=8)(hl:a+z<=l.length)(ir:l.length<=65536):
  Call ⟨prog,told⟩ 88 [.agg [v],.int .i64 (a:Int),.int .i64 (z:Int),.int .u64 (n:Int)] h λr h'=>r=.aR []/\Sat h' (bu v (bJ l a (le z n))::S):=by
 obtain⟨I,_,cap,_,rfl,_⟩:=s.g8 Y;refine Call.of_wp (hT.free _ U) func88 U U (zg U<|aq.bG s U U U (c7 U U) (λp4 h s=>(zv ?_)));have s0:=s;refine WP.drawn [some (0,2),some (0,2),some (0,2),some (0,2),some (0,2),some (0,2),some (0,2),af,af,af,af] U bo bo<|zF U (iT _ _) (zL U (s.ld 0 U cF U) (zM U (zM U (zM U (zO U (ag U U (by exact aT ay)) ?_)))));have ez:((a:Int)+(z:Int)).toNat=a+z:=Y;have ea:((a:Int)).toNat=a:=Y;refine zO U (bR (p:=some (.int .i64 (a:Int))) (q:=some (.int .i64 ((a:Int)+(z:Int)))) (m:=none) (p':=some a) (q':=some (a+z)) (m':=none) U U U U (by rw[fb,ea]) (by rw[fb,ez]) U (dm (s.buf (k:=1) U).view Y hl).1)<|zM U (zM U (ah.any U U U U (OpR.call U U U U (qS hT s.pK hz2 Q)) λu h s=>?_));have s:=s.ae [1,1,0];dsimp only[List.nil_append,V.cells,List.length_cons,List.length_nil,Nat.reduceAdd,bringA,getA,aB] at s;have s1:=s;refine ah.any U U U U (OpR.QW U (s.ae [1,1]) (bh _ _) U U U U Y hl (by simp[dI];omega)) λr h s=>?_;have hs:∃q c,slR (V.sl I 0 l.length cap) a (a+z)=.sl I q (a+z-a) c:=by
  cases cap with
  |exact c=>exact⟨_,_,U⟩
  |rest e alt=>exact⟨_,_,U⟩
 obtain⟨q,c,hs⟩:=hs;have J:(slR (V.sl I 0 l.length cap) a (a+z)).beq (slR (V.sl I 0 l.length cap) a (a+z))=true:=by rw[hs];exact DL _ _ _ _
 refine ah.nil ⟨⟨λ_ _=>.inr ⟨U,⟨_,gy U (iT _ _)⟩,aA _ U⟩,cY (.inr ⟨U,⟨_,o_load U (s0.ld 0 U cF U)⟩,aA _ U⟩) (.inr ⟨U,⟨_,o_load U (s1.ld 0 U cF U)⟩,aA _ U⟩),λ_ _=>.inr ⟨U,⟨_,aD U⟩,aA _ U⟩,λ_ _=>.inr ⟨U,⟨_,aD U⟩,aA _ U⟩,λ_ _=>.inr ⟨U,⟨_,aD U⟩,aA _ U⟩,λ_ _=>.inr ⟨U,⟨_,ag U U (by exact aT ay)⟩,aA _ U⟩,cY (.inr ⟨U,⟨_,bR (p:=some (.int .i64 (a:Int))) (q:=some (.int .i64 ((a:Int)+(z:Int)))) (m:=none) (p':=some a) (q':=some (a+z)) (m':=none) U U U U (by rw[fb,ea]) (by rw[fb,ez]) U (dm (s0.buf (k:=1) U).view Y hl).1⟩,J⟩) (.inr ⟨U,⟨_,bR (p:=some (.int .i64 (a:Int))) (q:=some (.int .i64 ((a:Int)+(z:Int)))) (m:=none) (p':=some a) (q':=some (a+z)) (m':=none) U U U U (by rw[fb,ea]) (by rw[fb,ez]) U (dm (s1.buf (k:=1) U).view Y hl).1⟩,J⟩),dq 5⟩,⟨aa,_,U,U,?_⟩⟩;rw[show a+z-a=z by omega,kg (by rw[dI];omega)] at s;exact(s.del 1).del 1
theorem xB (hT:W told)(s:Sat h (X::S))(hX:cQ X (cT v l))(J:l.length<9223372036854775808):
  Call ⟨prog,told⟩ 178 [v] h λr h'=>Sat h' (X::S)/\((cH l=true/\r=.aR [.agg [v],.int .i64 0])\/(cH l=false/\r=.aR [.agg [.aP],.int .i64 4])):=by
 have hv:=s.aQ 0 U hX;refine Call.of_wp (hT.free _ U) func178 U U (zg U<|aq.bG s U U U (bK kW) (λp2 h s=>(zk 6 U (zc U (Pg hT (s.ae [1]) hX J) ?_))));rintro r h' ⟨rfl,s⟩;cases hg:cH l with
 |true =>
  have I:1<=l.length:=by
   grind[cH]
  obtain⟨pi,po,pc,rfl⟩:=jf hv I;refine zo U (cI U U) (zk 6 U (zo U (cE U (by rw[DY];rfl)) ?_));exact zS U (s.dS (j:=1) U bN U U) (λh s=>(zk 2 U<|WP.ret ⟨aa,_,Kz U (s.bW (k:=1) U cG bN) U,⟨s.del 1,.inl ⟨U,U⟩⟩⟩))
 |false =>
  refine zo U (cI U U) (zk 4 U (zo U (cE U (by rw[DY];rfl)) ?_));exact zS U (s.dS (j:=1) U bN U U) (λh s=>(zk 2 U<|WP.ret ⟨aa,_,Kz U (s.bW (k:=1) U cG bN) U,⟨s.del 1,.inr ⟨U,U⟩⟩⟩))
theorem iU (I:cH l=true): l.length=512:=by grind[cH]
theorem yz (hT:W told)(s:Sat h (X::S))(J:cQ X (cT v l))(ir:l.length<9223372036854775808):
  Call ⟨prog,told⟩ 192 [v] h λr h'=>(cH l=true/\∃u,r=.aR [.agg [u],.int .i64 0]/\Sat h' (bu u l::X::S))\/(cH l=false/\r=.aR [.agg [.aP],.int .i64 4]/\Sat h' (X::S)):=by
 have hv:=s.aQ 0 U J;refine Call.of_wp (hT.free _ U) func192 U U (zg U<|aq.bG s U U U (bK kW) (λp2 h s=>(zk 5 U (zc U (xB hT (s.ae [1]) J ir) ?_))));rintro r h' ⟨s,(⟨I,rfl⟩|⟨I,rfl⟩)⟩
 .have agF:=iU I;obtain⟨pi,po,pc,rfl⟩:=jf hv;refine zk 3 U<|aq.bG s U U U (bK kW) (λp4 h s=>(zS U (s.dS (j:=0) U bN U U) (λh s=>(zk 6 U (zC U aE U (zk 4 U ?_))))));have s0:=s;refine WP.drawn [af,af,af,af,some (0,2),some (0,2),af,af,af,af] U bo bo ?_;refine zF U (iT _ _) (zL U (s.ld 0 U cF U) (zO U (aO U U U (ur U aZ)) (ah.any U U U U (OpR.xx U s U U U U Y) λu h s=>?_)));have s:=s.ae [1,1,1,0];have s1:=s;refine zF U (iT _ _) (zL U (s.ld 0 U cF U) (ah.any U U U U (OpR.sW U (s.ae [3,1]) J U U U U Q) ?_));intro u2 h s;rw[iQ] at s;obtain⟨Ar,_,cap,_,rfl,_⟩:=s.g8 Y;have s2:=s;refine zO U (cE U (by rw[DY];rfl)) ?_;refine ah.cy U U U (OpR.dX U U U (s.dS (j:=3) U bN U U)) ?_;rintro w h ⟨rfl,s⟩;have s3:=s;exact zA U<|ah.nil ⟨⟨aa,aa,aa,aa,λ_ _=>.inr ⟨U,⟨_,gy U (iT _ _)⟩,aA _ U⟩,cY (.inr ⟨U,⟨_,o_load U (s0.ld 0 U cF U)⟩,aA _ U⟩) (.inr ⟨U,⟨_,o_load U (s1.ld 0 U cF U)⟩,aA _ U⟩),dq 5⟩,WP.ret ⟨aa,_,Kz U (s.bW (k:=3) U cG bN) U,.inl ⟨I,_,U,(s.del 2).del 2⟩⟩⟩
 .skip;refine zk 3 U<|aq.bG s U U U (bK kW) (λp4 h s=>(zS U (s.dS (j:=0) U bN U U) (λh s=>(zk 6 U (zB U aE U (zk 4 U (zo U (cE U (by rw[DY];rfl)) ?_)))))));exact zm U<|zS U (s.dS (j:=2) U bN U U) (λh s=>(zk 2 U<|WP.ret ⟨aa,_,Kz U (s.bW (k:=2) U cG bN) U,.inr ⟨I,U,(s.del 2).del 0⟩⟩))
def ry (l:List Nat)(n:Nat): List Nat:=bJ l 4 (le 8 n)
def dW (l:List Nat)(n:Nat): List Nat:=bJ (ry l n) 0 (le 4 (GO 0 ((ry l n).drop 4)))
theorem A1 (I:l.length=512): (ry l n).length=512:=by grind[ry,dH,dI]
theorem aa0 (I:W told)(s:Sat h (X::S))(hX:cQ X (cT v l))(ir:l.length<9223372036854775808):
  Call ⟨prog,told⟩ 131 [v,.int .u64 (n:Int)] h λr h'=>(cH l=true/\∃u,r=.aR [u,.int .i64 0]/\Sat h' (bu u (dW l n)::X::S))\/(cH l=false/\r=.aR [.aP,.int .i64 4]/\Sat h' (X::S)):=by
 refine Call.of_wp (I.free _ U) func131 U U (zK 8 U (zc U (yz I s hX ir) ?_));rintro r h' (⟨hg,u,rfl,s⟩|⟨hg,rfl,s⟩)
 .have J:=iU hg;have r8:(ry l n).length=512:=A1 J;obtain⟨Ar,_,cap,_,rfl,_⟩:=s.g8 Y;refine zk 3 U<|aq.bG s U U U (bK kW) (λp6 h s=>(zS U (s.dS (j:=0) U bN U U) (λh s=>(zk 6 U (zC U aE U (zk 5 U (zl U (s.bW (k:=0) U cG bN) (zm U (zc U (sZ (a:=4) (z:=8) I (s.ae [1]) O O Y Y) ?_)))))))));rintro r h' ⟨rfl,s⟩;have s:=s.ae [1,0];have s:Sat _ (_::bu _ (ry l n)::_):=s;refine zk 2 U ?_;have s0:=s;have GQ:=(s.buf (k:=1) U).view.1;have ec:(ry l n).length=l.length:=Y;rw[<-ec] at *;refine WP.drawn [some (0,2),af,af,af,af,af,af] U bo bo<|zL U (s.bW (k:=0) U cG bN) (zF U (iT _ _) (zL U (s.ld 0 U cF U) (zO U (bR (p:=some (.int .i64 4)) (q:=none) (m:=none) (p':=some 4) (q':=none) (m':=none) U U U U U U U (iy (s.buf (k:=1) U).view (a:=4) Y).1)<|ah.any U U U U (OpR.call U U U U (ZG I s (k:=1) U (uq (bh _ _) (a:=4) Y) Q)) ?_)));rintro r h' ⟨rfl,rfl⟩;have s1:=s;have hc:=Fu (s:=0) (l:=(ry l n).drop 4) O (λx hx=>GQ x (oC hx));refine ah.op U U U (by simp only[isEff,bS]) (bQ U (by exact ie underlying285 bS eB))<|ah.any U U U U (OpR.call U U U U (sZ (a:=0) (z:=4) I (s.ae [1]) O O Y Y)) ?_;rintro r h ⟨rfl,s⟩;have s:=s.ae [1,0];exact ah.nil ⟨⟨cY (.inr ⟨U,⟨_,o_load U (s0.bW (k:=0) U cG bN)⟩,aA _ U⟩) (.inr ⟨U,⟨_,o_load U (s1.bW (k:=0) U cG bN)⟩,aA _ U⟩),dq 7⟩,zg U (zY s 0 iT cF U (zk 3 U (zR U (.inl ⟨hg,_,U,s.drop⟩))))⟩
 .skip;exact zk 3 U<|aq.bG s U U U (bK kW) (λp6 h s=>(zS U (s.dS (j:=0) U bN U U) (λh s=>(zk 6 U (zB U aE U (zk 8 U (WP.ret ⟨aa,_,U,.inr ⟨hg,U,s.drop⟩⟩)))))))
theorem agG {d:TypeId}{x:Operand}{r:V}(I:bp E x=some v)(J:arrPtrV P d v=some r): opE P E h (.sliceToArrayPointer d x)=some (r,h):=by grind[opE,kq,bE]
theorem aa1 {cap:Cap}(I:View h (.sl id off n cap) l)(J:isAggT P t=some true)(hs:bf P t=some l.length): loadV P h t (.ptr id off)=some (.agg (ofBytes l)):=by
 have:=I.rdN;grind[loadV]
theorem Kk : ∀(l m:List Nat),l.length=m.length->intsBeq .u8 (ofBytes l) (ofBytes m)=some (decide (l=m)):=by
 intro l;induction l with
 |nil=>intro m hm;cases m with
  |nil=>rfl
  |cons x m=>grind
 |cons x l J=>intro m hm;cases m with
  |nil=>grind
  |cons y m =>
   have hi:=J m Q;simp only[ofBytes,ko] at hi ⊢;simp only[intsBeq,ikBeq,oE,ak,hi,nW];by_cases I:x=y
   .simp_all
   .have:¬ ((x:Int)=(y:Int)):=Y;simp[this,I]
theorem WZ : buildV prog 281 []=some (.agg (ofBytes (List.replicate 512 0))):=bo
theorem ZH {x:Operand}{m:List Nat}(hu:P.underlying t=some (.array n e))(he:P.underlying e=some (.int .u8))(hs:bf P e=some 1)(I:l.length=n)(hm:m.length=n):
  binV P h .eql t x y (.agg (ofBytes l)) (.agg (ofBytes m))=some (.bool (decide (l=m))):=by
 simp_all[binV,eqArr,gn,Kk]
def jt (l:List Nat): Int:=if l=List.replicate 512 0 then 0 else if cH l=false then 4 else if dU l 0 4≠GO 0 (l.drop 4) then 8 else 0
theorem LM (hT:W told)(s:Sat h (X::S))(I:cQ X (cT v l))(ir:l.length<9223372036854775808):
  Call ⟨prog,told⟩ 110 [v] h λr h'=>r=.int .i64 (jt l)/\Sat h' (X::S):=by
 have hv:=s.aQ 0 U I;have hz:(List.replicate 512 0).length=512:=lF
 -- what follows when the page is no page of noughts
 refine Call.of_wp (hT.free _ U) func110 U U (zK 8 U (zo U (aO U U U (bC aZ (s.aQ 0 U I)))<|zd U (ag U U bH) ?_ ?_))
 .intro hq;have hq:l.length=512:=Q;obtain⟨pi,po,pc,rfl⟩:=jf hv;refine zk 2 U (zo U (agG (r:=.ptr pi po) U (by simp only[arrPtrV,LA];rw[hq];rfl))<|zl U (aa1 hv afj (by rw[hq];exact afi))<|zo U (cE U WZ) ?_);by_cases hn:l=List.replicate 512 0
  .skip;exact zB U (ZH LA underlying5 Zs hq hz) (decide_eq_true hn) (zk 7 U (WP.ret ⟨aa,_,U,by rw[jt,bk hn],s⟩))
  .skip;refine zC U (ZH LA underlying5 Zs hq hz) (decide_eq_false hn) (zk 7 U (zc U (xB hT s I ir) ?_));rintro r h' ⟨s,(⟨hg,rfl⟩|⟨hg,rfl⟩)⟩
   .refine aq.op U U U (aD U)<|zk 2 U<|aq.bG s U U U (bK kW) (λp3 h s=>?_);dsimp only[V.cells,List.length_cons,List.length_nil,Nat.reduceAdd] at s;refine zS U (s.dS (j:=0) U bN U U) (λh s=>?_);dsimp only[setA] at s;refine zk 3 U (WP.block (zK 3 U (zC U aE U (zk 4 U ?_))));have s0:=s;refine WP.drawn [none,none,some (0,2),some (0,2),af,af,af,af] U bo bo<|zL U (s.bW (k:=0) U cG bN) (ah.any U U U U (OpR.call U U U U (xA hT s (k:=1) U I O O O Y Y)) ?_);rintro r h' ⟨rfl,s⟩;have s1:=s;refine zM U (zO U (bR (p:=some (.int .i64 4)) (q:=none) (m:=none) (p':=some 4) (q':=none) (m':=none) U U U U U U U (iy (s.aQ 1 U I) (a:=4) Y).1)<|ah.any U U U U (OpR.call U U U U (ZG hT s (k:=1) U (uq I (a:=4) Y) Q)) ?_);rintro r h' ⟨rfl,rfl⟩;have hc:=Fu (s:=0) (l:=l.drop 4) O (λx hx=>hv.1 x (oC hx));have hs:∃q c,slR (V.sl pi po l.length pc) 4 l.length=.sl pi q (l.length-4) c:=by
     cases pc with
     |exact c=>exact⟨_,_,U⟩
     |rest e alt=>exact⟨_,_,U⟩
    obtain⟨q,c,hs⟩:=hs;have J:(slR (V.sl pi po l.length pc) 4 l.length).beq (slR (V.sl pi po l.length pc) 4 l.length)=true:=by rw[hs];exact DL _ _ _ _
    refine ah.op U U U (by simp only[isEff,bB]) (bQ U (by exact ie underlying285 bB ay)) ?_;by_cases aiG:dU l 0 4=GO 0 (l.drop 4)
    .skip;exact ah.kK U U U U (ag U U aE) Q<|zA U<|ah.nil ⟨⟨aa,aa,λ_ _=>.inr ⟨U,⟨_,aD U⟩,aA _ U⟩,cY (.inr ⟨U,⟨_,bR (p:=some (.int .i64 4)) (q:=none) (m:=none) (p':=some 4) (q':=none) (m':=none) U U U U U U U (iy (s0.aQ 1 U I) (a:=4) Y).1⟩,J⟩) (.inr ⟨U,⟨_,bR (p:=some (.int .i64 4)) (q:=none) (m:=none) (p':=some 4) (q':=none) (m':=none) U U U U U U U (iy (s1.aQ 1 U I) (a:=4) Y).1⟩,J⟩),dq 5⟩,zj U (WP.skip (zg U (za U (zv<|WP.ret ⟨aa,_,U,⟨by grind[jt],s.drop⟩⟩))))⟩
    .skip;exact ah.ot U U U U (ag U U aE) Q<|zA U<|ah.nil ⟨⟨aa,aa,λ_ _=>.inr ⟨U,⟨_,aD U⟩,aA _ U⟩,cY (.inr ⟨U,⟨_,bR (p:=some (.int .i64 4)) (q:=none) (m:=none) (p':=some 4) (q':=none) (m':=none) U U U U U U U (iy (s0.aQ 1 U I) (a:=4) Y).1⟩,J⟩) (.inr ⟨U,⟨_,bR (p:=some (.int .i64 4)) (q:=none) (m:=none) (p':=some 4) (q':=none) (m':=none) U U U U U U U (iy (s1.aQ 1 U I) (a:=4) Y).1⟩,J⟩),dq 5⟩,zK 5 U (WP.ret ⟨aa,_,U,by grind[jt],s.drop⟩)⟩
   .skip;exact zk 3 U<|aq.bG s U U U (bK kW) (λp3 h s=>(zS U (s.dS (j:=0) U bN U U) (λh s=>(zk 3 U (WP.block (zK 3 U (zB U aE U (zk 8 U (WP.ret ⟨aa,_,U,by grind[jt],s.drop⟩)))))))))
 .intro hq;have hq:l.length≠512:=Q;have hn:l≠List.replicate 512 0:=λe=>hq Q;have hg:cH l=false:=by grind[cH]
  refine zk 13 U (zc U (xB hT s I ir) ?_);rintro r h' ⟨s,(⟨Pb,rfl⟩|⟨_,rfl⟩)⟩
  .rw[hg] at Pb;cases Pb
  .exact aq.op U U U (aD U)<|zk 2 U<|aq.bG s U U U (bK kW) (λp3 h s=>(zS U (s.dS (j:=0) U bN U U) (λh s=>(zk 3 U (WP.block (zK 3 U (zB U aE U (zk 8 U (WP.ret ⟨aa,_,U,by grind[jt],s.drop⟩)))))))))
theorem u_ {b:Nat}(I:View h v l)(J:l[i]?=some b)(he:indexAddrV prog 23 v (.int .i64 (i:Int))=some (.ptr id off)): loadV prog h 5 (.ptr id off)=some (.int .u8 (b:Int)):=by
 grind[gG]
theorem Ph (hT:W told)(s:Sat h (X::S))(I:cQ X (cT v l))(ir:l.length<9223372036854775808):
  Call ⟨prog,told⟩ 149 [v] h λr h'=>Sat h' (X::S)/\((cH l=true/\r=.aR [.int .i64 (l.getD 12 0:Nat),.int .u64 (dU l 4 8),.int .i64 (dU l 18 4),.int .i64 (dU l 22 4),.int .i64 0]) \/
   (cH l=false/\r=.aR [.int .i64 0,.int .u64 0,.int .i64 0,.int .i64 0,.int .i64 4])):=by
 have hv:=s.aQ 0 U I;refine Call.of_wp (hT.free _ U) func149 U U (zK 11 U (zc U (xB hT s I ir) ?_));rintro r h' ⟨s,(⟨hg,rfl⟩|⟨hg,rfl⟩)⟩
 .have hq:=iU hg;obtain⟨pi,po,pc,rfl⟩:=jf hv;have J:l[12]?=some (l[12]' Y):=aI _;generalize Zg:(l[12]' Y)=b at J;have qy:b<256:=hv.1 b (bz J);have LL:l.getD 12 0=b:=Q;rw[LL];refine zk 3 U<|aq.bG s U U U (bK kW) (λp7 h s=>(zS U (s.dS (j:=0) U bN U U) (λh s=>(zk 6 U (zC U aE U (zk 4 U ?_))))));have s0:=s;obtain⟨id,off,e1,e2⟩:=gG (s.aQ 1 U I) J;refine WP.drawn [some (0,4),some (0,4),some (0,4),some (0,4),af,af,af,some (0,2),none,some (0,3),af,af,af,af,af,af] U bo bo<|zM U (zO U (aJ (.ptr id off) U U e1) (zL U (u_ (s.aQ 1 U I) J e1) (ah.op U U U (by simp only[isEff,bB]) (bQ U (by exact ie underlying5 bB ay))<|zM U (zO U (bR (p:=some (.int .i64 4)) (q:=some (.int .i64 12)) (m:=none) (p':=some 4) (q':=some 12) (m':=none) U U U U U U U (dm (s.aQ 1 U I) (a:=4) (b:=12) Y Y).1)<|ah.any U U U U (OpR.call U U U U (rZ hT s (k:=1) U (lU I (a:=4) (b:=12) Y Y) Q)) ?_))));rintro r h' ⟨rfl,rfl⟩;have s1:=s;refine zL U (s.bW (k:=0) U cG bN) (ah.any U U U U (OpR.call U U U U (xA hT s (k:=1) U I O O O Y Y)) ?_);rintro r h' ⟨rfl,s⟩;have s2:=s;refine zL U (s.bW (k:=0) U cG bN) (ah.any U U U U (OpR.call U U U U (xA hT s (k:=1) U I O O O Y Y)) ?_);rintro r h' ⟨rfl,s⟩;exact zA U (zA U (zA U (zA U (zA U<|ah.nil ⟨⟨λ_ _=>.inr ⟨U,⟨_,aD U⟩,aA _ U⟩,λ_ _=>.inr ⟨U,⟨_,aJ (.ptr id off) U U e1⟩,aA _ U⟩,ade (.inr ⟨U,⟨_,o_load U (u_ (s0.aQ 1 U I) J e1)⟩,aA _ U⟩) (.inr ⟨U,⟨_,o_load U (u_ (s1.aQ 1 U I) J e1)⟩,aA _ U⟩) (.inr ⟨U,⟨_,o_load U (u_ (s2.aQ 1 U I) J e1)⟩,aA _ U⟩) (.inr ⟨U,⟨_,o_load U (u_ (s.aQ 1 U I) J e1)⟩,aA _ U⟩),λ_ _=>.inr ⟨U,⟨_,bQ U (by exact ie underlying5 bB ay)⟩,aA _ U⟩,aa,aa,aa,cY (.inr ⟨U,⟨_,o_load U (s0.bW (k:=0) U cG bN)⟩,aA _ U⟩) (.inr ⟨U,⟨_,o_load U (s1.bW (k:=0) U cG bN)⟩,aA _ U⟩),aa,lT (.inr ⟨U,⟨_,o_load U (s0.bW (k:=0) U cG bN)⟩,aA _ U⟩) (.inr ⟨U,⟨_,o_load U (s1.bW (k:=0) U cG bN)⟩,aA _ U⟩) (.inr ⟨U,⟨_,o_load U (s2.bW (k:=0) U cG bN)⟩,aA _ U⟩),dq 7⟩,WP.ret ⟨aa,_,U,⟨s.drop,.inl ⟨hg,U⟩⟩⟩⟩))))
 .skip;exact zk 3 U<|aq.bG s U U U (bK kW) (λp7 h s=>(zS U (s.dS (j:=0) U bN U U) (λh s=>(zk 6 U (zB U aE U (zk 11 U (WP.ret ⟨aa,_,U,s.drop,.inr ⟨hg,U⟩⟩)))))))
end
structure Lg where
 base:Nat
 b:List Nat
 br:List Nat
 forced:Nat
 check:Nat
variable {μ:Lg}
def fR (l:List Nat): List V:=l.map λ(n:Nat)=>V.int .i64 (n:Int)
theorem iN (l:List Nat): (fR l).length=l.length:=by simp[fR]
def ZI (p base:Nat)(bv I:V)(forced check:Nat): List V:=[.ptr p 0,.int .u64 (base:Int),bv,I,.int .i64 (forced:Int),.int .u64 (check:Int)]
def bD (q p:Nat)(μ:Lg): aH:=xs λbv:V=>xs λI:V=>star [pt q (.cells 6 (ZI p μ.base bv I μ.forced μ.check) false),bu bv μ.b,.arr 1 I (fR μ.br)]
structure Lg.Ok (μ:Lg): Prop where
 size:μ.base+μ.b.length<=1099511627776
 many:μ.br.length<=16777216
 low:∀s∈μ.br,s<μ.b.length
 A2:μ.br.Pairwise (· < ·)
 forced:μ.forced<=μ.b.length
 len:μ.b.length<=16777216
 check:μ.check<=1099511627776
theorem afv {x:Operand}{b:Nat}(I:a+b<4611686018427387904): binV P h .quo t x y (.int .i64 ((a:Int)+(b:Int))) (.int .i64 2)=some (.int .i64 (((a+b)/2:Nat):Int)):=by
 simp only[binV,ikBeq,ak,intV];rw[show intBeq 2 0=false from U,bq,Int.tdiv_eq_ediv_of_nonneg Y,ay];congr 2
section
variable {told:bU} {p:Nat} {v:V}
theorem dQ : Sat h (bD q p μ::S)↔∃bv I,Sat h (pt q (.cells 6 (ZI p μ.base bv I μ.forced μ.check) false)::bu bv μ.b::.arr 1 I (fR μ.br)::S):=by
 simp[bD,gh,aX]
theorem dB {c:V}(s:Sat h S)(J:getA S k=some (.arr 1 v cs))(hi:cs[i]?=some c)(hu:P.underlying t=some (.slice e))(I:bf P e=some 1):
  ∃id off,indexAddrV P t v (.int .i64 (i:Int))=some (.ptr id off)/\∀t',isAggT P t'=some false->loadV P h t' (.ptr id off)=some c:=by
 have Al:i<cs.length:=(List.getElem?_eq_some_iff.1 hi).1;obtain⟨m,r,h1,h2,h3⟩:=s.at J;rcases h3.2 with⟨_,rfl⟩|⟨id,n,cap,N,rest,rfl,hg,e1,e2,_⟩
 .grind
 .refine⟨id,i,?_,λt' ht=>S8 ht (h1 _ _ hg) ?_⟩
  .simp only[indexAddrV,hu,I,cN];grind
  grind[iD]
theorem yA (I:W told)(s:Sat h (bD q p μ::S)): Call ⟨prog,told⟩ 52 [.ptr q 0] h λv h'=>v=.int .u64 (μ.base:Int)/\h'=h:=by
 obtain⟨bv,J,s⟩:=dQ.1 s;exact Call.of_wp (I.free _ U) func52 U U (zK 8 U (zY s 0 jB b8 U (zk 2 U (zR U ⟨U,U⟩))))
theorem NZ (I:W told)(s:Sat h (bD q p μ::S)): Call ⟨prog,told⟩ 65 [.ptr q 0] h λv h'=>v=.int .u64 (μ.check:Int)/\h'=h:=by
 obtain⟨bv,J,s⟩:=dQ.1 s;exact Call.of_wp (I.free _ U) func65 U U (zK 8 U (zY s 0 uf b8 U (zk 2 U (zR U ⟨U,U⟩))))
theorem qp (I:W told)(s:Sat h (bD q p μ::S))(J:μ.base+μ.b.length<=1099511627776): Call ⟨prog,told⟩ 43 [.ptr q 0] h λv h'=>v=.int .u64 ((μ.base:Int)+(μ.b.length:Int))/\h'=h:=by
 obtain⟨bv,sv,s⟩:=dQ.1 s;exact Call.of_wp (I.free _ U) func43 U U (zK 5 U (WP.drawn [af,af,af,af,af,af,af,af,af,af,af,af] U bo bo<|zM U (zN U (zF U (jB _ _) (zL U (s.ld 0 U b8 U) (zM U (zN U (zF U (kx _ _) (zL U (s.ld 0 U cF U) (zO U (aO U U U (bC aZ (s.aQ 1 U (bh _ _)))) (ah.op U U U (by simp only[isEff,bS]) (bQ U (by exact ie bB bS eB))<|zO U (ag U U (by exact aT eB))<|zA U<|ah.nil ⟨(dq 13),WP.ret ⟨aa,_,U,⟨U,U⟩⟩⟩)))))))))))
theorem wg (I:W told)(s:Sat h (bD q p μ::S))(J:μ.base+μ.b.length<=1099511627776)(hf:μ.forced<=μ.b.length): Call ⟨prog,told⟩ 16 [.ptr q 0] h λv h'=>v=.int .u64 ((μ.base:Int)+(μ.forced:Int))/\h'=h:=by
 obtain⟨bv,sv,s⟩:=dQ.1 s;exact Call.of_wp (I.free _ U) func16 U U (zK 5 U (WP.drawn [af,af,af,af,af,af,af,af,af,af,af] U bo bo<|zM U (zN U (zF U (jB _ _) (zL U (s.ld 0 U b8 U) (zM U (zN U (zF U (wP _ _) (zL U (s.ld 0 U cW U) (ah.op U U U (by simp only[isEff,bS]) (bQ U (by exact ie bB bS eB))<|zO U (ag U U (by exact aT eB))<|zA U<|ah.nil ⟨(dq 12),WP.ret ⟨aa,_,U,⟨U,U⟩⟩⟩))))))))))
def Split (μ:Lg)(n i:Nat): Prop:=i<=μ.br.length/\(∀(j s:Nat),j<i->μ.br[j]?=some s->μ.base+s<n)/\(∀(j s:Nat),i<=j->μ.br[j]?=some s->n<=μ.base+s)
theorem Iz (J:l.Pairwise (· < ·)){b:Nat}(I:i<j)(ha:l[i]?=some a)(hb:l[j]?=some b): a<b:=by
 grind[List.pairwise_iff_getElem]
noncomputable def lfL : Code:=aV [1,1,0,0,0] ((f184.body).getD .skip)
theorem Tz {sv:V}(hn:n<18446744073709551616)(I:μ.Ok)(s:Sat h (pt q (.cells 6 (ZI p μ.base bv sv μ.forced μ.check) false)::bu bv μ.b::.arr 1 sv (fR μ.br)::S)): ∀(fuel lo hi:Nat) (E:List (Nat×V)) (a8:Ex->List (Nat×V)->H->Prop),hi-lo<=fuel->lo<=hi->hi<=μ.br.length ->
  (∀(j s:Nat),j<lo->μ.br[j]?=some s->μ.base+s<n)->(∀(j s:Nat),hi<=j->μ.br[j]?=some s->n<=μ.base+s) ->
  Has E [(0,.ptr q 0),(1,.int .u64 (n:Int)),(5,.int .i64 (lo:Int)),(6,.int .i64 (hi:Int))]->(∀E' i,Split μ n i->look E' 5=some (.int .i64 (i:Int))->a8 (.exit 0) E' h)->WP ⟨prog,told⟩ 39 (.loop lfL) E h a8:=by
 have D9:=I.many;have GR:=I.size;intro fuel;induction fuel with
 |zero =>
  refine λlo hi E a8 hf h1 h2 h3 h4 hE hq=>WP.loop (WP.has hE (zK 5 U (zC U aG Q<|zk 2 U (WP.exit ?_))));have e:lo=hi:=Y;exact hq _ lo ⟨Y,h3,Q⟩ U
 |succ fuel ih =>
  intro lo hi E a8 hf h1 h2 h3 h4 hE hq;by_cases bY:lo<hi
  .skip;refine WP.loop (WP.has hE (zK 5 U (zB U aG Q<|zk 3 U (WP.block (zK 4 U (zb U (by exact aT ay)<|zb U (afv Y)<|zk 3 U ?_))))));generalize hm:(lo+hi)/2=m;have EH:lo<=m:=Y;have Bz:m<hi:=Y;obtain⟨st,J⟩:∃st,μ.br[m]?=some st:=⟨_,aI Y⟩;have uo:=I.low st (bz J);have hlen:=I.len;have hc:(fR μ.br)[m]?=some (.int .i64 (st:Int)):=by simp[fR,J]
   obtain⟨id,off,e1,e2⟩:=dB (P:=prog) s (k:=2) U hc dN kr;refine WP.drawn [af,af,af,af,af,af,af,af,af,af,af,af,af,af,af] U bo bo<|zM U (zN U (zF U (jB _ _) (zL U (s.ld 0 U b8 U) (zM U (zN U (zF U (kz _ _) (zL U (s.ld 0 U jV U) (zM U (zO U (aJ (.ptr id off) U U e1) (zL U (e2 _ cW) (ah.op U U U (by simp only[isEff,bS]) (bQ U (by exact ie bB bS eB))<|zO U (ag U U (by exact aT eB))<|zM U ?_)))))))))));by_cases sH:μ.base+st<n
   .skip;refine ah.ot U U U U (ag U U aG) Q<|ah.nil ⟨(dq 16),zK 3 U (zb U (by exact aT ay)<|za U (zv<|ih (m+1) hi _ a8 Y Y h2 (λj s hj hs=>?_) h4 ⟨U,U,U,U,aa⟩ hq))⟩;by_cases hjm:j=m
    .grind
    .have:=Iz I.A2 (show j<m by omega) hs J;omega
   .skip;refine ah.kK U U U U (ag U U aG) Q<|ah.nil ⟨(dq 16),zj U (zr U (zk 2 U (zv<|ih lo m _ a8 Y EH Y h3 (λj s hj hs=>?_) ⟨U,U,U,U,aa⟩ hq)))⟩;by_cases hjm:j=m
    .grind
    .have:=Iz I.A2 (show m<j by omega) J hs;omega
  .skip;refine WP.loop (WP.has hE (zK 5 U (zC U aG Q<|zk 2 U (WP.exit ?_))));have e:lo=hi:=Y;exact hq _ lo ⟨Y,h3,Q⟩ U
theorem IA (hT:W told)(s:Sat h (bD q p μ::S))(I:μ.Ok)(hn:n<18446744073709551616): Call ⟨prog,told⟩ 184 [.ptr q 0,.int .u64 (n:Int)] h λv h'=>h'=h/\∃i,Split μ n i/\v=.int .i64 (i:Int):=by
 obtain⟨bv,sv,s⟩:=dQ.1 s;refine Call.of_wp (hT.free _ U) func184 U U (zK 5 U (WP.drawn [af,af,af,af,af,af,af] U bo bo<|zM U (zN U (zF U (kz _ _) (zL U (s.ld 0 U jV U) (zO U (aO U U U (s.fo μ.br.length (j:=2) U (by rw[iN,gF]) O dN))<|zA U (zA U<|ah.nil ⟨(dq 8),zw (WP.block<|Tz hn I s μ.br.length 0 μ.br.length _ _ Y Y Y (λj s hj _=>Y) (λj s hj hs=>?_) ⟨U,U,U,U,aa⟩ (λE' i hi J=>?_))⟩)))))))
 .grind
 .skip;exact WP.has (F:=[(5,.int .i64 (i:Int))]) ⟨J,aa⟩ (zK 5 U (zR U ⟨U,i,hi,U⟩))
def Lg.hasB (μ:Lg)(n:Nat): Bool:=μ.br.any λs=>decide (μ.base+s=n)
theorem Split.has (hs:Split μ n i)(J:μ.br.Pairwise (· < ·)): μ.hasB n=true↔∃s,μ.br[i]?=some s/\μ.base+s=n:=by
 rw[Lg.hasB,Du];constructor
 .rintro⟨s,h1,h2⟩;have h2:μ.base+s=n:=Q;obtain⟨j,I⟩:=zJ h1;have uU:i<=j:=by
   rcases tX j i with h|h
   .have:=hs.2.1 j s h I;omega
   .exact h
  by_cases he:i=j
  .grind
  .have Cr:=(List.getElem?_eq_some_iff.1 I).1;have hi:μ.br[i]?=some (μ.br[i]' Y):=aI _;have h3:=hs.2.2 i _ (az _) hi;have h4:=Iz J (show i<j by omega) hi I;omega
 .rintro⟨s,h1,h2⟩;exact⟨s,bz h1,Q⟩
theorem yB {st:Nat}(I:μ.br[i]?=some st): (fR μ.br)[i]?=some (.int .i64 (st:Int)):=by simp[fR,I]
theorem D_ (hT:W told)(s:Sat h (bD q p μ::S))(I:μ.Ok)(hn:n<18446744073709551616): Call ⟨prog,told⟩ 129 [.ptr q 0,.int .u64 (n:Int)] h λv h'=>h'=h/\v=.bool (μ.hasB n):=by
 have s0:=s;obtain⟨bv,sv,s⟩:=dQ.1 s;have GR:=I.size;refine Call.of_wp (hT.free _ U) func129 U U (zK 8 U (zc U (IA hT s0 I hn) ?_));rintro v h' ⟨rfl,i,hi,rfl⟩;have hh:=hi.has I.A2;refine zk 3 U (WP.drawn [af,af,af,af,af,af,af,af,af,af,af,af,af,af,af,af,af,af,af,af,af,af,af,af,af] U bo bo<|zM U (zM U (zN U (zF U (kz _ _) (zL U (s.ld 0 U jV U) (zO U (aO U U U (s.fo μ.br.length (j:=2) U (by rw[iN,gF]) O dN)) ?_))))));by_cases Al:i<μ.br.length
 .skip;refine ah.ot U U U U (ag U U aG) Q ?_;obtain⟨st,J⟩:∃st,μ.br[i]?=some st:=⟨_,aI Al⟩;have uo:=I.low st (bz J);obtain⟨id,off,e1,e2⟩:=dB (P:=prog) s (k:=2) U (yB J) dN kr;refine zM U (zM U (zN U (zF U (jB _ _) (zL U (s.ld 0 U b8 U) (zM U (zN U (zF U (kz _ _) (zL U (s.ld 0 U jV U) (zM U (zO U (aJ (.ptr id off) U U e1) (zL U (e2 _ cW) (ah.op U U U (by simp only[isEff,bS]) (bQ U (by exact ie bB bS eB))<|zO U (ag U U (by exact aT eB))<|zM U ?_))))))))))));by_cases he:μ.base+st=n
  .skip;exact ah.ot U U U U (ag U U bH) Q<|zO U (gZ U U) (zA U<|ah.nil ⟨(dq 26),WP.ret ⟨aa,_,U,⟨U,Q⟩⟩⟩)
  .skip;refine ah.kK U U U U (ag U U bH) Q<|zO U (gZ U U) (zA U<|ah.nil ⟨(dq 26),WP.ret ⟨aa,_,U,⟨U,?_⟩⟩⟩);cases hb:μ.hasB n with
   |false=>rfl
   |true =>
    grind
 .skip;refine ah.kK U U U U (ag U U aG) Q<|zM U (ah.no (e:=false) U U U U (ah.no (e:=false) U U U U (ah.no (e:=false) U U U U (ah.no (e:=false) U U U U (ah.no (e:=false) U U U U (ah.no (e:=false) U U U U (ah.no (e:=false) U U U U (ah.no (e:=false) U U U U (ah.no (e:=false) U U U U (ah.no (e:=false) U U U U (ah.no (e:=false) U U U U (ah.no (e:=false) U U U (by simp only[isEff,bS])<|ah.no (e:=false) U U U U (ah.no (e:=false) U U U U (ah.no (e:=false) U U U U (zO U (lI U U) (zA U<|ah.nil ⟨(dq 26),WP.ret ⟨aa,_,U,⟨U,?_⟩⟩⟩))))))))))))))));cases hb:μ.hasB n with
  |false=>rfl
  |true =>
   obtain⟨s',h1,h2⟩:=hh.1 hb;have:=(List.getElem?_eq_some_iff.1 h1).1;omega
theorem TA (hT:W told)(s:Sat h (bD q p μ::S))(I:μ.Ok)(hn:n<18446744073709551616): Call ⟨prog,told⟩ 113 [.ptr q 0,.int .u64 (n:Int)] h λv h'=>h'=h/\∃r:Nat,v=.int .u64 (r:Int) /\
  ((r=μ.base+μ.b.length/\μ.base+μ.b.length<=n)\/(μ.hasB r=true/\r<=n)\/r=μ.base)/\(μ.hasB n=true->n<μ.base+μ.b.length->r=n):=by
 have s0:=s;obtain⟨bv,sv,s⟩:=dQ.1 s;have D9:=I.many;have GR:=I.size;refine Call.of_wp (hT.free _ U) func113 U U (zK 8 U (zc U (IA hT s0 I hn) ?_));rintro v h' ⟨rfl,i,hi,rfl⟩;have hh:=hi.has I.A2;refine zk 3 U (WP.block (zK 4 U (zc U (qp hT s0 I.size) ?_)));rintro v h' ⟨rfl,rfl⟩;by_cases Fw:μ.base+μ.b.length<=n
 .skip;refine zB U dO Q<|zk 6 U (zc U (qp hT s0 I.size) ?_);rintro v h' ⟨rfl,rfl⟩;exact zk 2 U (WP.ret ⟨aa,_,U,U,μ.base+μ.b.length,U,.inl ⟨U,Fw⟩,λ_ hn=>absurd hn Y⟩)
 .skip;refine zC U dO Q<|zk 4 U (WP.drawn [af,af,af,af,af,af,af,af,af,af,af,af,af,af,af,af,af,af,af,af,af,af,af,af,af] U bo bo<|zM U (zM U (zN U (zF U (kz _ _) (zL U (s.ld 0 U jV U) (zO U (aO U U U (s.fo μ.br.length (j:=2) U (by rw[iN,gF]) O dN)) ?_))))));by_cases Al:i<μ.br.length
  .skip;refine ah.ot U U U U (ag U U aG) Q ?_;obtain⟨st,dG⟩:∃st,μ.br[i]?=some st:=⟨_,aI Al⟩;have uo:=I.low st (bz dG);obtain⟨id,off,e1,e2⟩:=dB (P:=prog) s (k:=2) U (yB dG) dN kr;refine zM U (zM U (zN U (zF U (jB _ _) (zL U (s.ld 0 U b8 U) (zM U (zN U (zF U (kz _ _) (zL U (s.ld 0 U jV U) (zM U (zO U (aJ (.ptr id off) U U e1) (zL U (e2 _ cW) (ah.op U U U (by simp only[isEff,bS]) (bQ U (by exact ie bB bS eB))<|zO U (ag U U (by exact aT eB))<|zM U ?_))))))))))));by_cases he:μ.base+st=n
   .skip;exact ah.ot U U U U (ag U U bH) Q<|zO U (gZ U U) (zA U<|ah.nil ⟨(dq 26),zK 6 U (WP.ret ⟨aa,_,U,U,n,U,.inr (.inl ⟨hh.2 ⟨st,dG,he⟩,az _⟩),λ_ _=>U⟩)⟩)
   .skip;refine ah.kK U U U U (ag U U bH) Q<|zO U (gZ U U) (zA U<|ah.nil ⟨(dq 26),zK 4 U ?_⟩);have adv:¬μ.hasB n=true:=λhb=>by
     grind
    by_cases ZJ:i=0
    .skip;exact zB U bH Q<|zk 7 U (zY s 0 jB b8 U (zk 2 U (WP.ret ⟨aa,_,U,U,μ.base,U,.inr (.inr U),λhb _=>absurd hb (adv)⟩)))
    .skip;refine zC U bH Q<|za U (zv (zj U (WP.skip (zw ?_))));obtain⟨s2,J⟩:∃st,μ.br[i-1]?=some st:=⟨_,aI Y⟩;have nD:=I.low s2 (bz J);obtain⟨id,off,e1,e2⟩:=dB (P:=prog) s (k:=2) U (yB J) dN kr;rw[show((i-1:Nat):Int)=(i:Int)-1 by omega] at e1;refine WP.drawn [af,af,af,af,af,af,af,af,af,af,af,af,af,af,af] U bo bo<|zM U (zN U (zF U (jB _ _) (zL U (s.ld 0 U b8 U) (zM U (zN U (zF U (kz _ _) (zL U (s.ld 0 U jV U) (zM U (zO U (ag U U (by exact gz ay))<|zO U (aJ (.ptr id off) U U e1) (zL U (e2 _ cW) (ah.op U U U (by simp only[isEff,bS]) (bQ U (by exact ie bB bS eB))<|zO U (ag U U (by exact aT eB))<|zA U<|ah.nil ⟨(dq 16),WP.ret ⟨aa,_,U,?_⟩⟩)))))))))));have bY:=hi.2.1 (i-1) s2 Y J;refine⟨U,μ.base+s2,U,.inr (.inl ⟨?_,Y⟩),λhb _=>absurd hb adv⟩;rw[Lg.hasB,Du];exact⟨s2,bz J,cb⟩
  .skip;refine ah.kK U U U U (ag U U aG) Q<|zM U (ah.no (e:=false) U U U U (ah.no (e:=false) U U U U (ah.no (e:=false) U U U U (ah.no (e:=false) U U U U (ah.no (e:=false) U U U U (ah.no (e:=false) U U U U (ah.no (e:=false) U U U U (ah.no (e:=false) U U U U (ah.no (e:=false) U U U U (ah.no (e:=false) U U U U (ah.no (e:=false) U U U U (ah.no (e:=false) U U U (by simp only[isEff,bS])<|ah.no (e:=false) U U U U (ah.no (e:=false) U U U U (ah.no (e:=false) U U U U (zO U (lI U U) (zA U<|ah.nil ⟨(dq 26),zK 4 U ?_⟩))))))))))))))));have adw:¬μ.hasB n=true:=λhb=>by
    grind
   by_cases ZJ:i=0
   .skip;exact zB U bH Q<|zk 7 U (zY s 0 jB b8 U (zk 2 U (WP.ret ⟨aa,_,U,U,μ.base,U,.inr (.inr U),λhb _=>absurd hb (adw)⟩)))
   .skip;refine zC U bH Q<|za U (zv (zj U (WP.skip (zw ?_))));have gD:=hi.1;obtain⟨s2,J⟩:∃st,μ.br[i-1]?=some st:=⟨_,aI Y⟩;have nD:=I.low s2 (bz J);obtain⟨id,off,e1,e2⟩:=dB (P:=prog) s (k:=2) U (yB J) dN kr;rw[show((i-1:Nat):Int)=(i:Int)-1 by omega] at e1;refine WP.drawn [af,af,af,af,af,af,af,af,af,af,af,af,af,af,af] U bo bo<|zM U (zN U (zF U (jB _ _) (zL U (s.ld 0 U b8 U) (zM U (zN U (zF U (kz _ _) (zL U (s.ld 0 U jV U) (zM U (zO U (ag U U (by exact gz ay))<|zO U (aJ (.ptr id off) U U e1) (zL U (e2 _ cW) (ah.op U U U (by simp only[isEff,bS]) (bQ U (by exact ie bB bS eB))<|zO U (ag U U (by exact aT eB))<|zA U<|ah.nil ⟨(dq 16),WP.ret ⟨aa,_,U,?_⟩⟩)))))))))));have bY:=hi.2.1 (i-1) s2 Y J;refine⟨U,μ.base+s2,U,.inr (.inl ⟨?_,Y⟩),λhb _=>absurd hb adw⟩;rw[Lg.hasB,Du];exact⟨s2,bz J,cb⟩
def fC (base check:Nat): List Nat:=le 8 base++le 8 check
theorem r_ (a b:Nat): (fC a b).length=16:=by rfl
theorem GS (I:W told){b:Nat}(s:Sat h S): Call ⟨prog,told⟩ 183 [.ptr q 0,.int .u64 (a:Int),.int .u64 (b:Int)] h λv h'=>Sat h' (bu v (fC a b)::S):=by
 exact Call.of_wp (I.free _ U) func183 U U (zK 7 U (zc U (qS I s.pK O cb) λv h s=>zm U (zc U (qS I s O (by simp[dI])) λv h s=>zk 2 U (zR U s))))
theorem TB (J:W told)(s:Sat h (bD q p μ::aS p δ::S))(I:μ.Ok)(hf:δ.a_<4294967296): Call ⟨prog,told⟩ 93 [.ptr q 0,.int .u64 (n:Int)] h λv h' =>
  (n<μ.base+μ.forced/\v=.int .i64 0/\Sat h' (bD q p μ::aS p δ::S)) \/
  (μ.base+μ.forced<=n/\δ.dead=true/\v=.int .i64 9/\Sat h' (bD q p μ::aS p δ::S)) \/
  (μ.base+μ.forced<=n/\δ.dead=false/\δ.a_=0/\v=.int .i64 9/\Sat h' (bD q p μ::aS p δ.die::S)) \/
  (μ.base+μ.forced<=n/\δ.dead=false/\δ.a_≠0/\v=.int .i64 0/\Sat h' (bD q p { μ with forced:=μ.b.length }::aS p { δ.bZ with bP:=δ.log.length }::S)):=by
 have GR:=I.size;have s0:=s;obtain⟨bv,sv,s⟩:=dQ.1 s;refine Call.of_wp (J.free _ U) func93 U U (zK 9 U (zc U (wg J s0 I.size I.forced) ?_));rintro v h' ⟨rfl,rfl⟩;by_cases bY:n<μ.base+μ.forced
 .skip;exact zB U aG Q<|zk 6 U (WP.ret ⟨aa,_,U,.inl ⟨bY,U,s0⟩⟩)
 .have hle:μ.base+μ.forced<=n:=Y;refine zC U aG Q<|zk 8 U (zY s 0 rU kU U (zc U (Tt J (s0.ae [1]) hf) ?_));rintro v h (⟨hd,rfl,s⟩|⟨hd,h0,rfl,s⟩|⟨hd,h0,rfl,s⟩)
  .exact aq.op U U U (eZ U)<|zk 4 U (zB U aE U (zk 7 U (WP.ret ⟨aa,_,U,.inr (.inl ⟨hle,hd,U,s.ae [1]⟩)⟩)))
  .skip;exact zk 5 U (zB U aE U (zk 7 U (WP.ret ⟨aa,_,U,.inr (.inr (.inl ⟨hle,hd,h0,U,s.ae [1]⟩))⟩)))
  .skip;obtain⟨bv,sv,s⟩:=dQ.1 (s.ae [1]);exact zk 5 U (zC U aE U (zk 8 U (zY s 0 kx cF U (zo U (aO U U U (bC aZ (s.aQ 1 U (bh _ _)))) (zn U (zf U (wP _ _)<|zS U (by exact s.cS (k:=0) U kr U O U U) (λh s=>(zk 5 U (zR U (.inr (.inr (.inr ⟨hle,hd,h0,U,dQ.2 ⟨bv,sv,s⟩⟩))))))))))))
theorem TC (hT:W told)(s:Sat h (bD q p μ::aS p δ::S))(I:μ.Ok)(hf:δ.a_<4294967296)(hn:n<18446744073709551616): Call ⟨prog,told⟩ 112 [.ptr q 0,.int .u64 (n:Int)] h λv h' =>
  (¬(μ.hasB n=true/\n<μ.base+μ.forced)/\v=.int .i64 1/\Sat h' (bD q p μ::aS p δ::S)) \/
  (μ.hasB n=true/\n<μ.base+μ.forced/\δ.dead=true/\v=.int .i64 9/\Sat h' (bD q p μ::aS p δ::S)) \/
  (μ.hasB n=true/\n<μ.base+μ.forced/\δ.dead=false/\δ.a_=0/\v=.int .i64 9/\Sat h' (bD q p μ::aS p δ.die::S)) \/
  (μ.hasB n=true/\n<μ.base+μ.forced/\δ.dead=false/\δ.a_≠0/\v=.int .i64 0/\Sat h' (bD q p { μ with check:=n }::aS p { δ.bZ with mark:=fC μ.base n }::S)):=by
 have GR:=I.size;have s0:=s;refine Call.of_wp (hT.free _ U) func112 U U (zK 9 U (zc U (D_ hT s0 I hn) ?_));rintro v h' ⟨rfl,rfl⟩;cases hh:μ.hasB n with
 |false =>
  exact zo U (cI U U) (zk 12 U (WP.ret ⟨aa,_,U,.inl ⟨λe=>Q,U,s0⟩⟩))
 |true =>
  refine zo U (cI U U) (zk 3 U (zc U (wg hT s0 I.size I.forced) ?_));rintro v h' ⟨rfl,rfl⟩;by_cases J:n<μ.base+μ.forced
  .skip;refine zC U dO Q<|zk 6 U ?_;obtain⟨bv,sv,s⟩:=dQ.1 s;have s1:=s;refine WP.drawn [some (0,2),some (0,2),some (0,2),some (0,2),af,af,af,af,af,af,af,af,af] U bo bo<|zM U (zN U (zF U (rU _ _) (zL U (s.ld 0 U kU U) (zM U (zM U (zN U (zF U (jB _ _) (zL U (s.ld 0 U b8 U) (zM U (ah.any U U U U (OpR.call U U U U (GS (q:=q) (a:=μ.base) (b:=n) hT s)) λmv h s=>?_))))))))));have s:=s.ae [1,1,1,1,0];have s2:=s;refine ah.any U U U U (OpR.call U U U U (WU hT (s.ae [3,3]) (bh _ _) hf)) ?_;rintro v h hr;rw[r_] at hr;rcases hr with(⟨hd,rfl,s⟩|⟨_,hl,_,_⟩|⟨hd,_,h0,rfl,s⟩|⟨hd,_,h0,rfl,s⟩)
   .have s:=(s.del 1).ae [1,1,1,0];exact zA U<|ah.nil ⟨⟨λ_ _=>.inr ⟨U,⟨_,aD U⟩,aA _ U⟩,λ_ _=>.inr ⟨U,⟨_,jq U⟩,aA _ U⟩,λ_ _=>.inr ⟨U,⟨_,gy U (rU _ _)⟩,aA _ U⟩,cY (.inr ⟨U,⟨_,o_load U (s1.ld 0 U kU U)⟩,aA _ U⟩) (.inr ⟨U,⟨_,o_load U (s2.ld 0 U kU U)⟩,aA _ U⟩),dq 10⟩,zK 3 U (zB U aE U (zk 7 U (WP.ret ⟨aa,_,U,.inr (.inl ⟨U,J,hd,U,dQ.2 ⟨bv,sv,s⟩⟩)⟩)))⟩
   .omega
   .have s:=(s.del 1).ae [1,1,1,0];exact zA U<|ah.nil ⟨⟨λ_ _=>.inr ⟨U,⟨_,aD U⟩,aA _ U⟩,λ_ _=>.inr ⟨U,⟨_,jq U⟩,aA _ U⟩,λ_ _=>.inr ⟨U,⟨_,gy U (rU _ _)⟩,aA _ U⟩,cY (.inr ⟨U,⟨_,o_load U (s1.ld 0 U kU U)⟩,aA _ U⟩) (.inr ⟨U,⟨_,o_load U (s2.ld 0 U kU U)⟩,aA _ U⟩),dq 10⟩,zK 3 U (zB U aE U (zk 7 U (WP.ret ⟨aa,_,U,.inr (.inr (.inl ⟨U,J,hd,h0,U,dQ.2 ⟨bv,sv,s⟩⟩))⟩)))⟩
   .have s:=(s.del 1).ae [1,1,1,0];exact zA U<|ah.nil ⟨⟨λ_ _=>.inr ⟨U,⟨_,aD U⟩,aA _ U⟩,λ_ _=>.inr ⟨U,⟨_,jq U⟩,aA _ U⟩,λ_ _=>.inr ⟨U,⟨_,gy U (rU _ _)⟩,aA _ U⟩,cY (.inr ⟨U,⟨_,o_load U (s1.ld 0 U kU U)⟩,aA _ U⟩) (.inr ⟨U,⟨_,o_load U (s2.ld 0 U kU U)⟩,aA _ U⟩),dq 10⟩,zK 3 U (zC U aE U (zk 8 U (zf U (uf _ _)<|zS U (by exact s.cS (k:=0) U gL U O U U) (λh s=>(zk 5 U (zR U (.inr (.inr (.inr ⟨U,J,hd,h0,U,dQ.2 ⟨bv,sv,s⟩⟩)))))))))⟩
  .skip;exact zB U dO Q<|zk 7 U (WP.ret ⟨aa,_,U,.inl ⟨λe=>J e.2,U,s0⟩⟩)
end
structure cU where
 bA:Int
 pos:Int
 whole:Bool
 b:List Nat
variable {bw:List cU}
def cU.Ok (c:cU): Prop:=0<=c.bA/\c.bA<65536/\0<=c.pos/\c.pos<=512/\(c.b.length:Int)<=512-c.pos/\(c.whole=true->c.pos=0/\c.b.length=512)
instance (c:cU):Decidable c.Ok:=by unfold cU.Ok;infer_instance
def eH (kind:Int)(bw:List cU): Bool:=decide (1<=kind/\kind<=9)&&bw.all λc=>decide c.Ok
def ep (kd:Int)(tx pv nx:Nat)(dt ch:V): List V:=[.int .i64 kd,.int .u64 (tx:Int),.int .u64 (pv:Int),.int .u64 (nx:Int),dt,ch]
theorem nE {kd:Int}{ch:V}(hd:storable dt=true)(I:storable ch=true): (ep kd tx pv nx dt ch).all storable=true:=by
 simp only[ep,mF,m_,hd,I];rfl
def c6 : List V->List cU->aH
 |[],[]=>.pu True
 |p::a::w::v::l,x::m=>.an (.an (.pu (p=.int .i64 x.bA/\a=.int .i64 x.pos/\w=.bool x.whole)) (.dL v x.b)) (c6 l m)
 |_,_=>.pu False
theorem bg.qz : ∀(m:List cU) (l:List V),bg (c6 l m):=by
 intro m;induction m with
 |nil=>intro l;rcases l with _|⟨a,_|⟨b,_|⟨c,_|⟨d,l⟩⟩⟩⟩<;>exact bg.pu _
 |cons x m I=>intro l;rcases l with _|⟨a,_|⟨b,_|⟨c,_|⟨d,l⟩⟩⟩⟩<;>first|exact bg.pu _|exact bg.an (bg.an (bg.pu _) (bg.dL _ _)) (I l)
theorem pM {a b:PM}: ∀ {m:List cU} {l:List V},(c6 l m).p a b->l.length=m.length*4:=by
 intro m;induction m with
 |nil=>intro l h;rcases l with _|⟨x,_|⟨y,_|⟨z,_|⟨d,l⟩⟩⟩⟩<;>first|rfl|exact h.elim
 |cons x m I =>
  intro l h;rcases l with _|⟨x,_|⟨y,_|⟨z,_|⟨d,l⟩⟩⟩⟩<;>first|exact h.elim|skip
  have:=I h.2;simp only[cK];omega
theorem A3 {a b:PM}: ∀ {m m':List cU} {l l':List V},(c6 l m).p a b->(c6 l' m').p a b->(c6 (l++l') (m++m')).p a b:=by
 intro m;induction m with
 |nil=>intro m' l l' h h';rcases l with _|⟨x,_|⟨y,_|⟨z,_|⟨d,l⟩⟩⟩⟩<;>first|exact h'|exact h.elim
 |cons x m I =>
  intro m' l l' h h';rcases l with _|⟨x,_|⟨y,_|⟨z,_|⟨d,l⟩⟩⟩⟩<;>first|exact h.elim|exact⟨h.1,I h.2 h'⟩
theorem LN {a b:PM}: ∀ {m:List cU} {l:List V} {i:Nat} {c:cU},(c6 l m).p a b->m[i]?=some c->∃u,(l.drop (i*4)).take 4=[.int .i64 c.bA,.int .i64 c.pos,.bool c.whole,u]/\(aH.dL u c.b).p a b:=by
 intro m;induction m with
 |nil=>simp
 |cons x m I =>
  intro l i c h J;rcases l with _|⟨p,_|⟨q,_|⟨w,_|⟨v,l⟩⟩⟩⟩<;>first|exact h.elim|skip
  obtain⟨⟨⟨h1,h2,h3⟩,h4⟩,h5⟩:=h;cases i with
  |zero=>grind
  |succ i =>
   grind
section
variable {told:bU} {p:Nat} {v:V}
theorem LO {ch:V}{m:List cU}{c:cU}(s:Sat h (.arr 4 ch cs::c6 cs m::S))(J:m[i]?=some c):
  ∃id off u,indexAddrV prog 102 ch (.int .i64 (i:Int))=some (.ptr id off)/\loadV prog h 237 (.ptr id off)=some (.agg [.int .i64 c.bA,.int .i64 c.pos,.bool c.whole,u]) /\
   u.cells=[u]/\storable u=true/\u.beq u=true/\Sat h (.dL u c.b::.arr 4 ch cs::c6 cs m::S):=by
 obtain⟨a,b,q1,q2,q3⟩:=s.at (k:=1) U;have Al:=(List.getElem?_eq_some_iff.1 J).1;have hl:=pM q3;obtain⟨u,e1,e2⟩:=LN q3 J;obtain⟨id,off,g1,I⟩:=Tk (P:=prog) (i:=i) s (j:=0) U Y O js sS;have I:=I QM;rw[e1] at I;have s2:Sat h (c6 cs m::.arr 4 ch cs::S):=s.ae [1];have s3:=(s2.dup (bg.qz _ _)).iX (B:=.dL u c.b) λa b h=>by
  grind[LN]
 have hu:=(s3.aQ 0 U (fX _ _));exact⟨id,off,u,g1,I,hu.cells.1,hu.cells.2,fO hu,s3.ae [0,1,0]⟩
theorem Pj {ch:V}{m:List cU}(s:Sat h S)(h1:getA S j1=some (.arr 4 ch cs))(h2:getA S j2=some (c6 cs m))(hu:P.underlying t=some (.slice e)): lenV P h t ch=some (.int .i64 m.length):=by
 obtain⟨a,b,q1,J,I⟩:=s.at h2;exact s.fo _ h1 (pM I) O hu
theorem Sat.Cs {ch:V}{m:List cU}(s:Sat h S)(h1:getA S j1=some (.arr 4 ch cs))(h2:getA S j2=some (c6 cs m))(hu:P.underlying t=some (.slice e)): lenV P h t ch=some (.int .i64 m.length):=Pj s h1 h2 hu
noncomputable def gwL : Code:=aV [1,1,0,1,0,0] ((f211.body).getD .skip)
theorem Q7 {ch:V}{m:List cU}: ∀(j i:Nat) (h:H) (E:List (Nat×V)) (a8:Ex->List (Nat×V)->H->Prop),i+j=m.length->m.length<4294967296->(∀c∈m,c.b.length<9223372036854775808) ->
  (∀c∈m, -4294967296<=c.pos/\c.pos<=4294967296)->Sat h (.arr 4 ch cs::c6 cs m::S)->Has E [(1,.ptr p1 0),(14,ch),(15,.int .i64 m.length),(16,.int .i64 i)] ->
  ((m.drop i).all (λc=>decide c.Ok)=false->∀E' h',look E' 2=some (.bool false)->Sat h' (.arr 4 ch cs::c6 cs m::S)->a8 .ret E' h') ->
  ((m.drop i).all (λc=>decide c.Ok)=true->∀E' h',Sat h' (.arr 4 ch cs::c6 cs m::S)->a8 (.exit 0) E' h')->WP ⟨prog,told⟩ 61 (.loop gwL) E h a8:=by
 intro j;induction j with
 |zero =>
  exact λi h E a8 hi hm hb I s hE J hx=>WP.loop (WP.has hE (zg U (zC U aG Q<|zk 3 U (WP.exit (hx Q _ _ s)))))
 |succ j ih =>
  intro i h E a8 hi hm hb I s hE J hx;have hc:m[i]?=some (m[i]' Y):=aI _;generalize (m[i]' Y)=c at hc;have ZK:=bz hc;have hcp:=I c ZK;have oY:m.drop i=c::m.drop (i+1):=by
   grind[List.drop_eq_getElem_cons]
  rw[oY,mF] at J hx;obtain⟨id,off,u,e1,e2,u1,u2,u3,s⟩:=LO s hc;refine WP.loop (WP.has hE (zg U (zB U aG Q<|zk 5 U (WP.block (zg U (zo U (aJ (.ptr id off) U U e1) (zl U e2<|aq.bG s U U U (bK qm) (λp4 h s=>?_))))))));dsimp only[V.cells,List.length_cons,List.length_nil,Nat.reduceAdd] at s;refine zS U (s.dS (j:=0) U sS U (by simp only[mF,m_,u2];rfl)) λh s=>?_;dsimp only[setA] at s;refine zk 4 U (zY s 0 D4 cW U<|zd U (ag U U aG) ?_ ?_)
  .intro Es;have Es:c.bA<0:=Q;exact zk 30 U (WP.ret (J (by rw[mE (λq:c.Ok=>by have:=q.1;omega),rN]) _ _ U s.drop.drop))
  .intro Es;have Es:¬ (c.bA<0):=Q;refine zm U (zY s 0 D4 cW U<|zd U (ag U U dO) ?_ ?_)
   .intro Pk;have Pk:65536<=c.bA:=Q;exact zk 26 U (WP.ret (J (by rw[mE (λq:c.Ok=>by have:=q.2.1;omega),rN]) _ _ U s.drop.drop))
   .intro Pk;have Pk:¬ (65536<=c.bA):=Q;refine zk 2 U (zY s 0 um cW U<|zd U (ag U U aG) ?_ ?_)
    .intro iM;have iM:c.pos<0:=Q;exact zk 21 U (WP.ret (J (by rw[mE (λq:c.Ok=>by have:=q.2.2.1;omega),rN]) _ _ U s.drop.drop))
    .intro iM;have iM:¬ (c.pos<0):=Q;refine zk 2 U (zY s 0 um cW U<|zd U (ag U U dc) ?_ ?_)
     .intro hq3;have hq3:512<c.pos:=Q;exact zk 16 U (WP.ret (J (by rw[mE (λq:c.Ok=>by have:=q.2.2.2.1;omega),rN]) _ _ U s.drop.drop))
     .intro hq3;have hq3:¬ (512<c.pos):=Q;refine zk 2 U (zY s 0 rY cF U (zo U (aO U U U (bC aZ (s.aQ 1 U (fX _ _)))) (zY s 0 um cW U (zb U (by exact gz ay)<|zd U (ag U U dc) ?_ ?_))))
      .intro As;have As:512-c.pos<(c.b.length:Int):=Q;exact zk 7 U (WP.ret (J (by rw[mE (λq:c.Ok=>by have:=q.2.2.2.2.1;omega),rN]) _ _ U s.drop.drop))
      .intro As;have As:¬ (512-c.pos<(c.b.length:Int)):=Q;refine zk 6 U (zf U (D5 _ _) ?_);have vR:∀(h:H) (E:List (Nat×V)),c.Ok->Sat h (.arr 4 ch cs::c6 cs m::S)->Has E [(1,.ptr p1 0),(14,ch),(15,.int .i64 m.length),(16,.int .i64 ((i:Int)+1))]->WP ⟨prog,told⟩ 61 (.loop gwL) E h a8:=by
        intro h E kB s hE;rw[lH kB,rP] at J hx;exact ih (i+1) h E a8 Y hm hb I s hE J hx
       have K0:c.whole=false\/c.whole=true:=cb;rcases K0 with hw|hw
       .refine zh U (o_load U (by exact s.ld 0 U nO U)) (hw)<|zk 11 U (zv (zj U (WP.skip (zr U (zb U (by exact aT ay)<|zm U (zv<|vR _ _ ?_ ?_ ?_))))))
        .exact⟨Y,Y,Y,Y,Y,λe=>Q⟩
        .exact s.drop.drop
        .exact⟨U,U,U,U,aa⟩
       .skip;refine zt U (o_load U (s.ld 0 U nO U)) (hw) (zm U (zY s 0 um cW U<|zd U (ag U U aE) ?_ ?_))
        .intro hp;have hp:c.pos≠0:=Q;exact zk 13 U (WP.ret (J (by rw[mE (λq:c.Ok=>hp (q.2.2.2.2.2 hw).1),rN]) _ _ U s.drop.drop))
        .intro hp;have hp:c.pos=0:=Q;refine zm U (zY s 0 rY cF U (zo U (aO U U U (bC aZ (s.aQ 1 U (fX _ _))))<|zd U (ag U U aE) ?_ ?_))
         .intro Ct;have Ct:c.b.length≠512:=Q;exact zk 8 U (WP.ret (J (by rw[mE (λq:c.Ok=>Ct (q.2.2.2.2.2 hw).2),rN]) _ _ U s.drop.drop))
         .intro Ct;have Ct:c.b.length=512:=Q;refine zk 2 U (zv (zj U (WP.skip (zr U (zb U (by exact aT ay)<|zm U (zv<|vR _ _ ?_ ?_ ?_))))))
          .exact⟨Y,Y,Y,Y,Y,λ_=>⟨hp,Ct⟩⟩
          .exact s.drop.drop
          .exact⟨U,U,U,U,aa⟩
def Au (m:List cU): Prop:=m.length<4294967296/\(∀c∈m,c.b.length<4294967296)/\(∀c∈m, -4294967296<=c.pos/\c.pos<=4294967296)
theorem LP (hT:W told){kd:Int}{ch:V}{m:List cU}(s:Sat h (.arr 4 ch cs::c6 cs m::S))(hd:storable dt=true)(hm:Au m):
  Call ⟨prog,told⟩ 211 [.agg (ep kd tx pv nx dt ch)] h λr h'=>r=.bool (eH kd m)/\Sat h' (.arr 4 ch cs::c6 cs m::S):=by
 have qT:=s.cz 0 U;have dG:=nE (kd:=kd) (tx:=tx) (pv:=pv) (nx:=nx) hd qT.2.1;refine Call.of_wp (hT.free _ U) func211 U U (zg U (aq.bG s U U U (c7 U dG) λp1 h s=>zk 5 U (zY s 0 qj cW U<|zd U (ag U U aG) ?_ ?_)))
 .intro hq;have hq:kd<1:=Q;exact zk 11 U (WP.ret ⟨aa,_,U,by grind[eH],s.drop⟩)
 .intro hq;have hq:1<=kd:=Q;refine zm U (zY s 0 qj cW U<|zd U (ag U U dc) ?_ ?_)
  .intro I;have I:9<kd:=Q;exact zk 7 U (WP.ret ⟨aa,_,U,by grind[eH],s.drop⟩)
  .intro I;have I:kd<=9:=Q;refine zk 7 U (zY s 0 ku sQ U (zo U (aO U U U (Pj s (j1:=1) (j2:=2) U U js)) (zk 2 U (WP.block ?_))));have hg:eH kd m=m.all (λc=>decide c.Ok):=by grind[eH]
   refine Q7 m.length 0 _ _ _ Y hm.1 (λc hc=>by have:=hm.2.1 c hc;omega) hm.2.2 s.drop ⟨U,U,U,U,aa⟩ (λJ E' h' h2 s'=>?_) (λJ E' h' s'=>?_)
   .rw[hg];rw[kj] at J;rw[J];exact⟨aa,_,jk h2,U,s'⟩
   .rw[hg];rw[kj] at J;rw[J];exact WP.has (F:=[]) aa (zK 4 U (zR U ⟨U,s'⟩))
end
def kZ (c:cU): List Nat:=digits 9 c.bA.toNat++digits 9 c.pos.toNat++[if c.whole then 1 else 0]++(digits 9 c.b.length++c.b)
def cV (kd:Int)(tx pv nx:Nat)(data:List Nat)(bw:List cU): List Nat :=
 [kd.toNat]++digits 9 tx++digits 9 pv++digits 9 nx++(digits 9 data.length++data)++digits 9 bw.length++bw.flatMap kZ
section
variable {told:bU} {p:Nat} {v w:V} {m:List Nat}
theorem sg (I:W told)(s:Sat h (bu v l::S))(hn:n<18446744073709551616)(hl:l.length<=140737488355000):
  Call ⟨prog,told⟩ 235 [v,.int .u64 (n:Int)] h λr h'=>Sat h' (bu r (l++digits 9 n)::S) :=
 (JA I.ZE (k:=9) s.wf (s.buf (k:=0) U) Y Y Y).mono λ_ _ ⟨h1,h2,J⟩=>s.DM h2 h1 J
theorem IB (J:W told)(s:Sat h (bu v l::X::S))(I:cQ X (cT w m))(hl:l.length+m.length<=140737488355000):
  Call ⟨prog,told⟩ 236 [v,w] h λr h'=>Sat h' (bu r (l++(digits 9 m.length++m))::X::S) :=
 (aaP J.ZE (k:=9) s.wf (s.buf (k:=0) U) (s.aQ 1 U I) (s.adk I) Y Y Y).mono λ_ _ ⟨h1,h2,h3⟩=>by
  rw[gX] at h1;exact s.DM h2 h1 h3
noncomputable def bdL : Code:=aV [1,1,1,1,0,1,0,0] ((f212.body).getD .skip)
theorem TD (hT:W told){ch:V}(kB:∀c∈bw,c.Ok)(J:Au bw): ∀(j i:Nat) (sv:V) (l:List Nat) (h:H) (E:List (Nat×V)) (a8:Ex->List (Nat×V)->H->Prop),i+j=bw.length ->
  l.length+((bw.drop i).flatMap kZ).length<=140737488355000 ->
  Sat h (bu sv l::.arr 4 ch cs::c6 cs bw::S)->Has E [(1,.ptr p1 0),(3,sv),(37,ch),(38,.int .i64 bw.length),(39,.int .i64 i)] ->
  (∀E' h' I,look E' 3=some I->Sat h' (bu I (l++(bw.drop i).flatMap kZ)::.arr 4 ch cs::c6 cs bw::S)->a8 (.exit 2) E' h')->WP ⟨prog,told⟩ 63 (.loop bdL) E h a8:=by
 intro j;induction j with
 |zero =>
  intro i sv l h E a8 hi hlen s hE hx;have hm:=J.1;refine WP.loop (WP.has hE (zg U (zC U aG Q<|zk 3 U (WP.exit (hx _ _ sv U ?_)))));rw[mA Y];simpa using s
 |succ j ih =>
  intro i sv l h E a8 hi hlen s hE hx;have hm:=J.1;have hc:bw[i]?=some (bw[i]' Y):=aI _;generalize (bw[i]' Y)=c at hc;have ZK:=bz hc;have agH:=kB c ZK;have hcb:=J.2.1 c ZK;have oY:bw.drop i=c::bw.drop (i+1):=by
   grind[List.drop_eq_getElem_cons]
  rw[oY,Ds] at hlen hx;obtain⟨pg,ps,wh,bb⟩:=c;obtain⟨q1,q2,q3,q4,_⟩:=agH;dsimp only at q1 q2 q3 q4 hcb;obtain⟨pg,rfl⟩:∃n:Nat,pg=n:=⟨pg.toNat,Y⟩;obtain⟨ps,rfl⟩:∃n:Nat,ps=n:=⟨ps.toNat,Y⟩;have adx:kZ ⟨pg,ps,wh,bb⟩=digits 9 pg++digits 9 ps++[if wh then 1 else 0]++(digits 9 bb.length++bb):=by rfl
  have OV:(kZ ⟨pg,ps,wh,bb⟩).length=(digits 9 pg).length+(digits 9 ps).length+1+(digits 9 bb.length).length+bb.length:=Q;rw[fL,OV] at hlen;obtain⟨id,off,u,e1,e2,u1,u2,u3,s⟩:=LO (s.ae [1,1]) hc;dsimp only at e2;have s:=s.ae [3,0,0,0];dsimp only[aB,bringA,getA] at s;refine WP.loop (WP.has hE (zg U (zB U aG Q<|zk 5 U (WP.block (zg U (zo U (aJ (.ptr id off) U U e1) (zl U e2<|aq.bG s U U U (bK qm) (λp7 h s=>?_))))))));dsimp only[V.cells,List.length_cons,List.length_nil,Nat.reduceAdd] at s;refine zS U (s.dS (j:=0) U sS U (by simp only[mF,m_,u2];rfl)) λh s=>?_;dsimp only[setA] at s;refine zk 2 U ?_;have s:=s.ae [1,0];dsimp only[bringA,getA,aB] at s;have s0:=s;refine WP.drawn [af,af,af,af,af,some (0,2),some (0,2),some (0,2),none,none] U bo bo<|zM U (zF U (D4 _ _) (zL U (s.ld 1 U cW U) (ah.op U U U (by simp only[isEff,bS]) (bQ U (by exact ie bB bS eB))<|ah.any U U U U (OpR.call U U U U (sg hT s Y Y)) λv1 h s=>?_)));have s1:=s;refine zF U (um _ _) (zL U (s.ld 1 U cW U) (ah.op U U U (by simp only[isEff,bS]) (bQ U (by exact ie bB bS eB))<|ah.any U U U U (OpR.call U U U U (sg hT s Y Q)) λv2 h s=>zA U<|ah.nil ⟨⟨aa,aa,aa,aa,aa,λ_ _=>.inr ⟨U,⟨_,gy U (um _ _)⟩,aA _ U⟩,cY (.inr ⟨U,⟨_,o_load U (s0.ld 1 U cW U)⟩,aA _ U⟩) (.inr ⟨U,⟨_,o_load U (s1.ld 1 U cW U)⟩,aA _ U⟩),λ_ _=>.inr ⟨U,⟨_,bQ U (by exact ie bB bS eB)⟩,aA _ U⟩,aa,aa,aa⟩,?_⟩));have Fw:∀(h:H) (E:List (Nat×V)) (I:V),Sat h (bu I (l++kZ ⟨pg,ps,wh,bb⟩)::.arr 4 ch cs::c6 cs bw::S)->Has E [(1,.ptr p1 0),(3,I),(37,ch),(38,.int .i64 bw.length),(39,.int .i64 ((i:Int)+1))]->WP ⟨prog,told⟩ 63 (.loop bdL) E h a8:=by
   refine λh E I s hE=>ih (i+1) I _ h E a8 Y Q s hE (λE' h' sv2 B2 s'=>hx E' h' sv2 B2 ?_);grind
  have hlp:=iz 9 pg;have hlq:=iz 9 ps;refine zK 7 U (zf U (D5 _ _) ?_);have K0:wh=false\/wh=true:=cb;rcases K0 with hw|hw
  .refine zh U (o_load U (s.ld 1 U nO U)) (hw)<|zk 3 U ?_;have s0:=s;have yq:=fO (s.buf (k:=0) U).view;refine WP.drawn [some (0,2),af,af,af,some (0,3),some (0,3),none,none] U bo bo<|zM U (zM U (ah.any U U U U (OpR.KG (n:=0) U s U U U O) λv3 h s=>?_));have s:=s.ae [1,1,0];dsimp only[bringA,getA,aB] at s;have s1:=s;refine ah.any U U U U (OpR.sW U (s.ae [0,1]) (bh _ _) U U U U Q) λv4 h s=>?_;have s:=s.del 1;dsimp only[aB,bringA] at s;have s2:=s;refine zF U (rY _ _) (zL U (s.ld 1 U cF U) (ah.any U U U U (OpR.call U U U U (IB hT (s.ae [0,1]) (fX _ _) Q)) λv5 h s=>?_));dsimp only[aB,bringA] at s;refine zA U<|ah.nil ⟨⟨λ_ _=>.inr ⟨U,⟨_,aD U⟩,yq⟩,aa,aa,aa,λ_ _=>.inr ⟨U,⟨_,gy U (rY _ _)⟩,aA _ U⟩,lT (.inr ⟨U,⟨_,o_load U (s0.ld 1 U cF U)⟩,u3⟩) (.inr ⟨U,⟨_,o_load U (s1.ld 1 U cF U)⟩,u3⟩) (.inr ⟨U,⟨_,o_load U (s2.ld 1 U cF U)⟩,u3⟩),aa,aa,aa⟩,zr U (zb U (by exact aT ay)<|zm U (zv<|Fw _ _ v5 ?_ ?_))⟩
   .rw[adx,hw];have s:=(s.del 1).del 1;dsimp only[aB] at s;simpa[gX] using s
   .exact⟨U,U,U,U,U,aa⟩
  .skip;refine zt U (o_load U (s.ld 1 U nO U)) (hw) (zk 5 U ?_);have s0:=s;have yq:=fO (s.buf (k:=0) U).view;refine WP.drawn [some (0,2),af,af,af,some (0,3),some (0,3),none,none] U bo bo<|zM U (zM U (ah.any U U U U (OpR.KG (n:=1) U s U U U O) λv3 h s=>?_));have s:=s.ae [1,1,0];dsimp only[bringA,getA,aB] at s;have s1:=s;refine ah.any U U U U (OpR.sW U (s.ae [0,1]) (bh _ _) U U U U Q) λv4 h s=>?_;have s:=s.del 1;dsimp only[aB,bringA] at s;have s2:=s;refine zF U (rY _ _) (zL U (s.ld 1 U cF U) (ah.any U U U U (OpR.call U U U U (IB hT (s.ae [0,1]) (fX _ _) Q)) λv5 h s=>?_));dsimp only[aB,bringA] at s;refine zA U<|ah.nil ⟨⟨λ_ _=>.inr ⟨U,⟨_,aD U⟩,yq⟩,aa,aa,aa,λ_ _=>.inr ⟨U,⟨_,gy U (rY _ _)⟩,aA _ U⟩,lT (.inr ⟨U,⟨_,o_load U (s0.ld 1 U cF U)⟩,u3⟩) (.inr ⟨U,⟨_,o_load U (s1.ld 1 U cF U)⟩,u3⟩) (.inr ⟨U,⟨_,o_load U (s2.ld 1 U cF U)⟩,u3⟩),aa,aa,aa⟩,zr U (zb U (by exact aT ay)<|zm U (zv<|Fw _ _ v5 ?_ ?_))⟩
   .rw[adx,hw];have s:=(s.del 1).del 1;dsimp only[aB] at s;simpa[gX] using s
   .exact⟨U,U,U,U,U,aa⟩
theorem W3 (J:W told){kd:Nat}{ch:V}(s:Sat h (X::.arr 4 ch cs::c6 cs bw::S))(hX:cQ X (cT dt data))(hg:eH kd bw=true)(I:Au bw)
 (va:tx<18446744073709551616)(si:pv<18446744073709551616)(kC:nx<18446744073709551616)(hlen:data.length+(bw.flatMap kZ).length<=70368744177664):
  Call ⟨prog,told⟩ 212 [.agg (ep kd tx pv nx dt ch)] h λr h'=>Sat h' (bu r (cV kd tx pv nx data bw)::X::.arr 4 ch cs::c6 cs bw::S):=by
 have qT:=s.cz 1 U;have kO:=s.aQ 0 U hX;have dG:=nE (kd:=kd) (tx:=tx) (pv:=pv) (nx:=nx) kO.cells.2 qT.2.1;have hk:1<=kd/\kd<=9:=by simp[eH] at hg;omega
 have kB:∀c∈bw,c.Ok:=by
  grind[eH]
 have hm:=I.1;have h1:=iz 9 tx;have h2:=iz 9 pv;have h3:=iz 9 nx;have h4:=iz 9 data.length;have h5:=iz 9 bw.length;refine Call.of_wp (J.free _ U) func212 U U (zg U (aq.bG s U U U (c7 U dG) λp1 h s=>?_));dsimp only[V.cells] at s;refine zk 4 U (zY s 0 qj cW U (zo U (bQ U (by exact ie bB underlying5 An))<|aq.any U U U (OpR.KG (n:=kd) U s U U U Y) λv3 h s=>zk 5 U (zY s 1 Ij b8 U (zY s 1 Ik b8 U (zY s 1 Il b8 U (zo U (cE U (by rw[afl];rfl))<|zk 2 U (WP.block (WP.loop (zg U (zB U aG O<|zk 5 U (WP.block (zg U (zo U (Cc U U (r:=.int .u64 (tx:Int)) (by simp only[indexV,LB,gL,qX,b8];rfl))<|zk 5 U (zc U (sg J s Y (by simp only[fL,cK,eN];omega)) λv3 h s=>za U (zv (zr U (zb U (by exact aT ay)<|zm U (zv (WP.loop (zg U (zt U (ag U U aG) O<|zk 5 U (WP.block (zg U (zo U (Cc U U (r:=.int .u64 (pv:Int)) (by simp only[indexV,LB,gL,qX,b8];rfl))<|zk 5 U (zc U (sg J s Y (by simp only[fL,cK,eN];omega)) λv3 h s=>za U (zv (zr U (zb U (by exact aT ay)<|zm U (zv (WP.loop (zg U (zt U (ag U U aG) O<|zk 5 U (WP.block (zg U (zo U (Cc U U (r:=.int .u64 (nx:Int)) (by simp only[indexV,LB,gL,qX,b8];rfl))<|zk 5 U (zc U (sg J s Y (by simp only[fL,cK,eN];omega)) λv3 h s=>za U (zv (zr U (zb U (by exact aT ay)<|zm U (zv (WP.loop (zg U (zh U (ag U U aG) O<|zk 3 U (WP.exit (zw ?_)))))))))))))))))))))))))))))))))))))))))))));have s0:=s;have w8:=fO (s.buf (k:=0) U).view;refine WP.drawn [af,af,af,af,some (0,2),some (0,2),some (0,2),some (0,2),none,none] U bo bo<|zM U (zF U (DP _ _) (zL U (s.ld 1 U cF U) (ah.any U U U U (OpR.call U U U U (IB J (s.ae [0,1]) hX (by simp only[fL,cK,eN];omega))) λv4 h s=>?_)));have s:=s.ae [0,1,0];have s1:=s;refine zF U (ku _ _) (zL U (s.ld 1 U sQ U) (zO U (aO U U U (s.Cs (j1:=3) (j2:=4) U U js)) (ah.op U U U (by simp only[isEff,bS]) (bQ U (by exact ie bB bS eB))<|ah.any U U U U (OpR.call U U U U (sg J s Y (by simp only[fL,cK,eN];omega))) λv5 h s=>zA U<|ah.nil ⟨⟨aa,aa,aa,aa,λ_ _=>.inr ⟨U,⟨_,gy U (ku _ _)⟩,aA _ U⟩,cY (.inr ⟨U,⟨_,o_load U (s0.ld 1 U sQ U)⟩,qT.2.2⟩) (.inr ⟨U,⟨_,o_load U (s1.ld 1 U sQ U)⟩,qT.2.2⟩),cY (.inr ⟨U,⟨_,aO U U U (s0.Cs (j1:=3) (j2:=4) U U js)⟩,aA _ U⟩) (.inr ⟨U,⟨_,aO U U U (s1.Cs (j1:=3) (j2:=4) U U js)⟩,aA _ U⟩),λ_ _=>.inr ⟨U,⟨_,bQ U (by exact ie bB bS eB)⟩,aA _ U⟩,aa,aa,aa⟩,zK 3 U (zY s 1 ku sQ U (zo U (aO U U U (s.Cs (j1:=3) (j2:=4) U U js)) (zk 2 U (WP.block ?_))))⟩)));have s:=s.ae [0,2,2,1];refine TD J kB I bw.length 0 v5 _ _ _ _ Y (by rw[kj];simp only[fL,cK,eN];omega) s ⟨U,U,U,U,U,aa⟩ (λE' h' sv' fg s'=>(WP.has (F:=[(3,sv')]) ⟨fg,aa⟩ (zK 5 U (zR U ?_))));have s'':=(s'.ae [0,2,0,0]).del 4;dsimp only[List.cons_append,List.nil_append,List.drop,aB,bringA,getA] at s'';simpa[cV,gX] using s''
end
def mY (aL:Nat)(b:List Nat): List Nat:=le 4 b.length++le 4 (we aL b)++b
theorem lV (aL:Nat)(b:List Nat): (mY aL b).length=8+b.length:=by simp[mY,dI];omega
theorem Fx : ∃i,prog.info? 3=some i/\i.size=1/\i.bytes=8 :=
 ⟨_,(show prog.info? 3=some ((prog.info? 3).getD default) by kernel_rfl),bo,bo⟩
section
variable {told:bU} {p:Nat} {v w:V} {m:List Nat}
theorem JB (I:W told)(s:Sat h S)(J:getA S k=some X)(hX:cQ X (cT v l))(hl:l.length<=4611686018427387904):
  Call ⟨prog,told⟩ 190 [.int .u64 (n:Int),v] h λr h'=>r=.int .u32 (we n l:Nat)/\Sat h' S :=
 (Tr I.ZE s.wf (s.aQ _ J hX) hl).mono λ_ _ ⟨h1,h2⟩=>⟨h1,s.iF h2⟩
structure GU (tx pv nx:Nat)(data:List Nat)(bw:List cU): Prop where
 fit:Au bw
 tx:tx<18446744073709551616
 pv:pv<18446744073709551616
 nx:nx<18446744073709551616
 len:data.length+(bw.flatMap kZ).length<=70368744177664
theorem JC (J:W told){kd:Int}{ch:V}(s:Sat h (X::.arr 4 ch cs::c6 cs bw::S))(hX:cQ X (cT dt data))(I:GU tx pv nx data bw):
  Call ⟨prog,told⟩ 163 [.agg (ep kd tx pv nx dt ch),.int .u64 (aL:Int)] h λr h' =>
  (eH kd bw=false/\r=.aR [.aP,.int .i64 1]/\Sat h' (X::.arr 4 ch cs::c6 cs bw::S)) \/
  (eH kd bw=true/\1048576<(cV kd tx pv nx data bw).length/\r=.aR [.aP,.int .i64 2]/\Sat h' (X::.arr 4 ch cs::c6 cs bw::S)) \/
  (eH kd bw=true/\(cV kd tx pv nx data bw).length<=1048576/\∃u,r=.aR [u,.int .i64 0]/\Sat h' (bu u (mY aL (cV kd tx pv nx data bw))::X::.arr 4 ch cs::c6 cs bw::S)):=by
 have qT:=s.cz 1 U;have kO:=s.aQ 0 U hX;have dG:=nE (kd:=kd) (tx:=tx) (pv:=pv) (nx:=nx) kO.cells.2 qT.2.1;refine Call.of_wp (J.free _ U) func163 U U (zg U (aq.bG s U U U (c7 U dG) λp1 h s=>?_));dsimp only[V.cells] at s;refine zk 6 U (zl U (s.bW (k:=0) U kV gq) (zc U (LP J (s.ae [2,2]) kO.cells.2 I.fit) ?_));rintro r h' ⟨rfl,s⟩;cases hg:eH kd bw with
 |false =>
  exact zo U (cI U U) (zk 7 U (WP.ret ⟨aa,_,U,.inl ⟨U,U,(s.ae [3,0,0]).del 3⟩⟩))
 |true =>
  refine zo U (cI U U) (zk 5 U (zl U (s.bW (k:=2) U kV gq) ?_));have hk:∃n:Nat,kd=n:=⟨kd.toNat,by simp[eH] at hg;omega⟩;obtain⟨kd,rfl⟩:=hk;refine zc U (W3 J (s.ae [3,0,0]) hX hg I.fit I.tx I.pv I.nx I.len) λu h s=>?_;dsimp only[bringA,getA,aB] at s;have yy:(cV kd tx pv nx data bw).length<9223372036854775808:=by
   have h1:=iz 9 tx;have h2:=iz 9 pv;have h3:=iz 9 nx;have h4:=iz 9 data.length;have h5:=iz 9 bw.length;have h6:=I.len;simp only[cV,fL,cK,eN];omega
  generalize Zg:cV kd tx pv nx data bw=bd at s yy ⊢;refine zk 6 U (zo U (aO U U U (bC aZ (s.aQ 0 U (bh _ _)))) ?_);by_cases Q8:1048576<bd.length
  .skip;exact zB U dc Q<|zk 7 U (WP.ret ⟨aa,_,U,.inr (.inl ⟨U,Q8,U,(s.del 4).del 0⟩)⟩)
  .skip;refine zC U dc Q<|zk 6 U (zo U (aO U U U (bC aZ (s.aQ 0 U (bh _ _)))) (zb U (by exact aT ay)<|aq.any U U U (OpR.xx (c:=8+bd.length) U s U U U U Y) λv h s=>zm U (zo U (aO U U U (bC aZ (s.aQ 1 U (bh _ _)))) (zo U (bQ U (by exact ie bB bS eB))<|zc U (qS (z:=4) J s O cb) λv h s=>?_))));have bY:=(s.buf (k:=1) U).1;refine zk 7 U (zc U (JB (n:=aL) J s (k:=1) U (bh _ _) Y) ?_);rintro r h ⟨rfl,s⟩;have kI:=LG (aL:=aL) bY;refine zo U (bQ U (by exact ie underlying285 bS eB))<|zc U (qS (z:=4) J s O (by simp[dI])) λv h s=>zk 6 U (aq.any U U U (OpR.sW U s (bh _ _) U U U U (by grind[dI])) λv h s=>zk 3 U (zR U<|.inr (.inr ⟨U,Y,v,U,?_⟩)));have s:=(s.del 5).del 1;dsimp only[aB] at s;simpa[mY,gX] using s
def Lg.app (μ:Lg)(b:List Nat): Lg:={ μ with b:=μ.b++b,br:=μ.br++[μ.b.length] }
theorem Q9 (hT:W told){kd:Int}{ch:V}(s:Sat h (bD q p μ::aS p δ::X::.arr 4 ch cs::c6 cs bw::S))(hX:cQ X (cT dt data))(fJ:GU tx pv nx data bw)
 (BN:μ.Ok)(hf:δ.a_<4294967296)(hl:δ.log.length<=16777216)(hr:δ.room<=16777216):
  Call ⟨prog,told⟩ 104 [.ptr q 0,.agg (ep kd tx pv nx dt ch)] h λr h' =>
  (∃e:Int,r=.aR [.int .u64 0,.int .i64 e]/\((eH kd bw=false/\e=1)\/(eH kd bw=true/\1048576<(cV kd tx pv nx data bw).length/\e=2)\/(eH kd bw=true/\(cV kd tx pv nx data bw).length<=1048576/\δ.dead=true/\e=9) \/
    (eH kd bw=true/\(cV kd tx pv nx data bw).length<=1048576/\δ.dead=false/\δ.room<δ.log.length+(mY (μ.base+μ.b.length) (cV kd tx pv nx data bw)).length/\e=7))/\Sat h' (bD q p μ::aS p δ::X::.arr 4 ch cs::c6 cs bw::S)) \/
  (eH kd bw=true/\(cV kd tx pv nx data bw).length<=1048576/\δ.dead=false/\δ.log.length+(mY (μ.base+μ.b.length) (cV kd tx pv nx data bw)).length<=δ.room/\δ.a_=0/\r=.aR [.int .u64 0,.int .i64 9] /\
   Sat h' (bD q p μ::aS p { δ.die with tail:=mY (μ.base+μ.b.length) (cV kd tx pv nx data bw) }::X::.arr 4 ch cs::c6 cs bw::S)) \/
  (eH kd bw=true/\(cV kd tx pv nx data bw).length<=1048576/\δ.dead=false/\δ.log.length+(mY (μ.base+μ.b.length) (cV kd tx pv nx data bw)).length<=δ.room/\δ.a_≠0/\r=.aR [.int .u64 ((μ.base+μ.b.length:Nat):Int),.int .i64 0] /\
   Sat h' (bD q p (μ.app (mY (μ.base+μ.b.length) (cV kd tx pv nx data bw)))::aS p { δ.bZ with log:=δ.log++mY (μ.base+μ.b.length) (cV kd tx pv nx data bw) }::X::.arr 4 ch cs::c6 cs bw::S)):=by
 have qT:=s.cz 3 U;have kO:=s.aQ 2 U hX;have dG:=nE (kd:=kd) (tx:=tx) (pv:=pv) (nx:=nx) kO.cells.2 qT.2.1;refine Call.of_wp (hT.free _ U) func104 U U (zg U (aq.bG s U U U (c7 U dG) λp1 h s=>?_));dsimp only[V.cells] at s;have s:=s.ae [1,0];refine zk 6 U (zc U (qp hT s BN.size) ?_);rintro v h' ⟨rfl,rfl⟩;refine zk 4 U (zl U (s.bW (k:=1) U kV gq) (zm U (zc U (JC (aL:=μ.base+μ.b.length) hT (s.ae [3,3,3]) hX fJ) ?_)));generalize ZL:mY (μ.base+μ.b.length) (cV kd tx pv nx data bw)=rc;have GV:rc.length=8+(cV kd tx pv nx data bw).length:=by rw[<-ZL,lV]
 rintro r h' (⟨hg,rfl,s⟩|⟨hg,Q8,rfl,s⟩|⟨hg,J,u,rfl,s⟩)
 .dsimp only[bringA,getA,aB] at s;exact zk 10 U (zB U aE U (zk 8 U (WP.ret ⟨aa,_,U,.inl ⟨1,U,.inl ⟨hg,U⟩,(s.ae [3,4,0,0,0]).del 5⟩⟩)))
 .dsimp only[bringA,getA,aB] at s;exact zk 10 U (zB U aE U (zk 8 U (WP.ret ⟨aa,_,U,.inl ⟨2,U,.inr (.inl ⟨hg,Q8,U⟩),(s.ae [3,4,0,0,0]).del 5⟩⟩)))
 .dsimp only[bringA,getA,aB] at s;have bY:=(s.buf (k:=0) U).1;obtain⟨bv,sv,s⟩:=dQ.1 (s.ae [4]);refine zk 10 U (zC U aE U (zk 8 U (zY s 0 rU kU U (zm U ?_))));have s:=s.ae [8,3];refine zc U (Q3 hT s (bh _ _) Y hf Y Y) ?_;rintro r h (⟨hd,rfl,s⟩|⟨hd,Q_,rfl,s⟩|⟨hd,I,h0,rfl,s⟩|⟨hd,I,h0,rfl,s⟩)
  .exact aq.op U U U (eZ U)<|zk 4 U (zB U aE U (zk 8 U (WP.ret ⟨aa,_,U,.inl ⟨9,U,.inr (.inr (.inl ⟨hg,J,hd,U⟩)),(dQ.2 ⟨bv,sv,((s.ae [2,2,2,0,1,1,1]).del 8).del 7⟩)⟩⟩)))
  .skip;exact zk 5 U (zB U aE U (zk 8 U (WP.ret ⟨aa,_,U,.inl ⟨7,U,.inr (.inr (.inr ⟨hg,J,hd,Y,U⟩)),(dQ.2 ⟨bv,sv,((s.ae [2,2,2,0,1,1,1]).del 8).del 7⟩)⟩⟩)))
  .skip;exact zk 5 U (zB U aE U (zk 8 U (WP.ret ⟨aa,_,U,.inr (.inl ⟨hg,J,hd,I,h0,U,(dQ.2 ⟨bv,sv,((s.ae [2,2,2,0,1,1,1]).del 8).del 7⟩)⟩)⟩)))
  .skip;have s:=s.ae [2,2,2,1,0,0,0,0];refine zk 5 U (zC U aE U (zk 4 U ?_));have s0:=s;have ZD:=fO (s.buf (k:=1) U).view;have Cv:=(s.cz 2 U).2.2;refine WP.drawn [some (0,3),some (0,2),some (0,2),some (0,2),some (0,2),af,af,af,af,af,af,af,af,af,af] U bo bo<|zM U (zM U (zN U (zF U (kz _ _) (zL U (s.ld 0 U jV U) (zM U (zN U (zF U (kx _ _) (zL U (s.ld 0 U cF U) (zO U (aO U U U (bC aZ (s.aQ 1 U (bh _ _)))) ?_)))))))));obtain⟨i1,gD,fH,gu⟩:=Fx;obtain⟨iv,h1,e1,s1⟩:=fP prog (k:=1) (x:=.int .i64 (μ.b.length:Int)) s dN EG kr U O O U U;dsimp only[V.cells] at s1;refine ah.any U U U U (OpR.of (R:=λv h'=>v=iv/\h'=h1) (jj U e1) ⟨U,U⟩) ?_;rintro v h' ⟨rfl,rfl⟩;have D9:=BN.many;obtain⟨sv',h2,e2,s2⟩:=dV (s1.ae [3,0]) dN gD EG fH Y U O (by grind[iN]);refine ah.any U U U U (OpR.of (R:=λv h'=>v=sv'/\h'=h2) (fN U U e2) ⟨U,U⟩) ?_;rintro v h' ⟨rfl,rfl⟩;have hv:=s2.cz 0 U;refine zN U (zF U (kz _ _) (ah.cy U U U (OpR.dX U U U (s2.cS (k:=2) U mM U O hv.1 hv.2.1)) ?_));rintro v h ⟨rfl,s⟩;refine ah.nil ⟨⟨λ_ _=>.inr ⟨U,⟨_,aD U⟩,aA _ U⟩,λ_ _=>.inr ⟨U,⟨_,aD U⟩,aA _ U⟩,λ_ _=>.inr ⟨U,⟨_,jq U⟩,aA _ U⟩,λ_ _=>.inr ⟨U,⟨_,gy U (kz _ _)⟩,aA _ U⟩,cY (.inr ⟨U,⟨_,o_load U (s0.ld 0 U jV U)⟩,Cv⟩) (.inr ⟨U,⟨_,o_load U (s1.ld 1 U jV U)⟩,Cv⟩),dq 11⟩,zK 5 U (zY s 2 kx cF U (zm U (aq.any U U U (OpR.sW U (s.ae [3,3]) (bh _ _) U U U U (by have:=BN.len;omega)) λbv' h s=>?_)))⟩;have hv:=(s.buf (k:=0) U).view.cells;refine zn U (zf U (kx _ _) (zS U (s.cS (k:=4) U jN U O hv.1 hv.2) λh s=>zk 7 U (zR U<|.inr (.inr ⟨hg,J,hd,I,h0,U,dQ.2 ⟨bv',v,?_⟩⟩))));have s:=(((s.ae [4,0,1]).del 4).del 3).del 7;have e:fR (μ.app rc).br=fR μ.br++[.int .i64 (μ.b.length:Int)]:=by simp[Lg.app,fR]
   rw[e];exact s
end
def Dk.gR (δ:Dk): Int×Dk:=if δ.dead=true then(9,δ) else if δ.a_=0 then(9,δ.die) else(0,{ δ.bZ with bP:=δ.log.length })
def Dk.dY (δ:Dk)(n:Int)(b:List Nat): Int×Dk:=if δ.dead=true then(9,δ) else if ¬(0<=n/\n<δ.aU.length/\b.length=512) then(1,δ) else
 if δ.a_=0 then(9,{ δ.die with sY:=some (n.toNat,b) }) else(0,δ.wr n b)
def Dk.s_ (δ:Dk)(b:List Nat): Int×Dk:=if δ.dead=true then(9,δ) else if 64<b.length then(1,δ) else if δ.a_=0 then(9,δ.die) else(0,{ δ.bZ with mark:=b })
def Dk.uz (δ:Dk)(b:List Nat): Int×Dk:=if δ.dead=true then(9,δ) else if δ.room<δ.log.length+b.length then(7,δ) else if δ.a_=0 then(9,{ δ.die with tail:=b }) else(0,{ δ.bZ with log:=δ.log++b })
def Dk.pN (δ:Dk)(n:Int)(b:List Nat): Int×Dk:=if δ.dead=true then(9,δ) else if ¬(0<=n/\n<=δ.bP/\b.length<=64) then(1,δ) else if δ.a_=0 then(9,δ.die) else
 (0,{ δ.bZ with log:=δ.log.drop n.toNat,bP:=δ.bP-n.toNat,mark:=b })
def Dk.uO (δ:Dk)(n:Int): Int:=if δ.dead=true then 9 else if ¬(0<=n/\n<δ.aU.length) then 1 else 0
structure Dk.Ok (δ:Dk): Prop where
 a_:δ.a_<4294967296
 len:δ.log.length<=16777216
 room:δ.room<=16777216
 now:∀e∈δ.now,e.2.length=512
 aU:∀(i:Nat) (b:List Nat),δ.aU[i]?=some (some b)->b.length=512
 bP:δ.bP<=δ.log.length
 many:δ.aU.length<=65536
theorem Dk.Ok.bZ (h:δ.Ok): δ.bZ.Ok:=⟨by have:=h.a_;simp only[Dk.bZ];split<;>omega,h.len,h.room,h.now,h.aU,h.bP,h.many⟩
theorem Dk.Ok.die (h:δ.Ok): δ.die.Ok:=⟨h.a_,h.len,h.room,h.now,h.aU,h.bP,h.many⟩
theorem Dk.Ok.gR (h:δ.Ok): δ.gR.2.Ok:=by
 unfold Dk.gR;split
 .exact h
 .split
  .exact h.die
  .exact⟨h.bZ.a_,h.len,h.room,h.now,h.aU,az _,h.many⟩
theorem j7 {n:Int}{x:α}: ∀ {l:List (Int×α)},lookL n l=some x->(n,x)∈l:=by
 intro l;induction l<;>grind[lookL]
theorem Dk.Ok.at (I:δ.Ok)(n:Int): (δ.at n).length=512:=by
 unfold Dk.at;cases h1:lookL n δ.now with
 |some b=>exact I.now _ (j7 h1)
 |none =>
  cases h2:δ.aU[n.toNat]? with
  |none=>grind
  |some o =>
   cases o with
   |none=>grind
   |some b=>exact I.aU _ _ h2
section
variable {told:bU} {p:Nat} {v:V}
theorem aa2 (I:W told){n:Int}(s:Sat h (aS p δ::X::S))(J:cQ X (cT x b))(hb:b.length<1073741824)(hf:δ.a_<4294967296)(hw:δ.waiting.length<=268435456):
  Call ⟨prog,told⟩ 133 [.ptr p 0,.int .i64 n,x] h λv h'=>v=.int .i64 (δ.dY n b).1/\Sat h' (aS p (δ.dY n b).2::X::S):=by
 refine(Tu I s J hb hf hw).mono λv h' hr=>?_;grind[Dk.dY]
theorem TE (J:W told){n:Int}(s:Sat h (aS p δ::S))(I:δ.Ok): Call ⟨prog,told⟩ 167 [.ptr p 0,.int .i64 n] h λv h' =>
  (δ.uO n≠0/\v=.aR [.aP,.int .i64 (δ.uO n)]/\Sat h' (aS p δ::S))\/(δ.uO n=0/\∃u,v=.aR [u,.int .i64 0]/\Sat h' (bu u (δ.at n)::aS p δ::S)):=by
 refine(WQ J s (I.at n)).mono λv h' hr=>?_;grind[Dk.uO]
end
abbrev LD := Lg×Dk
def bL (x:LD)(n:Nat): Int×LD:=if n<x.1.base+x.1.forced then(0,x) else if x.2.gR.1≠0 then(x.2.gR.1,(x.1,x.2.gR.2)) else(0,({ x.1 with forced:=x.1.b.length },x.2.gR.2))
def jC (x:LD)(n:Nat): Int×LD:=if ¬(x.1.hasB n=true/\n<x.1.base+x.1.forced) then(1,x) else if (x.2.s_ (fC x.1.base n)).1≠0 then((x.2.s_ (fC x.1.base n)).1,(x.1,(x.2.s_ (fC x.1.base n)).2)) else
 (0,({ x.1 with check:=n },(x.2.s_ (fC x.1.base n)).2))
def dZ (μ:Lg)(kd:Int)(tx pv nx:Nat)(data:List Nat)(bw:List cU): List Nat:=mY (μ.base+μ.b.length) (cV kd tx pv nx data bw)
def bx (x:LD)(kd:Int)(tx pv nx:Nat)(data:List Nat)(bw:List cU): (Nat×Int)×LD :=
 if eH kd bw=false then((0,1),x) else if 1048576<(cV kd tx pv nx data bw).length then((0,2),x) else
 if (x.2.uz (dZ x.1 kd tx pv nx data bw)).1≠0 then((0,(x.2.uz (dZ x.1 kd tx pv nx data bw)).1),(x.1,(x.2.uz (dZ x.1 kd tx pv nx data bw)).2)) else
 ((x.1.base+x.1.b.length,0),(x.1.app (dZ x.1 kd tx pv nx data bw),(x.2.uz (dZ x.1 kd tx pv nx data bw)).2))
theorem N5 : δ.gR.2.waiting=δ.waiting:=by
 unfold Dk.gR;split
 .rfl
 .split<;>rfl
theorem tc {x:LD}: (bL x n).2.2.waiting=x.2.waiting:=by
 grind[bL,N5]
theorem Dk.Ok.dY {n:Int}(h:δ.Ok): (δ.dY n b).2.Ok:=by
 unfold Dk.dY;split
 .exact h
 .split
  .exact h
  .split
   .exact⟨h.a_,h.len,h.room,h.now,h.aU,h.bP,h.many⟩
   .refine⟨h.bZ.a_,h.len,h.room,λe he=>?_,h.aU,h.bP,h.many⟩;have:∀l:List (Int×List Nat),(∀e∈l,e.2.length=512)->∀e∈dM n b l,e.2.length=512:=by
     intro l;induction l<;>grind[dM]
    exact this δ.now h.now e he
theorem qq {x:LD}(h:x.2.Ok): (bL x n).2.2.Ok:=by
 unfold bL;split
 .exact h
 .split
  .exact h.gR
  .exact h.gR
theorem Lg.Ok.aa3 (h:μ.Ok): ({ μ with forced:=μ.b.length }:Lg).Ok:=⟨h.size,h.many,h.low,h.A2,az _,h.len,h.check⟩
theorem yT {x:LD}(h:x.1.Ok): (bL x n).2.1.Ok:=by
 unfold bL;split
 .exact h
 .split
  .exact h
  .exact h.aa3
section
variable {told:bU} {p:Nat} {v:V}
theorem IC (J:W told)(s:Sat h (bD q p μ::aS p δ::S))(I:μ.Ok)(hf:δ.a_<4294967296): Call ⟨prog,told⟩ 93 [.ptr q 0,.int .u64 (n:Int)] h λv h' =>
  v=.int .i64 (bL (μ,δ) n).1/\Sat h' (bD q p (bL (μ,δ) n).2.1::aS p (bL (μ,δ) n).2.2::S):=by
 refine(TB J s I hf).mono λv h' hr=>?_;grind[bL,Dk.gR]
theorem aa4 (J:W told)(s:Sat h (bD q p μ::aS p δ::S))(I:μ.Ok)(hf:δ.a_<4294967296)(hn:n<18446744073709551616): Call ⟨prog,told⟩ 112 [.ptr q 0,.int .u64 (n:Int)] h λv h' =>
  v=.int .i64 (jC (μ,δ) n).1/\Sat h' (bD q p (jC (μ,δ) n).2.1::aS p (jC (μ,δ) n).2.2::S):=by
 refine(TC J s I hf hn).mono λv h' hr=>?_;grind[r_,jC,Dk.s_]
theorem LQ (hT:W told){kd:Int}{ch:V}(s:Sat h (bD q p μ::aS p δ::X::.arr 4 ch cs::c6 cs bw::S))(hX:cQ X (cT dt data))(J:GU tx pv nx data bw)(BN:μ.Ok)(I:δ.Ok):
  Call ⟨prog,told⟩ 104 [.ptr q 0,.agg (ep kd tx pv nx dt ch)] h λr h' =>
  r=.aR [.int .u64 ((bx (μ,δ) kd tx pv nx data bw).1.1:Nat),.int .i64 (bx (μ,δ) kd tx pv nx data bw).1.2] /\
  Sat h' (bD q p (bx (μ,δ) kd tx pv nx data bw).2.1::aS p (bx (μ,δ) kd tx pv nx data bw).2.2::X::.arr 4 ch cs::c6 cs bw::S):=by
 refine(Q9 hT s hX J BN I.a_ I.len I.room).mono λv h' hr=>?_;grind[bx,Dk.uz,dZ]
end
structure Fm where
 bA:Int
 b:List Nat
 pins:Int
 gS:Bool
 changed:Bool
variable {f:Fm}
structure Pl where
 ai:List Fm
 aM:List (Int×Int)
 bI:List (Int×(Nat×Bool))
 hand:Nat
variable {π:Pl}
def g_ (f:Fm)(v:V): List V:=[.int .i64 f.bA,v,.int .i64 f.pins,.bool f.gS,.bool f.changed]
def xC : List V->List Fm->aH
 |[],[]=>.pu True
 |a::v::c::d::e::l,x::m=>.an (.an (.pu (a=.int .i64 x.bA/\c=.int .i64 x.pins/\d=.bool x.gS/\e=.bool x.changed)) (.dL v x.b)) (xC l m)
 |_,_=>.pu False
theorem bg.fm : ∀(m:List Fm) (l:List V),bg (xC l m):=by
 intro m;induction m with
 |nil=>intro l;rcases l with _|⟨a,_|⟨b,_|⟨c,_|⟨d,_|⟨e,l⟩⟩⟩⟩⟩<;>exact bg.pu _
 |cons x m I=>intro l;rcases l with _|⟨a,_|⟨b,_|⟨c,_|⟨d,_|⟨e,l⟩⟩⟩⟩⟩<;>first|exact bg.pu _|exact bg.an (bg.an (bg.pu _) (bg.dL _ _)) (I l)
theorem Cw {a b:PM}: ∀ {m:List Fm} {l:List V} {i:Nat} {f:Fm},(xC l m).p a b->m[i]?=some f->∃pre v post,l=pre++(g_ f v++post)/\pre.length=i*5/\(aH.dL v f.b).p a b /\
  (∀(f':Fm) (v':V) (a' b':PM),(aH.dL v' f'.b).p a' b'->PM.le a a'->PM.le b b'->(xC (pre++(g_ f' v'++post)) (m.set i f')).p a' b'):=by
 intro m;induction m with
 |nil=>simp
 |cons x m ih =>
  intro l i f h hc;rcases l with _|⟨p,_|⟨q,_|⟨w,_|⟨d,_|⟨e,l⟩⟩⟩⟩⟩<;>first|exact h.elim|skip
  obtain⟨⟨⟨h1,h2,h3,h4⟩,h5⟩,h6⟩:=h;cases i with
  |zero =>
   simp at hc;subst hc;refine⟨[],q,l,?_,U,h5,λf' v' a' b' hv I J=>⟨⟨⟨U,U,U,U⟩,hv⟩,(xC l m).mono _ _ _ _ I J h6⟩⟩;rw[h1,h2,h3,h4];rfl
  |succ i =>
   obtain⟨pre,v,post,e1,e2,e3,e4⟩:=ih h6 hc;refine⟨p::q::w::d::e::pre,v,post,?_,?_,e3,λf' v' a' b' hv I J=>⟨⟨⟨h1,h2,h3,h4⟩,aH.mono _ _ _ _ _ I J h5⟩,e4 f' v' a' b' hv I J⟩⟩
   .grind
   .grind
theorem aa5 {a b:PM}: ∀ {m:List Fm} {l:List V},(xC l m).p a b->l.length=m.length*5:=by
 intro m;induction m with
 |nil=>intro l h;rcases l with _|⟨a,_|⟨b,_|⟨c,_|⟨d,_|⟨e,l⟩⟩⟩⟩⟩<;>first|rfl|exact h.elim
 |cons x m I =>
  intro l h;rcases l with _|⟨a,_|⟨b,_|⟨c,_|⟨d,_|⟨e,l⟩⟩⟩⟩⟩<;>first|exact h.elim|skip
  have:=I h.2;simp only[cK];omega
def fA (cR:Nat)(m:List Fm): aH:=xs λcs:List V=>star [pt cR (.cells (m.length*5) cs false),xC cs m]
abbrev LS (v:V)(m:List (Int×Int)): aH:=ux (λv x=>.pu (v=.int .i64 x)) v m
abbrev GW (v:V)(m:List (Int×(Nat×Bool))): aH:=ux (λv x=>.pu (v=.agg [.int .u64 (x.1:Int),.bool x.2])) v m
def tf (p q cR n:Nat)(wh di:V)(hand:Nat): List V:=[.ptr p 0,.ptr q 0,.sl cR 0 n (.exact n),wh,di,.int .i64 (hand:Int)]
def dx (r p q:Nat)(π:Pl): aH:=xs λcR:Nat=>xs λwh:V=>xs λdi:V =>
 star [pt r (.cells 6 (tf p q cR π.ai.length wh di π.hand) false),fA cR π.ai,LS wh π.aM,GW di π.bI]
section
variable {p:Nat} {v:V} {m:List Fm}
theorem dy : Sat h (dx r p q π::S)↔∃cR wh di,Sat h (pt r (.cells 6 (tf p q cR π.ai.length wh di π.hand) false)::fA cR π.ai::LS wh π.aM::GW di π.bI::S):=by
 simp[dx,gh,aX]
theorem lE : Sat h (fA cR m::S)↔∃cs,Sat h (pt cR (.cells (m.length*5) cs false)::xC cs m::S):=by
 grind[fA,gh,aX]
theorem jX (s:Sat h (fA cR m::S))(J:m[i]?=some f): ∃pre v post,pre.length=i*5/\(pre++(g_ f v++post)).length=m.length*5 /\
  Sat h (pt cR (.cells (m.length*5) (pre++(g_ f v++post)) false)::xC (pre++(g_ f v++post)) m::.dL v f.b::S):=by
 obtain⟨cs,s⟩:=lE.1 s;obtain⟨a,b,q1,q2,q3⟩:=s.at (k:=1) U;obtain⟨pre,v,post,e1,e2,e3,_⟩:=Cw q3 J;have hl:=aa5 q3;subst e1;refine⟨pre,v,post,e2,hl,?_⟩;have s1:Sat h (xC (pre++(g_ f v++post)) m::pt cR (.cells (m.length*5) (pre++(g_ f v++post)) false)::S):=s.ae [1];have s2:=(s1.dup (bg.fm _ _)).iX (B:=.dL v f.b) λa' b' h'=>by
  obtain⟨aiH,v',I,vb,tg,e3',_⟩:=Cw h' J<;>grind[List.append_inj,g_]
 exact s2.ae [2,1,0]
theorem iq {f':Fm}{pre:List V}(s:Sat h (pt cR (.cells n (pre++(g_ f' v'++post)) false)::xC (pre++(g_ f v++post)) m::.dL v' f'.b::S))(hn:n=m.length*5)(hf:m[i]?=some f)(hp:pre.length=i*5): Sat h (fA cR (m.set i f')::S):=by
 subst hn;have s1:Sat h (xC (pre++(g_ f v++post)) m::.dL v' f'.b::pt cR (.cells (m.length*5) (pre++(g_ f' v'++post)) false)::S):=s.ae [1,1,0];have s2:=s1.two (C:=xC (pre++(g_ f' v'++post)) (m.set i f')) (bg.fm _ _) (bg.dL _ _) λa b h1 h2=>by
  obtain⟨J,v0,I,vb,tg,e3',e4'⟩:=Cw h1 hf<;>grind[List.append_inj,g_,PM.le_refl]
 refine lE.2 ⟨pre++(g_ f' v'++post),?_⟩;rw[ff];exact s2.ae [1]
theorem jD {pre row:List V}(I:pre.length=a)(J:nth row j=some x): nth (pre++(row++post)) (a+j)=some x:=by
 grind[iD]
theorem aa6 {pre row:List V}(I:pre.length=a)(J:j<row.length): (pre++(row++post)).set (a+j) x=pre++(row.set j x++post):=by
 grind
theorem Sat.stM {pre row:List V}(s:Sat h S)(J:getA S k=some (pt id (.cells n (pre++(row++post)) false)))(hs:bf P t=some 1)(hp:pre.length=a)(hl:(pre++(row++post)).length=n)(hj:j<row.length)(hv:x.cells=[x])(I:storable x=true):
  ∃h₁,ga P h t (.ptr id (a+j)) x=some h₁/\Sat h₁ (setA S k (pt id (.cells n (pre++(row.set j x++post)) false))):=by
 have:=s.cS (P:=P) (t:=t) (off:=a+j) (v:=x) J hs hl Q hv I
 rwa [aa6 hp hj] at this
theorem Sat.TF {pre row row':List V}(s:Sat h S)(J:getA S k=some (pt id (.cells n (pre++(row++post)) false)))(hs:bf P t=some row'.length)(hp:pre.length=a)(hl:(pre++(row++post)).length=n)(hr:row'.length=row.length)(I:row'.all storable=true):
  ∃h₁,ga P h t (.ptr id a) (.agg row')=some h₁/\Sat h₁ (setA S k (pt id (.cells n (pre++(row'++post)) false))):=by
 have:=s.stN (P:=P) (t:=t) (off:=a) (l:=row') J hs hl Q I;grind
theorem ldF {pre row:List V}(s:Sat h S)(I:getA S k=some (pt id (.cells n (pre++(row++post)) false)))(J:isAggT P t=some true)(hs:bf P t=some row.length)(hp:pre.length=a)(hl:(pre++(row++post)).length=n): loadV P h t (.ptr id a)=some (.agg row):=by
 rw[Tj J hs (s.row I) hl Q,List.drop_left' hp,rM U]
end
abbrev bn := Pl×LD
variable {ε:bn}
def dirtRec (π:Pl)(n:Int): Nat:=match lookL n π.bI with
 |some x=>x.1
 |none=>0
def outF (ε:bn)(i:Nat): Int×bn:=match ε.1.ai[i]? with
 |none=>(0,ε)
 |some f=>if f.bA<0\/f.changed=false then(0,ε) else if cH f.b=false then(4,ε) else
  if (bL ε.2 (dU f.b 4 8)).1≠0 then((bL ε.2 (dU f.b 4 8)).1,(ε.1,(bL ε.2 (dU f.b 4 8)).2)) else
  if ((bL ε.2 (dU f.b 4 8)).2.2.dY f.bA f.b).1≠0 then(((bL ε.2 (dU f.b 4 8)).2.2.dY f.bA f.b).1,(ε.1,((bL ε.2 (dU f.b 4 8)).2.1,((bL ε.2 (dU f.b 4 8)).2.2.dY f.bA f.b).2))) else
  (0,({ ε.1 with ai:=ε.1.ai.set i { f with changed:=false },bI:=dM f.bA (dirtRec ε.1 f.bA,false) ε.1.bI },((bL ε.2 (dU f.b 4 8)).2.1,((bL ε.2 (dU f.b 4 8)).2.2.dY f.bA f.b).2)))
section
variable {told:bU} {p:Nat} {v:V}
theorem TG (hT:W told)(s:Sat h (pt r (.cells 6 (tf p q cR π.ai.length wh di π.hand) false)::fA cR π.ai::LS wh π.aM::GW di π.bI::bD q p μ::aS p δ::S))(hi:π.ai[i]?=some f)(BN:μ.Ok)(Cx:δ.Ok)(Jj:f.b.length<1073741824)(hw:δ.waiting.length<=268435456):
  Call ⟨prog,told⟩ 166 [.ptr r 0,.ptr cR (i*5)] h λv h'=>v=.int .i64 (outF (π,μ,δ) i).1 /\
   Sat h' (pt r (.cells 6 (tf p q cR (outF (π,μ,δ) i).2.1.ai.length wh di (outF (π,μ,δ) i).2.1.hand) false)::fA cR (outF (π,μ,δ) i).2.1.ai::LS wh (outF (π,μ,δ) i).2.1.aM::GW di (outF (π,μ,δ) i).2.1.bI::bD q p (outF (π,μ,δ) i).2.2.1::aS p (outF (π,μ,δ) i).2.2.2::S):=by
 have s00:=s;obtain⟨pre,fv,post,I,hlen,s⟩:=jX (s.ae [1]) hi;have hfv:=(s.aQ 2 U (fX _ _));refine Call.of_wp (hT.free _ U) func166 U U (zK 9 U (zf U (rX _ _) (zl U (s.ld 0 U cW (jD I U))<|zd U (ag U U aG) ?_ ?_)))
 .intro hq;have hq:f.bA<0:=Q;have he:outF (π,μ,δ) i=(0,(π,μ,δ)):=by grind[outF]
  rw[he];exact zk 13 U (WP.ret ⟨aa,_,U,U,s00⟩)
 .intro hq;have hq:¬ f.bA<0:=Q;refine zk 3 U (zf U (Iu _ _) (zl U (s.ld 0 U nO (jD I U)) ?_));have GB:f.changed=false\/f.changed=true:=cb;rcases GB with hc|hc
  .have he:outF (π,μ,δ) i=(0,(π,μ,δ)):=by grind[outF]
   rw[he];exact zt U (cI U U) Q<|zk 7 U (WP.ret ⟨aa,_,U,U,s00⟩)
  .have he:outF (π,μ,δ) i=(if cH f.b=false then(4,(π,μ,δ)) else
    if (bL (μ,δ) (dU f.b 4 8)).1≠0 then((bL (μ,δ) (dU f.b 4 8)).1,(π,(bL (μ,δ) (dU f.b 4 8)).2)) else
    if ((bL (μ,δ) (dU f.b 4 8)).2.2.dY f.bA f.b).1≠0 then(((bL (μ,δ) (dU f.b 4 8)).2.2.dY f.bA f.b).1,(π,((bL (μ,δ) (dU f.b 4 8)).2.1,((bL (μ,δ) (dU f.b 4 8)).2.2.dY f.bA f.b).2))) else
    (0,({ π with ai:=π.ai.set i { f with changed:=false },bI:=dM f.bA (dirtRec π f.bA,false) π.bI },((bL (μ,δ) (dU f.b 4 8)).2.1,((bL (μ,δ) (dU f.b 4 8)).2.2.dY f.bA f.b).2)))):=by
    grind[outF]
   rw[he];refine zh U (cI U U) Q<|zk 8 U (zf U (DZ _ _) (zl U (s.ld 0 U cF (jD I U)) (zc U (Ph hT (s.ae [2]) (fX _ _) Y) ?_)));rintro w h ⟨s,(⟨hg,rfl⟩|⟨hg,rfl⟩)⟩
   .dsimp only[bringA,getA,aB] at s;rw[ax Q];have W4:(bL (μ,δ) (dU f.b 4 8)).2.2.Ok:=qq Cx;have hxw:(bL (μ,δ) (dU f.b 4 8)).2.2.waiting.length<=268435456:=by rw[tc];exact hw
    have J:=IC (n:=dU f.b 4 8) hT (s.ae [6,6]) BN Cx.a_;generalize bL (μ,δ) (dU f.b 4 8)=x at J W4 hxw ⊢;obtain⟨xe,xl,xd⟩:=x;dsimp only at J W4 hxw ⊢;refine zk 16 U (zC U aE U (zk 8 U (zY s 3 aaL mw U (zm U (zc U (J) ?_)))));rintro w h ⟨rfl,s⟩;refine zk 5 U ?_;by_cases hx:xe=0
    .subst hx;rw[ax O];refine zC U aE U ?_;have Pc:=λ(s:Sat h (aS p xd::.dL fv f.b::bD q p xl::pt cR (.cells (π.ai.length*5) (pre++(g_ f fv++post)) false)::xC (pre++(g_ f fv++post)) π.ai::pt r (.cells 6 (tf p q cR π.ai.length wh di π.hand) false)::LS wh π.aM::GW di π.bI::S))=>aa2 (n:=f.bA) hT s (fX fv f.b) Jj W4.a_ hxw;generalize xd.dY f.bA f.b=y at Pc ⊢;obtain⟨ye,yd⟩:=y;dsimp only at Pc ⊢;have s:=s.ae [1,1,0];refine zk 5 U (WP.drawn [af,af,af,af,af,af,af,af,af,af,af,af,af,af] U bo bo<|zM U (zN U (zF U (Ap _ _) (zL U (s.ld 5 U kU U) (zM U (zN U (zF U (rX _ _) (zL U (s.ld 3 U cW (jD I U)) (zM U (zN U (zF U (DZ _ _) (zL U (s.ld 3 U cF (jD I U)) (ah.any U U U U (OpR.call U U U U (Pc s)) ?_)))))))))))));rintro w h ⟨rfl,s⟩;refine zA U<|ah.nil ⟨(dq 15),zK 3 U ?_⟩;by_cases hy:ye=0
     .subst hy;rw[ax O];refine zC U aE U (zk 7 U (zf U (Iu _ _) (zS U (s.stM (k:=3) (j:=4) U BB I hlen (by simp[g_]) U U) λh s=>?_)));have e5:(g_ f fv).set 4 (.bool false)=g_ { f with changed:=false } fv:=rfl;have s:=s.ae [7,3,4];refine zk 2 U (WP.drawn [af,af,af,af,af,af,af,af,af,af,af,af,af,af,af,af,af,af,af,af] U bo bo<|zM U (zN U (zF U (oJ _ _) (zL U (s.ld 2 U uN U) (zM U (zN U (zF U (rX _ _) (zL U (s.ld 1 U cW (jD I U)) (zM U (zN U (zF U (oJ _ _) (zL U (s.ld 2 U uN U) (zM U (zN U (zF U (rX _ _) (zL U (s.ld 1 U cW (jD I U)) ?_))))))))))))))));have Ra:∃b,eO prog h 215 di (.int .i64 f.bA) false=some (.agg [.int .u64 (dirtRec π f.bA:Nat),.bool b]):=by
       rcases lC (f:=λv (x:Nat×Bool)=>.pu (v=.agg [.int .u64 (x.1:Int),.bool x.2])) (n:=f.bA) (λ_ _=>bg.pu _) s u9 bB AU with⟨g1,_,g3⟩|⟨u,x,g1,_,g3,s'⟩
       .grind[dirtRec]
       grind[j4,dirtRec]
      obtain⟨lb,Ra⟩:=Ra;refine zO U (e_ U U Ra) (zO U (Zp U (Zq (O_ _) U)) (zO U (cE U (by rw[afe];rfl))<|ah.cy U U U (OpR.mapUpdate U U U U (nZ (f:=λv (x:Nat×Bool)=>.pu (v=.agg [.int .u64 (x.1:Int),.bool x.2])) (x:=(dirtRec π f.bA,false)) (λ_ _=>bg.pu _) (s.eF U) u9 bB)) λw h s=>ah.nil ⟨(dq 21),zK 4 U (zR U ⟨U,?_⟩)⟩));have s:=iq (i:=i) (f':={ f with changed:=false }) (s.ae [1,5,3]) U hi I;have e6:(π.ai.set i { f with changed:=false }).length=π.ai.length:=ff;rw[e6];exact s.ae [2,0,3,0,1,0]
     .rw[bk hy];refine zB U aE Q<|zk 7 U (WP.ret ⟨aa,_,U,⟨U,?_⟩⟩);have s:=lE.2 ⟨_,s.ae [3,3]⟩;exact(s.del 2).ae [3,0,2,2,1,0]
    .rw[bk hx];refine zB U aE Q<|zk 7 U (WP.ret ⟨aa,_,U,⟨U,?_⟩⟩);have s:=lE.2 ⟨_,s.ae [3,3]⟩;exact(s.del 3).ae [3,0,2,2,0,0]
   .dsimp only[bringA,getA,aB] at s;rw[bk hg];refine zk 16 U (zB U aE U (zk 7 U (WP.ret ⟨aa,_,U,⟨U,?_⟩⟩)));have s:=lE.2 ⟨_,s.ae [1,1]⟩;exact(s.del 1).ae [1,0]
end
structure gO (π cu:Pl): Prop where
 aM:cu.aM=π.aM
 bI:cu.bI=π.bI
 len:cu.ai.length=π.ai.length
 get:∀(i:Nat) (f:Fm),π.ai[i]?=some f->∃t,cu.ai[i]?=some { f with gS:=t }
theorem gO.refl (π:Pl): gO π π:=⟨U,U,U,λ_ f h=>⟨f.gS,h⟩⟩
theorem gO.trans {cu I:Pl}(a:gO π cu)(b:gO cu I): gO π I:=by
 refine⟨b.aM.trans a.aM,b.bI.trans a.bI,b.len.trans a.len,λi f h=>?_⟩;obtain⟨t,ht⟩:=a.get i f h;obtain⟨t',J⟩:=b.get i _ ht;exact⟨t',J⟩
theorem gO.hand : gO π { π with hand:=n }:=⟨U,U,U,λ_ f h=>⟨f.gS,h⟩⟩
theorem gO.aa7 (hi:π.ai[i]?=some f): gO π { π with ai:=π.ai.set i { f with gS:=false } }:=by
 refine⟨U,U,ff,λj g I=>?_⟩;by_cases h:i=j
 .subst h;rw[hi] at I;have:=fY I;subst this;have J:=(List.getElem?_eq_some_iff.1 hi).1;exact⟨false,Q⟩
 .exact⟨g.gS,by simp_all⟩
theorem W5 {x:Operand}{b:Nat}(I:0<b): binV P h .rem t x y (.int .i64 (a:Int)) (.int .i64 (b:Int))=some (.int .i64 ((a%b:Nat):Int)):=by
 simp only[binV,ikBeq,ak,intV];grind[nW]
section
variable {told:bU} {p:Nat} {v:V} {m:List Fm}
theorem n_ (hi:i<n): indexAddrV prog 214 (.sl cR 0 n (.exact n)) (.int .i64 (i:Int))=some (.ptr cR (i*5)):=by
 grind[afc]
theorem N6 (I:W told)(s:Sat h S)(J:storable v=true): Call ⟨prog,told⟩ 214 [.agg (g_ f v)] h λw h'=>w=.bool (decide (f.pins=0))/\Sat h' S:=by
 refine Call.of_wp (I.free _ U) func214 U U (zg U (aq.bG s U U U (c7 U (by simp only[V.cells,g_,mF,m_,J];rfl)) λp1 h s=>?_));dsimp only[V.cells,g_] at s;exact zk 4 U (zY s 0 uk cW U (zb U bH (zk 2 U (zR U ⟨U,s.drop⟩))))
theorem W6 (hT:W told)(s:Sat h (fA cR m::S))(h0:m[0]?=some f)(hp:f.pins=0): Call ⟨prog,told⟩ 237 [.sl cR 0 m.length (.exact m.length),.fn (.func 214) [] []] h λw h'=>w=.int .i64 0/\Sat h' (fA cR m::S):=by
 have hl:=(List.getElem?_eq_some_iff.1 h0).1;obtain⟨pre,fv,post,I,hlen,s⟩:=jX s h0;have J:=(s.aQ 2 U (fX _ _)).cells.2;refine Call.of_wp (hT.free _ U) func237 U U (zK 8 U (zo U (aO U U U (ur U Cn)) (zk 2 U (WP.block (WP.loop (zg U (zB U aG Q<|zk 5 U (WP.block (zK 10 U (zo U (aJ _ U U (n_ (i:=0) hl)) (zl U (ldF s (k:=0) U aff Gz I hlen) (zc U (N6 hT s J) ?_))))))))))));rintro w h ⟨rfl,s⟩;rw[lH hp];exact zk 7 U (WP.ret ⟨aa,_,U,U,(lE.2 ⟨_,s⟩).del 1⟩)
theorem N7 (I:W told)(s:Sat h (fA cR m::S))(J:m[0]?=some f)(hp:f.pins=0): Call ⟨prog,told⟩ 213 [.sl cR 0 m.length (.exact m.length),.fn (.func 214) [] []] h λw h'=>w=.bool true/\Sat h' (fA cR m::S):=by
 refine Call.of_wp (I.free _ U) func213 U U (zK 8 U (zc U (W6 I s J hp) ?_));rintro w h ⟨rfl,s⟩;exact zB U dO O<|zk 2 U (zR U ⟨U,s⟩)
noncomputable def fdA : Code:=aV [1,0,0,1,0,0] ((f165.body).getD .skip)
noncomputable def fdB : Code:=aV [1,0,1,1,1,0,0] ((f165.body).getD .skip)
theorem N8 {hand:Nat}: ∀(j i:Nat) (h:H) (E:List (Nat×V)) (a8:Ex->List (Nat×V)->H->Prop),i+j=m.length->m.length<4294967296 ->
  Sat h (pt r (.cells 6 (tf p q cR m.length wh di hand) false)::fA cR m::S)->Has E [(0,.ptr r 0),(10,.int .i64 m.length),(11,.int .i64 i)] ->
  (∀E' (i:Nat) (f:Fm),m[i]?=some f->f.bA<0->look E' 2=some (.int .i64 (i:Int))->a8 .ret E' h) ->
  (∀E',Has E' [(0,.ptr r 0)]->a8 (.exit 0) E' h)->WP ⟨prog,told⟩ 70 (.loop fdA) E h a8:=by
 intro j;induction j with
 |zero =>
  exact λi h E a8 hi hm s J hr hx=>WP.loop (WP.has J (zg U (zC U aG Q<|zk 3 U (WP.exit (hx _ ⟨U,aa⟩)))))
 |succ j ih =>
  intro i h E a8 hi hm s J hr hx;have hc:m[i]?=some (m[i]' Y):=aI _;generalize (m[i]' Y)=f at hc;obtain⟨pre,fv,post,I,hlen,s'⟩:=jX (s.ae [1]) hc;refine WP.loop (WP.has J (zg U (zB U aG Q<|zk 5 U (WP.block (zK 9 U (zY s 0 mG qY U (zm U (zo U (aJ _ U U (n_ (i:=i) Y))<|zf U (rX _ _) (zl U (s'.ld 0 U cW (jD I U))<|zd U (ag U U aG) ?_ ?_)))))))))
  .intro hq;have hq:f.bA<0:=Q;exact zk 7 U (WP.ret (hr _ i f hc hq U))
  .exact λhq=>zv (zj U (WP.skip (zr U (zb U (by exact aT ay)<|zm U (zv<|ih (i+1) h _ a8 Y hm s ⟨U,U,U,aa⟩ hr hx)))))
def Av (m:List Fm): Nat:=(m.filter λf=>f.gS).length
theorem EK : ∀ {m:List Fm} {i:Nat},m[i]?=some f->f.gS=true->Av (m.set i { f with gS:=false })+1=Av m:=by
 intro m;induction m with
 |nil=>simp
 |cons g m I =>
  intro i h J;cases i<;>grind[Av]
theorem GX (hf:π.ai[π.hand]?=some f)(hm:π.ai.length<4294967296)(hp:f.pins=0)
 (s:Sat h (pt r (.cells 6 (tf p q cR π.ai.length wh di π.hand) false)::fA cR π.ai::S))(hE:Has E [(0,.ptr r 0)])
 (hr:f.gS=false->∀E' h',look E' 2=some (.int .i64 (π.hand:Int))->Sat h' (pt r (.cells 6 (tf p q cR π.ai.length wh di ((π.hand+1)%π.ai.length)) false)::fA cR π.ai::S)->a8 .ret E' h')
 (hx:f.gS=true->∀E' h',Has E' [(0,.ptr r 0)]->Sat h' (pt r (.cells 6 (tf p q cR (π.ai.set π.hand { f with gS:=false }).length wh di ((π.hand+1)%π.ai.length)) false)::fA cR (π.ai.set π.hand { f with gS:=false })::S)->WP ⟨prog,told⟩ 70 (.loop fdB) E' h' a8):
  WP ⟨prog,told⟩ 70 (.loop fdB) E h a8:=by
 have hl:=(List.getElem?_eq_some_iff.1 hf).1;refine WP.loop (WP.has hE (WP.block (zK 4 U (zY s 0 Iq cW U (zk 6 U (zY s 0 mG qY U (zm U (zo U (aJ _ U U (n_ (i:=π.hand) hl)) (zk 3 U (WP.drawn [af,af,af,af,af,af,af,af,af,af,af,af,af,af,af] U bo bo<|zM U (zM U (zN U (zF U (Iq _ _) (zL U (s.ld 0 U cW U) (zO U (ag U U (by exact aT ay))<|zM U (zN U (zF U (mG _ _) (zL U (s.ld 0 U qY U) (zO U (aO U U U (ur U Cn)) (zO U (ag U U (W5 (a:=π.hand+1) Y))<|zN U (zF U (Iq _ _) (ah.cy U U U (OpR.dX U U U (s.cS (k:=0) U kr U O U U)) ?_))))))))))))))))))))));rintro v h ⟨rfl,s⟩;have s:Sat h (pt r (.cells 6 (tf p q cR π.ai.length wh di ((π.hand+1)%π.ai.length)) false)::fA cR π.ai::S):=s;refine ah.nil ⟨(dq 16),?_⟩;obtain⟨pre,fv,post,I,hlen,s⟩:=jX (s.ae [1]) hf;refine zw (WP.block (zK 4 U (zf U (uk _ _) (zl U (s.ld 0 U cW (jD I U)) (zC U dc Q<|zk 7 U (zf U (It _ _) (zl U (s.ld 0 U nO (jD I U)) (zk 2 U ?_))))))));have LU:f.gS=false\/f.gS=true:=cb;rcases LU with J|J
 .refine WP.Zo U (J)<|zK 5 U (WP.ret (hr J _ _ U ?_));have s:=lE.2 ⟨_,s.ae [0,0]⟩;exact(s.del 1).ae [1,0]
 .skip;refine WP.QE U (J) (zK 3 U (zf U (It _ _) (zS U (s.stM (k:=0) (j:=3) U BB I hlen (by simp[g_]) U U) λh s=>?_)));have e5:(g_ f fv).set 3 (.bool false)=g_ { f with gS:=false } fv:=rfl;rw[e5] at s;refine zv (WP.exit (hx J _ _ ⟨U,aa⟩ ?_));have s:=iq (i:=π.hand) (f':={ f with gS:=false }) s U hf I;rw[ff];exact s.ae [1,0]
theorem N9 : ∀(fuel:Nat) (π:Pl) (h:H) (E:List (Nat×V)) (a8:Ex->List (Nat×V)->H->Prop),Av π.ai<=fuel->π.hand<π.ai.length->π.ai.length<4294967296->(∀f∈π.ai,f.pins=0) ->
  Sat h (pt r (.cells 6 (tf p q cR π.ai.length wh di π.hand) false)::fA cR π.ai::S)->Has E [(0,.ptr r 0)] ->
  (∀E' h' (i:Nat) (cu:Pl) (f:Fm),gO π cu->cu.ai[i]?=some f->cu.hand<cu.ai.length->look E' 2=some (.int .i64 (i:Int))->Sat h' (pt r (.cells 6 (tf p q cR cu.ai.length wh di cu.hand) false)::fA cR cu.ai::S)->a8 .ret E' h') ->
  WP ⟨prog,told⟩ 70 (.loop fdB) E h a8:=by
 intro fuel;induction fuel with
 |zero =>
  intro π h E a8 ht J hm hp s hE hr;have I:π.ai[π.hand]?=some (π.ai[π.hand]'J):=aI _;generalize (π.ai[π.hand]'J)=f at I;refine GX I hm (hp f (bz I)) s hE (λh1 E' h' h2 s'=>?_) (λh1=>?_)
  .exact hr E' h' π.hand { π with hand:=(π.hand+1)%π.ai.length } f gO.hand I (nc _ Y) h2 s'
  .have:=EK I h1;omega
 |succ fuel ih =>
  intro π h E a8 ht J hm hp s hE hr;have I:π.ai[π.hand]?=some (π.ai[π.hand]'J):=aI _;generalize (π.ai[π.hand]'J)=f at I;refine GX I hm (hp f (bz I)) s hE (λh1 E' h' h2 s'=>?_) (λh1 E' h' fg s'=>?_)
  .exact hr E' h' π.hand { π with hand:=(π.hand+1)%π.ai.length } f gO.hand I (nc _ Y) h2 s'
  .have xZ:=EK I h1;have hn:gO π { π with ai:=π.ai.set π.hand { f with gS:=false },hand:=(π.hand+1)%π.ai.length }:=(gO.aa7 I).trans gO.hand;refine ih { π with ai:=π.ai.set π.hand { f with gS:=false },hand:=(π.hand+1)%π.ai.length } h' E' a8 Q ?_ Q (λg hg=>?_) s' fg (λE2 h2 i cu g hn' hg hh2 hl s2=>hr E2 h2 i cu g (hn.trans hn') hg hh2 hl s2)
   .simp only[ff];exact nc _ Y
   grind
theorem W7 (hT:W told)(s:Sat h (pt r (.cells 6 (tf p q cR π.ai.length wh di π.hand) false)::fA cR π.ai::S))(hh:π.hand<π.ai.length)(hm:π.ai.length<4294967296)(hp:∀f∈π.ai,f.pins=0):
  Call ⟨prog,told⟩ 165 [.ptr r 0] h λv h'=>∃(i:Nat) (cu:Pl) (f:Fm),v=.int .i64 (i:Int)/\gO π cu/\cu.ai[i]?=some f/\cu.hand<cu.ai.length /\
   Sat h' (pt r (.cells 6 (tf p q cR cu.ai.length wh di cu.hand) false)::fA cR cu.ai::S):=by
 have I:π.ai[0]?=some (π.ai[0]' Y):=aI _;generalize (π.ai[0]' Y)=f0 at I;refine Call.of_wp (hT.free _ U) func165 U U (zK 4 U (WP.scope (zK 5 U (zY s 0 mG qY U (zo U (aO U U U (ur U Cn)) (zk 2 U (WP.block<|N8 π.ai.length 0 _ _ _ Y hm s ⟨U,U,U,aa⟩ (λE' i f J _ h2=>?_) (λE' fg=>?_))))))))
 .exact⟨aa,_,jk h2,i,π,f,U,gO.refl π,J,hh,s⟩
 .skip;refine WP.has fg (zK 5 U (zY s 0 mG qY U (zc U (N7 hT (s.ae [1]) I (hp f0 (bz I))) ?_)));rintro w h ⟨rfl,s⟩;exact zo U (cI U U) (zk 4 U (WP.label (WP.block<|N9 (Av π.ai) π _ _ _ (az _) hh hm hp (s.ae [1,0]) ⟨U,aa⟩ (λE' h' i cu f hn J hh2 h2 s'=>⟨aa,_,jk h2,i,cu,f,U,hn,J,hh2,s'⟩))))
end
structure Pl.Ok (π:Pl): Prop where
 hand:π.hand<π.ai.length
 many:π.ai.length<=1024
 aM:∀e∈π.aM,0<=e.2/\e.2<π.ai.length
 len:∀f∈π.ai,f.b.length<=512
 pins:∀f∈π.ai,0<=f.pins/\f.pins<=4294967296
theorem Pl.Ok.at (h:π.Ok){n i:Int}(I:lookL n π.aM=some i): ∃(k:Nat) (f:Fm),i=k/\π.ai[k]?=some f:=by
 have h1:=h.aM _ (j7 I);exact⟨i.toNat,π.ai[i.toNat]' Y,Y,aI _⟩
def heldI (π:Pl)(n:Int): Option Nat:=match lookL n π.aM with
 |none=>none
 |some i=>match π.ai[i.toNat]? with
  |none=>none
  |some f=>if f.pins=0 then none else some i.toNat
def unpinF (π:Pl)(n:Int): Int×Pl:=match heldI π n with
 |none=>(18,π)
 |some i=>match π.ai[i]? with
  |none=>(18,π)
  |some f=>(0,{ π with ai:=π.ai.set i { f with pins:=f.pins-1 } })
def dirtOf (π:Pl)(n:Int)(aL:Nat): Nat:=match lookL n π.bI with
 |some x=>x.1
 |none=>aL
def oc (π:Pl)(n:Int)(b:List Nat)(aL:Nat): Int×Pl:=match heldI π n with
 |none=>(18,π)
 |some i=>match π.ai[i]? with
  |none=>(18,π)
  |some f=>if cH b=false then(4,π) else(0,{ π with ai:=π.ai.set i { f with b:=dW b aL,changed:=true },bI:=dM n (dirtOf π n aL,true) π.bI })
def fS (ε:bn)(n:Int): Int×bn:=match lookL n ε.1.aM with
 |none=>(18,ε)
 |some i=>outF ε i.toNat
section
variable {told:bU} {p:Nat} {v:V} {m:List Fm}
theorem ID {n:Int}{j:Nat}(s:Sat h (LS wh π.aM::S)): (lookL n π.aM=none/\eO prog h 213 wh (.int .i64 n) true=some (.aR [.int .i64 0,.bool false])) \/
  ∃i,lookL n π.aM=some i/\eO prog h 213 wh (.int .i64 n) true=some (.aR [.int .i64 i,.bool true]):=by
 grind[lC,bg.pu,underlying213,underlying3,EG,j4]
theorem IE {n:Int}(s:Sat h (GW di π.bI::S)): (lookL n π.bI=none/\eO prog h 215 di (.int .i64 n) true=some (.aR [.agg [.int .u64 0,.bool false],.bool false])/\eO prog h 215 di (.int .i64 n) false=some (.agg [.int .u64 0,.bool false])) \/
  ∃x,lookL n π.bI=some x/\eO prog h 215 di (.int .i64 n) true=some (.aR [.agg [.int .u64 (x.1:Int),.bool x.2],.bool true])/\eO prog h 215 di (.int .i64 n) false=some (.agg [.int .u64 (x.1:Int),.bool x.2]):=by
 grind[lC,bg.pu,underlying215,underlying3,AU,j4]
theorem Pm (hT:W told){n:Int}(s:Sat h (pt r (.cells 6 (tf p q cR π.ai.length wh di π.hand) false)::fA cR π.ai::LS wh π.aM::S))(J:π.Ok):
  Call ⟨prog,told⟩ 168 [.ptr r 0,.int .i64 n] h λv h'=>h'=h/\((heldI π n=none/\v=.aR [.aW,.int .i64 18])\/∃(i:Nat) (f:Fm),heldI π n=some i/\π.ai[i]?=some f/\v=.aR [.ptr cR (i*5),.int .i64 0]):=by
 refine Call.of_wp (hT.free _ U) func168 U U (zK 9 U (zY s 0 uj AT U (zm U ?_)));rcases ID (n:=n) (j:=0) (s.ae [2]) with⟨g1,g2⟩|⟨i,g1,g2⟩
 .exact aq.op U U U (e_ U U g2)<|zk 10 U (zt U (cI U U) U (zk 18 U (WP.ret ⟨aa,_,U,U,.inl ⟨by simp only[heldI,g1],U⟩⟩)))
 .obtain⟨i,f,rfl,hf⟩:=J.at g1;have hl:=(List.getElem?_eq_some_iff.1 hf).1;have hh:heldI π n=if f.pins=0 then none else some i:=by grind[heldI]
  obtain⟨pre,fv,post,I,hlen,s'⟩:=jX (s.ae [1]) hf;refine zo U (e_ U U g2) (zk 10 U (zh U (cI U U) U (zk 3 U (zY s 0 mG qY U (zm U (zo U (aJ _ U U (n_ (i:=i) hl)) (zf U (uk _ _) (zl U (s'.ld 0 U cW (jD I U))<|zd U (ag U U bH) ?_ ?_))))))))
  .intro hq;have hq:f.pins=0:=Q;exact zk 8 U (WP.ret ⟨aa,_,U,U,.inl ⟨Q,U⟩⟩)
  .intro hq;have hq:f.pins≠0:=Q;exact zk 8 U (zY s 0 mG qY U (zm U (zo U (aJ _ U U (n_ (i:=i) hl)) (zk 3 U (zR U ⟨U,.inr ⟨i,f,Q,hf,U⟩⟩)))))
theorem LV (hT:W told){n:Int}(s:Sat h (dx r p q π::S))(J:π.Ok):
  Call ⟨prog,told⟩ 95 [.ptr r 0,.int .i64 n] h λv h'=>v=.int .i64 (unpinF π n).1/\Sat h' (dx r p q (unpinF π n).2::S):=by
 have s0:=s;obtain⟨cR,wh,di,s⟩:=dy.1 s;refine Call.of_wp (hT.free _ U) func95 U U (zK 8 U (zc U (Pm (n:=n) hT s J) ?_));rintro v h' ⟨rfl,(⟨hh,rfl⟩|⟨i,f,hh,hf,rfl⟩)⟩
 .have he:unpinF π n=(18,π):=by simp only[unpinF,hh]
  rw[he];exact zk 10 U (zB U aE U (zk 7 U (WP.ret ⟨aa,_,U,U,s0⟩)))
 .have he:unpinF π n=(0,{ π with ai:=π.ai.set i { f with pins:=f.pins-1 } }):=by simp only[unpinF,hh,hf]
  rw[he];obtain⟨pre,fv,post,I,hlen,s⟩:=jX (s.ae [1]) hf;have IF:=J.pins f (bz hf);refine zk 10 U (zC U aE U (zk 7 U (zf U (uk _ _) (zl U (s.ld 0 U cW (jD I U)) (zb U (by exact gz ay)<|zn U (zf U (uk _ _) (zS U (s.stM (k:=0) (j:=2) U kr I hlen (by simp[g_]) U U) λh s=>?_)))))));have e5:(g_ f fv).set 2 (.int .i64 (f.pins-1))=g_ { f with pins:=f.pins-1 } fv:=rfl;rw[e5] at s;refine zk 5 U (zR U ⟨U,dy.2 ⟨cR,wh,di,?_⟩⟩);have s:=iq (i:=i) (f':={ f with pins:=f.pins-1 }) s U hf I;rw[ff];exact s.ae [1,0]
theorem aa8 (hT:W told){n:Int}(s:Sat h (dx r p q π::X::S))(hX:cQ X (cT bv b))(W8:π.Ok)(hb:b.length<9223372036854775808):
  Call ⟨prog,told⟩ 108 [.ptr r 0,.int .i64 n,bv,.int .u64 (aL:Int)] h λv h'=>v=.int .i64 (oc π n b aL).1/\Sat h' (dx r p q (oc π n b aL).2::X::S):=by
 have s0:=s;obtain⟨cR,wh,di,s⟩:=dy.1 s;refine Call.of_wp (hT.free _ U) func108 U U (zK 8 U (zc U (Pm (n:=n) hT s W8) ?_));rintro v h' ⟨rfl,(⟨hh,rfl⟩|⟨i,f,hh,hf,rfl⟩)⟩
 .have he:oc π n b aL=(18,π):=by simp only[oc,hh]
  rw[he];exact zk 10 U (zB U aE U (zk 7 U (WP.ret ⟨aa,_,U,U,s0⟩)))
 .have he:oc π n b aL=(if cH b=false then(4,π) else(0,{ π with ai:=π.ai.set i { f with b:=dW b aL,changed:=true },bI:=dM n (dirtOf π n aL,true) π.bI })):=by simp only[oc,hh,hf]
  rw[he];refine zk 10 U (zC U aE U (zk 7 U (zc U (aa0 (n:=aL) hT (s.ae [4]) hX hb) ?_)));rintro v h (⟨hg,u,rfl,s⟩|⟨hg,rfl,s⟩)
  .rw[ax Q];have hul:(dW b aL).length=512:=by
    grind[A1,iU,dW,dH,dI]
   obtain⟨J,_,cap,_,rfl,_⟩:=s.g8 Y;have s:=s.ic;obtain⟨pre,fv,post,I,hlen,s⟩:=jX (s.ae [3]) hf;refine zk 10 U (zC U aE U (zk 9 U (zf U (DZ _ _) (zS U (s.stM (k:=0) (j:=1) U jN I hlen (by simp[g_]) U U) λh s=>zn U (zf U (Iu _ _) (zS U (s.stM (k:=0) (j:=4) U BB I Q (by simp[g_]) U U) λh s=>?_))))));have e5:((g_ f fv).set 1 (.sl J 0 (dW b aL).length cap)).set 4 (.bool true)=g_ { f with b:=dW b aL,changed:=true } (.sl J 0 (dW b aL).length cap):=rfl;rw[e5] at s;have s:=iq (i:=i) (f':={ f with b:=dW b aL,changed:=true }) (s.ae [0,0,1]) U hf I;have s:=s.ae [3,4,0];refine zk 5 U (zY s 0 oJ uN U (zm U ?_));rcases IE (n:=n) (s.ae [1]) with⟨g1,g2,_⟩|⟨x,g1,g2,_⟩
   .refine aq.op U U U (e_ U U g2)<|zk 3 U<|aq.bG s U U U (bK AU) (λp12 h s=>(zS U (s.dS (j:=0) U yp U U) (λh s=>(zk 6 U (zo U (cI U U) (zk 4 U (zf U (Ir _ _)<|zS U (by exact s.cS (k:=0) U gL U O U U) (λh s=>(zk 3 U (zf U (Is _ _)<|zS U (by exact s.cS (k:=0) U BB U O U U) (λh s=>(zk 2 U (WP.drawn [af,af,af,af,af,af,af] U bo bo<|zM U (zN U (zF U (oJ _ _) (zL U (s.ld 1 U uN U) (zM U (zL U (s.bW (k:=0) U QL yp) (ah.cy U U U (OpR.mapUpdate U U U U (nZ (f:=λv (x:Nat×Bool)=>.pu (v=.agg [.int .u64 (x.1:Int),.bool x.2])) (x:=(aL,true)) (λ_ _=>bg.pu _) ((s.ae [2]).eF U) u9 bB)) λw h s=>ah.nil ⟨(dq 8),zK 4 U (zR U ?_)⟩)))))))))))))))))));have ed:dirtOf π n aL=aL:=by simp only[dirtOf,g1]
    rw[ed];refine⟨U,dy.2 ⟨cR,wh,di,?_⟩⟩;have e6:(π.ai.set i { f with b:=dW b aL,changed:=true }).length=π.ai.length:=ff;show Sat h (pt r (.cells 6 (tf p q cR (π.ai.set i { f with b:=dW b aL,changed:=true }).length wh di π.hand) false)::_);rw[e6];exact((s.ae [2,2,4,0,2]).del 6).del 5
   .skip;refine zo U (e_ U U g2) (zk 3 U<|aq.bG s U U U (bK AU) (λp12 h s=>(zS U (s.dS (j:=0) U yp U U) (λh s=>(zk 6 U (zo U (cI U U) (zk 5 U (zf U (Is _ _)<|zS U (by exact s.cS (k:=0) U BB U O U U) (λh s=>(zk 2 U (WP.drawn [af,af,af,af,af,af,af] U bo bo<|zM U (zN U (zF U (oJ _ _) (zL U (s.ld 1 U uN U) (zM U (zL U (s.bW (k:=0) U QL yp) (ah.cy U U U (OpR.mapUpdate U U U U (nZ (f:=λv (x:Nat×Bool)=>.pu (v=.agg [.int .u64 (x.1:Int),.bool x.2])) (x:=(x.1,true)) (λ_ _=>bg.pu _) ((s.ae [2]).eF U) u9 bB)) λw h s=>ah.nil ⟨(dq 8),zK 4 U (zR U ?_)⟩)))))))))))))))));have ed:dirtOf π n aL=x.1:=by simp only[dirtOf,g1]
    rw[ed];refine⟨U,dy.2 ⟨cR,wh,di,?_⟩⟩;have e6:(π.ai.set i { f with b:=dW b aL,changed:=true }).length=π.ai.length:=ff;show Sat h (pt r (.cells 6 (tf p q cR (π.ai.set i { f with b:=dW b aL,changed:=true }).length wh di π.hand) false)::_);rw[e6];exact((s.ae [2,2,4,0,2]).del 6).del 5
  .rw[bk hg];exact zk 10 U (zB U aE U (zk 7 U (WP.ret ⟨aa,_,U,U,dy.2 ⟨cR,wh,di,s.ae [1,1,1,1,0]⟩⟩)))
theorem TH (hT:W told){n:Int}(s:Sat h (dx r p q π::bD q p μ::aS p δ::S))(I:π.Ok)(J:μ.Ok)(Cx:δ.Ok)(hw:δ.waiting.length<=268435456):
  Call ⟨prog,told⟩ 116 [.ptr r 0,.int .i64 n] h λv h'=>v=.int .i64 (fS (π,μ,δ) n).1 /\
   Sat h' (dx r p q (fS (π,μ,δ) n).2.1::bD q p (fS (π,μ,δ) n).2.2.1::aS p (fS (π,μ,δ) n).2.2.2::S):=by
 have s0:=s;obtain⟨cR,wh,di,s⟩:=dy.1 s;refine Call.of_wp (hT.free _ U) func116 U U (zK 8 U (zY s 0 uj AT U (zm U ?_)));rcases ID (n:=n) (j:=0) (s.ae [2]) with⟨g1,g2⟩|⟨i,g1,g2⟩
 .have he:fS (π,μ,δ) n=(18,(π,μ,δ)):=by simp only[fS,g1]
  rw[he];exact zo U (e_ U U g2) (zk 10 U (zo U (cI U U) (zk 6 U (WP.ret ⟨aa,_,U,U,s0⟩))))
 .obtain⟨i,f,rfl,hf⟩:=I.at g1;have hl:=(List.getElem?_eq_some_iff.1 hf).1;have he:fS (π,μ,δ) n=outF (π,μ,δ) i:=by grind[fS]
  rw[he];refine zo U (e_ U U g2) (zk 10 U (zo U (cI U U) (zk 8 U (zY s 0 mG qY U (zm U (zo U (aJ _ U U (n_ (i:=i) hl)) (zc U (TG hT s hf J Cx (by have:=I.len f (bz hf);omega) hw) ?_)))))));rintro v h ⟨rfl,s⟩;exact zk 2 U (zR U ⟨U,dy.2 ⟨cR,wh,di,s⟩⟩)
theorem ady (hT:W told){n:Int}(s:Sat h (dx r p q π::S)): Call ⟨prog,told⟩ 172 [.ptr r 0,.int .i64 n] h λv h'=>v=.aR [.int .u64 (dirtOf π n 0:Nat),.bool (lookL n π.bI).isSome]/\Sat h' (dx r p q π::S):=by
 obtain⟨cR,wh,di,s⟩:=dy.1 s;refine Call.of_wp (hT.free _ U) func172 U U (zK 9 U (zY s 0 oJ uN U (zm U ?_)));rcases IE (n:=n) (s.ae [3]) with⟨I,J,_⟩|⟨x,I,J,_⟩
 .exact aq.op U U U (e_ U U J)<|zk 3 U<|aq.bG s U U U (bK AU) (λp6 h s=>(zS U (s.dS (j:=0) U yp U U) (λh s=>(zk 4 U (zY s 0 Ir b8 U (zk 4 U (zR U ⟨by simp only[dirtOf,I];rfl,dy.2 ⟨cR,wh,di,s.drop⟩⟩)))))))
 .skip;exact zo U (e_ U U J) (zk 3 U<|aq.bG s U U U (bK AU) (λp6 h s=>(zS U (s.dS (j:=0) U yp U U) (λh s=>(zk 4 U (zY s 0 Ir b8 U (zk 4 U (zR U ⟨by simp only[dirtOf,I];rfl,dy.2 ⟨cR,wh,di,s.drop⟩⟩))))))))
def fD : Fm:=⟨-1,[],0,false,false⟩
def eo (π:Pl)(i:Nat)(f:Fm): Pl:={ π with ai:=π.ai.set i fD,aM:=if f.bA<0 then π.aM else nX f.bA π.aM }
def j8 (π:Pl)(i:Nat)(n:Int)(b:List Nat): Pl:={ π with ai:=π.ai.set i ⟨n,b,1,true,false⟩,aM:=dM n (i:Int) π.aM }
inductive gP (ε:bn)(n:Int): Int->List Nat->bn->Prop where
 |arg (h:¬(0<=n/\n<ε.2.2.aU.length)):gP ε n 1 [] ε
 |Cy (i:Nat) (f:Fm) (h1:0<=n) (h2:n<ε.2.2.aU.length) (hl:lookL n ε.1.aM=some (i:Int)) (hf:ε.1.ai[i]?=some f):gP ε n 0 f.b ({ ε.1 with ai:=ε.1.ai.set i { f with gS:=true,pins:=f.pins+1 } },ε.2)
 |out (cu:Pl) (i:Nat) (f:Fm) (h1:0<=n) (h2:n<ε.2.2.aU.length) (hl:lookL n ε.1.aM=none) (hn:gO ε.1 cu) (hf:cu.ai[i]?=some f) (hh:cu.hand<cu.ai.length) (he:(outF (cu,ε.2) i).1≠0):gP ε n (outF (cu,ε.2) i).1 [] (outF (cu,ε.2) i).2
 |read (cu:Pl) (i:Nat) (f:Fm) (h1:0<=n) (h2:n<ε.2.2.aU.length) (hl:lookL n ε.1.aM=none) (hn:gO ε.1 cu) (hf:cu.ai[i]?=some f) (hh:cu.hand<cu.ai.length) (he:(outF (cu,ε.2) i).1=0)
   (hr:(outF (cu,ε.2) i).2.2.2.uO n≠0):gP ε n ((outF (cu,ε.2) i).2.2.2.uO n) [] (eo (outF (cu,ε.2) i).2.1 i f,(outF (cu,ε.2) i).2.2)
 |bad (cu:Pl) (i:Nat) (f:Fm) (h1:0<=n) (h2:n<ε.2.2.aU.length) (hl:lookL n ε.1.aM=none) (hn:gO ε.1 cu) (hf:cu.ai[i]?=some f) (hh:cu.hand<cu.ai.length) (he:(outF (cu,ε.2) i).1=0)
   (hr:(outF (cu,ε.2) i).2.2.2.uO n=0) (hc:jt ((outF (cu,ε.2) i).2.2.2.at n)≠0):gP ε n (jt ((outF (cu,ε.2) i).2.2.2.at n)) [] (eo (outF (cu,ε.2) i).2.1 i f,(outF (cu,ε.2) i).2.2)
 |load (cu:Pl) (i:Nat) (f:Fm) (h1:0<=n) (h2:n<ε.2.2.aU.length) (hl:lookL n ε.1.aM=none) (hn:gO ε.1 cu) (hf:cu.ai[i]?=some f) (hh:cu.hand<cu.ai.length) (he:(outF (cu,ε.2) i).1=0)
   (hr:(outF (cu,ε.2) i).2.2.2.uO n=0) (hc:jt ((outF (cu,ε.2) i).2.2.2.at n)=0):gP ε n 0 ((outF (cu,ε.2) i).2.2.2.at n) (j8 (eo (outF (cu,ε.2) i).2.1 i f) i n ((outF (cu,ε.2) i).2.2.2.at n),(outF (cu,ε.2) i).2.2)
theorem Fy (h:ε.2.2.Ok): (outF ε i).2.2.2.Ok:=by
 unfold outF;split
 .exact h
 .split
  .exact h
  .split
   .exact h
   .split
    .exact qq h
    .split
     .exact(qq h).dY
     .exact(qq h).dY
theorem W9 (h:ε.2.1.Ok): (outF ε i).2.2.1.Ok:=by
 grind[outF,yT]
theorem qt (I:ε.1.ai[i]?=some f): ∃c,(outF ε i).2.1.ai[i]?=some { f with changed:=c }:=by
 have J:=(List.getElem?_eq_some_iff.1 I).1;unfold outF;rw[I];dsimp only;split
 .exact⟨f.changed,I⟩
 .split
  .exact⟨f.changed,I⟩
  .split
   .exact⟨f.changed,I⟩
   .split
    .exact⟨f.changed,I⟩
    simp_all
set_option maxHeartbeats 1000000 in
theorem TI (hT:W told){n:Int}(s:Sat h (dx r p q π::bD q p μ::aS p δ::S))(W8:π.Ok)(IF:∀f∈π.ai,f.pins=0)(BN:μ.Ok)(Cx:δ.Ok)(hw:δ.waiting.length<=268435456):
  Call ⟨prog,told⟩ 94 [.ptr r 0,.int .i64 n] h λv h'=>∃(e:Int) (b:List Nat) (ε:bn),gP (π,μ,δ) n e b ε /\
   ((e≠0/\v=.aR [.aP,.int .i64 e]/\Sat h' (dx r p q ε.1::bD q p ε.2.1::aS p ε.2.2::S))\/(e=0/\∃u,v=.aR [u,.int .i64 0]/\Sat h' (bu u b::dx r p q ε.1::bD q p ε.2.1::aS p ε.2.2::S))):=by
 have s0:=s;obtain⟨cR,wh,di,s⟩:=dy.1 s;refine Call.of_wp (hT.free _ U) func94 U U (zK 9 U<|zd U (ag U U aG) ?_ ?_)
 .intro hq;have hq:n<0:=Q;exact zk 16 U (WP.ret ⟨aa,_,U,1,[],(π,μ,δ),.arg (λq=>Y),.inl ⟨O,U,s0⟩⟩)
 .intro hq;have hq:0<=n:=Q;refine zk 4 U (zY s 0 Ap kU U (zc U (Fv hT (s.ae [5])) ?_));rintro v h' ⟨rfl,rfl⟩;refine zd U (ag U U dO) ?_ ?_
  .intro iM;have iM:¬ n<δ.aU.length:=Q;exact zk 8 U (WP.ret ⟨aa,_,U,1,[],(π,μ,δ),.arg (λq=>iM q.2),.inl ⟨O,U,s0⟩⟩)
  .intro iM;have iM:n<δ.aU.length:=Q;refine zk 9 U (zY s 0 uj AT U (zm U ?_));rcases ID (n:=n) (j:=0) (s.ae [2]) with⟨g1,g2⟩|⟨i,g1,g2⟩
   .refine aq.op U U U (e_ U U g2)<|zk 15 U (zc U (W7 hT s W8.hand (by have:=W8.many;omega) IF) ?_);rintro v h ⟨i,cu,f,rfl,th,hf,hh,s⟩;have hl:=(List.getElem?_eq_some_iff.1 hf).1;rw[<-th.aM,<-th.bI] at s;have hfb:f.b.length<=512:=by
     have h1:π.ai[i]?=some (π.ai[i]'(by have:=th.len;omega)):=aI _;generalize (π.ai[i]' Q)=f0 at h1;obtain⟨t,ht⟩:=th.get i f0 h1;rw[hf] at ht;have:=fY ht;rw[this];exact W8.len f0 (bz h1)
    refine zk 6 U (zC U aG (by rfl)<|zk 7 U (zY s 0 mG qY U (zm U (zo U (aJ _ U U (n_ (i:=i) hl)) (zk 7 U (zc U (TG (π:=cu) hT s hf BN Cx Y hw) ?_))))));rintro v h ⟨rfl,s⟩;obtain⟨c,GY⟩:=qt (ε:=(cu,μ,δ)) hf;have IG:=Fy (ε:=(cu,μ,δ)) (i:=i) Cx;refine zk 5 U ?_;by_cases he:(outF (cu,μ,δ) i).1=0
    .generalize ho:outF (cu,μ,δ) i=o at he s GY IG ⊢;obtain⟨oe,I,μ1,Cz⟩:=o;dsimp only at he s GY IG ⊢;subst he;have Pn:(outF (cu,μ,δ) i).1=0:=by rw[ho]
     have JD:(outF (cu,μ,δ) i).2=(I,μ1,Cz):=by rw[ho]
     refine zC U aE O ?_;obtain⟨pre,fv,post,J,hlen,s⟩:=jX (s.ae [1]) GY;refine zk 8 U (zf U (rX _ _) (zl U (s.ld 0 U cW (jD J U))<|zd U (ag U U dO) ?_ ?_))
     .intro ig;have ig:¬ f.bA<0:=Q;refine zk 2 U (WP.drawn [af,af,af,af,af,af,af,af,af] U bo bo<|zM U (zN U (zF U (uj _ _) (zL U (s.ld 3 U AT U) (zM U (zN U (zF U (rX _ _) (zL U (s.ld 0 U cW (jD J U)) (ah.cy U U U (OpR.delete U U U U (Fp (s.ae [4]) GG bB)) λv h s=>?_)))))))));have s:=s.ae [1,1,1,1,0];refine ah.nil ⟨(dq 10),zK 3 U (zo U (cE U (by rw[KE];rfl))<|zn U (zS U (s.TF (k:=0) (row':=g_ fD .aP) U Gz J hlen (by rfl) U) λh s=>?_))⟩;have KH:(pre++(g_ fD .aP++post)).length=I.ai.length*5:=by simpa[g_] using hlen
      have xq:(eo I i f).aM=nX f.bA I.aM:=by grind[eo]
      refine zk 5 U (zY s 3 Ap kU U (zm U (zc U (TE (n:=n) hT (s.ae [7]) IG) ?_)));rintro v h (⟨hr,rfl,s⟩|⟨hr,u,rfl,s⟩)
      .dsimp only[bringA,getA,aB] at s;refine zk 10 U (zB U aE Q<|zk 8 U (WP.ret ⟨aa,_,U,?_⟩));have s:=iq (i:=i) (f':=fD) (v':=.aP) (s.yu.ae [2,2,0]) U GY J;have e6:(I.ai.set i fD).length=I.ai.length:=ff;rw[<-e6,<-xq] at s;have s:=(dy (π:=eo I i f)).2 ⟨cR,wh,di,s.ae [3,0,2,2]⟩;have hR:=gP.read (ε:=(π,μ,δ)) cu i f hq iM g1 th hf hh Pn Q;rw[JD] at hR;exact⟨_,[],_,hR,.inl ⟨hr,U,(s.del 2).ae [0,1,0]⟩⟩
      .have afw:=IG.at n;obtain⟨Ar,_,cap,_,rfl,_⟩:=s.g8 Y;refine zk 10 U (zC U aE U (zk 7 U (zc U (LM hT s (bh _ _) Y) ?_)));rintro v h ⟨rfl,s⟩;refine zk 5 U ?_;by_cases hc:jt (Cz.at n)=0
       .skip;refine zC U aE Q ?_;have s:=s.ic.ae [2,2,0,2,2,2,2,0,0];refine zk 8 U (zo U (cE U (by rw[KE];rfl)) ?_);refine zn U (zS U (s.TF (k:=0) (row':=g_ ⟨n,Cz.at n,1,true,false⟩ (.sl Ar 0 (Cz.at n).length cap)) U Gz J KH (by rfl) U) ?_);refine λh s=>zk 5 U (zY s 3 uj AT U (zk 2 U (aq.cy U U (OpR.mapUpdate U U U U (nZ (f:=λv (x:Int)=>.pu (v=.int .i64 x)) (x:=(i:Int)) (λ_ _=>bg.pu _) ((s.ae [4]).eF U) GG bB)) λw h s=>zk 4 U (zc U (AY hT (s.ae [3]) (fX _ _) Y) λu h s=>zk 3 U (zR U ?_)))));have s:=iq (i:=i) (f':=⟨n,Cz.at n,1,true,false⟩) (s.ae [3,3,1]) U GY J;have e6:(I.ai.set i ⟨n,Cz.at n,1,true,false⟩).length=I.ai.length:=ff;have e7:(j8 (eo I i f) i n (Cz.at n)).ai=I.ai.set i ⟨n,Cz.at n,1,true,false⟩:=by simp[j8,eo]
        rw[<-e6,<-e7,<-xq] at s;have s:=(dy (π:=j8 (eo I i f) i n (Cz.at n))).2 ⟨cR,wh,di,s.ae [3,0,1,1]⟩;have hR:=gP.load (ε:=(π,μ,δ)) cu i f hq iM g1 th hf hh Pn Q Q;rw[JD] at hR;exact⟨_,_,_,hR,.inr ⟨U,u,U,(s.del 4).ae [1,0]⟩⟩
       .skip;refine zB U aE Q<|zk 8 U (WP.ret ⟨aa,_,U,?_⟩);have s:=s.drop;have s:=iq (i:=i) (f':=fD) (v':=.aP) (s.yu.ae [2,2,0]) U GY J;dsimp only[bringA,getA,aB] at s;have e6:(I.ai.set i fD).length=I.ai.length:=ff;rw[<-e6,<-xq] at s;have s:=(dy (π:=eo I i f)).2 ⟨cR,wh,di,s.ae [3,0,2,2]⟩;dsimp only[bringA,getA,aB] at s;have hR:=gP.bad (ε:=(π,μ,δ)) cu i f hq iM g1 th hf hh Pn Q Q;rw[JD] at hR;exact⟨_,[],_,hR,.inl ⟨hc,U,(s.del 2).ae [0,1,0]⟩⟩
     .intro ig;have ig:f.bA<0:=Q;refine zk 6 U (zo U (cE U (by rw[KE];rfl))<|zn U (zS U (s.TF (k:=0) (row':=g_ fD .aP) U Gz J hlen (by rfl) U) λh s=>?_));dsimp only[setA] at s;have KH:(pre++(g_ fD .aP++post)).length=I.ai.length*5:=by simpa[g_] using hlen
      have xq:(eo I i f).aM=I.aM:=by grind[eo]
      refine zk 5 U (zY s 3 Ap kU U (zm U (zc U (TE (n:=n) hT (s.ae [7]) IG) ?_)));rintro v h (⟨hr,rfl,s⟩|⟨hr,u,rfl,s⟩)
      .dsimp only[bringA,getA,aB] at s;refine zk 10 U (zB U aE Q<|zk 8 U (WP.ret ⟨aa,_,U,?_⟩));have s:=iq (i:=i) (f':=fD) (v':=.aP) (s.yu.ae [2,2,0]) U GY J;dsimp only[bringA,getA,aB] at s;have e6:(I.ai.set i fD).length=I.ai.length:=ff;rw[<-e6,<-xq] at s;have s:=(dy (π:=eo I i f)).2 ⟨cR,wh,di,s.ae [3,0,2,2]⟩;dsimp only[bringA,getA,aB] at s;have hR:=gP.read (ε:=(π,μ,δ)) cu i f hq iM g1 th hf hh Pn Q;rw[JD] at hR;exact⟨_,[],_,hR,.inl ⟨hr,U,(s.del 2).ae [0,1,0]⟩⟩
      .have afw:=IG.at n;obtain⟨Ar,_,cap,_,rfl,_⟩:=s.g8 Y;refine zk 10 U (zC U aE U (zk 7 U (zc U (LM hT s (bh _ _) Y) ?_)));rintro v h ⟨rfl,s⟩;refine zk 5 U ?_;by_cases hc:jt (Cz.at n)=0
       .skip;refine zC U aE Q ?_;have s:=s.ic.ae [2,2,0,2,2,2,2,0,0];dsimp only[bringA,getA,aB] at s;refine zk 8 U (zo U (cE U (by rw[KE];rfl)) ?_);refine zn U (zS U (s.TF (k:=0) (row':=g_ ⟨n,Cz.at n,1,true,false⟩ (.sl Ar 0 (Cz.at n).length cap)) U Gz J KH (by rfl) U) ?_);intro h s;dsimp only[setA] at s;refine zk 5 U (zY s 3 uj AT U (zk 2 U (aq.cy U U (OpR.mapUpdate U U U U (nZ (f:=λv (x:Int)=>.pu (v=.int .i64 x)) (x:=(i:Int)) (λ_ _=>bg.pu _) ((s.ae [4]).eF U) GG bB)) λw h s=>?_)));dsimp only[bringA,getA,aB] at s;refine zk 4 U (zc U (AY hT (s.ae [3]) (fX _ _) Y) λu h s=>?_);dsimp only[bringA,getA,aB] at s;refine zk 3 U (zR U ?_);have s:=iq (i:=i) (f':=⟨n,Cz.at n,1,true,false⟩) (s.ae [3,3,1]) U GY J;dsimp only[bringA,getA,aB] at s;have e6:(I.ai.set i ⟨n,Cz.at n,1,true,false⟩).length=I.ai.length:=ff;have e7:(j8 (eo I i f) i n (Cz.at n)).ai=I.ai.set i ⟨n,Cz.at n,1,true,false⟩:=by simp[j8,eo]
        rw[<-e6,<-e7,<-xq] at s;have s:=(dy (π:=j8 (eo I i f) i n (Cz.at n))).2 ⟨cR,wh,di,s.ae [3,0,1,1]⟩;dsimp only[bringA,getA,aB] at s;have hR:=gP.load (ε:=(π,μ,δ)) cu i f hq iM g1 th hf hh Pn Q Q;rw[JD] at hR;exact⟨_,_,_,hR,.inr ⟨U,u,U,(s.del 4).ae [1,0]⟩⟩
       .skip;refine zB U aE Q<|zk 8 U (WP.ret ⟨aa,_,U,?_⟩);have s:=s.drop;have s:=iq (i:=i) (f':=fD) (v':=.aP) (s.yu.ae [2,2,0]) U GY J;dsimp only[bringA,getA,aB] at s;have e6:(I.ai.set i fD).length=I.ai.length:=ff;rw[<-e6,<-xq] at s;have s:=(dy (π:=eo I i f)).2 ⟨cR,wh,di,s.ae [3,0,2,2]⟩;dsimp only[bringA,getA,aB] at s;have hR:=gP.bad (ε:=(π,μ,δ)) cu i f hq iM g1 th hf hh Pn Q Q;rw[JD] at hR;exact⟨_,[],_,hR,.inl ⟨hc,U,(s.del 2).ae [0,1,0]⟩⟩
    .skip;exact zB U aE Q<|zk 8 U (WP.ret ⟨aa,_,U,_,[],_,.out cu i f hq iM g1 th hf hh he,.inl ⟨he,U,dy.2 ⟨cR,wh,di,s⟩⟩⟩)
   .obtain⟨i,f,rfl,hf⟩:=W8.at g1;have hl:=(List.getElem?_eq_some_iff.1 hf).1;obtain⟨pre,fv,post,J,hlen,s⟩:=jX (s.ae [1]) hf;have x_:=IF f (bz hf);have Jj:=W8.len f (bz hf);refine zo U (e_ U U g2) (zk 15 U (zY s 3 mG qY U (zm U (zo U (aJ _ U U (n_ (i:=i) hl)) (zk 6 U (zf U (It _ _) (zS U (s.stM (k:=0) (j:=3) U BB J hlen (by simp[g_]) U U) λh s=>?_)))))));dsimp only[setA] at s;refine zk 5 U (zf U (uk _ _) (zl U (s.ld 0 U cW (jD J U)) (zb U (by exact aT ay)<|zn U (zf U (uk _ _) (zS U (s.stM (k:=0) (j:=2) U kr J Q (by simp[g_]) U U) λh s=>?_)))));have e5:((g_ f fv).set 3 (.bool true)).set 2 (.int .i64 (f.pins+1))=g_ { f with gS:=true,pins:=f.pins+1 } fv:=rfl;rw[e5] at s;refine zk 5 U (zf U (DZ _ _) (zl U (s.ld 0 U cF (jD J U)) (zc U (AY hT (s.ae [2]) (fX _ _) Y) λu h s=>zk 3 U (WP.ret ⟨aa,_,U,?_⟩))));have s:=iq (i:=i) (f':={ f with gS:=true,pins:=f.pins+1 }) (s.ae [2,2,1]) U hf J;refine⟨0,f.b,_,.Cy i f hq iM g1 hf,.inr ⟨U,u,U,?_⟩⟩;have e6:(π.ai.set i { f with gS:=true,pins:=f.pins+1 }).length=π.ai.length:=ff;rw[<-e6] at s;exact((dy (π:={ π with ai:=π.ai.set i { f with gS:=true,pins:=f.pins+1 } })).2 ⟨cR,wh,di,s.ae [2,0,1,1]⟩).ae [1,0]
end
def GZ : Fm:=⟨0,[],0,false,false⟩
def Pl.fresh (n:Nat): Pl:=⟨List.replicate n fD,[],[],0⟩
theorem aa9 : ∃i,prog.info? 230=some i/\i.size=5/\i.bytes=48 :=
 ⟨_,(show prog.info? 230=some ((prog.info? 230).getD default) by kernel_rfl),bo,bo⟩
theorem W_ {a b:PM}: ∀n:Nat,(xC (repeatL [.int .i64 0,.aP,.int .i64 0,.bool false,.bool false] n) (List.replicate n GZ)).p a b:=by
 intro n;induction n with
 |zero=>trivial
 |succ n I=>exact⟨⟨⟨U,U,U,U⟩,⟨(by intro b J;cases J),.inl ⟨.inl U,U⟩⟩⟩,I⟩
section
variable {told:bU} {p:Nat} {v:V} {m:List Fm}
noncomputable def pnL : Code:=aV [1,1,1,0,1,0,0] ((Tryz.f64.body).getD .skip)
theorem TJ (hn:n<4294967296): ∀(j i:Nat) (m:List Fm) (h:H) (E:List (Nat×V)) (a8:Ex->List (Nat×V)->H->Prop),i+j=n->m=List.replicate i fD++List.replicate j GZ ->
  Sat h (pt r (.cells 6 (tf p q cR n wh di 0) false)::fA cR m::S)->Has E [(8,.ptr r 0),(28,.int .i64 n),(29,.int .i64 i)] ->
  (∀E' h',Has E' [(8,.ptr r 0)]->Sat h' (pt r (.cells 6 (tf p q cR n wh di 0) false)::fA cR (List.replicate n fD)::S)->a8 (.exit 0) E' h')->WP ⟨prog,told⟩ 41 (.loop pnL) E h a8:=by
 intro j;induction j with
 |zero =>
  refine λi m h E a8 hi hm s J hx=>WP.loop (WP.has J (zg U (zC U aG Q<|zk 3 U (WP.exit (hx _ _ ⟨U,aa⟩ ?_)))));rw[hm] at s;have:i=n:=Y;subst this;simpa using s
 |succ j ih =>
  intro i m h E a8 hi hm s J hx;have EM:m.length=n:=Q;have hf:m[i]?=some GZ:=Q;obtain⟨pre,fv,post,I,hlen,s⟩:=jX (s.ae [1]) hf;refine WP.loop (WP.has J (zg U (zB U aG Q<|zk 5 U (WP.block (zK 8 U (zY s 3 mG qY U (zm U (zo U (aJ _ U U (n_ (i:=i) Y))<|zf U (rX _ _) (zS U (s.stM (k:=0) (j:=0) U kr I hlen (by simp[g_]) U U) λh s=>?_)))))))));dsimp only[setA] at s;have e5:(g_ GZ fv).set 0 (.int .i64 (-1))=g_ fD fv:=rfl;rw[e5] at s;refine zv (zr U (zb U (by exact aT ay)<|zm U (zv ?_)));have s:=iq (i:=i) (f':=fD) s U hf I;refine ih (i+1) (m.set i fD) h _ a8 Y ?_ (s.ae [1,0]) ⟨U,U,U,aa⟩ hx;rw[hm,List.set_append_right _ _ cb,lF,Dz,List.replicate_succ,List.set_cons_zero,List.replicate_succ',gX];rfl
theorem aa_ (hT:W told){n:Int}(s:Sat h S): Call ⟨prog,told⟩ 64 [.ptr p 0,.ptr q 0,.int .i64 n] h λv h' =>
  (¬(1<=n/\n<=1024)/\v=.aR [.aW,.int .i64 1]/\Sat h' S)\/(1<=n/\n<=1024/\∃r,v=.aR [.ptr r 0,.int .i64 0]/\Sat h' (dx r p q (Pl.fresh n.toNat)::S)):=by
 refine Call.of_wp (hT.free _ U) func64 U U (zK 9 U<|zd U (ag U U aG) ?_ ?_)
 .intro J;have J:n<1:=Q;exact zk 11 U (WP.ret ⟨aa,_,U,.inl ⟨λq=>Y,U,s⟩⟩)
 .intro J;have J:1<=n:=Q;refine zk 2 U<|zd U (ag U U dc) ?_ ?_
  .intro I;have I:1024<n:=Q;exact zk 8 U (WP.ret ⟨aa,_,U,.inl ⟨λq=>Y,U,s⟩⟩)
  .intro I;have I:n<=1024:=Q;obtain⟨n,rfl⟩:∃k:Nat,n=k:=⟨n.toNat,Y⟩;refine zk 9 U ?_;obtain⟨i1,gD,fH,gu⟩:=aa9;obtain⟨id,h1,e1,s1⟩:=Ck (P:=prog) s Cn gD afg fH Y U O (n:=n) Y;refine aq.any U U U (OpR.of (R:=λv h'=>v=.sl id 0 n (.exact n)/\h'=h1) (uL U U e1) ⟨U,U⟩) ?_;rintro v h ⟨rfl,rfl⟩;have s:Sat h (fA id (List.replicate n GZ)::S):=lE.2 ⟨_,by rw[lF];exact((s1.eF (φ:=True) aa).iX λa b _=>W_ n).ae [1]⟩;refine aq.Cg s U U U U (λp20 h s=>(aq.Cg s U U U U (λp21 h s=>(zo U (cE U (by rw[afd];rfl))<|aq.bG s U U U (c7 U U) (λp23 h s=>(zk 7 U (zY s 0 mG qY U (zo U (aO U U U (ur U Cn)) (zk 2 U (WP.block ?_))))))))));have s:=uy (f:=λv (x:Nat×Bool)=>.pu (v=.agg [.int .u64 (x.1:Int),.bool x.2])) (s.ae [1]);have s:=uy (f:=λv (x:Int)=>.pu (v=.int .i64 x)) (s.ae [2]);have s:=s.ae [2,2,0,0];refine TJ (n:=n) Y n 0 _ _ _ _ Y U s ⟨U,U,U,aa⟩ (λE' h' fg s'=>(WP.has fg (zK 6 U (zR U<|.inr ⟨J,I,_,U,(dy (π:=Pl.fresh n)).2 ⟨id,.map p20,.map p21,?_⟩⟩))));have e6:(Pl.fresh n).ai.length=n:=by simp[Pl.fresh]
   rw[e6];exact s'
end
theorem TK : ∀ {l:cg} {b:Nat},eU c b l->bornUp c b (l.map ou)=true:=by
 intro l;induction l with
 |nil=>intro b _;rfl
 |cons e l I =>
  intro b h;obtain⟨h1,h2,J⟩:=h<;>grind[g9,bornUp,Nat.blt,aN]
theorem Rb : ∀ {l:cg},(∀e∈l,(Lit.int .i64 e.1).wf=true)->keyInts (l.map ou)=some (l.map (·.1)):=by
 intro l;induction l<;>grind[g9,keyInts]
theorem N_ {x:Int}: ∀ {l:List Int},l.Pairwise (· < ·)->x∉l->(insI x l).Pairwise (· < ·):=by
 intro l;induction l<;>grind[insI,List.pairwise_cons,B_]
theorem Oa : ∀ {l:List Int},l.Nodup->(oQ l).Pairwise (· < ·):=by
 intro l;induction l with
 |nil=>intro _;exact List.Pairwise.nil
 |cons x l I =>
  intro h;simp only[Dw] at h;exact N_ (I h.2) (λJ=>h.1 ((fB l).mem_iff.1 J))
theorem Xa : ∀ {l:List Int},l.Pairwise (· < ·)->uZ l=true:=by
 intro l;induction l<;>grind[List.pairwise_cons,uZ]
section
variable {f:V->α->aH} {told:bU} {mv:V} {m:List (Int×α)} {b:Nat}
theorem Xb (I:W told)(s:Sat h S): Call ⟨prog,told⟩ 115 [.map id] h λv h'=>∃b,v=.fn (.func 187) [] [.ptr b 0]/\Sat h' (pt b (.cells 1 [.map id] false)::S):=by
 exact Call.of_wp (I.free _ U) func115 U U (zg U<|aq.bG s U U U (c7 U U) (λp1 h s=>(zk 4 U (zo U (uK U U) (zk 2 U (zR U ⟨_,U,s⟩))))))
theorem Xc (I:W told)(s:Sat h S): Call ⟨prog,told⟩ 181 [.map id] h λv h'=>∃b,v=.fn (.func 218) [] [.ptr b 0]/\Sat h' (pt b (.cells 1 [.map id] false)::S):=by
 exact Call.of_wp (I.free _ U) func181 U U (zg U<|aq.bG s U U U (c7 U U) (λp1 h s=>(zk 4 U (zo U (uK U U) (zk 2 U (zR U ⟨_,U,s⟩))))))
def bj (m:List (Int×α)): List Int:=oQ (m.map (·.1))
theorem jF {n:Int}: n∈bj m↔n∈m.map (·.1):=(fB _).mem_iff
theorem Xd (l:List Int): (d_ l).all storable=true:=by simp[d_,storable]
theorem ve (hT:W told)(s:Sat h (pt b (.cells 1 [mv] false)::ux f mv m::S))(hg:AD D6 g=true)(hm:m.length<=1048576)(hk:∀n∈m.map (·.1),(Lit.int .i64 n).wf=true):
  Call ⟨prog,told⟩ 106 [.fn (.func g) [] [.ptr b 0]] h λv h'=>Sat h' (.arr 1 v (d_ (bj m))::pt b (.cells 1 [mv] false)::ux f mv m::S):=by
 obtain⟨id,l,c,rfl,hb,hn,s1⟩:=j6.1 (s.ae [1]);have s1:Sat h (uw id l c::fQ f l m::pt b (.cells 1 [.map id] false)::S):=s1;obtain⟨q1,q2,q3,q4,q5⟩:=s1.at (k:=1) U;have I:=qn q5;have hlen:l.length=m.length:=by have:=gY List.length I;simpa using this
 have vC:=s1.row (k:=0) U;have agI:=s1.row (k:=2) U;have nj:∀e∈l,(Lit.int .i64 e.1).wf=true:=λe he=>hk e.1 Q;have hri:uZ (oQ (l.map (·.1)))=true:=Xa (Oa Q);have J:∃v h',toldSorted D6 [.fn (.func g) [] [.ptr b 0]] h=some (v,h')/\Sat h' (.arr 1 v (d_ (bj m))::pt b (.cells 1 [.map id] false)::ux f (.map id) m::S):=by
  simp only[toldSorted,agI,vC,cL,hg,TK hb,Rb nj,hri];rw[show(Nat.beq 1 1&&true&&true&&Nat.ble l.length 1048576)=true by simp_all,ak];cases hl:l.map (·.1) with
  |nil =>
   refine⟨_,_,U,?_⟩;have:bj m=[]:=by rw[bj,<-I,hl];rfl
   rw[this];exact s.jr
  |cons x xs =>
   refine⟨_,_,U,?_⟩;have e1:bj m=oQ (x::xs):=by rw[bj,<-I,hl]
   have e2:(oQ (x::xs)).length=(x::xs).length:=(fB _).length_eq;have e3:(x::xs).length=l.length:=Q;rw[e1,<-e3];refine(s.new (.cells (d_ (oQ (x::xs))).length (d_ (oQ (x::xs))) false)).iX λa r yn=>⟨Xd _,.inr ⟨h.next,(x::xs).length,.rest 1 0,(d_ (oQ (x::xs))).length,[],U,?_,?_,cb,U,U,U,U,cb⟩⟩
   .rw[fZ];exact yn
   .grind[d_]
 obtain⟨v,h',e1,e2⟩:=J;exact⟨v,h',eY.told hT.sorted func106 U e1,e2⟩
end
structure rz (ε:bn): Prop where
 pl:ε.1.Ok
 lg:ε.2.1.Ok
 dk:ε.2.2.Ok
theorem Xe (h:ε.1.Ok): (outF ε i).2.1.Ok:=by
 unfold outF;split
 .exact h
 .rename_i f J;have hm:=bz J;split
  .exact h
  .split
   .exact h
   .split
    .exact h
    .split
     .exact h
     .refine⟨by simp only[ff];exact h.hand,by simp only[ff];exact h.many,λe he=>by simp only[ff];exact h.aM e he,λg I=>?_,λg I=>?_⟩
      .rcases zE I with I|rfl
       .exact h.len g I
       .exact h.len f hm
      .rcases zE I with I|rfl
       .exact h.pins g I
       .exact h.pins f hm
theorem uA (h:rz ε): rz (outF ε i).2:=⟨Xe h.pl,W9 h.lg,Fy h.dk⟩
theorem EN {n:Int}: (δ.dY n b).2.waiting.length<=δ.waiting.length+1:=by
 unfold Dk.dY;split
 .simp
 .split
  .simp
  .split
   .exact z7 _
   .grind[Dk.wr]
theorem TL : (outF ε i).2.2.2.waiting.length<=ε.2.2.waiting.length+1:=by
 grind[outF,tc,EN]
theorem Ob {n:Int}(h:rz ε): rz (fS ε n).2:=by
 grind[fS,uA]
theorem LW {n:Int}: (fS ε n).2.2.2.waiting.length<=ε.2.2.waiting.length+1:=by
 grind[fS,TL]
def writeAllF : List Int->bn->Int×bn
 |[],ε=>(0,ε)
 |n::l,ε=>if (fS ε n).1≠0 then fS ε n else writeAllF l (fS ε n).2
section
variable {told:bU} {p:Nat} {v:V} {m:List Fm}
noncomputable def waL : Code:=aV [1,0,1,0,0] ((f56.body).getD .skip)
theorem Kl (hT:W told)(JE:ks.length<=1048576): ∀(j i:Nat) (ε:bn) (h:H) (E:List (Nat×V)) (a8:Ex->List (Nat×V)->H->Prop),i+j=ks.length->rz ε->ε.2.2.waiting.length+j<=268435456 ->
  Sat h (dx r p q ε.1::bD q p ε.2.1::aS p ε.2.2::.arr 1 kv (d_ ks)::S)->Has E [(0,.ptr r 0),(11,kv),(12,.int .i64 ks.length),(13,.int .i64 i)] ->
  ((writeAllF (ks.drop i) ε).1≠0->∀E' h',look E' 2=some (.int .i64 (writeAllF (ks.drop i) ε).1)->Sat h' (dx r p q (writeAllF (ks.drop i) ε).2.1::bD q p (writeAllF (ks.drop i) ε).2.2.1::aS p (writeAllF (ks.drop i) ε).2.2.2::S)->a8 .ret E' h') ->
  ((writeAllF (ks.drop i) ε).1=0->∀E' h',Sat h' (dx r p q (writeAllF (ks.drop i) ε).2.1::bD q p (writeAllF (ks.drop i) ε).2.2.1::aS p (writeAllF (ks.drop i) ε).2.2.2::S)->a8 (.exit 0) E' h') ->
  WP ⟨prog,told⟩ 24 (.loop waL) E h a8:=by
 intro j;induction j with
 |zero =>
  refine λi ε h E a8 hi I hw s hE J hx=>WP.loop (WP.has hE (zg U (zC U aG Q<|zk 3 U (WP.exit ?_))));rw[mA Y] at hx;exact hx U _ _ (s.del 3)
 |succ j ih =>
  intro i ε h E a8 hi I hw s hE J hx;have hn:ks[i]?=some (ks[i]' Y):=aI _;generalize (ks[i]' Y)=n at hn;have hc:(d_ ks)[i]?=some (.int .i64 n):=by simp[d_,hn]
  have oY:ks.drop i=n::ks.drop (i+1):=by
   grind[List.drop_eq_getElem_cons]
  rw[oY] at J hx;obtain⟨id,off,e1,e2⟩:=dB (P:=prog) s (k:=3) U hc dN kr;have agJ:=Ob (n:=n) I;have JF:=LW (ε:=ε) (n:=n);refine WP.loop (WP.has hE (zg U (zB U aG Q<|zk 5 U (WP.block (zg U (zo U (aJ (.ptr id off) U U e1) (zl U (e2 _ cW) (zk 6 U (zc U (TH (n:=n) hT s I.pl I.lg I.dk Y) ?_)))))))));rintro v h ⟨rfl,s⟩;simp only[writeAllF] at J hx;refine zk 5 U ?_;by_cases he:(fS ε n).1=0
  .skip;refine zC U aE Q<|zv (zj U (WP.skip (zr U (zb U (by exact aT ay)<|zm U (zv ?_)))));rw[ax Y] at J hx;exact ih (i+1) (fS ε n).2 h _ a8 Y agJ Y s ⟨U,U,U,U,aa⟩ J hx
  .skip;refine zB U aE Q<|zk 7 U (WP.ret ?_);rw[bk he] at J;exact J he _ _ U (s.del 3)
theorem Oc (I:W told)(s:Sat h (dx r p q π::bD q p μ::aS p δ::S))(J:rz (π,μ,δ))(hw:δ.waiting.length+π.aM.length<=268435456)(hm:π.aM.length<=1048576)(hk:∀n∈π.aM.map (·.1),(Lit.int .i64 n).wf=true):
  Call ⟨prog,told⟩ 56 [.ptr r 0] h λv h'=>v=.int .i64 (writeAllF (bj π.aM) (π,μ,δ)).1 /\
   Sat h' (dx r p q (writeAllF (bj π.aM) (π,μ,δ)).2.1::bD q p (writeAllF (bj π.aM) (π,μ,δ)).2.2.1::aS p (writeAllF (bj π.aM) (π,μ,δ)).2.2.2::S):=by
 obtain⟨cR,wh,di,s⟩:=dy.1 s;obtain⟨wid,rfl⟩:=Cl s (j:=2) U;have hl:(bj π.aM).length=π.aM.length:=by rw[bj,(fB _).length_eq,cL]
 refine Call.of_wp (I.free _ U) func56 U U (zK 9 U (zY s 0 uj AT U (zc U (Xb I s) ?_)));rintro v h ⟨b,rfl,s⟩;refine zc U (ve I (s.ae [0,2]) O hm hk) λkv h s=>zo U (aO U U U (s.fo ((bj π.aM).length) (j:=0) U (by simp[d_]) O dN))<|zk 2 U (WP.block ?_);have s:=dy.2 ⟨cR,.map wid,di,s.ae [3,3,2,2]⟩;have s:=(s.del 2).ae [0,1,1,0];refine Kl I (ks:=bj π.aM) Y (bj π.aM).length 0 (π,μ,δ) _ _ _ Y J Q s ⟨U,U,U,U,aa⟩ (λhe E' h' h2 s'=>?_) (λhe E' h' s'=>?_)
 .exact⟨aa,_,jk h2,U,s'⟩
 .rw[kj] at he s';rw[he];exact WP.has (F:=[]) aa (zK 4 U (zR U ⟨U,s'⟩))
end
def dirtC (π:Pl): List Int->List V
 |[]=>[]
 |n::l=>.int .i64 n::.int .u64 (dirtOf π n 0:Nat)::dirtC π l
theorem CA (π:Pl): ∀l:List Int,(dirtC π l).length=l.length*2:=by
 intro l;induction l<;>grind[dirtC]
theorem TM (π:Pl): ∀l m:List Int,dirtC π (l++m)=dirtC π l++dirtC π m:=by
 intro l m;induction l<;>grind[dirtC]
theorem JG : ∃i,prog.info? 210=some i/\i.size=2/\i.bytes=16 :=
 ⟨_,(show prog.info? 210=some ((prog.info? 210).getD default) by kernel_rfl),bo,bo⟩
section
variable {told:bU} {p:Nat} {v:V} {m:List Fm}
noncomputable def diL : Code:=aV [1,1,0,1,0,0] ((f111.body).getD .skip)
theorem dirty_loop (hT:W told)(JE:ks.length<=1048576): ∀(j i:Nat) (av:V) (h:H) (E:List (Nat×V)) (a8:Ex->List (Nat×V)->H->Prop),i+j=ks.length ->
  Sat h (.arr 2 av (dirtC π (ks.take i))::dx r p q π::.arr 1 kv (d_ ks)::S)->Has E [(0,.ptr r 0),(3,av),(17,kv),(18,.int .i64 ks.length),(19,.int .i64 i)] ->
  (∀I E' h',look E' 3=some I->Sat h' (.arr 2 I (dirtC π ks)::dx r p q π::S)->a8 (.exit 0) E' h') ->
  WP ⟨prog,told⟩ 37 (.loop diL) E h a8:=by
 intro j;induction j with
 |zero =>
  refine λi av h E a8 hi s hE hx=>WP.loop (WP.has hE (zg U (zC U aG Q<|zk 3 U (WP.exit ?_))));rw[kg Y] at s;exact hx _ _ _ U (s.del 2)
 |succ j ih =>
  intro i av h E a8 hi s hE hx;have hn:ks[i]?=some (ks[i]' Y):=aI _;generalize (ks[i]' Y)=n at hn;have hc:(d_ ks)[i]?=some (.int .i64 n):=by simp[d_,hn]
  have J:ks.take (i+1)=ks.take i++[n]:=by grind[List.take_add_one]
  obtain⟨id,off,e1,e2⟩:=dB (P:=prog) s (k:=2) U hc dN kr;refine WP.loop (WP.has hE (zg U (zB U aG Q<|zk 5 U (WP.block (zg U (zo U (aJ (.ptr id off) U U e1) (zl U (e2 _ cW) ?_)))))));obtain⟨cR,wh,di,s⟩:=dy.1 (s.ae [1]);dsimp only[bringA,getA,aB] at s;refine zk 7 U (zY s 0 oJ uN U (zm U ?_));have BE:eO prog h 215 di (.int .i64 n) false=some (.agg [.int .u64 (dirtOf π n 0:Nat),.bool (match lookL n π.bI with|some x=>x.2|none=>false)]):=by
   rcases IE (n:=n) (s.ae [3]) with⟨g1,_,g2⟩|⟨x,g1,_,g2⟩
   .rw[g2];simp only[dirtOf,g1];rfl
   .rw[g2];simp only[dirtOf,g1]
  refine zo U (e_ U U BE) (zo U (Zp U (Zq (O_ _) U)) (zo U (cE U (by rw[afb];rfl)) ?_));obtain⟨rv,h1,vb,s1⟩:=fP prog (x:=.agg [.int .i64 n,.int .u64 (dirtOf π n 0:Nat)]) s Co KD QK U O O U U;dsimp only[V.cells] at s1;refine aq.any U U U (OpR.of (R:=λv h'=>v=rv/\h'=h1) (jj U vb) ⟨U,U⟩) ?_;rintro v h' ⟨rfl,rfl⟩;obtain⟨i1,gD,fH,gu⟩:=JG;have eR:(ks.take i).length<=1048576:=Q;obtain⟨I,h2,tg,s2⟩:=dV (s1.ae [5,0]) Co gD KD fH Y U O (by grind[CA]);dsimp only[bringA,getA,aB] at s2;refine aq.any U U U (OpR.of (R:=λv h'=>v=I/\h'=h2) (fN U U tg) ⟨U,U⟩) ?_;rintro v h' ⟨rfl,rfl⟩;refine za U (zv (zr U (zb U (by exact aT ay)<|zm U (zv ?_))));have s3:=dy.2 ⟨cR,wh,di,s2.ae [2,2,2,2]⟩;have s4:=(s3.del 2).ae [1,0,0];refine ih (i+1) _ _ _ _ Y ?_ ⟨U,U,U,U,U,aa⟩ hx;rw[J,TM];exact s4
theorem Xf (I:W told)(s:Sat h (dx r p q π::S))(hm:π.bI.length<=1048576)(hk:∀n∈π.bI.map (·.1),(Lit.int .i64 n).wf=true):
  Call ⟨prog,told⟩ 111 [.ptr r 0] h λv h'=>Sat h' (.arr 2 v (dirtC π (bj π.bI))::dx r p q π::S):=by
 obtain⟨cR,wh,di,s⟩:=dy.1 s;obtain⟨J,rfl⟩:=Cl s (j:=3) U;have hl:(bj π.bI).length=π.bI.length:=by rw[bj,(fB _).length_eq,cL]
 refine Call.of_wp (I.free _ U) func111 U U (zK 8 U (zY s 0 oJ uN U (zo U (aO U U U (Fq (s.ae [3]) u9)) ?_)));obtain⟨i1,gD,fH,gu⟩:=JG;obtain⟨av,h1,e1,s1⟩:=yt (P:=prog) s Co gD KD fH Y U O O (n:=0) (c:=π.bI.length) Y Y;dsimp only[repeatL] at s1;refine aq.any U U U (OpR.of (R:=λv h'=>v=av/\h'=h1) (uL U U e1) ⟨U,U⟩) ?_;rintro v h' ⟨rfl,rfl⟩;have s:=s1;refine zk 7 U (zY s 1 oJ uN U (zc U (Xc I s) ?_));rintro v h ⟨b,rfl,s⟩;refine zc U (ve I (s.ae [0,4]) O hm hk) λkv h s=>zo U (aO U U U (s.fo ((bj π.bI).length) (j:=0) U (by simp[d_]) O dN))<|zk 2 U (WP.block ?_);have s:=dy.2 ⟨cR,wh,.map J,s.ae [4,4,4,2]⟩;have s:=(s.del 2).ae [2,0,0];exact dirty_loop I (π:=π) (ks:=bj π.bI) Y (bj π.bI).length 0 _ _ _ _ Y s ⟨U,U,U,U,U,aa⟩ (λqA E' h' h2 s'=>(WP.has (F:=[(3,qA)]) ⟨h2,aa⟩ (zK 5 U (zR U s'))))
end
def II (au:Nat)(a8:Ex->List (Nat×V)->H->Prop)(c:Ctx)(a:Act)(w:World)(e:Exit)(a':Act)(w':World): Prop :=
 ∃ex I h' E',e=exOf ex/\jl I E'/\a8 ex E' h'/\a'.defers=a.defers/\∃c',Rel c' h' w'/\dA c' I au a'/\cq c w c' w'
def WPO (C:eP)(au:Nat)(code:Code)(E:List (Nat×V))(h:H)(a8:Ex->List (Nat×V)->H->Prop): Prop :=
 ∀(c:Ctx) (a:Act) (w:World) (env:Env),jl env E->Rel c h w->dA c env au a->code.wpIn (Fr none) 0 C.P (II au a8 c a w) a w
section
variable {au:Nat} {Q':Ex->List (Nat×V)->H->Prop} {a b:Code}
theorem II.trans {c c₁:Ctx}{A I a':Act}{w J w':World}{e:Exit}(hd:I.defers=A.defers)(hs:cq c w c₁ J)(ho:II au a8 c₁ I J e a' w'): II au a8 c A w e a' w':=by
 obtain⟨ex,CC,h',E',h1,h2,h3,h4,c',h5,h6,h7⟩:=ho;exact⟨ex,CC,h',E',h1,h2,h3,h4.trans hd,c',h5,h6,hs.trans h7⟩
theorem WPO.of (hm:C.P.follows .mixedOrders=true)(J:er C)(hw:WP C au a E h a8): WPO C au a E h a8:=by
 intro c A w env hE hr he;obtain⟨N,ex,I,h',E',h1,h2,h3⟩:=hw env hE;refine wpIn_mono ((uY hm J N).1 _ _ _ _ h1 none c A w hr he) ?_;rintro e a' w' ⟨rfl,h4,c',h5,h6,h7⟩;exact⟨ex,I,h',E',U,h2,h3,h4,c',h5,h6,h7⟩
theorem WPO.mono (hw:WPO C au a E h a8)(J:∀ex E' h',a8 ex E' h'->Q' ex E' h'): WPO C au a E h Q':=by
 refine λc A w env hE hr he=>wpIn_mono (hw c A w env hE hr he) ?_;rintro e a' w' ⟨ex,I,h',E',h1,h2,h3,h4⟩;exact⟨ex,I,h',E',h1,h2,J _ _ _ h3,h4⟩
theorem WPO.seq (hw:WPO C au a E h λex E' h'=>match ex with
  |.normal=>WPO C au b E' h' a8
  |ex=>a8 ex E' h'): WPO C au (.seq a b) E h a8:=by
 refine λc A w env hE hr he=>wpIn_seq (wpIn_mono (hw c A w env hE hr he) ?_);rintro e J uW ⟨ex,I,h',E',rfl,h2,h3,h4,c₁,h5,h6,h7⟩;cases ex with
 |normal=>exact wpIn_mono (h3 c₁ J uW I h2 h5 h6) λe a' w' ho=>ho.trans h4 h7
 |exit i=>exact⟨_,I,h',E',U,h2,h3,h4,c₁,h5,h6,h7⟩
 |ret=>exact⟨_,I,h',E',U,h2,h3,h4,c₁,h5,h6,h7⟩
theorem WPO.cond {x:Operand}{t:Bool}(J:bp E x=some (.bool t))(hw:WPO C au (_root_.cond t a b) E h a8): WPO C au (.cond x a b) E h a8:=by
 intro c A w env I hr he;obtain⟨e1,_⟩:=Ab he (bX I J);refine wpIn_cond (t:=t) (by rw[e1];rfl) ?_;have:=hw c A w env I hr he;cases t<;>simpa using this
theorem WPO.block (hw:WPO C au b E h λex E' h'=>match ex with
  |.exit j=>_root_.cond (Nat.beq j i) (a8 .normal E' h') (a8 (.exit j) E' h')
  |ex=>a8 ex E' h'): WPO C au (.block i b) E h a8:=by
 refine λc A w env hE hr he=>wpIn_block (wpIn_mono (hw c A w env hE hr he) ?_);rintro e En uW ⟨ex,I,h',E',rfl,h2,J,h4,c₁,h5,h6,h7⟩;cases ex with
 |normal=>exact⟨.normal,I,h',E',U,h2,J,h4,c₁,h5,h6,h7⟩
 |exit j =>
  by_cases hj:j=i
  .simp only[vA hj,ak] at J;simp only[exOf,Exit.inBlock,hj,cZ];exact⟨.normal,I,h',E',U,h2,J,h4,c₁,h5,h6,h7⟩
  .simp only[eE hj,bq] at J;simp only[exOf,Exit.inBlock,hj,gJ];exact⟨.exit j,I,h',E',U,h2,J,h4,c₁,h5,h6,h7⟩
 |ret=>exact⟨.ret,I,h',E',U,h2,J,h4,c₁,h5,h6,h7⟩
theorem WPO.loop (J:Nat->List (Nat×V)->H->Prop)(hJ:∀j E h,J j E h->WPO C au b E h λex E' h'=>match ex with
  |.normal=>∃i,i<j/\J i E' h'
  |ex=>a8 ex E' h')(h0:J j E h): WPO C au (.loop b) E h a8:=by
 have key:∀m j E h,j<m->J j E h->∀(c:Ctx) (A:Act) (w:World) (env:Env) (R:Exit->Act->World->Prop),jl env E->Rel c h w->dA c env au A ->
   (∀e a' w',II au a8 c A w e a' w'->R e a' w')->Code.roundsIn (Fr none) 0 C.P b R m A w:=by
  intro m;induction m with
  |zero=>simp
  |succ m ih =>
   refine λj E h hj hJj c A w env R hE hr he hR=>wpIn_mono (hJ j E h hJj c A w env hE hr he) ?_;rintro e En uW ⟨ex,I,h',E',rfl,h2,h3,h4,c₁,h5,h6,h7⟩;cases ex with
   |normal =>
    obtain⟨i,hi,h3⟩:=h3;exact ih i E' h' Y h3 c₁ En uW I R h2 h5 h6 λe a' w' ho=>hR _ _ _ (ho.trans h4 h7)
   |exit i=>exact hR _ _ _ ⟨_,I,h',E',U,h2,h3,h4,c₁,h5,h6,h7⟩
   |ret=>exact hR _ _ _ ⟨_,I,h',E',U,h2,h3,h4,c₁,h5,h6,h7⟩
 exact λc A w env hE hr he=>wpIn_loop_rounds (j+1) (key (j+1) j E h Y h0 c A w env _ hE hr he λ_ _ _ ho=>ho)
theorem TN {β:Type}{f:α->Option (List β)}{p:β->Prop}: ∀ {L:List α},(∀q∈L,∃s,f q=some [s]/\p s)->∃R,flatM f L=some R/\∀s∈R,p s:=by
 intro L;induction L with
 |nil=>intro _;exact⟨[],U,λs hs=>by cases hs⟩
 |cons q L I =>
  grind[List.mem_cons_self,flatM]
theorem WPO.next {I J:Oper}{x:Operand}{pH Ig:Nat}(hm:C.P.follows .mixedOrders=true)(hT:er C)(agK:I.guard=none)(agL:J.guard=none)(agM:I.op=.next x false)(aiI:I.dst=some pH)
 (adz:J.op=.extract y 0)(hy:y=.tmp pH)(aiJ:J.dst=some Ig)(aeB:Nat.blt pH au=true)(acz:Nat.blt Ig au=true)(hx:bp E x=some (.ptr r 0))(hL:nextAll h r=some L)
 (hq:∀q∈L,∃t l,q.1=.aR (t::l)/\a8 .normal ((Ig,t)::(pH,q.1)::E) q.2): WPO C au (.region id #[I,J] false) E h a8:=by
 intro c A w env hE hr he;subst hy;have hS:=(uY (C:=C) hm hT 0).1;refine wpIn_region ?_;have qI:∃R,opsAll C (ev C 0) (#[I,J]:Array Oper).toList (#[I,J]:Array Oper).toList ⟨env,au,h⟩=some R/\∀s∈R,∃E',jl s.env E'/\s.au=au/\a8 .normal E' s.h:=by
  have e1:∀xh:Env,wantedV [I,J] xh I=true:=λxh=>by simp only[wantedV,agK]
  have e2:∀xh:Env,wantedV [I,J] xh J=true:=λxh=>by simp only[wantedV,agL]
  have qx:=bX hE hx;simp only[opsAll,e1,e2,ak,opAll,agM,qx,fM,hL];refine TN λq BS=>?_;obtain⟨t,l,k1,k2⟩:=hq q BS;refine⟨⟨(env.set pH (some q.1)).set Ig (some t),au,q.2⟩,?_,_,(hE.set pH q.1).set Ig t,U,k2⟩;have hg:evO (T.set env pH (some (V.aR (t::l)))) (.tmp pH)=some (.aR (t::l)):=by grind[evO,Env.v,aY]
  simp only[St.put,aiI,aeB,ak,adz,evOp,k1,hg,nth,fM,bE,aiJ,acz,flatM,fZ]
 obtain⟨R,qI,h2⟩:=qI;refine S6 hS hT _ 0 ⟨env,au,h⟩ R c A w (λj=>cb) qI hr he λs' Gi c' a' w' r1 r2 r3 r4=>?_;obtain⟨E',e1,e2,e3⟩:=h2 s' Gi;exact⟨.normal,s'.env,s'.h,E',U,e1,e3,r4,c',r1,Q,r3⟩
theorem gd.of_wpo {f:FuncId}{fn:Func}{code:Code}{v:V}{c5:H}(hf:C.P.funcs[f]?=some fn)(hb:fn.body=some code)(hn:args.length<=fn.ntmps)
 (hw:WPO C fn.ntmps code (argE args 0) h λex E' h'=>(match ex with|.exit _=>False|_=>True)/\resLE C.P E' h' fn.results.toList=some v/\c5.next=h'.next/\∀id o,T.get c5.tr id=some o->T.get h'.tr id=some o){c:Ctx}{w:World}(hr:Rel c h w)(ha:∀x∈args,wf c x): gd C.P f args c w v c5:=by
 have vB:=jm (c:=c) hn ha;have K3:=hw c _ w _ (uc args) hr vB;refine calls_of_wp hf hb (wpIn_wide.1 (wpIn_mono K3 ?_));rintro e a' w' ⟨ex,CC,h',E',rfl,fg,⟨hx,I,kC,hle⟩,hd,c',r1,r2,r3⟩;have fin:a'.defers=[]/\∃x,(results fn a'.tmps).run C.P w'=.ok x w'/\∃J,Ending.returned x=.returned (conc J v)/\wf J v/\Rel J c5 w'/\cq c w J w':=by
  refine⟨hd,?_⟩;unfold resLE at I;cases Ey:mapO (resE C.P E' h') fn.results.toList with
  |none=>grind
  |some vs =>
   rw[Ey] at I;have yn:=wN (P:=C.P) (s:=⟨CC,fn.ntmps,h'⟩) fg Ey;obtain⟨t1,t2⟩:=nU (s:=⟨CC,fn.ntmps,h'⟩) r1 r2 yn;refine⟨_,t1,c',?_⟩;have q_:=r1.Zl kC hle;match vs,I with
   |[],I =>
    grind[wf,gj,conc,concL]
   |[x],I =>
    grind
   |x::y::l,I =>
    grind[wf,iR,conc,fI]
 cases ex with
 |normal=>grind[bodyPost,exOf]
 |exit i=>grind
 |ret=>grind[bodyPost,exOf]
end
end Go.Proofs.YtiojppeahfoiaaaGreat.Am
namespace Go.Proofs.YtiojppeahfoiaaaGreat.Am
open Go Proofs.Tryz
variable {X:aH} {C:eP} {δ:Dk} {ε:bn} {es:cg} {a8:Ex->List (Nat×V)->H->Prop} {f:Fm} {h h₁ h':H} {κ:IntKind} {μ:Lg} {E:List (Nat×V)} {L:List (V×H)} {S:List aH} {bw:List cU} {ks:List Int} {l b data seen:List Nat} {cs post args:List V} {g n k s i size aL a d z p6 r id off q j tx pv nx j1 j2 p1 cR c mid clock im N:Nat} {o:Oper} {y:Operand} {π:Pl} {P:Program} {α:Type} {t e:TypeId} {x bv dt v' wh di kv:V}
theorem iV (l:List Nat)(b x:Nat): inL (l++[b]) x=(inL l x||Nat.beq b x):=by
 induction l<;>grind[inL]
theorem TO : ∀ {l:List (V×V×Nat)} {e:V×V×Nat},e∈leftV seen l->e∈l/\inL seen e.2.2=false:=by
 intro l;induction l<;>grind[leftV]
theorem TP : ∀ {l:List (V×V×Nat)},leftV seen l=[]->∀e∈l,inL seen e.2.2=true:=by
 intro l;induction l<;>grind[leftV]
theorem Xg {b:Nat}: ∀ {l:List (V×V×Nat)},(leftV (seen++[b]) l).length<=(leftV seen l).length:=by
 intro l;induction l<;>grind[leftV,iV]
theorem Xh : ∀ {l:List (V×V×Nat)} {e:V×V×Nat},e∈leftV seen l->(leftV (seen++[e.2.2]) l).length<(leftV seen l).length:=by
 intro l;induction l with
 |nil=>intro e h;cases h
 |cons y l J =>
  intro e h;simp only[leftV] at h;cases I:inL seen y.2.2 with
  |true =>
   grind[leftV,iV]
  |false =>
   rw[I,bq] at h;simp only[leftV,iV,I,Bool.false_or,bq];grind[Nat.beq_refl,Xg]
theorem TQ : ∀ {l:cg} {b:Nat},eU c b l->wY c (l.map (g9 κ))=true:=by
 intro l;induction l with
 |nil=>intro b _;rfl
 |cons e l I =>
  intro b h;simp only[ko,g9,wY];rw[jd.2 h.2.1,ak];exact I h.2.2
theorem Od : ∀ {l:cg} {b:Nat},eU c b l->bornRise b (l.map (g9 κ))=true:=by
 intro l;induction l with
 |nil=>intro b _;rfl
 |cons e l I =>
  intro b h;simp only[ko,g9,bornRise];rw[aN.2 h.1,ak];exact I h.2.2
theorem jO : ∀ {l:cg} {b:Nat},eU c b l->∀e∈l,b<=e.2.2:=by
 intro l;induction l with
 |nil=>simp
 |cons y l I =>
  intro b h e he;rcases List.mem_cons.1 he with rfl|he
  .exact h.1
  .have:=I h.2.2 e he;have:=h.1;omega
theorem tj : ∀ {l:cg} {b:Nat} {e:Int×V×Nat},eU c b l->e∈l->wG e.2.2 (l.map (g9 κ))=some (g9 κ e):=by
 intro l;induction l with
 |nil=>intro b e _ he;cases he
 |cons y l I =>
  intro b e h he;simp only[ko,g9,wG];rcases List.mem_cons.1 he with rfl|he
  .show cond (Nat.beq e.2.2 e.2.2) _ _=_;rw[fM,ak]
  .have:=jO h.2.2 e he;show cond (Nat.beq y.2.2 e.2.2) _ _=_;rw[eE Y,bq];exact I h.2.2 he
theorem TR : ∀(l:List Nat) (b:Nat),lastN (l++[b])=some b:=by
 intro l b;induction l<;>grind[lastN]
section
variable {since b:Nat}
theorem xD {e:Int×V×Nat}(J:T.get h.tr r=some (.iter mid since clock (seen++[e.2.2])))(hm:T.get h.tr mid=some (.map (es.map (g9 κ)) clock))(I:eU clock 0 es)(he:e∈es):
  z_ h (.ptr r 0)=some (.aR [.int κ e.1,e.2.1]):=by
 simp only[z_,fM,ak,J,hm,Od I,oE,TR,tj I he];rfl
theorem next_at (I:T.get h.tr r=some (.iter mid since clock seen))(hs:since<=clock)(hm:T.get h.tr mid=some (.map (es.map (g9 κ)) clock))(J:eU since 0 es):
  nextAll h r=some (match leftV seen (es.map (g9 κ)) with
   |[]=>[(.aR [.bool false],h)]
   |l=>l.map λe=>(.aR [.bool true,e.1,e.2.1],h.put r (some (.iter mid since clock (seen++[e.2.2]))))):=by
 grind[nextAll,TQ,aN]
theorem xE (hg:T.get h.tr r=some (.iter mid since clock seen))(hs:since<=clock)(hm:T.get h.tr mid=some (.map (es.map (g9 κ)) clock))(hb:eU since 0 es)(J:nextAll h r=some L):
  ∀q∈L,(q=(.aR [.bool false],h)/\∀e∈es,inL seen e.2.2=true) \/
   ∃e∈es,inL seen e.2.2=false/\(leftV (seen++[e.2.2]) (es.map (g9 κ))).length<(leftV seen (es.map (g9 κ))).length/\q=(.aR [.bool true,.int κ e.1,e.2.1],h.put r (some (.iter mid since clock (seen++[e.2.2])))):=by
 rw[next_at hg hs hm hb] at J;simp only[aC] at J;subst J;intro q hq;cases hl:leftV seen (es.map (g9 κ)) with
 |nil =>
  grind[TP,g9,List.mem_map_of_mem]
 |cons y l =>
  rw[hl] at hq;obtain⟨e',I,rfl⟩:=List.mem_map.1 hq;rw[<-hl] at I;obtain⟨h1,h2⟩:=TO I;obtain⟨e,he,rfl⟩:=List.mem_map.1 h1;have h3:=Xh I;rw[hl] at h3;exact .inr ⟨e,he,h2,h3,U⟩
end
open Classical in
noncomputable def iE (P:Program)(f:FuncId)(kP:List V->H->V×H->Prop)(args:List V)(h:H): Option (V×H) :=
 if I:∃r,kP args h r/\∀(c:Ctx) (w:World),Rel c h w->(∀x∈args,wf c x)->gd P f args c w r.1 r.2 then some I.choose else none
theorem TS {f : FuncId} {kP : List V → H → V × H → Prop} (J : ∃ fn, P.funcs[f]? = some fn ∧ fn.body.isSome = true ∧ (fn.name == "runtime.NumGoroutine") = false) : OP P f (iE P f kP) := by
 refine .inl ⟨J, fun args σ v c5 I c w h hw => ?_⟩
 unfold iE at I
 split at I
 ·grind
 ·cases I
theorem mP {f:FuncId}{kP:List V->H->V×H->Prop}{r:V×H}(h1:kP args h r)(h2:∀(c:Ctx) (w:World),Rel c h w->(∀x∈args,wf c x)->gd P f args c w r.1 r.2):
  ∃r,iE P f kP args h=some r/\kP args h r:=by
 have I:∃r,kP args h r/\∀(c:Ctx) (w:World),Rel c h w->(∀x∈args,wf c x)->gd P f args c w r.1 r.2:=⟨r,h1,h2⟩;refine⟨I.choose,?_,I.choose_spec.1⟩<;>simp_all[iE]
noncomputable def oZ (f:Nat): Option (List V->H->Option (V×H)) :=
 cond (Nat.beq f 106) (some (toldSorted D6)) (cond (Nat.beq f 217) (some toldMore) none)
noncomputable abbrev CB : eP:=⟨prog,oZ⟩
theorem cm : prog.follows .mixedOrders=true:=by rfl
theorem bM : er CB:=by
 intro f g I;simp only[CB,oZ] at I ⊢;by_cases h1:f=106
 .subst h1;rw[vA U,ak] at I;simp only[aC] at I;subst I;exact .inl ⟨⟨_,func106,U,O⟩,λargs σ v c5 J c w h _=>Ki bB Tp J h⟩
 .rw[eE h1,bq] at I;by_cases h2:f=217
  .subst h2;rw[vA U,ak] at I;simp only[aC] at I;subst I;exact .inl ⟨⟨_,Ga,U,O⟩,λargs σ v c5 J c w h hw=>NT (C:=CB) U cm J h hw⟩
  grind[eE]
theorem W.base : W oZ:=by
 refine⟨λf I=>?_,U,U⟩;have h1:f≠106:=λe=>by subst e;revert I;decide
 have h2:f≠217:=λe=>by subst e;revert I;decide
 grind[oZ,eE]
theorem eY.ZM {f:FuncId}{v:V}{I:H}(a:eY C f args h v h₁)(b:eY C f args h v' I): v=v'/\h₁=I:=by
 obtain⟨N,J⟩:=a;obtain⟨M,hM⟩:=b;have e1:=sJ (fy (pZ N M)) J;have e2:=sJ (fy (pY N M)) hM;grind
section
variable {st:Bool} {v:V}
theorem Sat.adA (s:Sat h S)(hk:getA S k=some (pt id (.cells n cs false)))(hs:bf P t=some 1)(hl:cs.length=n)(ho:off<n)(hv:v.cells=[v])(I:storable v=true):
  ga P h t (.ptr id off) v=some (h.put id (some (.cells n (cs.set off v) false))):=by
 simp only[ga,hs,hv,cK,eN,mF,m_,I,Dx];rw[show Nat.beq (0+1) 1=true from U,ak];simp only[wrN,s.row hk,cK,eN];rw[aN.2 (show off+(0+1)<=n by omega),ak];congr 3;rw[HI,bk Y];cases J:(Nat.beq off 0&&Nat.beq (0+1) n) with
 |true =>
  simp only[b9,beq_iff] at J;obtain⟨rfl,hn⟩:=J;rw[ak];have:cs.drop (0+1)=[]:=mA Y;simp[this]
 |false=>rw[bq];rfl
end
theorem OpR.entry {x:Operand}{v r:V}(I:o.op=.entry x)(J:bp E x=some v)(hf:z_ h v=some r): OpR C E h o λw h'=>w=r/\h'=h :=
 ⟨r,h,⟨U,U⟩,λenv hE=>⟨0,by grind[evOp,bX,bE]⟩⟩
theorem OpR.range {x:Operand}{v r:V}(I:o.op=.range t x)(J:bp E x=some v)(hf:rangeV C.P h t v=some (r,h₁)): OpR C E h o λw h'=>w=r/\h'=h₁ :=
 ⟨r,h₁,⟨U,U⟩,λenv hE=>⟨0,by grind[evOp,bX]⟩⟩
def doneRow (seen:List Nat): cg->List V->List V
 |[],row=>row
 |e::l,row=>doneRow seen l (cond (inL seen e.2.2) (row.set e.1.toNat e.2.1) row)
def pO : cg->List V->List V
 |[],row=>row
 |e::l,row=>pO l (row.set e.1.toNat e.2.1)
theorem Oe : ∀ {l:cg} {row:List V},(∀e∈l,inL seen e.2.2=true)->doneRow seen l row=pO l row:=by
 intro l;induction l<;>grind[doneRow,pO]
theorem Of : ∀ {l:cg} {row:List V},doneRow [] l row=row:=by
 intro l;induction l<;>grind[doneRow,inL]
theorem Og : ∀ {l:cg} {row:List V},(doneRow seen l row).length=row.length:=by
 intro l;induction l<;>grind[doneRow]
theorem Oh {v:V}: ∀ {l:cg} {row:List V},(∀e∈l,e.1.toNat≠i)->doneRow seen l (row.set i v)=(doneRow seen l row).set i v:=by
 intro l;induction l with
 |nil=>intro row _;rfl
 |cons e l I =>
  intro row h;simp only[doneRow];have h1:=h e iu;cases inL seen e.2.2 with
  |true=>rw[ak,ak,List.set_comm _ _ (rQ h1)];grind
  |false=>grind
theorem Km {b:Nat}: ∀ {l:cg} {row:List V},(∀e∈l,e.2.2≠b)->doneRow (seen++[b]) l row=doneRow seen l row:=by
 intro l;induction l<;>grind[doneRow,iV,eE]
theorem LX : ∀ {l:cg} {b:Nat} {row:List V} {e:Int×V×Nat},eU c b l->(l.map λe=>e.1.toNat).Nodup->e∈l->inL seen e.2.2=false ->
  doneRow (seen++[e.2.2]) l row=(doneRow seen l row).set e.1.toNat e.2.1:=by
 intro l;induction l with
 |nil=>simp
 |cons y l ih =>
  intro b row e I hn he hs;simp only[ko,Dw] at hn;rcases List.mem_cons.1 he with rfl|he
  .simp only[doneRow,iV,hs,fM,Bool.or_true,ak,bq];rw[Km λe' J=>by have:=jO I.2.2 e' J;omega];grind[Oh]
  .have:=jO I.2.2 e he;simp only[doneRow,iV,eE (show e.2.2≠y.2.2 by omega),Bool.or_false];exact ih I.2.2 hn.2 he hs
def laidP : List (Int×List Nat)->List (Option (List Nat))->List (Option (List Nat))
 |[],m=>m
 |e::l,m=>laidP l (m.set e.1.toNat (some e.2))
theorem CD : ∀ {l:List (Int×List Nat)} {m:List (Option (List Nat))},(laidP l m).length=m.length:=by
 intro l;induction l<;>grind[laidP]
theorem Oi {a b:PM}: ∀ {es:cg} {m:List (Int×List Nat)} {row:List V} {pg:List (Option (List Nat))},(fQ (λv x=>.dL v x) es m).p a b->(∀e∈m,e.2≠[])->(each tK row pg).p a b->(each tK (pO es row) (laidP m pg)).p a b:=by
 intro es;induction es with
 |nil=>intro m row pg h _ J;cases m with
  |nil=>exact J
  |cons x m=>exact h.elim
 |cons e es ih=>intro m row pg h nL J;cases m with
  |nil=>exact h.elim
  |cons x m =>
   obtain⟨⟨h1,h2⟩,h3⟩:=h;simp only[pO,laidP];have hk:e.1=x.1:=h1;refine ih h3 (λe he=>nL e (ki _ he)) ?_;rw[hk];refine WM J ⟨?_,h2⟩;rintro hv;have I:ViewM b e.2.1 x.2:=h2;rw[hv] at I;rcases I.2 with⟨_,h4⟩|h4
   .grind
   .grind
def Dk.sync (δ:Dk): Dk:={ δ with aU:=laidP δ.now δ.aU,waiting:=[],now:=[] }
section
variable {told:bU} {p:Nat} {v:V} {m:List Fm}
noncomputable def G0 (h:H)(p:Nat)(cs:List V)(im N:Nat)(row:List V)(mid:Nat)(es:cg)(clock:Nat): H :=
 ((((h.new (.iter mid clock clock [])).put im (some (.cells N (pO es row) false))).put p (some (.cells 12 (cs.set 2 .aP) false))).put mid (some (.map [] clock))).put h.next none
def IJ (args:List V)(h:H)(r:V×H): Prop:=∃p cs,args=[.ptr p 0]/\T.get h.tr p=some (.cells 12 cs false) /\
 ((nth cs 9=some (.bool true)/\r=(.int .i64 9,h))\/(nth cs 9=some (.bool false)/\∃v1 h1,eY CB 188 [.ptr p 0] h v1 h1 /\
  ((v1=.bool false/\r=(.int .i64 9,h1))\/(v1=.bool true/\∃cs im N row mid es clock,T.get h1.tr p=some (.cells 12 cs false)/\nth cs 1=some (.sl im 0 N (.exact N))/\nth cs 3=some (.map mid) /\
   T.get h1.tr im=some (.cells N row false)/\T.get h1.tr mid=some (.map (es.map ou) clock)/\r=(.int .i64 0,G0 h1 p cs im N row mid es clock)))))
structure IK (h h':H)(X:List Nat): Prop where
 next:h'.next=h.next
 get:∀i,i∉X->T.get h'.tr i=T.get h.tr i
theorem IK.put {X:List Nat}(s:IK h h' X){o:Option Obj}(hi:i∈X): IK h (h'.put i o) X :=
 ⟨s.next,λj I=>by rw[cX,ax (λ(e:j=i)=>I (e ▸ hi))];exact s.get j I⟩
theorem CE {f:V->α->aH}{a b:PM}: ∀ {l:cg} {m:List (Int×α)},(fQ f l m).p a b->∀e∈l,∃x,(e.1,x)∈m/\(f e.2.1 x).p a b:=by
 intro l;induction l with
 |nil=>simp
 |cons y l I=>intro m h e he;cases m with
  |nil=>exact h.elim
  |cons x m =>
   obtain⟨⟨h1,h2⟩,J⟩:=h;rcases List.mem_cons.1 he with rfl|he
   .exact⟨x.2,by rw[show e.1=x.1 from h1];exact iu,h2⟩
   grind
noncomputable def syA : Code:=aV [0] ((f117.body).getD .skip)
noncomputable def syB : Code:=aV [1,0] ((f117.body).getD .skip)
noncomputable def syC : Code:=aV [1,1,0,0] ((f117.body).getD .skip)
noncomputable def syN : Code:=aV [1,1,0,1,0,0,0] ((f117.body).getD .skip)
noncomputable def syD : Code:=aV [1,1,0,1,0,0,1,1,0] ((f117.body).getD .skip)
noncomputable def syE : Code:=aV [1,1,1] ((f117.body).getD .skip)
theorem Fz : f117.body=some (.seq syA (.seq syB (.seq (.seq syC (.block 0 (.loop (.seq syN (.seq (.cond (.tmp 20) .skip (.exit 0)) (.block 1 syD)))))) syE))):=rfl
theorem aba : ∃id I J,syN=.region id #[I,J] false/\I.guard=none/\J.guard=none/\I.op=.next (.tmp 18) false/\I.dst=some 19/\J.op=.extract (.tmp 19) 0/\J.dst=some 20:=⟨_,_,_,U,U,U,U,U,U,U⟩
def syJ (h₀:H)(p it im N mid clock:Nat)(cs row:List V)(es:cg)(S:List aH)(j:Nat)(E:List (Nat×V))(h:H): Prop :=
 ∃seen,Has E [(0,.ptr p 0),(18,.ptr it 0)]/\j=(leftV seen (es.map ou)).length/\IK h₀ h [it,im] /\
  Sat h (pt it (.iter mid clock clock seen)::pt p (.cells 12 cs false)::pt im (.cells N (doneRow seen es row) false)::uw mid es clock::S)
theorem TT {h₀:H}{it:Nat}{row:List V}(Ev:nth cs 1=some (.sl im 0 N (.exact N)))(hl:row.length=N)(I:eU clock 0 es)(hn:(es.map λe=>e.1.toNat).Nodup)
 (hk:∀e∈es,0<=e.1/\e.1<N)(hv:∀e∈es,e.2.1.cells=[e.2.1]/\storable e.2.1=true)(h0:syJ h₀ p it im N mid clock cs row es S j E h):
  WPO CB 38 (.loop (.seq syN (.seq (.cond (.tmp 20) .skip (.exit 0)) (.block 1 syD)))) E h λex E' h'=>ex=.exit 0/\Has E' [(0,.ptr p 0)]/\IK h₀ h' [it,im] /\
   ∃seen,Sat h' (pt it (.iter mid clock clock seen)::pt p (.cells 12 cs false)::pt im (.cells N (pO es row) false)::uw mid es clock::S):=by
 refine WPO.loop (syJ h₀ p it im N mid clock cs row es S) ?_ h0;rintro j E h ⟨seen,J,rfl,hs,s⟩;have g1:=s.row (k:=0) U;have g2:=s.row (k:=3) U;obtain⟨id,HY,Fc,q0,q1,q2,q3,q4,q5,q6⟩:=aba;refine WPO.seq ?_;rw[q0];have hL:=next_at g1 (az _) g2 I;refine WPO.next cm bM q1 q2 q3 q4 q5 U q6 U U (r:=it) ?_ hL λq hq=>?_
 .exact J.2.1
 .rcases xE g1 (az _) g2 I hL q hq with⟨rfl,oP⟩|⟨e,he,EO,bY,rfl⟩
  .refine⟨.bool false,[],U,WPO.seq (WPO.cond (t:=false) U<|WPO.of cm bM (WP.exit ?_))⟩;refine⟨U,⟨J.1,aa⟩,hs,seen,?_⟩<;>grind[Oe]
  .refine⟨.bool true,_,U,WPO.seq (WPO.cond (t:=true) U<|WPO.of cm bM (WP.skip<|WPO.block (WPO.of cm bM ?_)))⟩;have s:=s.put (o':=.iter mid clock clock (seen++[e.2.2])) (k:=0) U;have hs:=hs.put (i:=it) (o:=some (.iter mid clock clock (seen++[e.2.2]))) iu;generalize h.put it (some (.iter mid clock clock (seen++[e.2.2])))=h' at s hs;have g1:=s.row (k:=0) U;have g2:=s.row (k:=3) U;refine WP.has (F:=[(0,.ptr p 0),(18,.ptr it 0),(20,.bool true)]) ⟨J.1,J.2.1,U,aa⟩ (zg U (aq.any U U U (OpR.entry U U (xD g1 g2 I he)) ?_));rintro v h ⟨rfl,rfl⟩;refine zk 8 U (zf U (DQ _ _) (zl U (s.ld 1 U KA Ev) (zk 2 U ?_)));obtain⟨k1,k2⟩:=hk e he;refine zo U (aJ (.ptr im e.1.toNat) U U (by rw[Zt,show(decide (0<=e.1)&&decide (e.1<(N:Int)))=true by simp;omega,ak];simp)) ?_;have e1:=s.adA (P:=prog) (k:=2) (t:=23) (off:=e.1.toNat) U jN (by rw[Og];exact hl) Y (hv e he).1 (hv e he).2;have s1:=s.put (o':=.cells N ((doneRow seen es row).set e.1.toNat e.2.1) false) (k:=2) U;refine aq.SV U U (wO U U e1) (zv ⟨_,bY,seen++[e.2.2],⟨U,U,aa⟩,U,hs.put cb,?_⟩);rw[LX I hn he EO];exact s1
theorem Xi {row:List V}(hs:IK (h₁.new (.iter mid clock clock [])) h' [h₁.next,im])(hi:T.get h'.tr im=some (.cells N (pO es row) false))(hp:p≠im)(hm:mid≠im):
  (G0 h₁ p cs im N row mid es clock).next=((h'.put p (some (.cells 12 (cs.set 2 .aP) false))).put mid (some (.map [] clock))).next /\
  ∀id o,T.get (G0 h₁ p cs im N row mid es clock).tr id=some o->T.get ((h'.put p (some (.cells 12 (cs.set 2 .aP) false))).put mid (some (.map [] clock))).tr id=some o:=by
 refine⟨hs.next.symm,λid o ho=>?_⟩
 unfold G0 at ho;rw[cX] at ho;by_cases h1:id=h₁.next
 .grind
 .rw[ax h1,cX] at ho;rw[cX];by_cases h2:id=mid
  .grind
  .rw[ax h2,cX] at ho;rw[ax h2,cX];by_cases I:id=p
   .grind
   .rw[ax I,cX] at ho;rw[ax I];by_cases J:id=im
    .grind
    .rw[ax J] at ho;rw[hs.get id Q];exact ho
theorem Xj {es:List (V×V×Nat)}{kt et:TypeId}(I:T.get h.tr mid=some (.map es c))(hu:P.underlying t=some (.map kt et)):
  ∃v h₁,builtinV P h .clear #[t] [.map mid]=some (v,h₁)/\(λ(_:V) (h₁:H)=>h₁=h.put mid (some (.map [] c))) v h₁ :=
 ⟨cA,_,by simp only[builtinV,clearV,hu,I];rfl,U⟩
theorem TU (s:Sat h (aS p δ::S))(Cx:δ.Ok)(hk:∀e∈δ.now,0<=e.1/\e.1<δ.aU.length):
  ∃r,IJ [.ptr p 0] h r/\∀(c:Ctx) (w:World),Rel c h w->(∀x∈[V.ptr p 0],wf c x)->gd prog 117 [.ptr p 0] c w r.1 r.2:=by
 obtain⟨pg,wt,nw,lg,mk,tn,tl,ops,s1⟩:=cj.1 s;have gp:=s1.row (k:=0) U;cases hd:δ.dead with
 |true =>
  refine⟨(.int .i64 9,h),⟨p,_,U,gp,.inl ⟨by rw[hd];rfl,U⟩⟩,λc w hr ha=>?_⟩;refine gd.of_wpo (C:=CB) (args:=[.ptr p 0]) Cp Fz (show 1<=f117.ntmps by decide) ?_ hr ha;refine WPO.seq (WPO.of cm bM ?_);have s:=s1;exact zr U (za U (zv<|WPO.seq (WPO.of cm bM<|zK 4 U (zf U (lJ _ _) (zt U (o_load U (s.ld 0 U nO U)) (hd) (zk 11 U (WP.ret ⟨aa,jk U,U,λ_ _ h=>h⟩)))))))
 |false =>
  obtain⟨v1,h1,B7,hR⟩:=pL W.base s Cx.a_;have I:Call CB 188 [.ptr p 0] h (λv' h'=>v'=v1/\h'=h1):=⟨v1,h1,B7,U,U⟩;rcases hR with⟨h0,rfl,s2⟩|⟨h0,rfl,s2⟩
  .refine⟨(.int .i64 9,h1),⟨p,_,U,gp,.inr ⟨by rw[hd];rfl,_,h1,B7,.inl ⟨U,U⟩⟩⟩,λc w hr ha=>?_⟩;refine gd.of_wpo (C:=CB) (args:=[.ptr p 0]) Cp Fz (show 1<=f117.ntmps by decide) ?_ hr ha;refine WPO.seq (WPO.of cm bM ?_);have s:=s1;refine zr U (za U (zv<|WPO.seq (WPO.of cm bM<|zK 4 U (zf U (lJ _ _) (zh U (o_load U (s.ld 0 U nO U)) (hd) (zk 2 U (zc U (I) ?_)))))));rintro v h ⟨rfl,rfl⟩;exact zo U (cI U U) (zk 7 U (WP.ret ⟨aa,jk U,U,λ_ _ h=>h⟩))
  .obtain⟨pg,wt,nw,lg,mk,tn,tl,ops,s3⟩:=cj.1 s2;obtain⟨im,row,rfl,s4⟩:=mO.1 (s3.ae [1]);obtain⟨mid,es,clock,rfl,hb,hn,s5⟩:=j6.1 (s4.ae [4]);have s6:=s5.ae [4,2,0,0,0,0];dsimp only[bringA,getA,aB] at s6;have gp1:=s6.row (k:=0) U;have gi:=s6.row (k:=1) U;have gm:=s6.row (k:=2) U;obtain⟨a,b,_,_,q3⟩:=s6.at (k:=3) U;obtain⟨a',b',_,_,q4⟩:=s6.at (k:=4) U;have vC:row.length=δ.bZ.aU.length:=Ft q4;have VX:=qn q3;have hkr:∀e∈es,0<=e.1/\e.1<(δ.bZ.aU.length:Int):=λe he=>by
    obtain⟨x,k1,_⟩:=CE q3 e he;exact hk _ k1
   have dG:∀e∈es,e.2.1.cells=[e.2.1]/\storable e.2.1=true:=λe he=>by
    obtain⟨x,_,k2⟩:=CE q3 e he;have k3:ViewM b e.2.1 x:=k2;rcases k3.2 with⟨k4|⟨_,k4⟩,_⟩|⟨_,_,_,_,_,_,k4,_⟩
    .rw[k4];exact⟨U,U⟩
    .rw[k4];exact⟨U,U⟩
    .rw[k4];exact⟨U,U⟩
   have mh:(es.map λe=>e.1.toNat).Nodup:=by
    have h1:(es.map (·.1)).Nodup:=Q;rw[List.nodup_iff_pairwise_ne,HQ] at h1 ⊢;refine(List.pairwise_iff_forall_sublist.2 λ{x y} hxy=>?_);have h2:=(List.pairwise_iff_forall_sublist.1 h1) hxy;have hx:=(hkr x (hxy.subset iu)).1;have hy:=(hkr y (hxy.subset (ki _ iu))).1;omega
   refine⟨(.int .i64 0,G0 h1 p _ im δ.bZ.aU.length row mid es clock),⟨p,_,U,gp,.inr ⟨by rw[hd];rfl,_,h1,B7,.inr ⟨U,_,im,_,row,mid,es,clock,gp1,U,U,gi,gm,U⟩⟩⟩,λc w hr ha=>?_⟩;refine gd.of_wpo (C:=CB) (args:=[.ptr p 0]) Cp Fz (show 1<=f117.ntmps by decide) ?_ hr ha;refine WPO.seq (WPO.of cm bM ?_);have s:=s1;refine zr U (za U (zv<|WPO.seq (WPO.of cm bM<|zK 4 U (zf U (lJ _ _) (zh U (o_load U (s.ld 0 U nO U)) (hd) (zk 2 U (zc U (I) ?_)))))));rintro v h ⟨rfl,rfl⟩;refine zo U (cI U U) (zp U (zv (zj U (WP.skip<|WPO.seq (WPO.seq (WPO.of cm bM ?_))))));have s:=s6;refine zK 3 U (zY s 0 DS oX U (aq.any U U U (OpR.range U U (show rangeV prog h 108 (.map mid)=some (.ptr h.next 0,h.new (.iter mid clock clock [])) by simp only[rangeV,qQ,gm])) ?_))
   rintro v h' ⟨rfl,rfl⟩;refine zv ?_;have s7:=s.new (.iter mid clock clock []);refine WPO.block ((TT (row:=row) (es:=es) (S:=_) U vC hb mh hkr dG ⟨[],⟨U,U,aa⟩,U,⟨U,λ_ _=>U⟩,by rw[Of];exact s7⟩).mono ?_);rintro ex E' h' ⟨rfl,fg,hs,seen,s⟩;refine WPO.of cm bM (WP.has fg ?_);have e1:=s.adA (P:=prog) (k:=1) (t:=107) (off:=2) (v:=.aP) U Zu U O U U;have s8:=s.put (o':=.cells 12 (List.set (GL δ.bZ.room (.sl im 0 δ.bZ.aU.length (.exact δ.bZ.aU.length)) wt (.map mid) lg δ.bZ.bP mk δ.bZ.a_ ops δ.bZ.dead tn tl) 2 .aP) false) (k:=1) U;have nL:p≠im:=(s.ae [1,1]).ne;have ZN:mid≠im:=(s.ae [3,2]).ne;have gi:=s.row (k:=2) U;have J:=Xi (p:=p) (cs:=(GL δ.bZ.room (.sl im 0 δ.bZ.aU.length (.exact δ.bZ.aU.length)) wt (.map mid) lg δ.bZ.bP mk δ.bZ.a_ ops δ.bZ.dead tn tl)) hs gi nL ZN;dsimp only[setA] at s8;refine zK 4 U (zf U (DR _ _) (aq.SV U U (wO U U e1) ?_));have s:=s8;have gm8:=s.row (k:=3) U;refine zk 5 U (zY s 1 DS oX U (aq.cy U U (OpR.builtin U U U (Xj gm8 qQ)) ?_));rintro v h'' rfl;exact zk 5 U (WP.ret ⟨aa,jk U,J.1,J.2⟩)
end
end Go.Proofs.YtiojppeahfoiaaaGreat.Am

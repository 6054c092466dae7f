/- TreeMany: a part of its proof; conditions: its statement's. -/
import Derived.Test.YtdonpgpfplgigaaGreatQ02
import Derived.Test.YtdonpgpfplgigaaGreatQ03
set_option linter.defProp false
namespace Go.Proofs.YtdonpgpfplgigaaGreat.Am
open Go Go.Maps Go.Sort Go.Shelf Go.RowKit
def aO:=@Tryz.underlying98
def jH:=@Tryz.underlying32
def mg:=@Tryz.underlying45
def FZ:=@Tryz.underlying213
def B5:=@Tryz.underlying211
def KG:=@Tryz.underlying269
def KH:=@Tryz.underlying278
abbrev af {α:Type}:Option α:=none
variable {X:aG} {C:gN} {Q:Ex->List (Nat×V)->H->Prop} {kd pg:Int} {now:List (Int×List Nat)} {E:List (Nat×V)} {S:List aG} {l b data:List Nat} {cs post args:List V} {g n k i size bj a d z p6 id off q j tx pv nx j1 j2 p1 r dX aQ:Nat} {y:Operand} {P:Program} {α:Type} {t e:TypeId} {x u bv dt w v' wh di:V}
theorem acW (m:Nat): AnyZI.SortsIn Tryz.prog Tryz.sorted61_ren Fence.wide m :=
 ⟨λpn off cap ss W hH I fY=>callsIn_wide.2 (AnyM.slices_Sort_int Tryz.sort143 pn off cap ss W hH I fY),
  λp cap W=>callsIn_wide.2 (AnyM.slices_Sort_int_none Tryz.sort143 p cap W)⟩
theorem NV (eg:∀args w,(callFunc g args).run Tryz.prog w=.ok (.enter g args) w){Bm:Nat}{D0:DataW Unit}{w:World}(lj:Maps.size D0<=maxLen)(I:Maps.size D0*8<=140737488355328)
 (adS:SeqGives Fence.wide 2 Tryz.prog g #[.pointer (some ⟨Bm,0,none⟩)] encZ (λss=>ss.Perm (intKeys D0)) (Maps.size D0) w):
  Calls Tryz.prog 61 #[.func (.func g) #[] #[.pointer (some ⟨Bm,0,none⟩)]] w λe w'=>∃(v:Value) (ss:List Int),e=.returned v/\ss.Perm (intKeys D0) /\
   w'.ownsRow w.heap.size 3 1 v ss.length ((ss.mergeSort (λx y=>decide (x<=y))).map encZ)/\(v=.slice none 0 0↔ss=[])/\Below w.heap.size w w' :=
 (callsIn_wide (n:=5)).1 (AnyZI.sorted_in Tryz.sorted61 Fence.wide 5 aa aa aa aa U (by omega) (acW _) (enters_of Tryz.func143 (by rfl) U) g _ aa eg _ _ lj I _ adS)
def DC : List Nat:=[144,205]
theorem R_ : IB Tryz.prog 61 3 DC:=by
 intro g hg Bm b nn D0 w hB hm Pp lj I;simp only[DC,gz,ke,nG] at hg;rcases hg with rfl|rfl
 .exact NV (enters_of Tryz.func144 (by rfl) U) lj I (AnyZI.keys_gives (ρ:=Tryz.keys62_ren) { Tryz.keys62 with } Fence.wide _ aa U (by omega) Bm b nn D0 w hB hm Pp)
 .exact NV (enters_of Tryz.func205 (by rfl) U) lj I (AnyZI.keys_gives (ρ:=Tryz.keys169_ren) { Tryz.keys169 with } Fence.wide _ aa U (by omega) Bm b nn D0 w hB hm Pp)
end Go.Proofs.YtdonpgpfplgigaaGreat.Am
namespace Go.Proofs.YtdonpgpfplgigaaGreat.Am
open Go
variable {X:aG} {C:gN} {Q:Ex->List (Nat×V)->H->Prop} {kd pg:Int} {now:List (Int×List Nat)} {E:List (Nat×V)} {S:List aG} {l b data:List Nat} {cs post args:List V} {g n k i size bj a d z p6 id off q j tx pv nx j1 j2 p1 r dX aQ:Nat} {y:Operand} {P:Program} {α:Type} {t e:TypeId} {x u bv dt w v' wh di:V}
def KI : List Nat:=[189,209,210,191,190,200,192,140]
structure Std (told:cu): Prop where
 free:∀f,inL KI f=true->told f=none
 more:told 211=some toldMore
theorem wrap_u64 (h:n<18446744073709551616): IntKind.wrap .u64 (n:Int)=(n:Int):=by
 grind[IntKind.wrap,IntKind.bits,IntKind.signed]
theorem wrap_u8 (n:Nat): IntKind.wrap .u8 (n:Int)=((n%256:Nat):Int):=by
 rfl
def digits : Nat->Nat->List Nat
 |0,n=>[n%128]
 |k+1,n=>if n<128 then[n] else(n%128+128)::digits k (n/128)
set_option maxRecDepth 10000 in
theorem acX (h:n<256): Nat.lor n 128=n%128+128:=by
 have:∀m:Fin 256,Nat.lor m.1 128=m.1%128+128:=by decide
 exact this ⟨n,h⟩
theorem PJ (h:n<256): intV .or .u8 (n:Int) 128=some (.int .u8 ((n%128+128:Nat):Int)):=by
 have I:((n:Int)%(2^(IntKind.u8).bits:Int)).toNat=n:=by grind[IntKind.bits]
 have h2:((128:Int)%(2^(IntKind.u8).bits:Int)).toNat=128:=by rfl
 grind[intV,bitsV,acX,wrap_u8]
theorem adT : shiftV .shr .u64 (n:Int) 7=some (.int .u64 ((n/128:Nat):Int)):=by
 grind[shiftV,IntKind.bits]
section
variable {told:cu}
noncomputable def vtX : Code:=unloop (unblk (leftC (eC ((Tryz.f209.body).getD .skip))))
theorem xZ {h:H}: convV Tryz.prog h 42 5 (.int .u64 (n:Int))=some (.int .u8 ((n%256:Nat):Int),h):=by
 simp[convV,wrap_u8]
theorem B6 (h:n<128): digits k n=[n]:=by
 cases k<;>grind[digits]
theorem F0 {h:H}(hn:n<128)(I:look E 1=some (.int .u64 (n:Int)))
 (hq:Q (.exit 0) ((6,.bool false)::(5,.int .u64 (n:Int))::E) h): WP ⟨Tryz.prog,told⟩ 20 (.loop vtX) E h Q:=by
 refine WP.loop (WP.seq (WP.seq (WP.region U ?_)));refine zo U (bZ I) (zo U (aq (v:=.int .u64 (n:Int)) (u:=.int .u64 128) (r:=.bool false) U U (by simp only[binV,ikBeq,ag,intV];congr 2;simp;omega)) ?_);exact au.nil (WP.cond (t:=false) U (WP.exit hq))
theorem MJ : ∀(k n:Nat) (l:List Nat) (s:V) (h:H) (E:List (Nat×V)) (Q:Ex->List (Nat×V)->H->Prop),nN h->lH h s l->n<128^(k+1)->k<=9->l.length+k+1<=140737488355328 ->
  look E 0=some s->look E 1=some (.int .u64 (n:Int)) ->
  (∀E' h' s' l' (m:Nat),look E' 0=some s'->look E' 1=some (.int .u64 (m:Int))->m<128->l'++[m]=l++digits k n->lH h' s' l'->fL (2*k) (rowIds s) h h'->(∀i∈rowIds s',i∈rowIds s\/h.next<=i)->Q (.exit 0) E' h') ->
  WP ⟨Tryz.prog,told⟩ 20 (.loop vtX) E h Q:=by
 intro k;induction k with
 |zero =>
  intro n l s h E Q hw hs hn _ _ h0 h1 hq;have I:n<128:=by omega
  exact F0 I h1 (hq _ h s l n h0 h1 I (by rw[B6 I]) hs (fL.refl hw _) (λi hi=>.inl hi))
 |succ k ih =>
  intro n l s h E Q hw hs hn hk hl h0 h1 hq;by_cases I:n<128
  .exact F0 I h1 (hq _ h s l n h0 h1 I (by rw[B6 I]) hs ((fL.refl hw _).mono (gG _) (λ_ h=>h)) (λi hi=>.inl hi))
  .have hd:n/128<128^(k+1):=by
    omega
   refine WP.loop (WP.seq (WP.seq (WP.region U ?_)));refine zo U (bZ h1) (zo U (aq (v:=.int .u64 (n:Int)) (u:=.int .u64 128) (r:=.bool true) U U (by simp only[binV,ikBeq,ag,intV];congr 2;simp;omega)) ?_);refine au.nil (WP.cond (t:=true) U (WP.skip ?_));refine WP.block (WP.seq (WP.region U ?_));refine zo U (bZ h0) (zo U (bZ h1) (zo U (cN (v:=.int .u64 (n:Int)) U xZ) (zo U (aq (v:=.int .u8 ((n%256:Nat):Int)) (u:=.int .u8 128) (r:=.int .u8 ((n%256%128+128:Nat):Int)) U U (by exact PJ (by omega))) ?_)));refine au.Ps (b:=n%256%128+128) U hw U U U U U U (by omega) (λv h₁ b1 k1 f1 => ?_);have ej:lH h₁ s l:=hs.qx hw k1 (λi _=>ke);refine au.app (s:=s) (x:=v) U k1.wf U U U U U U U ej b1.view (by grind) (λv2 acY b2 k2 f2 => ?_);have kZ:fL 2 (rowIds s) h acY:=(k1.mono (aH _) (λi hi=>by grind)).trans k2 (λi hi=>.inl hi);refine za U ?_;refine au.nil (WP.region U ?_);refine zo U (bZ h1) (zo U (aq (v:=.int .u64 (n:Int)) (u:=.int .u64 7) (r:=.int .u64 ((n/128:Nat):Int)) U U adT) (zk 2 U ?_));refine ih (n/128) (l++[n%256%128+128]) v2 acY _ Q kZ.wf b2 hd (by omega) (by grind) U U (λE' h' s' l' m q1 q2 q3 q4 q5 q6 q7 => ?_);refine hq E' h' s' l' m q1 q2 q3 ?_ q5 ?_ (λi hi => ?_)
   .grind[digits]
   .exact(kZ.trans q6 (λi hi=>(f2 i hi).imp_right (λh=>c_ k1.le h))).mono (by omega) (λi hi=>hi)
   .rcases q7 i hi with h3|h3
    .exact(f2 i h3).imp_right (λh=>c_ k1.le h)
    .exact .inr (c_ kZ.le h3)
theorem IM (hT:Std told){h:H}{s:V}(hw:nN h)(hs:lH h s l)(hn:n<128^(k+1))(hk:k<=9)(hl:l.length+k+1<=140737488355328):
  Call ⟨Tryz.prog,told⟩ 209 [s,.int .u64 (n:Int)] h λv h'=>lH h' v (l++digits k n)/\fL (2*k+2) (rowIds s) h h'/\∀i∈rowIds v,i∈rowIds s\/h.next<=i:=by
 refine Call.of_wp (hT.free _ U) Tryz.func209 U U ?_;refine WP.seq (WP.region U (au.op U U U (iY U) (au.nil ?_)));refine WP.seq (WP.block ?_);refine MJ k n l s h _ _ hw hs hn hk hl U U (λE' h' s' l' m q1 q2 q3 q4 q5 I q7 => ?_);have DZ:l'.length=l.length+(digits k n).length-1:=by
  have:=dg List.length q4;simp at this;omega
 have xk:∀(k n:Nat),(digits k n).length<=k+1:=by
  intro k;induction k<;>grind[digits]
 have afq:=xk k n;refine WP.seq (WP.region U ?_);refine zo U (bZ q1) (zo U (bZ q2) (zo U (cN (v:=.int .u64 (m:Int)) U xZ) ?_));refine au.Ps (b:=m%256) U I.wf U U U U U U (by omega) (λv h₁ b1 k1 f1 => ?_);have ej:lH h₁ s' l':=q5.qx I.wf k1 (λi _=>ke);refine au.app (s:=s') (x:=v) U k1.wf U U U U U U U ej b1.view (by grind) (λv2 acY b2 k2 f2 => ?_);refine za U ?_;refine au.nil (WP.ret ?_);refine⟨aa,v2,U,?_,?_,λi hi => ?_⟩
 .grind
 .refine((I.trans k1 (λi hi=>by grind)).trans k2 (λi hi => ?_)).mono (by omega) (λi hi=>hi)<;>grind
 .rcases f2 i hi with h3|h3
  .grind
  .exact .inr (by have:=I.le;have:=k1.le;omega)
theorem KJ {h:H}(I:n<18446744073709551616): convV Tryz.prog h 3 42 (.int .i64 (n:Int))=some (.int .u64 (n:Int),h):=by
 simp_all[convV,wrap_u64]
theorem iP : ∀(k n:Nat),(digits k n).length<=k+1:=by
 intro k;induction k<;>grind[digits]
theorem Y4 (I:Std told){h:H}{s:V}{m:List Nat}(hw:nN h)(hs:lH h s l)(hx:View h x m)(hd:∀i∈rowIds x,i∉rowIds s)(hn:m.length<128^(k+1))(hk:k<=9)(hl:l.length+k+1+m.length<=140737488355328):
  Call ⟨Tryz.prog,told⟩ 210 [s,x] h λv h'=>lH h' v (l++digits k m.length++m)/\fL (2*k+3) (rowIds s) h h'/\∀i∈rowIds v,i∈rowIds s\/h.next<=i:=by
 refine Call.of_wp (I.free _ U) Tryz.func210 U U ?_;refine WP.seq (WP.region U (au.op U U U (iY U) (au.nil ?_)));refine WP.seq (WP.region U ?_);refine zk 2 U (zo U (aC (v:=x) U U U hx.len) (zo U (cN (v:=.int .i64 (m.length:Int)) U (KJ (by omega))) ?_));refine au.call U U U U U U U (IM I (k:=k) hw hs hn hk (by omega)) (λv h₁ ⟨b1,k1,f1⟩ => ?_);refine zm U ?_;have xk:=iP k m.length;refine au.app (s:=v) (x:=x) U k1.wf U U U U U U U b1 (hx.qx hw k1 hd) (by grind) (λv2 acY b2 k2 f2 => ?_);refine au.op U U U (iY U) (au.nil (WP.ret ?_));refine⟨aa,v2,U,b2,(k1.trans k2 f1).mono (by omega) (λi hi=>hi),λi hi => ?_⟩;rcases f2 i hi with h3|h3
 .grind
 .exact .inr (c_ k1.le h3)
def le : Nat->Nat->List Nat
 |0,_=>[]
 |k+1,n=>(n%256)::le k (n/256)
theorem cO : ∀(k n:Nat),(le k n).length=k:=by
 intro k;induction k<;>grind[le]
theorem PK : ∀(k n:Nat),∀b∈le k n,b<256:=by
 intro k;induction k with
 |zero=>intro n b I;cases I
 |succ k ih =>
  intro n b I;rcases List.mem_cons.1 I with rfl|I<;>grind
noncomputable def lyX : Code:=unloop (unblk (eC (leftC (eC ((Tryz.f189.body).getD .skip)))))
theorem adU (hi:i<=8): shiftV .shr .u64 (n:Int) ((8*i:Nat):Int)=some (.int .u64 ((n/256^i:Nat):Int)):=by
 simp only[shiftV,IntKind.bits,fS];rw[show min (8*i) 64=8*i by omega,show decide (((8*i:Nat):Int)<0)=false by rfl,aS];rw[Int.fdiv_eq_ediv_of_nonneg _ (Int.pow_nonneg (by omega))];rw[show(256:Nat)^i=2^(8*i) by rw[Nat.pow_mul]]
 push_cast
 rfl
theorem Vc (fY:size<=8): ∀(j i:Nat) (l:List Nat) (s:V) (h:H) (E:List (Nat×V)) (Q:Ex->List (Nat×V)->H->Prop),nN h->lH h s l->i+j=size->l.length+j<=140737488355328 ->
  look E 0=some s->look E 2=some (.int .u64 (n:Int))->look E 8=some (.int .i64 (size:Int))->look E 9=some (.int .i64 (i:Int)) ->
  (∀E' h' s',look E' 0=some s'->lH h' s' (l++le j (n/256^i))->fL (2*j) (rowIds s) h h'->(∀i∈rowIds s',i∈rowIds s\/h.next<=i)->Q (.exit 0) E' h') ->
  WP ⟨Tryz.prog,told⟩ 22 (.loop lyX) E h Q:=by
 intro j;induction j with
 |zero =>
  intro i l s h E Q hw hs hi _ h0 h2 h8 h9 hq;refine WP.loop (WP.seq (WP.region U ?_));refine zo U (aq (v:=.int .i64 (i:Int)) (u:=.int .i64 (size:Int)) (r:=.bool false) h9 h8 (by simp_all[binV,ikBeq,intV])) ?_;refine au.nil (WP.seq (WP.cond (t:=false) U (WP.exit ?_)));exact hq _ h s h0 (by simpa[le] using hs) (fL.refl hw _) (λi hi=>.inl hi)
 |succ j ih =>
  intro i l s h E Q hw hs hi hl h0 h2 h8 h9 hq;refine WP.loop (WP.seq (WP.region U ?_));refine zo U (aq (v:=.int .i64 (i:Int)) (u:=.int .i64 (size:Int)) (r:=.bool true) h9 h8 (by simp only[binV,ikBeq,ag,intV];congr 2;simp;omega)) ?_;refine au.nil (WP.seq (WP.cond (t:=true) U (WP.skip ?_)));refine WP.seq (WP.block (WP.seq (WP.region U ?_)));refine zo U (bZ h9) ?_;refine au.op U U U (iY U) (au.nil (WP.region U ?_));refine zo U (bZ h0) (zo U (bZ h2) (zm U ?_));refine au.op U U U (aq (v:=.int .i64 8) (u:=.int .i64 (i:Int)) (r:=.int .i64 ((8*i:Nat):Int)) U U (by
   simp only[binV,ikBeq,ag,intV];rw[show(8:Int)*(i:Int)=((8*i:Nat):Int) by rfl,wrap_i64 (by omega)])) ?_
  refine zo U (aq (v:=.int .u64 (n:Int)) (u:=.int .i64 ((8*i:Nat):Int)) (r:=.int .u64 ((n/256^i:Nat):Int)) U U (by exact adU (by omega))) ?_;refine zo U (cN (v:=.int .u64 ((n/256^i:Nat):Int)) U xZ) ?_;refine au.Ps (b:=n/256^i%256) U hw U U U U U U (by omega) (λv h₁ b1 k1 f1 => ?_);have ej:lH h₁ s l:=hs.qx hw k1 (λi _=>ke);refine au.app (s:=s) (x:=v) U k1.wf U U U U U U U ej b1.view (by grind) (λv2 I b2 k2 f2 => ?_);have kZ:fL 2 (rowIds s) h I:=(k1.mono (aH _) (λi hi=>by grind)).trans k2 (λi hi=>.inl hi);refine au.op U U U (iY U) (au.nil (WP.region U ?_));refine zo U (aq (v:=.int .i64 (i:Int)) (u:=.int .i64 1) h9 U (by simp only[binV,ikBeq,ag];exact BL (by omega))) ?_;refine au.op U U U (bZ U) (au.nil ?_);refine ih (i+1) (l++[n/256^i%256]) v2 I _ Q kZ.wf b2 (by omega) (by grind) U h2 h8 U (λE' h' s' q1 q2 q3 q4 => ?_);refine hq E' h' s' q1 ?_ ?_ (λi hi => ?_)
  .grind[Nat.div_div_eq_div_mul,le]
  .exact(kZ.trans q3 (λi hi=>(f2 i hi).imp_right (λh=>c_ k1.le h))).mono (by omega) (λi hi=>hi)
  .rcases q4 i hi with h3|h3
   .exact(f2 i h3).imp_right (λh=>c_ k1.le h)
   .exact .inr (c_ kZ.le h3)
theorem Sa (hT:Std told){h:H}{s:V}(hw:nN h)(hs:lH h s l)(I:size<=8)(hl:l.length+size<=140737488355328):
  Call ⟨Tryz.prog,told⟩ 189 [s,.int .i64 (size:Int),.int .u64 (n:Int)] h λv h'=>lH h' v (l++le size n)/\fL (2*size) (rowIds s) h h'/\∀i∈rowIds v,i∈rowIds s\/h.next<=i:=by
 refine Call.of_wp (hT.free _ U) Tryz.func189 U U ?_;refine WP.seq (WP.region U (au.op U U U (iY U) (au.nil ?_)));refine WP.seq (WP.seq (WP.region U ?_));refine zm U ?_;refine au.op U U U (bZ U) (au.nil (WP.block ?_));refine Vc I size 0 l s h _ _ hw hs (by omega) hl U U U U (λE' h' s' q1 q2 q3 q4 => ?_);refine WP.seq (WP.region U ?_);refine zo U (bZ q1) ?_;refine au.op U U U (iY U) (au.nil (WP.ret ?_));exact⟨aa,s',U,by grind,q3,q4⟩
theorem PL : ∀(l:List Nat),(∀b∈l,b<256)->bytesIn (ofBytes l)=some l:=by
 intro l;induction l<;>grind[List.mem_cons_self,bytesIn,ofBytes]
def Er (s:Nat)(l:List Nat): Nat:=Nat.xor (crcL (Nat.xor s 4294967295) l) 4294967295
theorem HQ {s:Nat}(hs:s<4294967296)(hl:∀b∈l,b<256): Er s l<4294967296:=qE (HD l _ (qE hs) hl)
theorem NX (hT:Std told){h:H}{s:Nat}(hx:View h x l)(hl:l.length<=4611686018427387904)(hs:s<4294967296):
  iV ⟨Tryz.prog,told⟩ 211 [.int .u32 (s:Int),x] h (.int .u32 (Er s l:Nat)) h:=by
 refine iV.told hT.more Fu U ?_;have I:=hx;obtain⟨hb,I⟩:=I;rcases I with⟨rfl|⟨ea,rfl⟩,rfl⟩|⟨id,off,cap,n,cs,st,rfl,hg,h1,h2,h3,h4⟩
 .simp only[toldMore];rw[show(decide ((0:Int)<=(s:Int))&&decide ((s:Int)<4294967296))=true by grind];rfl
 .simp only[toldMore];rw[show(decide ((0:Int)<=(s:Int))&&decide ((s:Int)<4294967296))=true by grind];rfl
 .simp only[toldMore];rw[show(decide ((0:Int)<=(s:Int))&&decide ((s:Int)<4294967296)&&Nat.ble l.length 4611686018427387904)=true by simp[aR];omega,ag,(View.rdN hx).2];simp only[PL l hb];rfl
theorem acZ (I:Std told){h:H}(hx:View h x l)(hl:l.length<=4611686018427387904):
  Call ⟨Tryz.prog,told⟩ 200 [x] h λv h'=>v=.int .u32 (Er 0 l:Nat)/\h'=h:=by
 refine Call.of_wp (I.free _ U) Tryz.func200 U U ?_;refine WP.seq (WP.region U (au.op U U U (iY U) (au.nil ?_)));refine WP.seq (WP.region U ?_);refine zm U ?_;refine au.call (BJ:=λv h'=>v=.int .u32 (Er 0 l:Nat)/\h'=h) U U U U U U U ⟨_,_,NX (s:=0) I hx hl (by omega),U,U⟩ (λv h₁ ⟨e1,e2⟩ => ?_);subst e1;subst e2;exact au.op U U U (iY U) (au.nil (WP.ret ⟨aa,_,U,U,U⟩))
def F1 (bj:Nat)(l:List Nat): Nat:=Er (Er 0 (le 8 bj)) l
theorem Vd (hl:∀b∈l,b<256): F1 bj l<4294967296:=HQ (HQ (by omega) (PK 8 bj)) hl
theorem Sb (hT:Std told){h:H}(hw:nN h)(hx:View h x l)(hl:l.length<=4611686018427387904):
  Call ⟨Tryz.prog,told⟩ 192 [.int .u64 (bj:Int),x] h λv h'=>v=.int .u32 (F1 bj l:Nat)/\fL 16 [] h h':=by
 refine Call.of_wp (hT.free _ U) Tryz.func192 U U ?_;refine WP.seq (WP.region U (au.op U U U (iY U) (au.nil ?_)));refine WP.seq (WP.region U ?_);refine zm U ?_;refine au.call U U U U U U U (Sa (size:=8) (s:=.aZ) (l:=[]) (n:=bj) hT hw ⟨by simp,.inl ⟨U,U⟩⟩ (by omega) (by simp)) (λv h₁ ⟨b1,k1,f1⟩ => ?_);rw[dJ] at b1;refine au.call U U U U U U U (acZ hT b1.view (by rw[cO];omega)) (λv2 I ⟨e1,e2⟩ => ?_);subst e1;subst e2;refine zm U ?_;refine au.call (BJ:=λv h'=>v=.int .u32 (F1 bj l:Nat)/\h'=I) U U U U U U U
  ⟨_,_,NX (s:=Er 0 (le 8 bj)) hT (hx.qx hw k1 (λi _ hi=>by simp[rowIds] at hi)) hl (HQ (by omega) (PK 8 bj)),U,U⟩ (λv3 ae0 ⟨e3,e4⟩ => ?_)
 subst e3;subst e4;exact au.op U U U (iY U) (au.nil (WP.ret ⟨aa,_,U,U,k1.mono (aH _) (λi hi=>by simp[rowIds] at hi)⟩))
end
def abd : List Nat:=[]
def abe : List Nat:=[32]
def abf : List Nat:=[]
def abg : List Nat:=[]
def abh : List Nat:=[]
def abi : List Nat:=[116,52]
def KK : List Nat:=abd++(abe++(abf++(abg++(abh++(abi++[211,61,206,171,172])))))
structure W (told:cu): Prop where
 free:∀f,inL KK f=false->told f=none
 more:told 211=some toldMore
 sorted:told 61=some (toldSorted DC)
theorem W.XE {told:cu}(I:W told): Std told:=by
 refine⟨λf hf=>I.free f ?_,I.more⟩;have:∀f∈KI,inL KK f=false:=by decide
 grind[Rm]
def y8 (v:V): Option (List Nat)->aG
 |none=>.pu (v=.aZ)
 |some b=>.an (.pu (v≠.aZ)) (.cG v b)
theorem bf.y8 (v:V)(o:Option (List Nat)): bf (Am.y8 v o):=by
 cases o with
 |none=>exact bf.pu _
 |some b=>exact bf.an (bf.pu _) (bf.cG _ _)
def each {α:Type}(f:V->α->aG): List V->List α->aG
 |[],[]=>.pu True
 |v::l,x::m=>.an (f v x) (each f l m)
 |_,_=>.pu False
theorem bf.each {f:V->α->aG}(I:∀v x,bf (f v x)): ∀(l:List V) (m:List α),bf (Am.each f l m):=by
 intro l;induction l with
 |nil=>intro m;cases m<;>exact bf.pu _
 |cons v l ih=>intro m;cases m with
  |nil=>exact bf.pu _
  |cons x m=>exact bf.an (I _ _) (ih m)
section
variable {f:V->α->aG} {a b:PM}
theorem Es : ∀ {l:List V} {m:List α},(each f l m).p a b->l.length=m.length:=by
 intro l;induction l with
 |nil=>intro m h;cases m with
  |nil=>rfl
  |cons x m=>exact h.elim
 |cons v l I=>intro m h;cases m with
  |nil=>exact h.elim
  |cons x m=>simp only[aX,I h.2]
theorem KL : ∀ {l:List V} {m:List α} {i:Nat} {v:V} {x:α},(each f l m).p a b->l[i]?=some v->m[i]?=some x->(f v x).p a b:=by
 intro l;induction l with
 |nil=>simp
 |cons u l ih=>intro m i v x h hv I;cases m with
  |nil=>grind
  |cons y m =>
   cases i with
   |zero=>simp at hv I;subst hv;subst I;exact h.1
   |succ i=>exact ih h.2 hv I
theorem Au : ∀ {l:List V} {m:List α} {I:List V} {m':List α},(each f l m).p a b->(each f I m').p a b->(each f (l++I) (m++m')).p a b:=by
 intro l;induction l with
 |nil=>intro m I m' h hv;cases m with
  |nil=>exact hv
  |cons x m=>exact h.elim
 |cons u l ih=>intro m I m' h hv;cases m with
  |nil=>exact h.elim
  |cons y m=>exact⟨h.1,ih h.2 hv⟩
theorem NY {h:H}{us:List V}{cs:List α}{c:α}(hf:∀v x,bf (f v x))(s:Sat h (each f us cs::S))(I:cs[i]?=some c): ∃u,us[i]?=some u/\Sat h (f u c::each f us cs::S):=by
 obtain⟨a,b,q1,q2,q3⟩:=s.at (k:=0) U;have hl:=Es q3;have hi:=(List.getElem?_eq_some_iff.1 I).1;have hu:us[i]?=some (us[i]'(by omega)):=aF _;exact⟨_,hu,(s.dup (bf.each hf _ _)).eD λa b h=>KL h hu I⟩
end
abbrev Wr := Nat×List Nat
structure Dk where
 room:Nat
 bG:List (Option (List Nat))
 waiting:List Wr
 now:List (Int×List Nat)
 log:List Nat
 gQ:Nat
 mark:List Nat
 cT:Int
 dead:Bool
 HR:Option Wr
 tail:List Nat
variable {δ:Dk}
def Sc (room:Nat)(pg wt I lg:V)(ct:Nat)(mk:V)(fu ops:Int)(dead:Bool)(tn tl:V): List V :=
 [.int .i64 (room:Int),pg,wt,I,lg,.int .i64 (ct:Int),mk,.int .i64 fu,.int .i64 ops,.bool dead,tn,tl]
def F2 : List V->List Wr->aG
 |[],[]=>.pu True
 |p::v::l,x::m=>.an (.an (.pu (p=.int .i64 (x.1:Int)/\v≠.aZ)) (.cG v x.2)) (F2 l m)
 |_,_=>.pu False
theorem bf.wr : ∀(m:List Wr) (l:List V),bf (F2 l m):=by
 intro m;induction m with
 |nil=>intro l;cases l with
  |nil=>exact bf.pu _
  |cons v l=>cases l<;>exact bf.pu _
 |cons x m I=>intro l;cases l with
  |nil=>exact bf.pu _
  |cons v l=>cases l with
   |nil=>exact bf.pu _
   |cons u l=>exact bf.an (bf.an (bf.pu _) (bf.cG _ _)) (I l)
theorem Y5 {a b:PM}: ∀ {m:List Wr} {l:List V} {x:Wr} {v:V},(F2 l m).p a b->v≠.aZ->(aG.cG v x.2).p a b->(F2 (l++[.int .i64 (x.1:Int),v]) (m++[x])).p a b:=by
 intro m;induction m with
 |nil=>intro l x v h I hv;cases l with
  |nil=>exact⟨⟨⟨U,I⟩,hv⟩,aa⟩
  |cons u l=>cases l<;>exact h.elim
 |cons y m ih=>intro l x v h I hv;cases l with
  |nil=>exact h.elim
  |cons u l=>cases l with
   |nil=>exact h.elim
   |cons w l=>exact⟨h.1,ih h.2 I hv⟩
theorem Y6 {a b:PM}: ∀ {m:List Wr} {l:List V},(F2 l m).p a b->l.length=m.length*2:=by
 intro m;induction m with
 |nil=>intro l h;cases l with
  |nil=>rfl
  |cons u l=>cases l<;>exact h.elim
 |cons y m I=>intro l h;cases l with
  |nil=>exact h.elim
  |cons u l=>cases l with
   |nil=>exact h.elim
   |cons w l=>have:=I h.2;simp only[aX];omega
def qK (v:V)(m:List (Option (List Nat))): aG:=xs λid:Nat=>xs λcs:List V=>star [.pu (v=.sl id 0 m.length (.exact m.length)),pt id (.cells m.length cs false),each y8 cs m]
def DD (v:V)(m:List Wr): aG:=xs λcs:List V=>star [.arr 2 v cs,F2 cs m]
def F3 (v:V): Option Wr->aG
 |none=>.pu (v=.cf)
 |some x=>xs λid:Nat=>xs λu:V=>star [.pu (v=.ptr id 0),pt id (.cells 2 [.int .i64 (x.1:Int),u] false),.cG u x.2]
def bX (p:Nat)(δ:Dk): aG:=xs λpg:V=>xs λwt:V=>xs λI:V=>xs λlg:V=>xs λmk:V=>xs λtn:V=>xs λtl:V=>xs λops:Int =>
 star [pt p (.cells 12 (Sc δ.room pg wt I lg δ.gQ mk δ.cT ops δ.dead tn tl) false),qK pg δ.bG,DD wt δ.waiting,pN (λv b=>.cG v b) I δ.now,aY lg δ.log,oh mk δ.mark,F3 tn δ.HR,oh tl δ.tail]
section
variable {h:H} {p:Nat}
theorem ep : Sat h (bX p δ::S)↔∃pg wt I lg mk tn tl ops,Sat h (pt p (.cells 12 (Sc δ.room pg wt I lg δ.gQ mk δ.cT ops δ.dead tn tl) false)::qK pg δ.bG::DD wt δ.waiting::pN (λv b=>.cG v b) I δ.now::aY lg δ.log::oh mk δ.mark::F3 tn δ.HR::oh tl δ.tail::S):=by
 simp[bX,j8,dx]
theorem sN {v:V}{m:List (Option (List Nat))}: Sat h (qK v m::S)↔∃id cs,v=.sl id 0 m.length (.exact m.length)/\Sat h (pt id (.cells m.length cs false)::each y8 cs m::S):=by
 simp[qK,j8,dx,ur]
theorem B7 {v:V}{m:List Wr}: Sat h (DD v m::S)↔∃cs,Sat h (.arr 2 v cs::F2 cs m::S):=by
 grind[DD,j8,dx]
end
section
variable {told:cu} {h:H} {v:V}
def F4 (s:Nat)(l:List Nat): Nat:=Nat.xor (crcL (Nat.xor s 4294967295) l) 4294967295
theorem Et {s:Nat}(hs:s<4294967296)(hl:∀b∈l,b<256): F4 s l<4294967296:=qE (HD _ _ (qE hs) hl)
theorem Y7 (hT:W told){s:Nat}(sa:Sat h S)(hk:getA S k=some X)(hX:cy X (cE v l))(hs:s<4294967296)(hl:l.length<=4611686018427387904):
  Call ⟨Tryz.prog,told⟩ 211 [.int .u32 (s:Int),v] h λr h'=>r=.int .u32 (F4 s l:Nat)/\h'=h:=by
 have hv:=sa.aD hk hX;refine⟨_,_,iV.told hT.more Fu U ?_,U,U⟩;have I:yP (s:Int) l=.int .u32 (F4 s l:Nat):=by rfl
 have Kx:=hv;rcases Kx.2 with⟨rfl|⟨ea,rfl⟩,rfl⟩|⟨id,off,cap,n,cs,st,rfl,_⟩
 .grind[toldMore]
 .grind[toldMore]
 .simp only[toldMore];rw[show(decide ((0:Int)<=(s:Int))&&decide ((s:Int)<4294967296)&&Nat.ble l.length 4611686018427387904)=true by simp;omega,ag,hv.rdN.2];simp only;have:∀l:List Nat,(∀b∈l,b<256)->bytesIn (ofBytes l)=some l:=by
   intro l;induction l with
   |nil=>intro _;rfl
   |cons b l ih =>
    intro hb;grind[ofBytes,bytesIn,List.mem_cons_self]
  rw[this l hv.1];simp only[I]
end
section
variable {told:cu} {h:H} {p:Nat}
theorem qg (hT:W told)(s:Sat h (X::S))(I:cy X (cE x l))(hl:l.length<1073741824):
  Call ⟨Tryz.prog,told⟩ 114 [x] h λv h'=>Sat h' (aY v l::X::S):=by
 refine Call.of_wp (hT.free _ U) Tryz.func114 U U (zK 7 U (zo U (aC U U U (bA aP (s.aD (k:=0) U I))) (au.any U U U (OpR.ux U s U U U U hl) ?_)));intro v h s;refine zm U (au.any U U U (OpR.qy U s I U U U U (by simp;omega)) ?_);intro v h s;exact zk 2 U (WP.ret ⟨aa,_,U,s⟩)
theorem Av (hT:W told)(s:Sat h (X::S))(I:cy X (cE x l))(hl:l.length<1073741824):
  Call ⟨Tryz.prog,told⟩ 145 [x] h λv h'=>Sat h' (aY v l::X::S):=by
 refine Call.of_wp (hT.free _ U) Tryz.func145 U U (zK 7 U (zo U (aC U U U (bA aP (s.aD (k:=0) U I))) (au.any U U U (OpR.ux U s U U U U hl) ?_)));intro v h s;refine zm U (au.any U U U (OpR.qy U s I U U U U (by simp;omega)) ?_);intro v h s;exact zk 2 U (WP.ret ⟨aa,_,U,s⟩)
theorem vp (hT:W told)(s:Sat h (X::S))(I:cy X (cE x l))(hl:l.length<1073741824):
  Call ⟨Tryz.prog,told⟩ 109 [x] h λv h'=>Sat h' (aY v l::X::S):=by
 refine Call.of_wp (hT.free _ U) Tryz.func109 U U (zK 7 U (zo U (aC U U U (bA aP (s.aD (k:=0) U I))) (au.any U U U (OpR.ux U s U U U U hl) ?_)));intro v h s;refine zm U (au.any U U U (OpR.qy U s I U U U U (by simp;omega)) ?_);intro v h s;exact zk 2 U (WP.ret ⟨aa,_,U,s⟩)
theorem Eu (I:W told)(s:Sat h (bX p δ::S)): Call ⟨Tryz.prog,told⟩ 97 [.ptr p 0] h λv h'=>v=.int .i64 (δ.bG.length:Int)/\h'=h:=by
 obtain⟨pg,wt,nw,lg,mk,tn,tl,ops,s⟩:=ep.1 s;obtain⟨id,cs,rfl,s'⟩:=sN.1 (s.ae [1]);exact Call.of_wp (I.free _ U) Tryz.func97 U U (zK 8 U (zY s 0 HH gu U (zo U (aC U U U (tK U aO)) (zk 2 U (WP.ret ⟨aa,_,U,U,U⟩)))))
theorem Sd (hT:W told){n:Int}(s:Sat h (bX p δ::S)): Call ⟨Tryz.prog,told⟩ 199 [.ptr p 0,.int .i64 n] h λv h'=>h'=h/\((0<=n/\n<δ.bG.length/\v=.bool true)\/(¬(0<=n/\n<δ.bG.length)/\v=.bool false)):=by
 obtain⟨pg,wt,nw,lg,mk,tn,tl,ops,s⟩:=ep.1 s;obtain⟨id,cs,rfl,s'⟩:=sN.1 (s.ae [1]);refine Call.of_wp (hT.free _ U) Tryz.func199 U U (zK 7 U ?_);refine zd U (aq U U j5) ?_ ?_
 .intro hq;have hq:0<=n:=by simpa using hq
  refine zk 4 U (zY s 0 HH gu U (zo U (aC U U U (tK U aO)) ?_));refine zd U (aq U U aK) ?_ ?_
  .intro I;have I:n<δ.bG.length:=by simpa using I
   exact zk 3 U (WP.ret ⟨aa,_,U,U,.inl ⟨hq,I,U⟩⟩)
  .intro I;have I:¬ n<δ.bG.length:=by simpa using I
   exact zk 3 U (WP.ret ⟨aa,_,U,U,.inr ⟨λh=>I h.2,U⟩⟩)
 .intro hq;have hq:¬ 0<=n:=by simpa using hq
  exact zk 11 U (WP.ret ⟨aa,_,U,U,.inr ⟨λh=>hq h.1,U⟩⟩)
def Dk.KM (δ:Dk): Nat:=δ.gQ
def Dk.gq (δ:Dk): Dk:={ δ with cT:=if 0<δ.cT then δ.cT-1 else δ.cT }
def Dk.die (δ:Dk): Dk:={ δ with dead:=true }
theorem B8 (hT:W told)(s:Sat h (bX p δ::S))(hf:δ.cT<4294967296):
  Call ⟨Tryz.prog,told⟩ 193 [.ptr p 0] h λv h'=>(δ.cT=0/\v=.bool false/\Sat h' (bX p δ.die::S))\/(δ.cT≠0/\v=.bool true/\Sat h' (bX p δ.gq::S)):=by
 obtain⟨pg,wt,nw,lg,mk,tn,tl,ops,s⟩:=ep.1 s;refine Call.of_wp (hT.free _ U) Tryz.func193 U U (zK 9 U (zY s 0 Dt bT U ?_));refine zd U (aq U U cS) ?_ ?_
 .intro hq;refine zk 6 U (zf U (rU _ _) ?_);refine zS U (by exact s.kz (k:=0) U BX U (by decide) U U) (λh s => ?_);refine zk 5 U (WP.ret ⟨aa,_,U,?_⟩);have hq:δ.cT=0:=by simpa using hq
  exact .inl ⟨hq,U,ep.2 ⟨pg,wt,nw,lg,mk,tn,tl,ops,s⟩⟩
 .intro hq;have hq:δ.cT≠0:=by simpa using hq
  refine zk 8 U (zY s 0 Dt bT U ?_);refine zd U (aq U U cP) ?_ ?_
  .intro I;have I:0<δ.cT:=by simpa using I
   refine zk 5 U (zY s 0 Dt bT U (zb U (by exact dM ak) ?_));refine zn U (zf U (Dt _ _) ?_);refine zS U (by exact s.kz (k:=0) U lI U (by decide) U U) (λh s => ?_);refine zk 5 U (zY s 0 Du bT U (zb U (by rfl) ?_));refine zn U (zf U (Du _ _) ?_);refine zS U (by exact s.kz (k:=0) U lI U (by decide) U U) (λh s => ?_);exact zk 5 U (WP.ret ⟨aa,_,U,.inr ⟨hq,U,ep.2 ⟨pg,wt,nw,lg,mk,tn,tl,_,by simp only[Dk.gq,ay I];exact s⟩⟩⟩)
  .intro I;have I:¬ 0<δ.cT:=by simpa using I
   refine zk 7 U (zY s 0 Du bT U (zb U (by rfl) ?_));refine zn U (zf U (Du _ _) ?_);refine zS U (by exact s.kz (k:=0) U lI U (by decide) U U) (λh s => ?_);exact zk 5 U (WP.ret ⟨aa,_,U,.inr ⟨hq,U,ep.2 ⟨pg,wt,nw,lg,mk,tn,tl,_,by simp only[Dk.gq,ai I];exact s⟩⟩⟩)
def Dk.at (δ:Dk)(n:Int): List Nat:=match lookL n δ.now with
 |some b=>b
 |none=>match δ.bG[n.toNat]? with
  |some (some b)=>b
  |_=>List.replicate 512 0
theorem PN {v:V}{m:List (Option (List Nat))}(s:Sat h (qK v m::S))(hi:i<m.length):
  ∃id u,v=.sl id 0 m.length (.exact m.length)/\(∀(P:Program) (t:TypeId),isAggT P t=some false->loadV P h t (.ptr id i)=some u)/\Sat h (y8 u m[i]::qK v m::S):=by
 obtain⟨id,cs,rfl,s1⟩:=sN.1 s;obtain⟨a,b,q1,q2,I⟩:=s1.at (k:=1) U;have hl:=Es I;have hu:cs[i]?=some (cs[i]'(by omega)):=aF _;have s2:Sat h (each y8 cs m::pt id (.cells m.length cs false)::S):=s1.ae [1];have s3:=s2.dup (bf.each bf.y8 cs m);have s4:Sat h (y8 (cs[i]'(by omega)) m[i]::each y8 cs m::pt id (.cells m.length cs false)::S):=s3.eD λa b h=>KL h hu (aF hi);refine⟨id,cs[i]'(by omega),U,λP t ht=>BP ht (s1.row (k:=0) U) (by rw[gB,hu]),?_⟩;have s5:Sat h (pt id (.cells m.length cs false)::each y8 cs m::y8 (cs[i]'(by omega)) m[i]::S):=s4.ae [2,1];exact(sN.2 ⟨id,cs,U,s5⟩:Sat h (qK _ m::y8 (cs[i]'(by omega)) m[i]::S)).ae [1]
theorem Ve (hT:W told){n:Int}(s:Sat h (bX p δ::S))(hl:(δ.at n).length=512): Call ⟨Tryz.prog,told⟩ 148 [.ptr p 0,.int .i64 n] h λv h' =>
  (δ.dead=true/\v=.aV [.aZ,.int .i64 9]/\Sat h' (bX p δ::S)) \/
  (δ.dead=false/\¬(0<=n/\n<δ.bG.length)/\v=.aV [.aZ,.int .i64 1]/\Sat h' (bX p δ::S)) \/
  (δ.dead=false/\0<=n/\n<δ.bG.length/\∃b,v=.aV [b,.int .i64 0]/\Sat h' (aY b (δ.at n)::bX p δ::S)):=by
 have s0:=s;obtain⟨pg,wt,nw,lg,mk,tn,tl,ops,s⟩:=ep.1 s;refine Call.of_wp (hT.free _ U) Tryz.func148 U U (zK 6 U (WP.block (zK 4 U (zY s 0 rU sF U (zk 2 U ?_)))));refine WP.split U ?_ ?_
 .intro hd;exact zK 5 U (WP.ret ⟨aa,_,U,.inl ⟨hd,U,s0⟩⟩)
 .intro hd;refine zK 4 U (zc U (Sd hT s0) ?_);rintro v h' ⟨rfl,(⟨wB,qp,rfl⟩|⟨hn,rfl⟩)⟩
  .skip;refine zo U (eo U U) (za U (zv (zj U (WP.skip (zg U (zk 2 U (zf U (NK _ _) (zl U (by exact s.ld (k:=0) U qS U) ?_))))))));refine zm U ?_;have s1:Sat h' (pN (λv b=>.cG v b) nw δ.now::pt p (.cells 12 (Sc δ.room pg wt nw lg δ.gQ mk δ.cT ops δ.dead tn tl) false)::qK pg δ.bG::DD wt δ.waiting::aY lg δ.log::oh mk δ.mark::F3 tn δ.HR::oh tl δ.tail::S):=s.ae [3];rcases om (n:=n) (λ_ _=>bf.cG _ _) s1 uy b9 lQ with⟨g1,g2,_⟩|⟨u,b,g1,g2,_,s2⟩
   .refine au.op U U U (kL U U g2) ?_;refine zk 10 U (zo U (eo U U) (zk 5 U (zY s 0 HH gu U (zm U ?_))));have hi:n.toNat<δ.bG.length:=by omega
    obtain⟨id,u,rfl,g3,s3⟩:=PN (s.ae [1]) hi;refine zo U (bM (r:=.ptr id n.toNat) U U (by rw[adM,show(decide (0<=n)&&decide (n<((δ.bG.length:Nat):Int)))=true by simp;omega,ag];simp)) ?_;refine zl U (g3 _ _ b8) (zk 6 U ?_);have I:δ.at n=match δ.bG[n.toNat] with|some b=>b|none=>List.replicate 512 0:=by
     simp only[Dk.at,g1,aF hi];cases δ.bG[n.toNat]<;>rfl
    cases hp:δ.bG[n.toNat] with
    |none =>
     rw[hp] at s3 I;have I:δ.at n=List.replicate 512 0:=I;obtain⟨rfl,_⟩:=ur.1 s3;refine zt U ((by exact aq U U (by simp only[binV,eqV,aP];rfl))) (U) ?_;refine zk 4 U (au.any U U U (OpR.FU U s0 U U U U (by decide)) ?_);intro v h s;exact zk 3 U (WP.ret ⟨aa,_,U,.inr (.inr ⟨hd,wB,qp,v,U,by rw[I];exact s⟩)⟩)
    |some b =>
     rw[hp] at s3 I;have I:δ.at n=b:=I;have s4:Sat h' (aG.an (.pu (u≠.aZ)) (.cG u b)::qK _ δ.bG::_):=s3;have hu:u≠.aZ:=by
      obtain⟨a,b,q1,q2,q3⟩:=s4.at (k:=0) U;exact q3.1
     have s5:Sat h' (.cG u b::bX p δ::S):=by
      have s6:=s4.eD (B:=.cG u b) λa b h=>h.2;exact(ep.2 ⟨_,wt,nw,lg,mk,tn,tl,ops,s6.ae [2,1,1,1,1,1,1,1]⟩:Sat h' (bX p δ::.cG u b::S)).ae [1]
     have Se:∃a b c d,u=.sl a b c d:=by
      rcases (s5.aD (k:=0) U (bC _ _)).2 with⟨_,e⟩|⟨a,b,c,_,_,_,e,_⟩
      .rw[I,e] at hl;simp at hl
      .exact⟨_,_,_,_,e⟩
     obtain⟨a,b',c,d,rfl⟩:=Se;refine zh U ((by exact aq U U (by simp only[binV,eqV,aP];rfl))) (U) ?_;refine zk 6 U (zc U (qg hT s5 (bC _ _) (by rw[<-I,hl];decide)) ?_);intro v h s;exact zk 3 U (WP.ret ⟨aa,_,U,.inr (.inr ⟨hd,wB,qp,v,U,by rw[I];exact s.del 1⟩)⟩)
   .skip;refine zo U (kL U U g2) (zk 10 U (zo U (eo U U) (zk 7 U ?_)));have I:δ.at n=b:=by simp only[Dk.at,g1]
    have Se:∃a b c d,u=.sl a b c d:=by
     rcases (s2.aD (k:=0) U (bC _ _)).2 with⟨_,e⟩|⟨a,b,c,_,_,_,e,_⟩
     .rw[I,e] at hl;simp at hl
     .exact⟨_,_,_,_,e⟩
    obtain⟨a,b',c,d,rfl⟩:=Se;refine zh U ((by exact aq U U (by simp only[binV,eqV,aP];rfl))) (U) ?_;refine zk 6 U (zc U (qg hT s2 (bC _ _) (by rw[<-I,hl];decide)) ?_);intro v h s;refine zk 3 U (WP.ret ⟨aa,_,U,?_⟩);have s:=ep.2 ⟨pg,wt,nw,lg,mk,tn,tl,ops,s.ae [3,3,3,2,2,2,2,2]⟩;exact .inr (.inr ⟨hd,wB,qp,v,U,by rw[I];exact(s.del 2).ae [1,0]⟩)
  .skip;exact zo U (eo U U) (zk 8 U (WP.ret ⟨aa,_,U,.inr (.inl ⟨hd,hn,U,s0⟩)⟩))
theorem MK (I:W told)(s:Sat h (bX p δ::S)): Call ⟨Tryz.prog,told⟩ 180 [.ptr p 0] h λv h'=>v=.int .i64 (δ.KM:Int)/\h'=h:=by
 obtain⟨pg,wt,nw,lg,mk,tn,tl,ops,s⟩:=ep.1 s;exact Call.of_wp (I.free _ U) Tryz.func180 U U (zK 8 U (zY s 0 NL bT U (zk 2 U (WP.ret ⟨aa,_,U,U,U⟩))))
theorem KN (I:W told)(s:Sat h (bX p δ::S)): Call ⟨Tryz.prog,told⟩ 36 [.ptr p 0] h λv h'=>v=.bool δ.dead/\h'=h:=by
 obtain⟨pg,wt,nw,lg,mk,tn,tl,ops,s⟩:=ep.1 s;exact Call.of_wp (I.free _ U) Tryz.func36 U U (zK 8 U (zY s 0 rU sF U (zk 2 U (WP.ret ⟨aa,_,U,U,U⟩))))
theorem Sf (hT:W told)(s:Sat h (bX p δ::S))(hf:δ.cT<4294967296): Call ⟨Tryz.prog,told⟩ 175 [.ptr p 0] h λv h' =>
  (δ.dead=true/\v=.int .i64 9/\Sat h' (bX p δ::S))\/(δ.dead=false/\δ.cT=0/\v=.int .i64 9/\Sat h' (bX p δ.die::S)) \/
  (δ.dead=false/\δ.cT≠0/\v=.int .i64 0/\Sat h' (bX p { δ.gq with gQ:=δ.log.length }::S)):=by
 have s0:=s;obtain⟨pg,wt,nw,lg,mk,tn,tl,ops,s⟩:=ep.1 s;refine Call.of_wp (hT.free _ U) Tryz.func175 U U (zK 9 U (zf U (rU _ _) ?_));refine zd U (o_load U (s.ld (k:=0) U sF U)) ?_ ?_
 .intro I;exact zk 11 U (WP.ret ⟨aa,_,U,.inl ⟨I,U,s0⟩⟩)
 .intro I;refine zk 2 U (zc U (B8 hT s0 hf) ?_);rintro v h (⟨h0,rfl,s⟩|⟨h0,rfl,s⟩)
  .skip;exact zo U (eo U U) (zk 7 U (WP.ret ⟨aa,_,U,.inr (.inl ⟨I,h0,U,s⟩)⟩))
  .skip;obtain⟨pg,wt,nw,lg,mk,tn,tl,ops,s⟩:=ep.1 s;dsimp only[Dk.gq] at s;refine zo U (eo U U) (zk 9 U (zY s 0 yW b8 U (zo U (aC U U U (bA aP (s.aD (k:=4) U (bg _ _)))) (zn U (zf U (NL _ _) ?_)))));refine zS U (by exact s.kz (k:=0) U lI U (by decide) U U) (λh s => ?_);exact zk 5 U (WP.ret ⟨aa,_,U,.inr (.inr ⟨I,h0,U,ep.2 ⟨pg,wt,nw,lg,mk,tn,tl,ops,s⟩⟩)⟩)
theorem PO (hT:W told)(s:Sat h (bX p δ::X::S))(hX:cy X (cE x b))(hb:b.length<1073741824)(hf:δ.cT<4294967296)(hl:δ.log.length<=4294967296)(hr:δ.room<=4294967296):
  Call ⟨Tryz.prog,told⟩ 141 [.ptr p 0,x] h λv h' =>
  (δ.dead=true/\v=.int .i64 9/\Sat h' (bX p δ::X::S))\/(δ.dead=false/\δ.room<δ.log.length+b.length/\v=.int .i64 7/\Sat h' (bX p δ::X::S)) \/
  (δ.dead=false/\δ.log.length+b.length<=δ.room/\δ.cT=0/\v=.int .i64 9/\Sat h' (bX p { δ.die with tail:=b }::X::S)) \/
  (δ.dead=false/\δ.log.length+b.length<=δ.room/\δ.cT≠0/\v=.int .i64 0/\Sat h' (bX p { δ.gq with log:=δ.log++b }::X::S)):=by
 have s0:=s
 obtain⟨pg,wt,nw,lg,mk,tn,tl,ops,s⟩:=ep.1 s
 refine Call.of_wp (hT.free _ U) Tryz.func141 U U (zK 5 U (WP.block (zK 4 U (zf U (rU _ _) ?_))))
 refine zd U (o_load U (s.ld (k:=0) U sF U)) ?_ ?_
 .intro hd
  exact zk 7 U (WP.ret ⟨aa,_,U,.inl ⟨hd,U,s0⟩⟩)
 .intro hd
  refine zk 4 U (WP.drawn [af,af,af,af,af,af,af,af,af,af,af,af,af,af] U (by kernel_rfl) (by kernel_rfl) ?_)
  refine zM U (zO U (aC U U U (bA aP (s.aD (k:=8) U hX))) (zM U (zN U (zF U (YW _ _) (zL U (s.ld (k:=0) U bT U) (zM U (zN U (zF U (yW _ _) (zL U (s.ld (k:=0) U b8 U) (zO U (aC U U U (bA aP (s.aD (k:=4) U (bg _ _)))) (zO U (aq U U (by exact dM ak)) ?_)))))))))))
  refine aB.opB U U U U (aq U U cP) ?_ ?_
  .intro I
   have I:δ.room<δ.log.length+b.length:=by simp at I;omega
   refine zA U ?_
   refine aB.nil ⟨⟨aa,aa,aa,aa,aa,aa,aa,aa,aa,aa,aa,aa,aa,aa,aa⟩,?_⟩
   exact zK 5 U (WP.ret ⟨aa,_,U,.inr (.inl ⟨hd,I,U,s0⟩)⟩)
  .intro I
   have I:δ.log.length+b.length<=δ.room:=by simp at I;omega
   refine zA U ?_
   refine aB.nil ⟨⟨aa,aa,aa,aa,aa,aa,aa,aa,aa,aa,aa,aa,aa,aa,aa⟩,?_⟩
   refine zK 4 U (zc U (B8 hT s0 hf) ?_)
   rintro v h (⟨h0,rfl,s⟩|⟨h0,rfl,s⟩)
   .skip
    refine zo U (eo U U) (zk 7 U (zc U (qg hT (s.ae [1]) hX hb) ?_))
    intro v h s
    have s:=(s.fh).ae [2,0,0]
    obtain⟨pg,wt,nw,lg,mk,tn,tl,ops,s⟩:=ep.1 s
    have hv:=(s.aD (k:=8) U (bC _ _)).cells
    refine zn U (zf U (U3 _ _) (zS U (s.kz (k:=0) U dQ U (by decide) hv.1 hv.2) ?_))
    intro h s
    exact zk 5 U (WP.ret ⟨aa,_,U,.inr (.inr (.inl ⟨hd,I,h0,U,ep.2 ⟨pg,wt,nw,lg,mk,tn,v,ops,s.del 7⟩⟩))⟩)
   .skip
    obtain⟨pg,wt,nw,lg,mk,tn,tl,ops,s⟩:=ep.1 s
    dsimp only[Dk.gq] at s
    refine zo U (eo U U) (za U (zv (zj U (WP.skip (zg U (zk 3 U (zf U (yW _ _) (zl U (by exact s.ld (k:=0) U b8 U) ?_))))))))
    refine zm U (au.any U U U (OpR.qy U (s.ae [4,7]) hX U U U U (by show δ.log.length+_<=_;omega)) ?_)
    intro v h s
    have hv:=(s.buf (k:=0) U).view.cells
    refine zn U (zf U (yW _ _) (zS U (s.kz (k:=2) U dQ U (by decide) hv.1 hv.2) ?_))
    intro h s
    exact zk 5 U (WP.ret ⟨aa,_,U,.inr (.inr (.inr ⟨hd,I,h0,U,ep.2 ⟨pg,wt,nw,v,mk,tn,tl,ops,s.ae [2,2,2,2,0,1,1,1]⟩⟩))⟩)
end
section
variable {told:cu} {h:H} {p:Nat}
def Dk.wr (δ:Dk)(n:Int)(b:List Nat): Dk:={ δ.gq with waiting:=δ.waiting++[(n.toNat,b)],now:=cD n b δ.now }
theorem Y8 : ∃i,Tryz.prog.info? 185=some i/\i.size=2/\i.bytes=32 :=
 ⟨_,(show Tryz.prog.info? 185=some ((Tryz.prog.info? 185).getD default) by kernel_rfl),by kernel_rfl,by kernel_rfl⟩
theorem Sat.abj {m:List Wr}{x:Wr}(s:Sat h (.cG u x.2::F2 cs m::S))(hu:u≠.aZ): Sat h (F2 (cs++[.int .i64 (x.1:Int),u]) (m++[x])::S) :=
 s.two (bf.cG _ _) (bf.wr _ _) λ_ _ I h2=>Y5 h2 hu I
theorem Sg (hT:W told){n:Int}(s:Sat h (bX p δ::X::S))(hX:cy X (cE x b))(hb:b.length<1073741824)(hf:δ.cT<4294967296)(hw:δ.waiting.length<=268435456):
  Call ⟨Tryz.prog,told⟩ 183 [.ptr p 0,.int .i64 n,x] h λv h' =>
  (δ.dead=true/\v=.int .i64 9/\Sat h' (bX p δ::X::S)) \/
  (δ.dead=false/\¬(0<=n/\n<δ.bG.length/\b.length=512)/\v=.int .i64 1/\Sat h' (bX p δ::X::S)) \/
  (δ.dead=false/\0<=n/\n<δ.bG.length/\b.length=512/\δ.cT=0/\v=.int .i64 9/\Sat h' (bX p { δ.die with HR:=some (n.toNat,b) }::X::S)) \/
  (δ.dead=false/\0<=n/\n<δ.bG.length/\b.length=512/\δ.cT≠0/\v=.int .i64 0/\Sat h' (bX p (δ.wr n b)::X::S)):=by
 have s0:=s
 obtain⟨pg,wt,nw,lg,mk,tn,tl,ops,s⟩:=ep.1 s
 refine Call.of_wp (hT.free _ U) Tryz.func183 U U (zK 5 U (WP.block (zK 4 U (zf U (rU _ _) ?_))))
 refine zd U (o_load U (s.ld (k:=0) U sF U)) ?_ ?_
 .intro hd
  exact zk 7 U (WP.ret ⟨aa,_,U,.inl ⟨hd,U,s0⟩⟩)
 .intro hd
  refine zk 7 U (zc U (Sd hT s0) ?_)
  rintro v h' ⟨rfl,(⟨wB,qp,rfl⟩|⟨hn,rfl⟩)⟩
  .skip
   refine zo U (eo U U) (zk 2 U (zo U (aC U U U (bA aP (s.aD (k:=8) U hX))) ?_))
   refine zd U (aq U U aE) ?_ ?_
   .intro I
    have I:b.length≠512:=by simp at I;omega
    exact zk 8 U (WP.ret ⟨aa,_,U,.inr (.inl ⟨hd,λq=>I q.2.2,U,s0⟩)⟩)
   .intro I
    have I:b.length=512:=by simp at I;omega
    refine zk 2 U (zv (zj U (WP.skip (zg U (zk 2 U (zc U (qg hT (s0.ae [1]) hX hb) ?_))))))
    intro u h s
    obtain⟨lU,_,cap,_,rfl,_⟩:=s.eX (by omega)
    have s:=s.fh
    have hnc:((n.toNat:Nat):Int)=n:=by omega
    refine zo U (cI U (by rw[acG];rfl)) ?_
    refine au.cg s U U U (cm PD) (λp7 h s => ?_)
    refine zS U (s.gX (j:=0) U PC U U) (λh s => ?_)
    refine zk 5 U (zc U (B8 hT (s.ae [3]) hf) ?_)
    rintro v h (⟨h0,rfl,s⟩|⟨h0,rfl,s⟩)
    .skip
     obtain⟨pg,wt,nw,lg,mk,tn,tl,ops,s⟩:=ep.1 s
     refine zo U (eo U U) (zk 6 U (zf U (U2 _ _) ?_))
     refine zS U (by exact s.kz (k:=0) U acC U (by decide) U U) (λh s => ?_)
     dsimp only[Sc,V.cells,List.length_cons,List.length_nil,Nat.reduceAdd,aL,bringA,List.take,List.drop,List.cons_append,List.nil_append,setA,List.set] at s
     refine zk 5 U (WP.ret ⟨aa,_,U,?_⟩)
     have s1:=s.ae [8,8,8]
     have s2:Sat h (F3 _ (some (n.toNat,b))::_):=j8.2 ⟨_,j8.2 ⟨_,dx.2 (ur.2 ⟨U,by rw[hnc];exact s1⟩)⟩⟩
     have s3:=(s2.del 8).ae [2,2,2,2,2,2,0,1,0]
     exact .inr (.inr (.inl ⟨hd,wB,qp,I,h0,U,ep.2 ⟨_,_,_,_,_,_,_,_,s3⟩⟩))
    .skip
     obtain⟨pg,wt,nw,lg,mk,tn,tl,ops,s⟩:=ep.1 s
     dsimp only[Dk.gq] at s
     obtain⟨cs,sw⟩:=B7.1 (s.ae [2])
     have s:=sw.ae [2,8,0,0]
     dsimp only[Sc,V.cells,List.length_cons,List.length_nil,Nat.reduceAdd,aL,bringA,List.take,List.drop,List.cons_append,List.nil_append,setA,getA] at s
     have s0:=s
     have F5:=(s.uO (j:=2) U).2.2
     refine zo U (eo U U) (zk 4 U (WP.drawn [some (0,3),some (0,2),some (0,2),some (0,2),some (0,2),af,af,af,af,af,af] U (by kernel_rfl) (by kernel_rfl) ?_))
     refine zM U (zM U (zN U (zF U (HI _ _) (zL U (s.ld (k:=0) U PB U) (zL U (s.b7 (k:=1) U acF PC) ?_)))))
     obtain⟨i1,c9,fc,pP⟩:=Y8
     obtain⟨sv,h1,e1,s1⟩:=kY (P:=Tryz.prog) (x:=.agg [.int .i64 n,.sl lU 0 b.length cap]) s Tryz.underlying169 PD PC U (by decide) (by decide) U U
     dsimp only[V.cells] at s1
     refine aB.any U U U U (OpR.of (R:=λv h'=>v=sv/\h'=h1) (iZ U e1) ⟨U,U⟩) ?_
     rintro v h' ⟨rfl,rfl⟩
     have gn:cs.length=δ.waiting.length*2:=by
      obtain⟨a,b,q1,q2,q3⟩:=s.at (k:=3) U
      exact Y6 q3
     obtain⟨wt',h2,e2,s2⟩:=iw (s1.ae [3,0]) Tryz.underlying169 c9 PD fc (by omega) U (by decide) (by simp only[V.cells,aX,bY];omega)
     dsimp only[aL,bringA] at s2
     refine aB.any U U U U (OpR.of (R:=λv h'=>v=wt'/\h'=h2) (jc U U e2) ⟨U,U⟩) ?_
     rintro v h' ⟨rfl,rfl⟩
     have hv:=s2.uO (j:=0) U
     refine zN U (zF U (HI _ _) (aB.lP U U U (OpR.yU U U U (s2.kz (k:=2) U acB U (by decide) hv.1 hv.2.1)) ?_))
     rintro v h ⟨rfl,s⟩
     dsimp only[Nat.reduceAdd,List.set,setA] at s
     refine aB.nil ⟨⟨λ_ _=>.inr ⟨U,⟨_,bZ U⟩,bp _ U⟩,λ_ _=>.inr ⟨U,⟨_,bZ U⟩,bp _ U⟩,λ_ _=>.inr ⟨U,⟨_,vk U⟩,bp _ U⟩,λ_ _=>.inr ⟨U,⟨_,mX U (HI _ _)⟩,bp _ U⟩,gC (.inr ⟨U,⟨_,o_load U (s0.ld (k:=0) U PB U)⟩,F5⟩) (.inr ⟨U,⟨_,o_load U (s1.ld (k:=1) U PB U)⟩,F5⟩),aa,aa,aa,aa,aa,aa,aa⟩,?_⟩
     refine zw (WP.drawn [af,af,af,af,af,af,af,af] U (by kernel_rfl) (by kernel_rfl) ?_)
     refine zM U (zN U (zF U (NK _ _) (zL U (s.ld (k:=2) U qS U) (zM U (zF U (YZ _ _) (zL U (s.ld (k:=3) U b8 U) (aB.lP U U U (OpR.mapUpdate U U U U (oB (f:=λv b=>aG.cG v b) (x:=b) (λ_ _=>bf.cG _ _) (((s.ae [11]).dup (bf.cG _ _)).ae [0,7]) uy b9)) ?_)))))))
     intro v h s
     dsimp only[aL,bringA] at s
     refine aB.nil ⟨⟨aa,aa,aa,aa,aa,aa,aa,aa,aa⟩,?_⟩
     refine zK 4 U (WP.ret ⟨aa,_,U,?_⟩)
     have s1:=(s.ae [1,5]).abj (x:=(n.toNat,b)) (by simp)
     rw[hnc] at s1
     have s2:=((B7.2 ⟨_,s1.ae [2,0]⟩).del 4).del 2
     exact .inr (.inr (.inr ⟨hd,wB,qp,I,h0,U,ep.2 ⟨_,_,_,_,_,_,_,_,s2.ae [2,2,0,0,0,0,0,0,0]⟩⟩))
  .skip
   exact zo U (eo U U) (zk 12 U (WP.ret ⟨aa,_,U,.inr (.inl ⟨hd,λq=>hn ⟨q.1,q.2.1⟩,U,s0⟩)⟩))
theorem Y9 (hT:W told)(s:Sat h (bX p δ::S))(hl:δ.log.length<1073741824): Call ⟨Tryz.prog,told⟩ 177 [.ptr p 0] h λv h' =>
  (δ.dead=true/\v=.aV [.aZ,.int .i64 9]/\Sat h' (bX p δ::S))\/(δ.dead=false/\∃b,v=.aV [b,.int .i64 0]/\Sat h' (aY b δ.log::bX p δ::S)):=by
 have s0:=s;obtain⟨pg,wt,nw,lg,mk,tn,tl,ops,s⟩:=ep.1 s;refine Call.of_wp (hT.free _ U) Tryz.func177 U U (zK 10 U (zf U (rU _ _) ?_));refine zd U (o_load U (s.ld (k:=0) U sF U)) ?_ ?_
 .intro I;exact zk 7 U (WP.ret ⟨aa,_,U,.inl ⟨I,U,s0⟩⟩)
 .intro I;refine zk 7 U (zY s 0 yW b8 U (zc U (qg hT (s.ae [4]) (bg _ _) hl) ?_));intro v h s;exact zk 3 U (WP.ret ⟨aa,_,U,.inr ⟨I,v,U,(ep.2 ⟨pg,wt,nw,lg,mk,tn,tl,ops,s.ae [2,2,2,2,1,1,1,1,0]⟩).ae [1]⟩⟩)
theorem PR (hT:W told)(s:Sat h (bX p δ::S))(hl:δ.mark.length<=64): Call ⟨Tryz.prog,told⟩ 176 [.ptr p 0] h λv h' =>
  (δ.dead=true/\v=.aV [.aZ,.int .i64 9]/\Sat h' (bX p δ::S))\/(δ.dead=false/\∃b,v=.aV [b,.int .i64 0]/\Sat h' (aY b δ.mark::bX p δ::S)):=by
 have s0:=s;obtain⟨pg,wt,nw,lg,mk,tn,tl,ops,s⟩:=ep.1 s;refine Call.of_wp (hT.free _ U) Tryz.func176 U U (zK 10 U (zf U (rU _ _) ?_));refine zd U (o_load U (s.ld (k:=0) U sF U)) ?_ ?_
 .intro I;exact zk 7 U (WP.ret ⟨aa,_,U,.inl ⟨I,U,s0⟩⟩)
 .intro I;refine zk 7 U (zY s 0 YX b8 U (zc U (qg hT (s.ae [5]) (bC _ _) (by omega)) ?_));intro v h s;exact zk 3 U (WP.ret ⟨aa,_,U,.inr ⟨I,v,U,(ep.2 ⟨pg,wt,nw,lg,mk,tn,tl,ops,s.ae [2,2,2,2,2,1,1,1,0]⟩).ae [1]⟩⟩)
def Dk.fresh (bG room:Nat): Dk:={ room:=room,bG:=List.replicate bG none,waiting:=[],now:=[],log:=[],gQ:=0,mark:=[],cT := -1,dead:=false,HR:=none,tail:=[] }
theorem Y_ : ∃i,Tryz.prog.info? 29=some i/\i.size=1/\i.bytes=24 :=
 ⟨_,(show Tryz.prog.info? 29=some ((Tryz.prog.info? 29).getD default) by kernel_rfl),by kernel_rfl,by kernel_rfl⟩
theorem ML (v:V): ∀n:Nat,repeatL [v] n=List.replicate n v:=by
 intro n;induction n with
 |zero=>rfl
 |succ n I=>simp only[repeatL,I,G6,fK,dJ]
theorem Sh {a b:PM}: ∀n:Nat,(each y8 (List.replicate n .aZ) (List.replicate n none)).p a b:=by
 intro n;induction n with
 |zero=>trivial
 |succ n I=>exact⟨U,I⟩
theorem Vf (hT:W told){m:Nat}(s:Sat h S)(hn:n<1073741824): Call ⟨Tryz.prog,told⟩ 112 [.int .i64 (n:Int),.int .i64 (m:Int)] h λv h'=>∃p,v=.ptr p 0/\Sat h' (bX p (Dk.fresh n m)::S):=by
 refine Call.of_wp (hT.free _ U) Tryz.func112 U U (zK 8 U ?_);obtain⟨i1,I,fc,pP⟩:=Y_;obtain⟨id,h1,e1,s1⟩:=IK (P:=Tryz.prog) s aO I lQ fc (by omega) U (by decide) hn;refine au.any U U U (OpR.of (R:=λv h'=>v=.sl id 0 n (.exact n)/\h'=h1) (Ak U U e1) ⟨U,U⟩) ?_;rintro v h ⟨rfl,rfl⟩;have s:=s1;dsimp only[V.cells] at s;rw[cH,ML] at s;refine au.BV s U U U U (λp8 h s => ?_);refine zo U (cI U (by rw[acD];rfl)) ?_;refine au.cg s U U U (fG U U) (λp10 h s => ?_);refine zk 2 U (WP.ret ⟨aa,_,U,?_⟩);have s:=(qX (f:=λv b=>aG.cG v b) (s.ae [1]));have s:=s.vm.vm.FT;have s:Sat _ (DD .aZ []::_):=B7.2 ⟨[],(s.ir (φ:=True) aa).lJ⟩;have s:Sat _ (F3 .cf none::_):=s.ir U;have s:=s.ae [6,6];have hp:Sat _ (qK (.sl id 0 n (.exact n)) (List.replicate n none)::_):=sN.2 ⟨id,List.replicate n .aZ,by rw[f_],by
  rw[f_];exact(((s.ae [1]).ir (φ:=True) aa).eD λa b _=>Sh n).ae [1]⟩
 dsimp only[V.cells,List.take,List.length_cons,List.length_nil,Nat.reduceAdd,List.drop,List.cons_append,List.nil_append,aL,bringA,getA] at hp;exact⟨_,U,ep.2 ⟨_,_,_,_,_,_,_,_,hp.ae [1,0,1,4,1,1,0,0]⟩⟩
theorem Za (hT:W told){n m:Int}(s:Sat h S): Call ⟨Tryz.prog,told⟩ 94 [.int .i64 n,.int .i64 m] h λv h' =>
  (¬(1<=n/\n<=65536/\0<=m/\m<=16777216)/\v=.aV [.cf,.int .i64 1]/\Sat h' S) \/
  (1<=n/\n<=65536/\0<=m/\m<=16777216/\∃p,v=.aV [.ptr p 0,.int .i64 0]/\Sat h' (bX p (Dk.fresh n.toNat m.toNat)::S)):=by
 refine Call.of_wp (hT.free _ U) Tryz.func94 U U (zK 9 U ?_);refine zd U (aq U U aK) ?_ ?_
 .intro hq;have hq:n<1:=by simpa using hq
  exact zk 19 U (WP.ret ⟨aa,_,U,.inl ⟨λq=>by omega,U,s⟩⟩)
 .intro hq;have hq:1<=n:=by simpa using hq
  refine zk 2 U ?_;refine zd U (aq U U cP) ?_ ?_
  .intro I;have I:65536<n:=by simpa using I
   exact zk 16 U (WP.ret ⟨aa,_,U,.inl ⟨λq=>by omega,U,s⟩⟩)
  .intro I;have I:n<=65536:=by simpa using I
   refine zk 3 U ?_;refine zd U (aq U U aK) ?_ ?_
   .intro rX;have rX:m<0:=by simpa using rX
    exact zk 12 U (WP.ret ⟨aa,_,U,.inl ⟨λq=>by omega,U,s⟩⟩)
   .intro rX;have rX:0<=m:=by simpa using rX
    refine zk 3 U ?_;refine zd U (aq U U cP) ?_ ?_
    .intro rY;have rY:16777216<m:=by simpa using rY
     exact zk 8 U (WP.ret ⟨aa,_,U,.inl ⟨λq=>by omega,U,s⟩⟩)
    .intro rY;have rY:m<=16777216:=by simpa using rY
     refine zk 8 U ?_;obtain⟨n,rfl⟩:∃k:Nat,n=k:=⟨n.toNat,by omega⟩;obtain⟨m,rfl⟩:∃k:Nat,m=k:=⟨m.toNat,by omega⟩;refine zc U (Vf hT s (by omega)) ?_;rintro v h ⟨p,rfl,s⟩;exact zk 3 U (WP.ret ⟨aa,_,U,.inr ⟨hq,I,rX,rY,p,U,s⟩⟩)
end
def leN : List Nat->Nat
 |[]=>0
 |b::l=>b+256*leN l
theorem Vg : ∀(l:List Nat) (b:Nat),leN (l++[b])=leN l+b*256^l.length:=by
 intro l;induction l with
 |nil=>intro b;simp[leN]
 |cons x l I=>intro b;simp only[fK,leN,I,aX,Nat.pow_succ,Nat.mul_add];rw[<-oL,Nat.mul_comm (256^l.length) 256,<-Nat.mul_assoc b,Nat.mul_comm b 256,Nat.mul_assoc 256 b]
theorem KO : ∀(l:List Nat),(∀b∈l,b<256)->leN l<256^l.length:=by
 intro l;induction l with
 |nil=>intro _;simp[leN]
 |cons x l I =>
  intro h;have h1:=I (λb hb=>h b (bw _ hb));have h2:=h x a_;simp only[leN,aX,Nat.pow_succ];omega
theorem KP (i:Nat): (256:Nat)^i=2^(8*i):=by rw[Nat.pow_mul]
theorem adV {h:H}{x:Operand}(hd:d<256)(hi:i<=7): binV P h .shl t x y (.int .u64 (d:Int)) (.int .i64 (8*(i:Int)))=some (.int .u64 ((d*256^i:Nat):Int)):=by
 have hp:(256:Nat)^i<=256^7:=yq (by omega) hi;have I:d*256^i<18446744073709551616:=by
  have:d*256^i<=255*256^7:=tC (by omega) hp;omega
 simp only[binV,shiftV,IntKind.bits];have e:(8*(i:Int)).toNat=8*i:=by omega
 rw[e,show min (8*i) 64=8*i by omega,show decide (8*(i:Int)<0)=false by simp;omega,aS];have:(d:Int)*2^(8*i)=((d*256^i:Nat):Int):=by rw[KP];push_cast;rfl
 simp only[this,wrap_u64 I]
theorem or8 {h:H}{x:Operand}(I:a<256^i)(hd:d<256)(hi:i<=7): binV P h .or t x y (.int .u64 (a:Int)) (.int .u64 ((d*256^i:Nat):Int))=some (.int .u64 ((a+d*256^i:Nat):Int)):=by
 have hp:(256:Nat)^i<=256^7:=yq (by omega) hi;have hm:d*256^i<=255*256^7:=tC (by omega) hp;have h1:((a:Int)%(2^(IntKind.u64).bits:Int)).toNat=a:=by simp only[IntKind.bits];omega
 have h2:(((d*256^i:Nat):Int)%(2^(IntKind.u64).bits:Int)).toNat=d*256^i:=by simp only[IntKind.bits];omega
 have h3:Nat.lor a (d*256^i)=a+d*256^i:=by
  have e:d*256^i=2^(8*i)*d:=by rw[<-KP,Nat.mul_comm]
  have:=Nat.two_pow_add_eq_or_of_lt (i:=8*i) (b:=a) (by rw[<-KP];exact I) d;rw[<-e] at this;rw[Nat.add_comm a,this];exact Nat.or_comm _ _
 simp only[binV,ikBeq,ag,intV,bitsV,h1,h2,h3];rw[wrap_u64 (by omega)]
section
variable {told:cu} {h:H} {v:V}
noncomputable def wdL : Code:=cX [1,1,0,1,0,0] ((Tryz.f110.body).getD .skip)
theorem Si (hv:View h v l)(hl:l.length<=8): ∀(j i:Nat) (E:List (Nat×V)) (Q:Ex->List (Nat×V)->H->Prop),i+j=l.length ->
  Has E [(3,.int .u64 (leN (l.take i))),(6,v),(7,.int .i64 l.length),(8,.int .i64 i)]->(∀E',look E' 3=some (.int .u64 (leN l))->Q (.exit 0) E' h)->WP ⟨Tryz.prog,told⟩ 22 (.loop wdL) E h Q:=by
 intro j;induction j with
 |zero =>
  intro i E Q hi hE hq;refine WP.loop (WP.has hE (zg U (zC U aK (by simp;omega) ?_)));refine zk 3 U (WP.exit (hq _ ?_));rw[g_ (by omega)];rfl
 |succ j ih =>
  intro i E Q hi hE hq;have hb:l[i]?=some (l[i]'(by omega)):=aF _;generalize RD:(l[i]'(by omega))=b at hb;have I:b<256:=hv.1 b (aI hb);obtain⟨id,off,e1,e2⟩:=eU hv hb;have ht:l.take (i+1)=l.take i++[b]:=by rw[nA,hb];rfl
  have cq:leN (l.take i)<256^i:=by
   have:=KO (l.take i) (λx hx=>hv.1 x (iL hx))
   rwa [cz,yz (by omega)] at this
  refine WP.loop (WP.has hE (zg U (zB U aK (by simp;omega) ?_)));refine zk 5 U (WP.block (zK 3 U (zo U (bM (r:=.ptr id off) U U e1) (zl U e2 (zk 6 U (zo U (cN U (by exact kC Tryz.underlying5 eZ iN)) ?_))))));refine zm U (zb U (by exact iO ak) ?_);refine zb U (adV I (by omega)) ?_;refine zb U (or8 cq I (by omega)) ?_;refine za U (zv (zr U (zb U (by exact aM ak) ?_)));refine zm U (zv ?_);refine ih (i+1) _ _ (by omega) ?_ hq;rw[ht,Vg,cz,yz (by omega)];exact⟨U,U,U,U,aa⟩
theorem HS (hT:W told)(s:Sat h S)(hk:getA S k=some X)(hX:cy X (cE v l))(hl:l.length<=8): Call ⟨Tryz.prog,told⟩ 110 [v] h λr h'=>r=.int .u64 (leN l)/\h'=h:=by
 have hv:=s.aD hk hX;refine Call.of_wp (hT.free _ U) Tryz.func110 U U (zK 12 U (zo U (aC U U U (bA aP hv)) (zk 2 U (WP.block ?_))));refine Si hv hl l.length 0 _ _ (by omega) ⟨U,U,U,U,aa⟩ (λE' I => ?_);exact WP.has (F:=[(3,.int .u64 (leN l))]) ⟨I,aa⟩ (zK 5 U (WP.ret ⟨aa,_,U,U,U⟩))
theorem XF (I:W told)(s:Sat h S)(hk:getA S k=some X)(hX:cy X (cE v l))(hl:l.length<=4611686018427387904): Call ⟨Tryz.prog,told⟩ 200 [v] h λr h'=>r=.int .u32 (F4 0 l:Nat)/\h'=h:=by
 refine Call.of_wp (I.free _ U) Tryz.func200 U U (zK 7 U (zc U (Y7 (s:=0) I s hk hX (by decide) hl) ?_));rintro v h' ⟨rfl,rfl⟩;exact zk 2 U (WP.ret ⟨aa,_,U,U,U⟩)
def dR (l:List Nat)(a z:Nat): Nat:=leN ((l.take (a+z)).drop a)
theorem wC (hT:W told){a z:Int}(s:Sat h S)(hk:getA S k=some X)(hX:cy X (cE v l))(ha:0<=a)(hz:1<=z)(KQ:z<=7)(hl:a+z<=l.length)(iJ:l.length<=65536):
  Call ⟨Tryz.prog,told⟩ 186 [.agg [v],.int .i64 a,.int .i64 z] h λr h'=>r=.int .i64 (dR l a.toNat z.toNat)/\Sat h' S:=by
 have hv:=s.aD hk hX;obtain⟨pi,po,pc,rfl⟩:=iC hv;refine Call.of_wp (hT.free _ U) Tryz.func186 U U (zg U ?_);refine au.cg s U U U (fG U U) (λp3 h s => ?_);refine zk 4 U (zY s 0 ey b8 U (zk 3 U (zb U (by exact aM ak) ?_)));refine zk 2 U (zb U (by exact aM ak) ?_);have jE:=uc (s.aD (kX hk) hX) (a:=a.toNat) (b:=(a+z).toNat) (c:=(a+z).toNat) (by omega) (by omega) (by omega) (by omega);refine zo U (bK (p:=some (.int .i64 a)) (q:=some (.int .i64 (a+z))) (m:=some (.int .i64 (a+z))) U U U U (bN ha) bN bN jE) ?_;have hlen:((l.take (a+z).toNat).drop a.toNat).length=z.toNat:=by simp;omega
 refine zc U (HS hT s (kX hk) (B3 hX (a:=a.toNat) (b:=(a+z).toNat) (c:=(a+z).toNat) (by omega) (by omega) (by omega) (by omega)) (by omega)) ?_;rintro r h' ⟨rfl,rfl⟩;have I:=KO ((l.take (a+z).toNat).drop a.toNat) (λx hx=>hv.1 x (iL (jd hx)));have hp:256^z.toNat<=256^7:=yq (by omega) (by omega);rw[hlen] at I;have e:(a+z).toNat=a.toNat+z.toNat:=by omega
 rw[e] at I ⊢;refine zo U (cN U (by exact kC eZ b9 ak)) ?_;exact zk 2 U (WP.ret ⟨aa,_,U,U,s.drop⟩)
theorem F6 (hl:∀b∈l,b<256): dR l a z<256^z:=by
 have:=KO ((l.take (a+z)).drop a) (λx I=>hl x (iL (jd I)));have h2:((l.take (a+z)).drop a).length<=z:=by simp;omega
 exact j_ this (yq (by omega) h2)
def jI (l:List Nat): Nat:=dR l 14 2
def dy (l:List Nat): Nat:=dR l 16 2
def bx (l:List Nat)(i:Nat): Nat:=dR l (26+4*i) 2
def er (l:List Nat)(i:Nat): Nat:=dR l (26+4*i+2) 2
theorem gx (I:W told)(s:Sat h S)(hk:getA S k=some X)(hX:cy X (cE v l))(hl:l.length=512):
  Call ⟨Tryz.prog,told⟩ 120 [.agg [v]] h λr h'=>r=.int .i64 (jI l)/\Sat h' S:=by
 have hv:=s.aD hk hX;obtain⟨pi,po,pc,rfl⟩:=iC hv;refine Call.of_wp (I.free _ U) Tryz.func120 U U (zg U ?_);refine au.cg s U U U (fG U U) (λp1 h s => ?_);refine zk 4 U (zl U (s.b7 (k:=0) U bD aU) (zc U (wC I s (kX hk) hX (by decide) (by decide) (by decide) (by omega) (by omega)) ?_));rintro r h' ⟨rfl,s⟩;exact zk 2 U (WP.ret ⟨aa,_,U,U,s.drop⟩)
theorem B9 (I:W told)(s:Sat h S)(hk:getA S k=some X)(hX:cy X (cE v l))(hl:l.length=512):
  Call ⟨Tryz.prog,told⟩ 124 [.agg [v]] h λr h'=>r=.int .i64 (dy l)/\Sat h' S:=by
 have hv:=s.aD hk hX;obtain⟨pi,po,pc,rfl⟩:=iC hv;refine Call.of_wp (I.free _ U) Tryz.func124 U U (zg U ?_);refine au.cg s U U U (fG U U) (λp1 h s => ?_);refine zk 4 U (zl U (s.b7 (k:=0) U bD aU) (zc U (wC I s (kX hk) hX (by decide) (by decide) (by decide) (by omega) (by omega)) ?_));rintro r h' ⟨rfl,s⟩;exact zk 2 U (WP.ret ⟨aa,_,U,U,s.drop⟩)
end
def A7 (t:List Bool): List V:=t.map V.bool
theorem Zb (t:List Bool)(k:Nat)(b:Bool): (A7 t).set k (.bool b)=A7 (t.set k b):=by simp[A7,C8]
theorem NZ {t:List Bool}(I:k<t.length): nth (A7 t) k=some (.bool (t.getD k false)):=by
 rw[gB];simp[A7,aF I]
theorem Vh : zeroT Tryz.prog 257=some (.agg (A7 (List.replicate 512 false))):=by kernel_rfl
def markL : Nat->Nat->List Bool->Option (List Bool)
 |0,_,t=>some t
 |n+1,k,t=>if t.getD k false then none else markL n (k+1) (t.set k true)
def cellsL (l:List Nat)(low:Nat): Nat->Nat->List Bool->Bool
 |0,_,_=>true
 |n+1,i,t=>if bx l i<low\/512<bx l i+er l i then false else match markL (er l i) (bx l i) t with
  |none=>false
  |some t'=>cellsL l low n (i+1) t'
def cJ (l:List Nat): Bool:=decide (l.length=512)&&(decide (l.getD 13 0=0)&&(decide (26+4*jI l<=dy l/\dy l<=512)&&cellsL l (dy l) (jI l) 0 (List.replicate 512 false)))
theorem Sj : ∀(n k:Nat) (t t':List Bool),markL n k t=some t'->t'.length=t.length:=by
 intro n;induction n with
 |zero=>intro k t t' h;simp only[markL] at h;injection h with h;subst h;rfl
 |succ n I =>
  intro k t t' h;simp only[markL] at h;split at h
  .cases h
  .have:=I _ _ _ h;simpa using this
section
variable {told:cu} {h:H} {v:V}
theorem tM (I:W told)(s:Sat h S)(hk:getA S k=some X)(hX:cy X (cE v l))(hl:l.length=512)(hi:30+4*i<=512):
  Call ⟨Tryz.prog,told⟩ 121 [.agg [v],.int .i64 (i:Int)] h λr h'=>r=.aV [.int .i64 (bx l i),.int .i64 (er l i)]/\Sat h' S:=by
 have hv:=s.aD hk hX;obtain⟨pi,po,pc,rfl⟩:=iC hv;have e1:(26+4*(i:Int)).toNat=26+4*i:=by omega
 have e2:(26+4*(i:Int)+2).toNat=26+4*i+2:=by omega
 refine Call.of_wp (I.free _ U) Tryz.func121 U U (zg U ?_);refine au.cg s U U U (fG U U) (λp2 h s => ?_);refine zk 6 U (zb U (by exact iO ak) ?_);refine zb U (by exact aM ak) ?_;refine zk 3 U ?_;have s0:=s;refine WP.drawn [af,af,af,some (0,2),some (0,2),some (0,2),af,af,af] U (by kernel_rfl) (by kernel_rfl) ?_;refine zL U (s.b7 (k:=0) U bD aU) (zM U (aB.any U U U U (OpR.call U U U U (wC I s (kX hk) hX (by omega) (by decide) (by decide) (by omega) (by omega))) ?_));rintro r h' ⟨rfl,s⟩;rw[e1];have s1:=s;refine zL U (s.b7 (k:=0) U bD aU) (zM U (zO U (aq U U (by exact aM ak)) ?_));refine aB.any U U U U (OpR.call U U U U (wC I s (kX hk) hX (by omega) (by decide) (by decide) (by omega) (by omega))) ?_;rintro r h' ⟨rfl,s⟩;rw[e2];refine zA U (zA U ?_);refine aB.nil ⟨⟨aa,aa,aa,gC (.inr ⟨U,⟨_,o_load U (s0.b7 (k:=0) U bD aU)⟩,bp _ U⟩) (.inr ⟨U,⟨_,o_load U (s1.b7 (k:=0) U bD aU)⟩,bp _ U⟩),λ_ _=>.inr ⟨U,⟨_,bZ U⟩,bp _ U⟩,λ_ _=>.inr ⟨U,⟨_,aq U U (by exact aM ak)⟩,bp _ U⟩,yr 4⟩,?_⟩;refine WP.ret ⟨aa,_,U,?_⟩;exact⟨U,s.drop⟩
noncomputable def gdO : Code:=cX [1,1,1,1,1,1,0,1,0,0] ((Tryz.f134.body).getD .skip)
noncomputable def gdI : Code:=cX [1,1,1,1,1,1,0,1,0,0,1,1,0,0,1,1,1,1,0,0] ((Tryz.f134.body).getD .skip)
theorem PS {v3 v4 v5 v35 v36:V}(XG:a+z<=512): ∀(m q:Nat) (t:List Bool) (h:H) (E:List (Nat×V)) (Q:Ex->List (Nat×V)->H->Prop),q+m=a+z->t.length=512 ->
  Sat h (pt p6 (.cells 512 (A7 t) false)::S)->Has E [(3,v3),(4,v4),(5,v5),(6,.ptr p6 0),(8,.int .i64 (a:Int)),(9,.int .i64 (z:Int)),(10,.int .i64 (q:Int)),(35,v35),(36,v36)] ->
  (markL m q t=none->∀E' h',look E' 2=some (.bool false)->Sat h' S->Q .ret E' h') ->
  (∀t' E' h',markL m q t=some t'->Has E' [(3,v3),(4,v4),(5,v5),(6,.ptr p6 0),(35,v35),(36,v36)]->Sat h' (pt p6 (.cells 512 (A7 t') false)::S)->Q (.exit 2) E' h') ->
  WP ⟨Tryz.prog,told⟩ 68 (.loop gdI) E h Q:=by
 intro m;induction m with
 |zero =>
  intro q t h E Q hq ht s hE hr hx;refine WP.loop (WP.has hE (zK 6 U (zb U (by exact aM ak) ?_)));refine zC U aK (by simp;omega) ?_;exact zk 2 U (WP.exit (hx t _ _ U ⟨U,U,U,U,U,U,aa⟩ s))
 |succ m ih =>
  intro q t h E Q hq ht s hE hr hx;have I:q<t.length:=by omega
  refine WP.loop (WP.has hE (zK 6 U (zb U (by exact aM ak) ?_)));refine zB U aK (by simp;omega) ?_;refine zk 4 U (WP.block (zK 4 U (zo U (bM (r:=.ptr p6 q) U U (by rw[XA,show(decide ((0:Int)<=(q:Int))&&decide ((q:Int)<((512:Nat):Int)))=true by simp;omega,ag];simp)) ?_)));cases hm:t.getD q false with
  |true =>
   refine zt U (o_load U (s.ld (k:=0) U sF (NZ I))) (hm) (zk 6 U (WP.ret ?_));refine hr ?_ _ _ U s.drop;rw[markL,ay hm]
  |false =>
   refine zh U (o_load U (s.ld (k:=0) U sF (NZ I))) (hm) (zk 5 U (zo U (bM (r:=.ptr p6 q) U U (by rw[XA,show(decide ((0:Int)<=(q:Int))&&decide ((q:Int)<((512:Nat):Int)))=true by simp;omega,ag];simp)) ?_));refine zS U (s.kz (k:=0) U BX (by simp[A7,ht]) (by omega) U U) ?_;intro h s;dsimp only[setA] at s;rw[Zb] at s;refine zv (zr U (zm U (zb U (by exact aM ak) ?_)));refine za U (zv ?_);have e:markL (m+1) q t=markL m (q+1) (t.set q true):=by rw[markL,ai (by rw[hm];decide)]
   rw[e] at hr hx;exact ih (q+1) (t.set q true) h _ Q (by omega) (by simp[ht]) s ⟨U,U,U,U,U,U,U,U,U,aa⟩ hr hx
theorem PT (hT:W told){p3:Nat}{low:Nat}(hX:cy X (cE x l))(hl:l.length=512)(cq:∀b∈l,b<256)(Iy:x.cells=[x])(hx2:storable x=true)(hn:n=jI l)(oU:26+4*n<=low)(afa:low<=512): ∀(m i:Nat) (t:List Bool) (h:H) (E:List (Nat×V)) (Q:Ex->List (Nat×V)->H->Prop),i+m=n->t.length=512 ->
  Sat h (pt p6 (.cells 512 (A7 t) false)::pt p3 (.cells 1 [x] false)::X::S)->Has E [(3,.ptr p3 0),(4,.int .i64 (n:Int)),(5,.int .i64 (low:Int)),(6,.ptr p6 0),(35,.int .i64 (n:Int)),(36,.int .i64 (i:Int))] ->
  (cellsL l low m i t=false->∀E' h',look E' 2=some (.bool false)->Sat h' (X::S)->Q .ret E' h') ->
  (cellsL l low m i t=true->∀E' h',Sat h' (X::S)->Q (.exit 0) E' h') ->
  WP ⟨Tryz.prog,told⟩ 68 (.loop gdO) E h Q:=by
 intro m;induction m with
 |zero =>
  intro i t h E Q hi ht s hE hr hx;refine WP.loop (WP.has hE (zg U (zC U aK (by simp;omega) ?_)));exact zk 3 U (WP.exit (hx U _ _ s.drop.drop))
 |succ m ih =>
  intro i t h E Q hi ht s hE hr hx;have hf:=F6 (l:=l) (a:=26+4*i) (z:=2) cq;have hz:=F6 (l:=l) (a:=26+4*i+2) (z:=2) cq;have ef:bx l i=dR l (26+4*i) 2:=rfl;have ez:er l i=dR l (26+4*i+2) 2:=rfl;refine WP.loop (WP.has hE (zg U (zB U aK (by simp;omega) ?_)));refine zk 5 U (WP.block (zK 7 U (zl U (s.b7 (k:=1) U bD aU) (zm U (zc U (tM (i:=i) hT s (k:=2) U hX hl (by omega)) ?_)))));rintro r h' ⟨rfl,s⟩;refine zk 11 U ?_;refine zd U (aq U U aK) ?_ ?_
  .intro hq;have hq:bx l i<low:=by simp at hq;omega
   refine zk 12 U (WP.ret ?_);refine hr ?_ _ _ U s.drop.drop;rw[cellsL,ay (.inl hq)]
  .intro hq;have hq:low<=bx l i:=by simp at hq;omega
   refine zk 3 U (zb U (by exact aM ak) ?_);refine zd U (aq U U cP) ?_ ?_
   .intro I;have I:512<bx l i+er l i:=by simp at I;omega
    refine zk 7 U (WP.ret ?_);refine hr ?_ _ _ U s.drop.drop;rw[cellsL,ay (.inr I)]
   .intro I;have I:bx l i+er l i<=512:=by simp at I;omega
    refine zk 9 U (WP.block ?_);have e:cellsL l low (m+1) i t=(match markL (er l i) (bx l i) t with|none=>false|some t'=>cellsL l low m (i+1) t'):=by rw[cellsL,ai (by omega)]
    rw[e] at hr hx;refine PS I (er l i) (bx l i) t _ _ _ U ht s ⟨U,U,U,U,U,U,U,U,U,aa⟩ (λhm E' h' h2 s' => ?_) (λt' E' h' hm dY s' => ?_)
    .rw[hm] at hr;exact hr U _ _ h2 s'.drop
    .rw[hm] at hr hx;refine WP.has dY (zr U (zb U (by exact aM ak) ?_));refine zm U (zv ?_);exact ih (i+1) t' h' _ Q (by omega) (by rw[Sj _ _ _ _ hm,ht]) s' ⟨U,U,U,U,U,U,aa⟩ hr hx
theorem N3 (hT:W told)(s:Sat h (X::S))(hX:cy X (cE v l))(iJ:l.length<9223372036854775808):
  Call ⟨Tryz.prog,told⟩ 134 [v] h λr h'=>r=.bool (cJ l)/\Sat h' (X::S):=by
 have hv:=s.aD (k:=0) U hX;refine Call.of_wp (hT.free _ U) Tryz.func134 U U (zK 8 U (zo U (aC U U U (bA aP (s.aD (k:=0) U hX))) ?_));refine zd U (aq U U aE) ?_ ?_
 .intro hq;have hq:l.length≠512:=by simp at hq;omega
  exact zk 12 U (WP.ret ⟨aa,_,U,by rw[cJ,gh hq,mF],s⟩)
 .intro hq;have hq:l.length=512:=by simp at hq;omega
  have hb:l[13]?=some (l[13]'(by omega)):=aF _;generalize RD:(l[13]'(by omega))=b at hb;have qL:l.getD 13 0=b:=by rw[th,hb];rfl
  obtain⟨id,off,e1,e2⟩:=eU hv hb;refine zk 2 U (zo U (bM (r:=.ptr id off) U U e1) (zl U e2 ?_));refine zd U (aq U U aE) ?_ ?_
  .intro I;have I:b≠0:=by simp at I;omega
   exact zk 7 U (WP.ret ⟨aa,_,U,by rw[cJ,dZ hq,qL,gh I,mF,Bool.and_false],s⟩)
  .intro I;have I:b=0:=by simp at I;omega
   obtain⟨pi,po,pc,rfl⟩:=iC hv;refine zk 7 U (zo U (cI U (by rw[Ar];rfl)) ?_);refine au.cg s U U U (cm jC) (λp3 h s => ?_);refine zS U (s.gX (j:=0) U aU U U) (λh s => ?_);refine zk 2 U ?_;have s0:=s;refine WP.drawn [none,none,some (0,2),af,af,af] U (by kernel_rfl) (by kernel_rfl) ?_;refine zL U (s.b7 (k:=0) U bD aU) (aB.any U U U U (OpR.call U U U U (gx hT s (k:=1) U hX hq)) ?_);rintro r h' ⟨rfl,s⟩;have s1:=s;refine zL U (s.b7 (k:=0) U bD aU) (aB.any U U U U (OpR.call U U U U (B9 hT s (k:=1) U hX hq)) ?_);rintro r h' ⟨rfl,s⟩;refine zA U (zA U ?_);refine aB.nil ⟨⟨aa,aa,gC (.inr ⟨U,⟨_,o_load U (s0.b7 (k:=0) U bD aU)⟩,bp _ U⟩) (.inr ⟨U,⟨_,o_load U (s1.b7 (k:=0) U bD aU)⟩,bp _ U⟩),yr 4⟩,?_⟩;have DY:=F6 (l:=l) (a:=14) (z:=2) hv.1;have A2:=F6 (l:=l) (a:=16) (z:=2) hv.1;have ec:jI l=dR l 14 2:=rfl;have el:dy l=dR l 16 2:=rfl;refine zK 4 U (zb U (by exact iO ak) ?_);refine zb U (by exact aM ak) ?_;refine zm U ?_;refine zd U (aq U U cP) ?_ ?_
   .intro rX;have rX:dy l<26+4*jI l:=by simp at rX;omega
    exact zk 10 U (WP.ret ⟨aa,_,U,by rw[cJ,dZ hq,qL,dZ I,gh (by omega:¬(26+4*jI l<=dy l/\dy l<=512))];rfl,s.drop⟩)
   .intro rX;have rX:26+4*jI l<=dy l:=by simp at rX;omega
    refine zk 2 U ?_;refine zd U (aq U U cP) ?_ ?_
    .intro rY;have rY:512<dy l:=by simp at rY;omega
     exact zk 7 U (WP.ret ⟨aa,_,U,by rw[cJ,dZ hq,qL,dZ I,gh (by omega:¬(26+4*jI l<=dy l/\dy l<=512))];rfl,s.drop⟩)
    .intro rY;have rY:dy l<=512:=by simp at rY;omega
     refine zk 6 U (au.cg s U U U (cm Vh) ?_);intro p6 h s;have KR:(A7 (List.replicate 512 false)).length=512:=by rw[A7,cj,f_]
     dsimp only[V.cells] at s;rw[KR] at s;refine zk 7 U (WP.block ?_);have hg:cJ l=cellsL l (dy l) (jI l) 0 (List.replicate 512 false):=by
      rw[cJ,dZ hq,qL,dZ I,dZ (⟨rX,rY⟩:26+4*jI l<=dy l/\dy l<=512)];rfl
     refine PT hT hX hq hv.1 U U U rX rY (jI l) 0 (List.replicate 512 false) _ _ _ (by omega) f_ s ⟨U,U,U,U,U,U,aa⟩ (λhc E' h' h2 s' => ?_) (λhc E' h' s' => ?_)
     .rw[hg,hc];exact⟨aa,_,xW h2,U,s'⟩
     .rw[hg,hc];exact WP.has (F:=[]) aa (zK 4 U (WP.ret ⟨aa,_,U,U,s'⟩))
end
section
variable {told:cu} {h:H} {v:V}
theorem F7 (I:W told)(s:Sat h (aY v l::S))(hz:z<=8)(hl:l.length+z<=140737488355328):
  Call ⟨Tryz.prog,told⟩ 189 [v,.int .i64 (z:Int),.int .u64 (n:Int)] h λr h'=>Sat h' (aY r (l++le z n)::S) :=
 (Sa I.XE s.wf (s.buf (k:=0) U) hz hl).mono λ_ _ ⟨h1,h2,h3⟩=>s.Dp h2 h1 h3
theorem nT (hT:W told)(s:Sat h (aY v l::S))(hz:1<=z)(KQ:z<=8)(hl:a+z<=l.length)(iJ:l.length<=65536):
  Call ⟨Tryz.prog,told⟩ 130 [.agg [v],.int .i64 (a:Int),.int .i64 (z:Int),.int .u64 (n:Int)] h λr h'=>r=.aV []/\Sat h' (aY v (az l a (le z n))::S):=by
 obtain⟨I,_,cap,_,rfl,_⟩:=s.eX (by omega);refine Call.of_wp (hT.free _ U) Tryz.func130 U U (zg U ?_);refine au.cg s U U U (fG U U) (λp4 h s => ?_);refine zv ?_;have s0:=s;refine WP.drawn [some (0,2),some (0,2),some (0,2),some (0,2),some (0,2),some (0,2),some (0,2),af,af,af,af] U (by kernel_rfl) (by kernel_rfl) ?_;refine zF U (ey _ _) (zL U (s.ld (k:=0) U b8 U) (zM U (zM U (zM U (zO U (aq U U (by exact aM ak)) ?_)))));have ez:((a:Int)+(z:Int)).toNat=a+z:=by omega
 have ea:((a:Int)).toNat=a:=by omega
 refine zO U (bK (p:=some (.int .i64 (a:Int))) (q:=some (.int .i64 ((a:Int)+(z:Int)))) (m:=none) (p':=some a) (q':=some (a+z)) (m':=none) U U U U (by rw[bN,ea]) (by rw[bN,ez]) U (fR (s.buf (k:=1) U).view (by omega) hl).1) ?_;refine zM U (zM U (aB.any U U U U (OpR.call U U U U (F7 hT s.FT KQ (by simp;omega))) ?_));intro u h s;have s:=s.ae [1,1,0];dsimp only[List.nil_append,V.cells,List.length_cons,List.length_nil,Nat.reduceAdd,bringA,getA,aL] at s;have s1:=s;refine aB.any U U U U (OpR.acV U (s.ae [1,1]) (bg _ _) U U U U (by omega) hl (by simp[cO];omega)) ?_;intro r h s;have hs:∃q c,slR (V.sl I 0 l.length cap) a (a+z)=.sl I q (a+z-a) c:=by
  cases cap with
  |exact c=>exact⟨_,_,U⟩
  |rest e alt=>exact⟨_,_,U⟩
 obtain⟨q,c,hs⟩:=hs;have KS:(slR (V.sl I 0 l.length cap) a (a+z)).beq (slR (V.sl I 0 l.length cap) a (a+z))=true:=by rw[hs];exact Ao _ _ _ _
 refine aB.nil ⟨⟨λ_ _=>.inr ⟨U,⟨_,mX U (ey _ _)⟩,bp _ U⟩,gC (.inr ⟨U,⟨_,o_load U (s0.ld (k:=0) U b8 U)⟩,bp _ U⟩) (.inr ⟨U,⟨_,o_load U (s1.ld (k:=0) U b8 U)⟩,bp _ U⟩),λ_ _=>.inr ⟨U,⟨_,bZ U⟩,bp _ U⟩,λ_ _=>.inr ⟨U,⟨_,bZ U⟩,bp _ U⟩,λ_ _=>.inr ⟨U,⟨_,bZ U⟩,bp _ U⟩,λ_ _=>.inr ⟨U,⟨_,aq U U (by exact aM ak)⟩,bp _ U⟩,gC (.inr ⟨U,⟨_,bK (p:=some (.int .i64 (a:Int))) (q:=some (.int .i64 ((a:Int)+(z:Int)))) (m:=none) (p':=some a) (q':=some (a+z)) (m':=none) U U U U (by rw[bN,ea]) (by rw[bN,ez]) U (fR (s0.buf (k:=1) U).view (by omega) hl).1⟩,KS⟩) (.inr ⟨U,⟨_,bK (p:=some (.int .i64 (a:Int))) (q:=some (.int .i64 ((a:Int)+(z:Int)))) (m:=none) (p':=some a) (q':=some (a+z)) (m':=none) U U U U (by rw[bN,ea]) (by rw[bN,ez]) U (fR (s1.buf (k:=1) U).view (by omega) hl).1⟩,KS⟩),yr 5⟩,?_⟩;refine⟨aa,_,U,U,?_⟩;rw[show a+z-a=z by omega,g_ (by rw[cO];omega)] at s;exact(s.del 1).del 1
theorem uz (hT:W told)(s:Sat h (X::S))(hX:cy X (cE v l))(iJ:l.length<9223372036854775808):
  Call ⟨Tryz.prog,told⟩ 185 [v] h λr h'=>Sat h' (X::S)/\((cJ l=true/\r=.aV [.agg [v],.int .i64 0])\/(cJ l=false/\r=.aV [.agg [.aZ],.int .i64 4])):=by
 have hv:=s.aD (k:=0) U hX;refine Call.of_wp (hT.free _ U) Tryz.func185 U U (zg U ?_);refine au.cg s U U U (cm jC) (λp2 h s => ?_);refine zk 6 U (zc U (N3 hT (s.ae [1]) hX iJ) ?_);rintro r h' ⟨rfl,s⟩;cases hg:cJ l with
 |true =>
  have I:1<=l.length:=by
   have:l.length=512:=by simp only[cJ,bV,kS] at hg;exact hg.1
   omega
  obtain⟨pi,po,pc,rfl⟩:=iC hv I;refine zo U (eo U U) (zk 6 U (zo U (cI U (by rw[Ar];rfl)) ?_));refine zS U (s.gX (j:=1) U aU U U) (λh s => ?_);refine zk 2 U ?_;refine WP.ret ⟨aa,_,JI U (s.b7 (k:=1) U bD aU) U,?_⟩;exact⟨s.del 1,.inl ⟨U,U⟩⟩
 |false =>
  refine zo U (eo U U) (zk 4 U (zo U (cI U (by rw[Ar];rfl)) ?_));refine zS U (s.gX (j:=1) U aU U U) (λh s => ?_);refine zk 2 U ?_;refine WP.ret ⟨aa,_,JI U (s.b7 (k:=1) U bD aU) U,?_⟩;exact⟨s.del 1,.inr ⟨U,U⟩⟩
theorem jU (I:cJ l=true): l.length=512:=by simp only[cJ,bV,kS] at I;exact I.1
theorem pQ (hT:W told)(s:Sat h (X::S))(hX:cy X (cE v l))(iJ:l.length<9223372036854775808):
  Call ⟨Tryz.prog,told⟩ 119 [v] h λr h'=>(cJ l=true/\∃u,r=.aV [.agg [u],.int .i64 0]/\Sat h' (aY u l::X::S))\/(cJ l=false/\r=.aV [.agg [.aZ],.int .i64 4]/\Sat h' (X::S)):=by
 have hv:=s.aD (k:=0) U hX;refine Call.of_wp (hT.free _ U) Tryz.func119 U U (zg U ?_);refine au.cg s U U U (cm jC) (λp2 h s => ?_);refine zk 5 U (zc U (uz hT (s.ae [1]) hX iJ) ?_);rintro r h' ⟨s,(⟨I,rfl⟩|⟨I,rfl⟩)⟩
 .have PU:=jU I;obtain⟨pi,po,pc,rfl⟩:=iC hv;refine zk 3 U ?_;refine au.cg s U U U (cm jC) (λp4 h s => ?_);refine zS U (s.gX (j:=0) U aU U U) (λh s => ?_);refine zk 6 U (zC U aE (U) (zk 4 U ?_));have s0:=s;refine WP.drawn [af,af,af,af,some (0,2),some (0,2),af,af,af,af] U (by kernel_rfl) (by kernel_rfl) ?_;refine zF U (ey _ _) (zL U (s.ld (k:=0) U b8 U) (zO U (aC U U U (tK U aP)) (aB.any U U U U (OpR.ux U s U U U U (by omega)) ?_)));intro u h s;have s:=s.ae [1,1,1,0];have s1:=s;refine zF U (ey _ _) (zL U (s.ld (k:=0) U b8 U) (aB.any U U U U (OpR.qy U (s.ae [3,1]) hX U U U U (by simp;omega)) ?_));intro u2 h s;rw[dJ] at s;obtain⟨lU,_,cap,_,rfl,_⟩:=s.eX (by omega);have s2:=s;refine zO U (cI U (by rw[Ar];rfl)) ?_;refine aB.lP U U U (OpR.yU U U U (s.gX (j:=3) U aU U U)) ?_;rintro w h ⟨rfl,s⟩;have s3:=s;refine zA U ?_;refine aB.nil ⟨⟨aa,aa,aa,aa,λ_ _=>.inr ⟨U,⟨_,mX U (ey _ _)⟩,bp _ U⟩,gC (.inr ⟨U,⟨_,o_load U (s0.ld (k:=0) U b8 U)⟩,bp _ U⟩) (.inr ⟨U,⟨_,o_load U (s1.ld (k:=0) U b8 U)⟩,bp _ U⟩),yr 5⟩,?_⟩;refine WP.ret ⟨aa,_,JI U (s.b7 (k:=3) U bD aU) U,?_⟩;exact .inl ⟨I,_,U,(s.del 2).del 2⟩
 .skip;refine zk 3 U ?_;refine au.cg s U U U (cm jC) (λp4 h s => ?_);refine zS U (s.gX (j:=0) U aU U U) (λh s => ?_);refine zk 6 U (zB U aE (U) (zk 4 U (zo U (cI U (by rw[Ar];rfl)) ?_)));refine zm U ?_;refine zS U (s.gX (j:=2) U aU U U) (λh s => ?_);refine zk 2 U ?_;refine WP.ret ⟨aa,_,JI U (s.b7 (k:=2) U bD aU) U,?_⟩;exact .inr ⟨I,U,(s.del 2).del 0⟩
def qY (l:List Nat)(n:Nat): List Nat:=az l 4 (le 8 n)
def e_ (l:List Nat)(n:Nat): List Nat:=az (qY l n) 0 (le 4 (F4 0 ((qY l n).drop 4)))
theorem Aw (hl:l.length=512): (qY l n).length=512:=by rw[qY,bF (by rw[cO];omega),hl]
theorem Zc (I:W told)(s:Sat h (X::S))(hX:cy X (cE v l))(iJ:l.length<9223372036854775808):
  Call ⟨Tryz.prog,told⟩ 151 [v,.int .u64 (n:Int)] h λr h'=>(cJ l=true/\∃u,r=.aV [u,.int .i64 0]/\Sat h' (aY u (e_ l n)::X::S))\/(cJ l=false/\r=.aV [.aZ,.int .i64 4]/\Sat h' (X::S)):=by
 refine Call.of_wp (I.free _ U) Tryz.func151 U U (zK 8 U (zc U (pQ I s hX iJ) ?_));rintro r h' (⟨hg,u,rfl,s⟩|⟨hg,rfl,s⟩)
 .have PU:=jU hg;have wD:(qY l n).length=512:=Aw PU;obtain⟨lU,_,cap,_,rfl,_⟩:=s.eX (by omega);refine zk 3 U ?_;refine au.cg s U U U (cm jC) (λp6 h s => ?_);refine zS U (s.gX (j:=0) U aU U U) (λh s => ?_);refine zk 6 U (zC U aE (U) (zk 5 U (zl U (s.b7 (k:=0) U bD aU) (zm U (zc U (nT (a:=4) (z:=8) I (s.ae [1]) (by decide) (by decide) (by omega) (by omega)) ?_)))));rintro r h' ⟨rfl,s⟩;have s:=s.ae [1,0];have s:Sat _ (_::aY _ (qY l n)::_):=s;refine zk 2 U ?_;have s0:=s;have Sk:=(s.buf (k:=1) U).view.1;have ec:(qY l n).length=l.length:=by omega
  rw[<-ec] at *;refine WP.drawn [some (0,2),af,af,af,af,af,af] U (by kernel_rfl) (by kernel_rfl) ?_;refine zL U (s.b7 (k:=0) U bD aU) (zF U (ey _ _) (zL U (s.ld (k:=0) U b8 U) (zO U (bK (p:=some (.int .i64 4)) (q:=none) (m:=none) (p':=some 4) (q':=none) (m':=none) U U U U U U U (iu (s.buf (k:=1) U).view (a:=4) (by omega)).1) ?_)));refine aB.any U U U U (OpR.call U U U U (XF I s (k:=1) U (NT (bg _ _) (a:=4) (by omega)) (by simp;omega))) ?_;rintro r h' ⟨rfl,rfl⟩;have s1:=s;have hc:=Et (s:=0) (l:=(qY l n).drop 4) (by decide) (λx hx=>Sk x (jd hx));refine aB.op U U U (by simp only[isEff,eZ]) (cN U (by exact kC Tryz.underlying260 eZ iN)) ?_;refine aB.any U U U U (OpR.call U U U U (nT (a:=0) (z:=4) I (s.ae [1]) (by decide) (by decide) (by omega) (by omega))) ?_;rintro r h ⟨rfl,s⟩;have s:=s.ae [1,0];refine aB.nil ⟨⟨gC (.inr ⟨U,⟨_,o_load U (s0.b7 (k:=0) U bD aU)⟩,bp _ U⟩) (.inr ⟨U,⟨_,o_load U (s1.b7 (k:=0) U bD aU)⟩,bp _ U⟩),yr 7⟩,?_⟩;exact zg U (zY s 0 ey b8 U (zk 3 U (WP.ret ⟨aa,_,U,.inl ⟨hg,_,U,s.drop⟩⟩)))
 .skip;refine zk 3 U ?_;refine au.cg s U U U (cm jC) (λp6 h s => ?_);refine zS U (s.gX (j:=0) U aU U U) (λh s => ?_);exact zk 6 U (zB U aE (U) (zk 8 U (WP.ret ⟨aa,_,U,.inr ⟨hg,U,s.drop⟩⟩)))
theorem adW {d:TypeId}{x:Operand}{r:V}(I:bE E x=some v)(hf:arrPtrV P d v=some r): opE P E h (.sliceToArrayPointer d x)=some (r,h):=by simp only[opE,lF,I,hf,bO]
theorem Zd {cap:Cap}(hv:View h (.sl id off n cap) l)(I:isAggT P t=some true)(hs:bq P t=some l.length): loadV P h t (.ptr id off)=some (.agg (ofBytes l)):=by
 have:=hv.rdN;obtain⟨rfl,h2⟩:=this;simp only[loadV,I,hs,h2,gO]
theorem Jw : ∀(l m:List Nat),l.length=m.length->intsBeq .u8 (ofBytes l) (ofBytes m)=some (decide (l=m)):=by
 intro l;induction l with
 |nil=>intro m hm;cases m with
  |nil=>rfl
  |cons x m=>simp at hm
 |cons x l ih=>intro m hm;cases m with
  |nil=>simp at hm
  |cons y m =>
   have hi:=ih m (by simpa using hm);simp only[ofBytes,hU] at hi ⊢;simp only[intsBeq,ikBeq,kf,ag,hi,sK];by_cases I:x=y
   .subst I;simp
   .have:¬ ((x:Int)=(y:Int)):=by omega
    simp[this,I]
theorem Vi : buildV Tryz.prog 269 []=some (.agg (ofBytes (List.replicate 512 0))):=by kernel_rfl
theorem XH {x:Operand}{m:List Nat}(hu:P.underlying t=some (.array n e))(he:P.underlying e=some (.int .u8))(hs:bq P e=some 1)(hl:l.length=n)(hm:m.length=n):
  binV P h .eql t x y (.agg (ofBytes l)) (.agg (ofBytes m))=some (.bool (decide (l=m))):=by
 simp only[binV,eqArr,hu,he,hs,dN,hl,hm,kg,kf,ag];rw[Jw l m (by omega)];rfl
def jJ (l:List Nat): Int:=if l=List.replicate 512 0 then 0 else if cJ l=false then 4 else if dR l 0 4≠F4 0 (l.drop 4) then 8 else 0
theorem KT (hT:W told)(s:Sat h (X::S))(hX:cy X (cE v l))(iJ:l.length<9223372036854775808):
  Call ⟨Tryz.prog,told⟩ 149 [v] h λr h'=>r=.int .i64 (jJ l)/\Sat h' (X::S):=by
 have hv:=s.aD (k:=0) U hX;have hz:(List.replicate 512 0).length=512:=f_
 -- what follows when the page is no page of noughts
 refine Call.of_wp (hT.free _ U) Tryz.func149 U U (zK 8 U (zo U (aC U U U (bA aP (s.aD (k:=0) U hX))) ?_));refine zd U (aq U U cS) ?_ ?_
 .intro hq;have hq:l.length=512:=by simp at hq;omega
  obtain⟨pi,po,pc,rfl⟩:=iC hv;refine zk 2 U (zo U (adW (r:=.ptr pi po) U (by simp only[arrPtrV,KG];rw[hq];rfl)) ?_);refine zl U (Zd hv acQ (by rw[hq];exact acP)) ?_;refine zo U (cI U Vi) ?_;by_cases hn:l=List.replicate 512 0
  .skip;exact zB U (XH KG Tryz.underlying5 Xw hq hz) (decide_eq_true hn) (zk 7 U (WP.ret ⟨aa,_,U,by rw[jJ,ay hn],s⟩))
  .skip;refine zC U (XH KG Tryz.underlying5 Xw hq hz) (decide_eq_false hn) (zk 7 U (zc U (uz hT s hX iJ) ?_));rintro r h' ⟨s,(⟨hg,rfl⟩|⟨hg,rfl⟩)⟩
   .refine au.op U U U (bZ U) ?_;refine zk 2 U ?_;refine au.cg s U U U (cm jC) (λp3 h s => ?_);dsimp only[V.cells,List.length_cons,List.length_nil,Nat.reduceAdd] at s;refine zS U (s.gX (j:=0) U aU U U) (λh s => ?_);dsimp only[setA] at s;refine zk 3 U (WP.block (zK 3 U (zC U aE (U) (zk 4 U ?_))));have s0:=s;refine WP.drawn [none,none,some (0,2),some (0,2),af,af,af,af] U (by kernel_rfl) (by kernel_rfl) ?_;refine zL U (s.b7 (k:=0) U bD aU) (aB.any U U U U (OpR.call U U U U (wC hT s (k:=1) U hX (by decide) (by decide) (by decide) (by omega) (by omega))) ?_);rintro r h' ⟨rfl,s⟩;have s1:=s;refine zM U (zO U (bK (p:=some (.int .i64 4)) (q:=none) (m:=none) (p':=some 4) (q':=none) (m':=none) U U U U U U U (iu (s.aD (k:=1) U hX) (a:=4) (by omega)).1) ?_);refine aB.any U U U U (OpR.call U U U U (XF hT s (k:=1) U (NT hX (a:=4) (by omega)) (by simp;omega))) ?_;rintro r h' ⟨rfl,rfl⟩;have hc:=Et (s:=0) (l:=l.drop 4) (by decide) (λx hx=>hv.1 x (jd hx));have hs:∃q c,slR (V.sl pi po l.length pc) 4 l.length=.sl pi q (l.length-4) c:=by
     cases pc with
     |exact c=>exact⟨_,_,U⟩
     |rest e alt=>exact⟨_,_,U⟩
    obtain⟨q,c,hs⟩:=hs;have KS:(slR (V.sl pi po l.length pc) 4 l.length).beq (slR (V.sl pi po l.length pc) 4 l.length)=true:=by rw[hs];exact Ao _ _ _ _
    refine aB.op U U U (by simp only[isEff,b9]) (cN U (by exact kC Tryz.underlying260 b9 ak)) ?_;by_cases I:dR l 0 4=F4 0 (l.drop 4)
    .skip;refine aB.rR U U U U (aq U U aE) (by simp;exact_mod_cast I) ?_;refine zA U ?_;refine aB.nil ⟨⟨aa,aa,λ_ _=>.inr ⟨U,⟨_,bZ U⟩,bp _ U⟩,gC (.inr ⟨U,⟨_,bK (p:=some (.int .i64 4)) (q:=none) (m:=none) (p':=some 4) (q':=none) (m':=none) U U U U U U U (iu (s0.aD (k:=1) U hX) (a:=4) (by omega)).1⟩,KS⟩) (.inr ⟨U,⟨_,bK (p:=some (.int .i64 4)) (q:=none) (m:=none) (p':=some 4) (q':=none) (m':=none) U U U U U U U (iu (s1.aD (k:=1) U hX) (a:=4) (by omega)).1⟩,KS⟩),yr 5⟩,?_⟩;refine zj U (WP.skip (zg U (za U (zv ?_))));refine WP.ret ⟨aa,_,U,?_⟩;exact⟨by rw[jJ,ai hn,ai (by rw[hg];decide),ai (by simpa using I)],s.drop⟩
    .skip;refine aB.w_ U U U U (aq U U aE) (by simp;exact_mod_cast I) ?_;refine zA U ?_;refine aB.nil ⟨⟨aa,aa,λ_ _=>.inr ⟨U,⟨_,bZ U⟩,bp _ U⟩,gC (.inr ⟨U,⟨_,bK (p:=some (.int .i64 4)) (q:=none) (m:=none) (p':=some 4) (q':=none) (m':=none) U U U U U U U (iu (s0.aD (k:=1) U hX) (a:=4) (by omega)).1⟩,KS⟩) (.inr ⟨U,⟨_,bK (p:=some (.int .i64 4)) (q:=none) (m:=none) (p':=some 4) (q':=none) (m':=none) U U U U U U U (iu (s1.aD (k:=1) U hX) (a:=4) (by omega)).1⟩,KS⟩),yr 5⟩,?_⟩;exact zK 5 U (WP.ret ⟨aa,_,U,by rw[jJ,ai hn,ai (by rw[hg];decide),ay I],s.drop⟩)
   .skip;refine zk 3 U ?_;refine au.cg s U U U (cm jC) (λp3 h s => ?_);refine zS U (s.gX (j:=0) U aU U U) (λh s => ?_);exact zk 3 U (WP.block (zK 3 U (zB U aE (U) (zk 8 U (WP.ret ⟨aa,_,U,by rw[jJ,ai hn,ay hg],s.drop⟩)))))
 .intro hq;have hq:l.length≠512:=by simp at hq;omega
  have hn:l≠List.replicate 512 0:=λe=>hq (by rw[e,hz]);have hg:cJ l=false:=by rw[cJ,gh hq,mF]
  refine zk 13 U (zc U (uz hT s hX iJ) ?_);rintro r h' ⟨s,(⟨FO,rfl⟩|⟨_,rfl⟩)⟩
  .rw[hg] at FO;cases FO
  .refine au.op U U U (bZ U) ?_;refine zk 2 U ?_;refine au.cg s U U U (cm jC) (λp3 h s => ?_);refine zS U (s.gX (j:=0) U aU U U) (λh s => ?_);exact zk 3 U (WP.block (zK 3 U (zB U aE (U) (zk 8 U (WP.ret ⟨aa,_,U,by rw[jJ,ai hn,ay hg],s.drop⟩)))))
theorem uA {b:Nat}(hv:View h v l)(hb:l[i]?=some b)(he:indexAddrV Tryz.prog 29 v (.int .i64 (i:Int))=some (.ptr id off)): loadV Tryz.prog h 5 (.ptr id off)=some (.int .u8 (b:Int)):=by
 obtain⟨I,off',e1,e2⟩:=eU hv hb;rw[he] at e1;have e3:V.ptr id off=V.ptr I off':=bB e1;rw[e3];exact e2
theorem HT (hT:W told)(s:Sat h (X::S))(I:cy X (cE v l))(iJ:l.length<9223372036854775808):
  Call ⟨Tryz.prog,told⟩ 159 [v] h λr h'=>Sat h' (X::S)/\((cJ l=true/\r=.aV [.int .i64 (l.getD 12 0:Nat),.int .u64 (dR l 4 8),.int .i64 (dR l 18 4),.int .i64 (dR l 22 4),.int .i64 0]) \/
   (cJ l=false/\r=.aV [.int .i64 0,.int .u64 0,.int .i64 0,.int .i64 0,.int .i64 4])):=by
 have hv:=s.aD (k:=0) U I;refine Call.of_wp (hT.free _ U) Tryz.func159 U U (zK 11 U (zc U (uz hT s I iJ) ?_));rintro r h' ⟨s,(⟨hg,rfl⟩|⟨hg,rfl⟩)⟩
 .have hq:=jU hg;obtain⟨pi,po,pc,rfl⟩:=iC hv;have hb:l[12]?=some (l[12]'(by omega)):=aF _;generalize RD:(l[12]'(by omega))=b at hb;have ob:b<256:=hv.1 b (aI hb);have qL:l.getD 12 0=b:=by rw[th,hb];rfl
  rw[qL];refine zk 3 U ?_;refine au.cg s U U U (cm jC) (λp7 h s => ?_);refine zS U (s.gX (j:=0) U aU U U) (λh s => ?_);refine zk 6 U (zC U aE (U) (zk 4 U ?_));have s0:=s;obtain⟨id,off,e1,e2⟩:=eU (s.aD (k:=1) U I) hb;refine WP.drawn [some (0,4),some (0,4),some (0,4),some (0,4),af,af,af,some (0,2),none,some (0,3),af,af,af,af,af,af] U (by kernel_rfl) (by kernel_rfl) ?_;refine zM U (zO U (bM (r:=.ptr id off) U U e1) (zL U (uA (s.aD (k:=1) U I) hb e1) (aB.op U U U (by simp only[isEff,b9]) (cN U (by exact kC Tryz.underlying5 b9 ak)) ?_)));refine zM U (zO U (bK (p:=some (.int .i64 4)) (q:=some (.int .i64 12)) (m:=none) (p':=some 4) (q':=some 12) (m':=none) U U U U U U U (fR (s.aD (k:=1) U I) (a:=4) (b:=12) (by omega) (by omega)).1) ?_);refine aB.any U U U U (OpR.call U U U U (HS hT s (k:=1) U (Ep I (a:=4) (b:=12) (by omega) (by omega)) (by simp;omega))) ?_;rintro r h' ⟨rfl,rfl⟩;have s1:=s;refine zL U (s.b7 (k:=0) U bD aU) (aB.any U U U U (OpR.call U U U U (wC hT s (k:=1) U I (by decide) (by decide) (by decide) (by omega) (by omega))) ?_);rintro r h' ⟨rfl,s⟩;have s2:=s;refine zL U (s.b7 (k:=0) U bD aU) (aB.any U U U U (OpR.call U U U U (wC hT s (k:=1) U I (by decide) (by decide) (by decide) (by omega) (by omega))) ?_);rintro r h' ⟨rfl,s⟩;refine zA U (zA U (zA U (zA U (zA U ?_))));refine aB.nil ⟨⟨λ_ _=>.inr ⟨U,⟨_,bZ U⟩,bp _ U⟩,λ_ _=>.inr ⟨U,⟨_,bM (r:=.ptr id off) U U e1⟩,bp _ U⟩,BU (.inr ⟨U,⟨_,o_load U (uA (s0.aD (k:=1) U I) hb e1)⟩,bp _ U⟩) (.inr ⟨U,⟨_,o_load U (uA (s1.aD (k:=1) U I) hb e1)⟩,bp _ U⟩) (.inr ⟨U,⟨_,o_load U (uA (s2.aD (k:=1) U I) hb e1)⟩,bp _ U⟩) (.inr ⟨U,⟨_,o_load U (uA (s.aD (k:=1) U I) hb e1)⟩,bp _ U⟩),λ_ _=>.inr ⟨U,⟨_,cN U (by exact kC Tryz.underlying5 b9 ak)⟩,bp _ U⟩,aa,aa,aa,gC (.inr ⟨U,⟨_,o_load U (s0.b7 (k:=0) U bD aU)⟩,bp _ U⟩) (.inr ⟨U,⟨_,o_load U (s1.b7 (k:=0) U bD aU)⟩,bp _ U⟩),aa,BQ (.inr ⟨U,⟨_,o_load U (s0.b7 (k:=0) U bD aU)⟩,bp _ U⟩) (.inr ⟨U,⟨_,o_load U (s1.b7 (k:=0) U bD aU)⟩,bp _ U⟩) (.inr ⟨U,⟨_,o_load U (s2.b7 (k:=0) U bD aU)⟩,bp _ U⟩),yr 7⟩,?_⟩;refine WP.ret ⟨aa,_,U,?_⟩;exact⟨s.drop,.inl ⟨hg,U⟩⟩
 .skip;refine zk 3 U ?_;refine au.cg s U U U (cm jC) (λp7 h s => ?_);refine zS U (s.gX (j:=0) U aU U U) (λh s => ?_);exact zk 6 U (zB U aE (U) (zk 11 U (WP.ret ⟨aa,_,U,s.drop,.inr ⟨hg,U⟩⟩)))
end
structure Lg where
 base:Nat
 b:List Nat
 dS:List Nat
 forced:Nat
 check:Nat
variable {μ:Lg}
def cC (l:List Nat): List V:=l.map λ(n:Nat)=>V.int .i64 (n:Int)
theorem jy (l:List Nat): (cC l).length=l.length:=by simp[cC]
def lgC (p base:Nat)(bv I:V)(forced check:Nat): List V:=[.ptr p 0,.int .u64 (base:Int),bv,I,.int .i64 (forced:Int),.int .u64 (check:Int)]
def dF (q p:Nat)(μ:Lg): aG:=xs λbv:V=>xs λI:V=>star [pt q (.cells 6 (lgC p μ.base bv I μ.forced μ.check) false),aY bv μ.b,.arr 1 I (cC μ.dS)]
structure Lg.Ok (μ:Lg): Prop where
 size:μ.base+μ.b.length<=1099511627776
 many:μ.dS.length<=16777216
 low:∀s∈μ.dS,s<μ.b.length
 HU:μ.dS.Pairwise (· < ·)
 forced:μ.forced<=μ.b.length
 len:μ.b.length<=16777216
 check:μ.check<=1099511627776
theorem ac0 {h:H}{x:Operand}{b:Nat}(I:a+b<4611686018427387904): binV P h .quo t x y (.int .i64 ((a:Int)+(b:Int))) (.int .i64 2)=some (.int .i64 (((a+b)/2:Nat):Int)):=by
 simp only[binV,ikBeq,ag,intV];rw[show intBeq 2 0=false from U,aS,Int.tdiv_eq_ediv_of_nonneg (by omega),ak];congr 2
section
variable {told:cu} {h:H} {p:Nat} {v:V}
theorem jr : Sat h (dF q p μ::S)↔∃bv I,Sat h (pt q (.cells 6 (lgC p μ.base bv I μ.forced μ.check) false)::aY bv μ.b::.arr 1 I (cC μ.dS)::S):=by
 simp only[dF,j8,dx,fK,dJ]
theorem ki {c:V}(s:Sat h S)(hk:getA S k=some (.arr 1 v cs))(hi:cs[i]?=some c)(hu:P.underlying t=some (.slice e))(I:bq P e=some 1):
  ∃id off,indexAddrV P t v (.int .i64 (i:Int))=some (.ptr id off)/\∀t',isAggT P t'=some false->loadV P h t' (.ptr id off)=some c:=by
 have A6:i<cs.length:=(List.getElem?_eq_some_iff.1 hi).1;obtain⟨m,r,h1,h2,h3⟩:=s.at hk;rcases h3.2 with⟨_,rfl⟩|⟨id,n,cap,N,rest,rfl,hg,e1,e2,_⟩
 .simp at hi
 .refine⟨id,i,?_,λt' ht=>BP ht (h1 _ _ hg) ?_⟩
  .simp only[indexAddrV,hu,I,fS];rw[show(decide ((0:Int)<=(i:Int))&&decide ((i:Int)<(n:Int)))=true by simp;omega,ag];simp
  .rw[gB,rA A6,hi]
theorem Sl (I:W told)(s:Sat h (dF q p μ::S)): Call ⟨Tryz.prog,told⟩ 106 [.ptr q 0] h λv h'=>v=.int .u64 (μ.base:Int)/\h'=h:=by
 obtain⟨bv,sv,s⟩:=jr.1 s;exact Call.of_wp (I.free _ U) Tryz.func106 U U (zK 8 U (zY s 0 yX sG U (zk 2 U (WP.ret ⟨aa,_,U,U,U⟩))))
theorem MM (I:W told)(s:Sat h (dF q p μ::S)): Call ⟨Tryz.prog,told⟩ 107 [.ptr q 0] h λv h'=>v=.int .u64 (μ.check:Int)/\h'=h:=by
 obtain⟨bv,sv,s⟩:=jr.1 s;exact Call.of_wp (I.free _ U) Tryz.func107 U U (zK 8 U (zY s 0 YY sG U (zk 2 U (WP.ret ⟨aa,_,U,U,U⟩))))
theorem HV (I:W told)(s:Sat h (dF q p μ::S))(hb:μ.base+μ.b.length<=1099511627776): Call ⟨Tryz.prog,told⟩ 39 [.ptr q 0] h λv h'=>v=.int .u64 ((μ.base:Int)+(μ.b.length:Int))/\h'=h:=by
 obtain⟨bv,sv,s⟩:=jr.1 s
 refine Call.of_wp (I.free _ U) Tryz.func39 U U (zK 5 U (WP.drawn [af,af,af,af,af,af,af,af,af,af,af,af] U (by kernel_rfl) (by kernel_rfl) ?_))
 refine zM U (zN U (zF U (yX _ _) (zL U (s.ld (k:=0) U sG U) (zM U (zN U (zF U (nQ _ _) (zL U (s.ld (k:=0) U b8 U) (zO U (aC U U U (bA aP (s.aD (k:=1) U (bg _ _)))) (aB.op U U U (by simp only[isEff,eZ]) (cN U (by exact kC b9 eZ iN)) ?_)))))))))
 refine zO U (aq U U (by exact aM iN)) ?_
 refine zA U ?_
 refine aB.nil ⟨⟨aa,aa,aa,aa,aa,aa,aa,aa,aa,aa,aa,aa,aa⟩,?_⟩
 refine WP.ret ⟨aa,_,U,?_⟩
 exact⟨U,U⟩
theorem PV (I:W told)(s:Sat h (dF q p μ::S))(hb:μ.base+μ.b.length<=1099511627776)(hf:μ.forced<=μ.b.length): Call ⟨Tryz.prog,told⟩ 174 [.ptr q 0] h λv h'=>v=.int .u64 ((μ.base:Int)+(μ.forced:Int))/\h'=h:=by
 obtain⟨bv,sv,s⟩:=jr.1 s
 refine Call.of_wp (I.free _ U) Tryz.func174 U U (zK 5 U (WP.drawn [af,af,af,af,af,af,af,af,af,af,af] U (by kernel_rfl) (by kernel_rfl) ?_))
 refine zM U (zN U (zF U (yX _ _) (zL U (s.ld (k:=0) U sG U) (zM U (zN U (zF U (HJ _ _) (zL U (s.ld (k:=0) U bT U) (aB.op U U U (by simp only[isEff,eZ]) (cN U (by exact kC b9 eZ iN)) ?_))))))))
 refine zO U (aq U U (by exact aM iN)) ?_
 refine zA U ?_
 refine aB.nil ⟨⟨aa,aa,aa,aa,aa,aa,aa,aa,aa,aa,aa,aa⟩,?_⟩
 refine WP.ret ⟨aa,_,U,?_⟩
 exact⟨U,U⟩
def Split (μ:Lg)(n i:Nat): Prop:=i<=μ.dS.length/\(∀(j s:Nat),j<i->μ.dS[j]?=some s->μ.base+s<n)/\(∀(j s:Nat),i<=j->μ.dS[j]?=some s->n<=μ.base+s)
theorem HW (hr:l.Pairwise (· < ·)){b:Nat}(I:i<j)(ha:l[i]?=some a)(hb:l[j]?=some b): a<b:=by
 obtain⟨h1,rfl⟩:=List.getElem?_eq_some_iff.1 ha;obtain⟨h2,rfl⟩:=List.getElem?_eq_some_iff.1 hb;exact List.pairwise_iff_getElem.1 hr _ _ h1 h2 I
noncomputable def lfL : Code:=cX [1,1,0,0,0] ((Tryz.f207.body).getD .skip)
theorem Sn {sv:V}(hn:n<18446744073709551616)(I:μ.Ok)(s:Sat h (pt q (.cells 6 (lgC p μ.base bv sv μ.forced μ.check) false)::aY bv μ.b::.arr 1 sv (cC μ.dS)::S)): ∀(fuel lo hi:Nat) (E:List (Nat×V)) (Q:Ex->List (Nat×V)->H->Prop),hi-lo<=fuel->lo<=hi->hi<=μ.dS.length ->
  (∀(j s:Nat),j<lo->μ.dS[j]?=some s->μ.base+s<n)->(∀(j s:Nat),hi<=j->μ.dS[j]?=some s->n<=μ.base+s) ->
  Has E [(0,.ptr q 0),(1,.int .u64 (n:Int)),(5,.int .i64 (lo:Int)),(6,.int .i64 (hi:Int))]->(∀E' i,Split μ n i->look E' 5=some (.int .i64 (i:Int))->Q (.exit 0) E' h)->WP ⟨Tryz.prog,told⟩ 39 (.loop lfL) E h Q:=by
 have XI:=I.many
 have PW:=I.size
 intro fuel
 induction fuel with
 |zero =>
  intro lo hi E Q hf h1 h2 h3 h4 hE hq
  refine WP.loop (WP.has hE (zK 5 U (zC U aK (by simp;omega) ?_)))
  refine zk 2 U (WP.exit ?_)
  have e:lo=hi:=by omega
  exact hq _ lo ⟨by omega,h3,by rw[e];exact h4⟩ U
 |succ fuel ih =>
  intro lo hi E Q hf h1 h2 h3 h4 hE hq
  by_cases cq:lo<hi
  .skip
   refine WP.loop (WP.has hE (zK 5 U (zB U aK (by simp;omega) ?_)))
   refine zk 3 U (WP.block (zK 4 U (zb U (by exact aM ak) ?_)))
   refine zb U (ac0 (by omega)) ?_
   refine zk 3 U ?_
   generalize hm:(lo+hi)/2=m
   have o7:lo<=m:=by omega
   have qC:m<hi:=by omega
   obtain⟨st,eO⟩:∃st,μ.dS[m]?=some st:=⟨_,aF (by omega)⟩
   have sJ:=I.low st (aI eO)
   have hlen:=I.len
   have hc:(cC μ.dS)[m]?=some (.int .i64 (st:Int)):=by simp[cC,eO]
   obtain⟨id,off,e1,e2⟩:=ki (P:=Tryz.prog) s (k:=2) U hc dm lI
   refine WP.drawn [af,af,af,af,af,af,af,af,af,af,af,af,af,af,af] U (by kernel_rfl) (by kernel_rfl) ?_
   refine zM U (zN U (zF U (yX _ _) (zL U (s.ld (k:=0) U sG U) (zM U (zN U (zF U (tI _ _) (zL U (s.ld (k:=0) U Eo U) (zM U (zO U (bM (r:=.ptr id off) U U e1) (zL U (e2 _ bT) (aB.op U U U (by simp only[isEff,eZ]) (cN U (by exact kC b9 eZ iN)) ?_)))))))))))
   refine zO U (aq U U (by exact aM iN)) ?_
   refine zM U ?_
   by_cases A2:μ.base+st<n
   .skip
    refine aB.w_ U U U U (aq U U aK) (by simp;omega) ?_
    refine aB.nil ⟨⟨aa,aa,aa,aa,aa,aa,aa,aa,aa,aa,aa,aa,aa,aa,aa,aa⟩,?_⟩
    refine zK 3 U (zb U (by exact aM ak) ?_)
    refine za U (zv ?_)
    refine ih (m+1) hi _ Q (by omega) (by omega) h2 (λj s hj hs => ?_) h4 ⟨U,U,U,U,aa⟩ hq
    by_cases hjm:j=m
    .subst hjm;rw[eO] at hs;injection hs with hs;omega
    .have:=HW I.HU (show j<m by omega) hs eO;omega
   .skip
    refine aB.rR U U U U (aq U U aK) (by simp;omega) ?_
    refine aB.nil ⟨⟨aa,aa,aa,aa,aa,aa,aa,aa,aa,aa,aa,aa,aa,aa,aa,aa⟩,?_⟩
    refine zj U (zr U (zk 2 U (zv ?_)))
    refine ih lo m _ Q (by omega) o7 (by omega) h3 (λj s hj hs => ?_) ⟨U,U,U,U,aa⟩ hq
    by_cases hjm:j=m
    .subst hjm;rw[eO] at hs;injection hs with hs;omega
    .have:=HW I.HU (show m<j by omega) eO hs;omega
  .skip
   refine WP.loop (WP.has hE (zK 5 U (zC U aK (by simp;omega) ?_)))
   refine zk 2 U (WP.exit ?_)
   have e:lo=hi:=by omega
   exact hq _ lo ⟨by omega,h3,by rw[e];exact h4⟩ U
theorem Ze (hT:W told)(s:Sat h (dF q p μ::S))(I:μ.Ok)(hn:n<18446744073709551616): Call ⟨Tryz.prog,told⟩ 207 [.ptr q 0,.int .u64 (n:Int)] h λv h'=>h'=h/\∃i,Split μ n i/\v=.int .i64 (i:Int):=by
 obtain⟨bv,sv,s⟩:=jr.1 s
 refine Call.of_wp (hT.free _ U) Tryz.func207 U U (zK 5 U (WP.drawn [af,af,af,af,af,af,af] U (by kernel_rfl) (by kernel_rfl) ?_))
 refine zM U (zN U (zF U (tI _ _) (zL U (s.ld (k:=0) U Eo U) (zO U (aC U U U (s.fq (n:=μ.dS.length) (j:=2) U (by rw[jy,cH]) (by decide) dm)) ?_))))
 refine zA U (zA U ?_)
 refine aB.nil ⟨⟨aa,aa,aa,aa,aa,aa,aa,aa⟩,?_⟩
 refine zw (WP.block ?_)
 refine Sn hn I s μ.dS.length 0 μ.dS.length _ _ (by omega) (by omega) (by omega) (λj s hj _=>by omega) (λj s hj hs => ?_) ⟨U,U,U,U,aa⟩ (λE' i hi dY => ?_)
 .rw[rB (by omega)] at hs;cases hs
 .skip
  exact WP.has (F:=[(5,.int .i64 (i:Int))]) ⟨dY,aa⟩ (zK 5 U (WP.ret ⟨aa,_,U,U,i,hi,U⟩))
def Lg.hasB (μ:Lg)(n:Nat): Bool:=μ.dS.any λs=>decide (μ.base+s=n)
theorem Split.has (hs:Split μ n i)(hr:μ.dS.Pairwise (· < ·)): μ.hasB n=true↔∃s,μ.dS[i]?=some s/\μ.base+s=n:=by
 rw[Lg.hasB,List.any_eq_true];constructor
 .rintro⟨s,h1,I⟩;have I:μ.base+s=n:=by simpa using I
  obtain⟨j,hj⟩:=CT h1;have pz:i<=j:=by
   rcases tE j i with h|h
   .have:=hs.2.1 j s h hj;omega
   .exact h
  by_cases he:i=j
  .subst he;exact⟨s,hj,I⟩
  .have IN:=(List.getElem?_eq_some_iff.1 hj).1;have hi:μ.dS[i]?=some (μ.dS[i]'(by omega)):=aF _;have h3:=hs.2.2 i _ (aH _) hi;have h4:=HW hr (show i<j by omega) hi hj;omega
 .rintro⟨s,h1,I⟩;exact⟨s,aI h1,by simpa using I⟩
theorem Sq {st:Nat}(I:μ.dS[i]?=some st): (cC μ.dS)[i]?=some (.int .i64 (st:Int)):=by simp[cC,I]
theorem Zf (hT:W told)(s:Sat h (dF q p μ::S))(I:μ.Ok)(hn:n<18446744073709551616): Call ⟨Tryz.prog,told⟩ 181 [.ptr q 0,.int .u64 (n:Int)] h λv h'=>h'=h/\v=.bool (μ.hasB n):=by
 have s0:=s
 obtain⟨bv,sv,s⟩:=jr.1 s
 have XI:=I.many
 have PW:=I.size
 refine Call.of_wp (hT.free _ U) Tryz.func181 U U (zK 8 U (zc U (Ze hT s0 I hn) ?_))
 rintro v h' ⟨rfl,i,hi,rfl⟩
 have hh:=hi.has I.HU
 refine zk 3 U (WP.drawn [af,af,af,af,af,af,af,af,af,af,af,af,af,af,af,af,af,af,af,af,af,af,af,af,af] U (by kernel_rfl) (by kernel_rfl) ?_)
 refine zM U (zM U (zN U (zF U (tI _ _) (zL U (s.ld (k:=0) U Eo U) (zO U (aC U U U (s.fq (n:=μ.dS.length) (j:=2) U (by rw[jy,cH]) (by decide) dm)) ?_)))))
 by_cases A6:i<μ.dS.length
 .skip
  refine aB.w_ U U U U (aq U U aK) (by simp;omega) ?_
  obtain⟨st,eO⟩:∃st,μ.dS[i]?=some st:=⟨_,aF A6⟩
  have sJ:=I.low st (aI eO)
  obtain⟨id,off,e1,e2⟩:=ki (P:=Tryz.prog) s (k:=2) U (Sq eO) dm lI
  refine zM U (zM U (zN U (zF U (yX _ _) (zL U (s.ld (k:=0) U sG U) (zM U (zN U (zF U (tI _ _) (zL U (s.ld (k:=0) U Eo U) (zM U (zO U (bM (r:=.ptr id off) U U e1) (zL U (e2 _ bT) (aB.op U U U (by simp only[isEff,eZ]) (cN U (by exact kC b9 eZ iN)) ?_))))))))))))
  refine zO U (aq U U (by exact aM iN)) ?_
  refine zM U ?_
  by_cases he:μ.base+st=n
  .skip
   refine aB.w_ U U U U (aq U U cS) (by simp;omega) ?_
   refine zO U (oO U U) (zA U ?_)
   refine aB.nil ⟨⟨aa,aa,aa,aa,aa,aa,aa,aa,aa,aa,aa,aa,aa,aa,aa,aa,aa,aa,aa,aa,aa,aa,aa,aa,aa,aa⟩,?_⟩
   refine WP.ret ⟨aa,_,U,?_⟩
   exact⟨U,by rw[hh.2 ⟨st,eO,he⟩]⟩
  .skip
   refine aB.rR U U U U (aq U U cS) (by simp;omega) ?_
   refine zO U (oO U U) (zA U ?_)
   refine aB.nil ⟨⟨aa,aa,aa,aa,aa,aa,aa,aa,aa,aa,aa,aa,aa,aa,aa,aa,aa,aa,aa,aa,aa,aa,aa,aa,aa,aa⟩,?_⟩
   refine WP.ret ⟨aa,_,U,?_⟩
   refine⟨U,?_⟩
   cases hb:μ.hasB n with
   |false=>rfl
   |true =>
    obtain⟨s',h1,h2⟩:=hh.1 hb
    rw[eO] at h1;have:=bB h1;omega
 .skip
  refine aB.rR U U U U (aq U U aK) (by simp;omega) ?_
  refine zM U (aB.no (e:=false) U U U U (aB.no (e:=false) U U U U (aB.no (e:=false) U U U U (aB.no (e:=false) U U U U (aB.no (e:=false) U U U U (aB.no (e:=false) U U U U (aB.no (e:=false) U U U U (aB.no (e:=false) U U U U (aB.no (e:=false) U U U U (aB.no (e:=false) U U U U (aB.no (e:=false) U U U U (aB.no (e:=false) U U U (by simp only[isEff,eZ]) ?_))))))))))))
  refine aB.no (e:=false) U U U U (aB.no (e:=false) U U U U (aB.no (e:=false) U U U U (zO U (rP U U) (zA U ?_))))
  refine aB.nil ⟨⟨aa,aa,aa,aa,aa,aa,aa,aa,aa,aa,aa,aa,aa,aa,aa,aa,aa,aa,aa,aa,aa,aa,aa,aa,aa,aa⟩,?_⟩
  refine WP.ret ⟨aa,_,U,?_⟩
  refine⟨U,?_⟩
  cases hb:μ.hasB n with
  |false=>rfl
  |true =>
   obtain⟨s',h1,h2⟩:=hh.1 hb
   have:=(List.getElem?_eq_some_iff.1 h1).1
   omega
theorem Sr (hT:W told)(s:Sat h (dF q p μ::bX p δ::S))(I:μ.Ok)(hf:δ.cT<4294967296): Call ⟨Tryz.prog,told⟩ 103 [.ptr q 0,.int .u64 (n:Int)] h λv h' =>
  (n<μ.base+μ.forced/\v=.int .i64 0/\Sat h' (dF q p μ::bX p δ::S)) \/
  (μ.base+μ.forced<=n/\δ.dead=true/\v=.int .i64 9/\Sat h' (dF q p μ::bX p δ::S)) \/
  (μ.base+μ.forced<=n/\δ.dead=false/\δ.cT=0/\v=.int .i64 9/\Sat h' (dF q p μ::bX p δ.die::S)) \/
  (μ.base+μ.forced<=n/\δ.dead=false/\δ.cT≠0/\v=.int .i64 0/\Sat h' (dF q p { μ with forced:=μ.b.length }::bX p { δ.gq with gQ:=δ.log.length }::S)):=by
 have PW:=I.size;have hfo:=I.forced;have s0:=s;obtain⟨bv,sv,s⟩:=jr.1 s;refine Call.of_wp (hT.free _ U) Tryz.func103 U U (zK 9 U (zc U (PV hT s0 I.size I.forced) ?_));rintro v h' ⟨rfl,rfl⟩;by_cases cq:n<μ.base+μ.forced
 .skip;refine zB U aK (by simp;omega) ?_;exact zk 6 U (WP.ret ⟨aa,_,U,.inl ⟨cq,U,s0⟩⟩)
 .have hle:μ.base+μ.forced<=n:=by omega
  refine zC U aK (by simp;omega) ?_;refine zk 8 U (zY s 0 NM xX U (zc U (Sf hT (s0.ae [1]) hf) ?_));rintro v h (⟨hd,rfl,s⟩|⟨hd,h0,rfl,s⟩|⟨hd,h0,rfl,s⟩)
  .refine au.op U U U (iY U) ?_;exact zk 4 U (zB U aE (U) (zk 7 U (WP.ret ⟨aa,_,U,.inr (.inl ⟨hle,hd,U,s.ae [1]⟩)⟩)))
  .skip;exact zk 5 U (zB U aE (U) (zk 7 U (WP.ret ⟨aa,_,U,.inr (.inr (.inl ⟨hle,hd,h0,U,s.ae [1]⟩))⟩)))
  .skip;obtain⟨bv,sv,s⟩:=jr.1 (s.ae [1]);refine zk 5 U (zC U aE (U) (zk 8 U (zY s 0 nQ b8 U (zo U (aC U U U (bA aP (s.aD (k:=1) U (bg _ _)))) (zn U (zf U (HJ _ _) ?_))))));refine zS U (by exact s.kz (k:=0) U lI U (by decide) U U) (λh s => ?_);exact zk 5 U (WP.ret ⟨aa,_,U,.inr (.inr (.inr ⟨hle,hd,h0,U,jr.2 ⟨bv,sv,s⟩⟩))⟩)
end
structure fU where
 bQ:Int
 pos:Int
 whole:Bool
 b:List Nat
variable {dD:List fU}
def fU.Ok (c:fU): Prop:=0<=c.bQ/\c.bQ<65536/\0<=c.pos/\c.pos<=512/\(c.b.length:Int)<=512-c.pos/\(c.whole=true->c.pos=0/\c.b.length=512)
instance (c:fU):Decidable c.Ok:=by unfold fU.Ok;infer_instance
def iQ (kind:Int)(dD:List fU): Bool:=decide (1<=kind/\kind<=9)&&dD.all λc=>decide c.Ok
def qq (kd:Int)(tx pv nx:Nat)(dt ch:V): List V:=[.int .i64 kd,.int .u64 (tx:Int),.int .u64 (pv:Int),.int .u64 (nx:Int),dt,ch]
theorem B_ {ch:V}(I:storable dt=true)(hc:storable ch=true): (qq kd tx pv nx dt ch).all storable=true:=by
 simp only[qq,mG,nE,I,hc];rfl
def fP : List V->List fU->aG
 |[],[]=>.pu True
 |p::a::w::v::l,x::m=>.an (.an (.pu (p=.int .i64 x.bQ/\a=.int .i64 x.pos/\w=.bool x.whole)) (.cG v x.b)) (fP l m)
 |_,_=>.pu False
theorem bf.tf : ∀(m:List fU) (l:List V),bf (fP l m):=by
 intro m;induction m with
 |nil=>intro l;rcases l with _|⟨a,_|⟨b,_|⟨c,_|⟨d,l⟩⟩⟩⟩<;>exact bf.pu _
 |cons x m I=>intro l;rcases l with _|⟨a,_|⟨b,_|⟨c,_|⟨d,l⟩⟩⟩⟩<;>first|exact bf.pu _|exact bf.an (bf.an (bf.pu _) (bf.cG _ _)) (I l)
theorem tN {a b:PM}: ∀ {m:List fU} {l:List V},(fP l m).p a b->l.length=m.length*4:=by
 intro m;induction m with
 |nil=>intro l h;rcases l with _|⟨x,_|⟨y,_|⟨z,_|⟨d,l⟩⟩⟩⟩<;>first|rfl|exact h.elim
 |cons x m I =>
  intro l h;rcases l with _|⟨x,_|⟨y,_|⟨z,_|⟨d,l⟩⟩⟩⟩<;>first|exact h.elim|skip
  have:=I h.2;simp only[aX];omega
theorem Ev {a b:PM}: ∀ {m m':List fU} {l I:List V},(fP l m).p a b->(fP I m').p a b->(fP (l++I) (m++m')).p a b:=by
 intro m;induction m with
 |nil=>intro m' l I h h';rcases l with _|⟨x,_|⟨y,_|⟨z,_|⟨d,l⟩⟩⟩⟩<;>first|exact h'|exact h.elim
 |cons x m ih =>
  intro m' l I h h';rcases l with _|⟨x,_|⟨y,_|⟨z,_|⟨d,l⟩⟩⟩⟩<;>first|exact h.elim|exact⟨h.1,ih h.2 h'⟩
theorem KU {a b:PM}: ∀ {m:List fU} {l:List V} {i:Nat} {c:fU},(fP l m).p a b->m[i]?=some c->∃u,(l.drop (i*4)).take 4=[.int .i64 c.bQ,.int .i64 c.pos,.bool c.whole,u]/\(aG.cG u c.b).p a b:=by
 intro m;induction m with
 |nil=>intro l i c h I;simp at I
 |cons x m ih =>
  intro l i c h I;rcases l with _|⟨p,_|⟨q,_|⟨w,_|⟨v,l⟩⟩⟩⟩<;>first|exact h.elim|skip
  obtain⟨⟨⟨h1,h2,h3⟩,h4⟩,h5⟩:=h;cases i with
  |zero=>simp at I;subst I;exact⟨v,by rw[h1,h2,h3];rfl,h4⟩
  |succ i =>
   simp at I;obtain⟨u,e1,e2⟩:=ih h5 I;refine⟨u,?_,e2⟩;rw[<-e1,show(i+1)*4=i*4+4 by omega];rfl
section
variable {told:cu} {h:H} {p:Nat} {v:V}
theorem Ss {ch:V}{m:List fU}{c:fU}(s:Sat h (.arr 4 ch cs::fP cs m::S))(hc:m[i]?=some c):
  ∃id off u,indexAddrV Tryz.prog 45 ch (.int .i64 (i:Int))=some (.ptr id off)/\loadV Tryz.prog h 206 (.ptr id off)=some (.agg [.int .i64 c.bQ,.int .i64 c.pos,.bool c.whole,u]) /\
   u.cells=[u]/\storable u=true/\u.beq u=true/\Sat h (.cG u c.b::.arr 4 ch cs::fP cs m::S):=by
 obtain⟨a,b,q1,q2,q3⟩:=s.at (k:=1) U;have A6:=(List.getElem?_eq_some_iff.1 hc).1;have hl:=tN q3;obtain⟨u,e1,e2⟩:=KU q3 hc;obtain⟨id,off,g1,g2⟩:=aba (P:=Tryz.prog) (i:=i) s (j:=0) U (by omega) (by decide) mg Dv;have g2:=g2 acH;rw[e1] at g2;have s2:Sat h (fP cs m::.arr 4 ch cs::S):=s.ae [1];have s3:=(s2.dup (bf.tf _ _)).eD (B:=.cG u c.b) λa b h=>by
  obtain⟨u',I,sO⟩:=KU h hc;rw[e1] at I;injection I with _ I;injection I with _ I;injection I with _ I;injection I with I _;subst I;exact sO
 have hu:=(s3.aD (k:=0) U (bC _ _));exact⟨id,off,u,g1,g2,hu.cells.1,hu.cells.2,nO hu,s3.ae [0,1,0]⟩
theorem N4 {ch:V}{m:List fU}(s:Sat h S)(I:getA S j1=some (.arr 4 ch cs))(h2:getA S j2=some (fP cs m))(hu:P.underlying t=some (.slice e)): lenV P h t ch=some (.int .i64 m.length):=by
 obtain⟨a,b,q1,q2,q3⟩:=s.at h2;exact s.fq I (tN q3) (by decide) hu
theorem Sat.Ca {ch:V}{m:List fU}(s:Sat h S)(I:getA S j1=some (.arr 4 ch cs))(h2:getA S j2=some (fP cs m))(hu:P.underlying t=some (.slice e)): lenV P h t ch=some (.int .i64 m.length):=N4 s I h2 hu
noncomputable def gwL : Code:=cX [1,1,0,1,0,0] ((Tryz.f190.body).getD .skip)
theorem PX {ch:V}{m:List fU}: ∀(j i:Nat) (h:H) (E:List (Nat×V)) (Q:Ex->List (Nat×V)->H->Prop),i+j=m.length->m.length<4294967296->(∀c∈m,c.b.length<9223372036854775808) ->
  (∀c∈m, -4294967296<=c.pos/\c.pos<=4294967296)->Sat h (.arr 4 ch cs::fP cs m::S)->Has E [(1,.ptr p1 0),(14,ch),(15,.int .i64 m.length),(16,.int .i64 i)] ->
  ((m.drop i).all (λc=>decide c.Ok)=false->∀E' h',look E' 2=some (.bool false)->Sat h' (.arr 4 ch cs::fP cs m::S)->Q .ret E' h') ->
  ((m.drop i).all (λc=>decide c.Ok)=true->∀E' h',Sat h' (.arr 4 ch cs::fP cs m::S)->Q (.exit 0) E' h')->WP ⟨Tryz.prog,told⟩ 61 (.loop gwL) E h Q:=by
 intro j;induction j with
 |zero =>
  intro i h E Q hi hm hb Vj s hE hr hx;refine WP.loop (WP.has hE (zg U (zC U aK (by simp;omega) ?_)));exact zk 3 U (WP.exit (hx (by rw[p_ (by omega)];rfl) _ _ s))
 |succ j ih =>
  intro i h E Q hi hm hb Vj s hE hr hx;have hc:m[i]?=some (m[i]'(by omega)):=aF _;generalize (m[i]'(by omega))=c at hc;have Cb:=aI hc;have D5:=hb c Cb;have hcp:=Vj c Cb;have vq:m.drop i=c::m.drop (i+1):=by
   have:=List.getElem?_eq_some_iff.1 hc;obtain⟨h1,rfl⟩:=this;exact mC h1
  rw[vq,mG] at hr hx;obtain⟨id,off,u,e1,e2,u1,u2,u3,s⟩:=Ss s hc;refine WP.loop (WP.has hE (zg U (zB U aK (by simp;omega) ?_)));refine zk 5 U (WP.block (zg U (zo U (bM (r:=.ptr id off) U U e1) (zl U e2 ?_))));refine au.cg s U U U (cm xb) (λp4 h s => ?_);dsimp only[V.cells,List.length_cons,List.length_nil,Nat.reduceAdd] at s;refine zS U (s.gX (j:=0) U Dv U (by simp only[mG,nE,u2];rfl)) ?_;intro h s;dsimp only[setA] at s;refine zk 4 U (zY s 0 HK bT U ?_);refine zd U (aq U U aK) ?_ ?_
  .intro A1;have A1:c.bQ<0:=by simp at A1;omega
   exact zk 30 U (WP.ret (hr (by rw[gh (λq:c.Ok=>by have:=q.1;omega),mF]) _ _ U s.drop.drop))
  .intro A1;have A1:¬ (c.bQ<0):=by simp at A1;omega
   refine zm U (zY s 0 HK bT U ?_);refine zd U (aq U U j5) ?_ ?_
   .intro Su;have Su:65536<=c.bQ:=by simp at Su;omega
    exact zk 26 U (WP.ret (hr (by rw[gh (λq:c.Ok=>by have:=q.2.1;omega),mF]) _ _ U s.drop.drop))
   .intro Su;have Su:¬ (65536<=c.bQ):=by simp at Su;omega
    refine zk 2 U (zY s 0 vQ bT U ?_);refine zd U (aq U U aK) ?_ ?_
    .intro jG;have jG:c.pos<0:=by simp at jG;omega
     exact zk 21 U (WP.ret (hr (by rw[gh (λq:c.Ok=>by have:=q.2.2.1;omega),mF]) _ _ U s.drop.drop))
    .intro jG;have jG:¬ (c.pos<0):=by simp at jG;omega
     refine zk 2 U (zY s 0 vQ bT U ?_);refine zd U (aq U U cP) ?_ ?_
     .intro rX;have rX:512<c.pos:=by simp at rX;omega
      exact zk 16 U (WP.ret (hr (by rw[gh (λq:c.Ok=>by have:=q.2.2.2.1;omega),mF]) _ _ U s.drop.drop))
     .intro rX;have rX:¬ (512<c.pos):=by simp at rX;omega
      refine zk 2 U (zY s 0 vR b8 U (zo U (aC U U U (bA aP (s.aD (k:=1) U (bC _ _)))) (zY s 0 vQ bT U (zb U (by exact dM ak) ?_))));refine zd U (aq U U cP) ?_ ?_
      .intro rY;have rY:512-c.pos<(c.b.length:Int):=by simp at rY;omega
       exact zk 7 U (WP.ret (hr (by rw[gh (λq:c.Ok=>by have:=q.2.2.2.2.1;omega),mF]) _ _ U s.drop.drop))
      .intro rY;have rY:¬ (512-c.pos<(c.b.length:Int)):=by simp at rY;omega
       refine zk 6 U (zf U (NN _ _) ?_);have wU:∀(h:H) (E:List (Nat×V)),c.Ok->Sat h (.arr 4 ch cs::fP cs m::S)->Has E [(1,.ptr p1 0),(14,ch),(15,.int .i64 m.length),(16,.int .i64 ((i:Int)+1))]->WP ⟨Tryz.prog,told⟩ 61 (.loop gwL) E h Q:=by
        intro h E jK s hE;rw[dZ jK,C6] at hr hx;exact ih (i+1) h E Q (by omega) hm hb Vj s hE hr hx
       have Fe:c.whole=false\/c.whole=true:=by cases c.whole<;>simp
       rcases Fe with hw|hw
       .skip;refine zh U (o_load U (by exact s.ld (k:=0) U sF U)) (hw) ?_;refine zk 11 U (zv (zj U (WP.skip (zr U (zb U (by exact aM ak) ?_)))));refine zm U (zv ?_);refine wU _ _ ?_ ?_ ?_
        .exact⟨by omega,by omega,by omega,by omega,by omega,λe=>by rw[hw] at e;cases e⟩
        .exact s.drop.drop
        .exact⟨U,U,U,U,aa⟩
       .skip;refine zt U (o_load U (s.ld (k:=0) U sF U)) (hw) (zm U (zY s 0 vQ bT U ?_));refine zd U (aq U U aE) ?_ ?_
        .intro hp;have hp:c.pos≠0:=by simp at hp;omega
         exact zk 13 U (WP.ret (hr (by rw[gh (λq:c.Ok=>hp (q.2.2.2.2.2 hw).1),mF]) _ _ U s.drop.drop))
        .intro hp;have hp:c.pos=0:=by simp at hp;omega
         refine zm U (zY s 0 vR b8 U (zo U (aC U U U (bA aP (s.aD (k:=1) U (bC _ _)))) ?_));refine zd U (aq U U aE) ?_ ?_
         .intro I;have I:c.b.length≠512:=by simp at I;omega
          exact zk 8 U (WP.ret (hr (by rw[gh (λq:c.Ok=>I (q.2.2.2.2.2 hw).2),mF]) _ _ U s.drop.drop))
         .intro I;have I:c.b.length=512:=by simp at I;omega
          refine zk 2 U (zv (zj U (WP.skip (zr U (zb U (by exact aM ak) ?_)))));refine zm U (zv ?_);refine wU _ _ ?_ ?_ ?_
          .exact⟨by omega,by omega,by omega,by omega,by omega,λ_=>⟨hp,I⟩⟩
          .exact s.drop.drop
          .exact⟨U,U,U,U,aa⟩
def F8 (m:List fU): Prop:=m.length<4294967296/\(∀c∈m,c.b.length<4294967296)/\(∀c∈m, -4294967296<=c.pos/\c.pos<=4294967296)
theorem Vk (hT:W told){ch:V}{m:List fU}(s:Sat h (.arr 4 ch cs::fP cs m::S))(hd:storable dt=true)(hm:F8 m):
  Call ⟨Tryz.prog,told⟩ 190 [.agg (qq kd tx pv nx dt ch)] h λr h'=>r=.bool (iQ kd m)/\Sat h' (.arr 4 ch cs::fP cs m::S):=by
 have wE:=s.uO (j:=0) U;have eO:=B_ (kd:=kd) (tx:=tx) (pv:=pv) (nx:=nx) hd wE.2.1;refine Call.of_wp (hT.free _ U) Tryz.func190 U U (zg U (au.cg s U U U (fG U eO) ?_));intro p1 h s;refine zk 5 U (zY s 0 BZ bT U ?_);refine zd U (aq U U aK) ?_ ?_
 .intro hq;have hq:kd<1:=by simpa using hq
  exact zk 11 U (WP.ret ⟨aa,_,U,by rw[iQ,gh (by omega),mF],s.drop⟩)
 .intro hq;have hq:1<=kd:=by simpa using hq
  refine zm U (zY s 0 BZ bT U ?_);refine zd U (aq U U cP) ?_ ?_
  .intro I;have I:9<kd:=by simpa using I
   exact zk 7 U (WP.ret ⟨aa,_,U,by rw[iQ,gh (by omega),mF],s.drop⟩)
  .intro I;have I:kd<=9:=by simpa using I
   refine zk 7 U (zY s 0 wq HE U (zo U (aC U U U (N4 s (j1:=1) (j2:=2) U U mg)) (zk 2 U (WP.block ?_))));have hg:iQ kd m=m.all (λc=>decide c.Ok):=by rw[iQ,dZ ⟨hq,I⟩,C6]
   refine PX m.length 0 _ _ _ (by omega) hm.1 (λc hc=>by have:=hm.2.1 c hc;omega) hm.2.2 s.drop ⟨U,U,U,U,aa⟩ (λhf E' h' h2 s' => ?_) (λhf E' h' s' => ?_)
   .rw[hg];rw[gi] at hf;rw[hf];exact⟨aa,_,xW h2,U,s'⟩
   .rw[hg];rw[gi] at hf;rw[hf];exact WP.has (F:=[]) aa (zK 4 U (WP.ret ⟨aa,_,U,U,s'⟩))
end
def pR (c:fU): List Nat:=digits 9 c.bQ.toNat++digits 9 c.pos.toNat++[if c.whole then 1 else 0]++(digits 9 c.b.length++c.b)
def gY (kd:Int)(tx pv nx:Nat)(data:List Nat)(dD:List fU): List Nat :=
 [kd.toNat]++digits 9 tx++digits 9 pv++digits 9 nx++(digits 9 data.length++data)++digits 9 dD.length++dD.flatMap pR
section
variable {told:cu} {h:H} {p:Nat} {v:V} {m:List Nat}
theorem rZ (I:W told)(s:Sat h (aY v l::S))(hn:n<18446744073709551616)(hl:l.length<=140737488355000):
  Call ⟨Tryz.prog,told⟩ 209 [v,.int .u64 (n:Int)] h λr h'=>Sat h' (aY r (l++digits 9 n)::S) :=
 (IM I.XE (k:=9) s.wf (s.buf (k:=0) U) (by omega) (by omega) (by omega)).mono λ_ _ ⟨h1,h2,h3⟩=>s.Dp h2 h1 h3
theorem HX (hT:W told)(s:Sat h (aY v l::X::S))(I:cy X (cE w m))(hl:l.length+m.length<=140737488355000):
  Call ⟨Tryz.prog,told⟩ 210 [v,w] h λr h'=>Sat h' (aY r (l++(digits 9 m.length++m))::X::S) :=
 (Y4 hT.XE (k:=9) s.wf (s.buf (k:=0) U) (s.aD (k:=1) U I) (s.abb I) (by omega) (by omega) (by omega)).mono λ_ _ ⟨h1,h2,h3⟩=>by
  rw[dO] at h1;exact s.Dp h2 h1 h3
noncomputable def bdL : Code:=cX [1,1,1,1,0,1,0,0] ((Tryz.f191.body).getD .skip)
theorem Sv (hT:W told){ch:V}(jK:∀c∈dD,c.Ok)(dL:F8 dD): ∀(j i:Nat) (sv:V) (l:List Nat) (h:H) (E:List (Nat×V)) (Q:Ex->List (Nat×V)->H->Prop),i+j=dD.length ->
  l.length+((dD.drop i).flatMap pR).length<=140737488355000 ->
  Sat h (aY sv l::.arr 4 ch cs::fP cs dD::S)->Has E [(1,.ptr p1 0),(3,sv),(37,ch),(38,.int .i64 dD.length),(39,.int .i64 i)] ->
  (∀E' h' I,look E' 3=some I->Sat h' (aY I (l++(dD.drop i).flatMap pR)::.arr 4 ch cs::fP cs dD::S)->Q (.exit 2) E' h')->WP ⟨Tryz.prog,told⟩ 63 (.loop bdL) E h Q:=by
 intro j;induction j with
 |zero =>
  intro i sv l h E Q hi hlen s hE hx;have hm:=dL.1;refine WP.loop (WP.has hE (zg U (zC U aK (by simp;omega) ?_)));refine zk 3 U (WP.exit (hx _ _ sv U ?_));rw[p_ (by omega)];simpa using s
 |succ j ih =>
  intro i sv l h E Q hi hlen s hE hx;have hm:=dL.1;have hc:dD[i]?=some (dD[i]'(by omega)):=aF _;generalize (dD[i]'(by omega))=c at hc;have Cb:=aI hc;have adX:=jK c Cb;have D5:=dL.2.1 c Cb;have vq:dD.drop i=c::dD.drop (i+1):=by
   obtain⟨h1,rfl⟩:=List.getElem?_eq_some_iff.1 hc;exact mC h1
  rw[vq,eG] at hlen hx;obtain⟨pg,ps,wh,bb⟩:=c;obtain⟨q1,q2,q3,q4,_⟩:=adX;dsimp only at q1 q2 q3 q4 D5;obtain⟨pg,rfl⟩:∃n:Nat,pg=n:=⟨pg.toNat,by omega⟩;obtain⟨ps,rfl⟩:∃n:Nat,ps=n:=⟨ps.toNat,by omega⟩;have Vl:pR ⟨pg,ps,wh,bb⟩=digits 9 pg++digits 9 ps++[if wh then 1 else 0]++(digits 9 bb.length++bb):=by simp[pR]
  have wj:(pR ⟨pg,ps,wh,bb⟩).length=(digits 9 pg).length+(digits 9 ps).length+1+(digits 9 bb.length).length+bb.length:=by rw[Vl];simp;omega
  rw[aN,wj] at hlen;obtain⟨id,off,u,e1,e2,u1,u2,u3,s⟩:=Ss (s.ae [1,1]) hc;dsimp only at e2;have s:=s.ae [3,0,0,0];dsimp only[aL,bringA,getA] at s;refine WP.loop (WP.has hE (zg U (zB U aK (by simp;omega) ?_)));refine zk 5 U (WP.block (zg U (zo U (bM (r:=.ptr id off) U U e1) (zl U e2 ?_))));refine au.cg s U U U (cm xb) (λp7 h s => ?_);dsimp only[V.cells,List.length_cons,List.length_nil,Nat.reduceAdd] at s;refine zS U (s.gX (j:=0) U Dv U (by simp only[mG,nE,u2];rfl)) ?_;intro h s;dsimp only[setA] at s;refine zk 2 U ?_;have s:=s.ae [1,0];dsimp only[bringA,getA,aL] at s;have s0:=s;refine WP.drawn [af,af,af,af,af,some (0,2),some (0,2),some (0,2),none,none] U (by kernel_rfl) (by kernel_rfl) ?_;refine zM U (zF U (HK _ _) (zL U (s.ld (k:=1) U bT U) (aB.op U U U (by simp only[isEff,eZ]) (cN U (by exact kC b9 eZ iN)) ?_)));refine aB.any U U U U (OpR.call U U U U (rZ hT s (by omega) (by omega))) ?_;intro v1 h s;have s1:=s;refine zF U (vQ _ _) (zL U (s.ld (k:=1) U bT U) (aB.op U U U (by simp only[isEff,eZ]) (cN U (by exact kC b9 eZ iN)) ?_));refine aB.any U U U U (OpR.call U U U U (rZ hT s (by omega) (by simp;omega))) ?_;intro v2 h s;refine zA U ?_;refine aB.nil ⟨⟨aa,aa,aa,aa,aa,λ_ _=>.inr ⟨U,⟨_,mX U (vQ _ _)⟩,bp _ U⟩,gC (.inr ⟨U,⟨_,o_load U (s0.ld (k:=1) U bT U)⟩,bp _ U⟩) (.inr ⟨U,⟨_,o_load U (s1.ld (k:=1) U bT U)⟩,bp _ U⟩),λ_ _=>.inr ⟨U,⟨_,cN U (by exact kC b9 eZ iN)⟩,bp _ U⟩,aa,aa,aa⟩,?_⟩;have abk:∀(h:H) (E:List (Nat×V)) (I:V),Sat h (aY I (l++pR ⟨pg,ps,wh,bb⟩)::.arr 4 ch cs::fP cs dD::S)->Has E [(1,.ptr p1 0),(3,I),(37,ch),(38,.int .i64 dD.length),(39,.int .i64 ((i:Int)+1))]->WP ⟨Tryz.prog,told⟩ 63 (.loop bdL) E h Q:=by
   intro h E I s hE;refine ih (i+1) I _ h E Q (by omega) (by rw[aN,wj];omega) s hE (λE' h' sv2 DZ s'=>hx E' h' sv2 DZ ?_);rw[dO] at s';exact s'
  have IP:=iP 9 pg;have hlq:=iP 9 ps;refine zK 7 U (zf U (NN _ _) ?_);have Fe:wh=false\/wh=true:=by cases wh<;>simp
  rcases Fe with hw|hw
  .skip;refine zh U (o_load U (s.ld (k:=1) U sF U)) (hw) (zk 3 U ?_);have s0:=s;have IJ:=nO (s.buf (k:=0) U).view;refine WP.drawn [some (0,2),af,af,af,some (0,3),some (0,3),none,none] U (by kernel_rfl) (by kernel_rfl) ?_;refine zM U (zM U (aB.any U U U U (OpR.JN (n:=0) U s U U U (by decide)) ?_));intro v3 h s;have s:=s.ae [1,1,0];dsimp only[bringA,getA,aL] at s;have s1:=s;refine aB.any U U U U (OpR.qy U (s.ae [0,1]) (bg _ _) U U U U (by simp;omega)) ?_;intro v4 h s;have s:=s.del 1;dsimp only[aL,bringA] at s;have s2:=s;refine zF U (vR _ _) (zL U (s.ld (k:=1) U b8 U) (aB.any U U U U (OpR.call U U U U (HX hT (s.ae [0,1]) (bC _ _) (by simp;omega))) ?_));intro v5 h s;dsimp only[aL,bringA] at s;refine zA U ?_;refine aB.nil ⟨⟨λ_ _=>.inr ⟨U,⟨_,bZ U⟩,IJ⟩,aa,aa,aa,λ_ _=>.inr ⟨U,⟨_,mX U (vR _ _)⟩,bp _ U⟩,BQ (.inr ⟨U,⟨_,o_load U (s0.ld (k:=1) U b8 U)⟩,u3⟩) (.inr ⟨U,⟨_,o_load U (s1.ld (k:=1) U b8 U)⟩,u3⟩) (.inr ⟨U,⟨_,o_load U (s2.ld (k:=1) U b8 U)⟩,u3⟩),aa,aa,aa⟩,?_⟩;refine zr U (zb U (by exact aM ak) ?_);refine zm U (zv ?_);refine abk _ _ v5 ?_ ?_
   .rw[Vl,hw];have s:=(s.del 1).del 1;dsimp only[aL] at s;simpa[dO] using s
   .exact⟨U,U,U,U,U,aa⟩
  .skip;refine zt U (o_load U (s.ld (k:=1) U sF U)) (hw) (zk 5 U ?_);have s0:=s;have IJ:=nO (s.buf (k:=0) U).view;refine WP.drawn [some (0,2),af,af,af,some (0,3),some (0,3),none,none] U (by kernel_rfl) (by kernel_rfl) ?_;refine zM U (zM U (aB.any U U U U (OpR.JN (n:=1) U s U U U (by decide)) ?_));intro v3 h s;have s:=s.ae [1,1,0];dsimp only[bringA,getA,aL] at s;have s1:=s;refine aB.any U U U U (OpR.qy U (s.ae [0,1]) (bg _ _) U U U U (by simp;omega)) ?_;intro v4 h s;have s:=s.del 1;dsimp only[aL,bringA] at s;have s2:=s;refine zF U (vR _ _) (zL U (s.ld (k:=1) U b8 U) (aB.any U U U U (OpR.call U U U U (HX hT (s.ae [0,1]) (bC _ _) (by simp;omega))) ?_));intro v5 h s;dsimp only[aL,bringA] at s;refine zA U ?_;refine aB.nil ⟨⟨λ_ _=>.inr ⟨U,⟨_,bZ U⟩,IJ⟩,aa,aa,aa,λ_ _=>.inr ⟨U,⟨_,mX U (vR _ _)⟩,bp _ U⟩,BQ (.inr ⟨U,⟨_,o_load U (s0.ld (k:=1) U b8 U)⟩,u3⟩) (.inr ⟨U,⟨_,o_load U (s1.ld (k:=1) U b8 U)⟩,u3⟩) (.inr ⟨U,⟨_,o_load U (s2.ld (k:=1) U b8 U)⟩,u3⟩),aa,aa,aa⟩,?_⟩;refine zr U (zb U (by exact aM ak) ?_);refine zm U (zv ?_);refine abk _ _ v5 ?_ ?_
   .rw[Vl,hw];have s:=(s.del 1).del 1;dsimp only[aL] at s;simpa[dO] using s
   .exact⟨U,U,U,U,U,aa⟩
theorem Vm (hT:W told){kd:Nat}{ch:V}(s:Sat h (X::.arr 4 ch cs::fP cs dD::S))(hX:cy X (cE dt data))(hg:iQ kd dD=true)(I:F8 dD)
 (F9:tx<18446744073709551616)(XJ:pv<18446744073709551616)(Cc:nx<18446744073709551616)(hlen:data.length+(dD.flatMap pR).length<=70368744177664):
  Call ⟨Tryz.prog,told⟩ 191 [.agg (qq kd tx pv nx dt ch)] h λr h'=>Sat h' (aY r (gY kd tx pv nx data dD)::X::.arr 4 ch cs::fP cs dD::S):=by
 have wE:=s.uO (j:=1) U;have A8:=s.aD (k:=0) U hX;have hdb:=nO A8;have eO:=B_ (kd:=kd) (tx:=tx) (pv:=pv) (nx:=nx) A8.cells.2 wE.2.1;have hk:1<=kd/\kd<=9:=by simp[iQ] at hg;omega
 have jK:∀c∈dD,c.Ok:=by
  simp only[iQ,bV,nB,kS] at hg;exact hg.2
 have hm:=I.1;have h1:=iP 9 tx;have h2:=iP 9 pv;have h3:=iP 9 nx;have h4:=iP 9 data.length;have h5:=iP 9 dD.length;refine Call.of_wp (hT.free _ U) Tryz.func191 U U (zg U (au.cg s U U U (fG U eO) ?_));intro p1 h s;dsimp only[V.cells] at s;refine zk 4 U (zY s 0 BZ bT U (zo U (cN U (by exact kC b9 Tryz.underlying5 qH)) ?_));refine au.any U U U (OpR.JN (n:=kd) U s U U U (by omega)) ?_;intro v3 h s;refine zk 5 U (zY s 1 aa2 sG U (zY s 1 aa3 sG U (zY s 1 aa4 sG U (zo U (cI U (by rw[acR];rfl)) ?_))));refine zk 2 U (WP.block (WP.loop (zg U (zB U aK (by decide) ?_))));refine zk 5 U (WP.block (zg U (zo U (Aj U U (r:=.int .u64 (tx:Int)) (by simp only[indexV,KH,Px,tW,sG];rfl)) ?_)));refine zk 5 U (zc U (rZ hT s (by omega) (by simp only[aN,aX,bY];omega)) ?_);intro v3 h s;refine za U (zv (zr U (zb U (by exact aM ak) ?_)));refine zm U (zv (WP.loop (zg U (zt U (aq U U aK) (by decide) ?_))));refine zk 5 U (WP.block (zg U (zo U (Aj U U (r:=.int .u64 (pv:Int)) (by simp only[indexV,KH,Px,tW,sG];rfl)) ?_)));refine zk 5 U (zc U (rZ hT s (by omega) (by simp only[aN,aX,bY];omega)) ?_);intro v3 h s;refine za U (zv (zr U (zb U (by exact aM ak) ?_)));refine zm U (zv (WP.loop (zg U (zt U (aq U U aK) (by decide) ?_))));refine zk 5 U (WP.block (zg U (zo U (Aj U U (r:=.int .u64 (nx:Int)) (by simp only[indexV,KH,Px,tW,sG];rfl)) ?_)));refine zk 5 U (zc U (rZ hT s (by omega) (by simp only[aN,aX,bY];omega)) ?_);intro v3 h s;refine za U (zv (zr U (zb U (by exact aM ak) ?_)));refine zm U (zv (WP.loop (zg U (zh U (aq U U aK) (by decide) ?_))));refine zk 3 U (WP.exit (zw ?_));have s0:=s;have m8:=nO (s.buf (k:=0) U).view;refine WP.drawn [af,af,af,af,some (0,2),some (0,2),some (0,2),some (0,2),none,none] U (by kernel_rfl) (by kernel_rfl) ?_;refine zM U (zF U (aa5 _ _) (zL U (s.ld (k:=1) U b8 U) (aB.any U U U U (OpR.call U U U U (HX hT (s.ae [0,1]) hX (by simp only[aN,aX,bY];omega))) ?_)));intro v4 h s;have s:=s.ae [0,1,0];have s1:=s;refine zF U (wq _ _) (zL U (s.ld (k:=1) U HE U) (zO U (aC U U U (s.Ca (j1:=3) (j2:=4) U U mg)) (aB.op U U U (by simp only[isEff,eZ]) (cN U (by exact kC b9 eZ iN)) ?_)));refine aB.any U U U U (OpR.call U U U U (rZ hT s (by omega) (by simp only[aN,aX,bY];omega))) ?_;intro v5 h s;refine zA U ?_;refine aB.nil ⟨⟨aa,aa,aa,aa,λ_ _=>.inr ⟨U,⟨_,mX U (wq _ _)⟩,bp _ U⟩,gC (.inr ⟨U,⟨_,o_load U (s0.ld (k:=1) U HE U)⟩,wE.2.2⟩) (.inr ⟨U,⟨_,o_load U (s1.ld (k:=1) U HE U)⟩,wE.2.2⟩),gC (.inr ⟨U,⟨_,aC U U U (s0.Ca (j1:=3) (j2:=4) U U mg)⟩,bp _ U⟩) (.inr ⟨U,⟨_,aC U U U (s1.Ca (j1:=3) (j2:=4) U U mg)⟩,bp _ U⟩),λ_ _=>.inr ⟨U,⟨_,cN U (by exact kC b9 eZ iN)⟩,bp _ U⟩,aa,aa,aa⟩,?_⟩;refine zK 3 U (zY s 1 wq HE U (zo U (aC U U U (s.Ca (j1:=3) (j2:=4) U U mg)) (zk 2 U (WP.block ?_))));have s:=s.ae [0,2,2,1];refine Sv hT jK I dD.length 0 v5 _ _ _ _ (by omega) (by rw[gi];simp only[aN,aX,bY];omega) s ⟨U,U,U,U,U,aa⟩ (λE' h' sv' dY s' => ?_);refine WP.has (F:=[(3,sv')]) ⟨dY,aa⟩ (zK 5 U (WP.ret ⟨aa,_,U,?_⟩));have s'':=(s'.ae [0,2,0,0]).del 4;dsimp only[List.cons_append,List.nil_append,List.drop,aL,bringA,getA] at s'';simpa[gY,dO] using s''
end
def uP (bj:Nat)(b:List Nat): List Nat:=le 4 b.length++le 4 (F1 bj b)++b
theorem Ax (bj:Nat)(b:List Nat): (uP bj b).length=8+b.length:=by simp[uP,cO];omega
theorem Ay : ∃i,Tryz.prog.info? 3=some i/\i.size=1/\i.bytes=8 :=
 ⟨_,(show Tryz.prog.info? 3=some ((Tryz.prog.info? 3).getD default) by kernel_rfl),by kernel_rfl,by kernel_rfl⟩
section
variable {told:cu} {h:H} {p:Nat} {v:V} {m:List Nat}
theorem Sw (I:W told)(s:Sat h S)(hk:getA S k=some X)(hX:cy X (cE v l))(hl:l.length<=4611686018427387904):
  Call ⟨Tryz.prog,told⟩ 192 [.int .u64 (n:Int),v] h λr h'=>r=.int .u32 (F1 n l:Nat)/\Sat h' S :=
 (Sb I.XE s.wf (s.aD hk hX) hl).mono λ_ _ ⟨h1,h2⟩=>⟨h1,s.qx h2⟩
structure F_ (tx pv nx:Nat)(data:List Nat)(dD:List fU): Prop where
 fit:F8 dD
 tx:tx<18446744073709551616
 pv:pv<18446744073709551616
 nx:nx<18446744073709551616
 len:data.length+(dD.flatMap pR).length<=70368744177664
theorem Sx (hT:W told){ch:V}(s:Sat h (X::.arr 4 ch cs::fP cs dD::S))(hX:cy X (cE dt data))(I:F_ tx pv nx data dD):
  Call ⟨Tryz.prog,told⟩ 140 [.agg (qq kd tx pv nx dt ch),.int .u64 (bj:Int)] h λr h' =>
  (iQ kd dD=false/\r=.aV [.aZ,.int .i64 1]/\Sat h' (X::.arr 4 ch cs::fP cs dD::S)) \/
  (iQ kd dD=true/\1048576<(gY kd tx pv nx data dD).length/\r=.aV [.aZ,.int .i64 2]/\Sat h' (X::.arr 4 ch cs::fP cs dD::S)) \/
  (iQ kd dD=true/\(gY kd tx pv nx data dD).length<=1048576/\∃u,r=.aV [u,.int .i64 0]/\Sat h' (aY u (uP bj (gY kd tx pv nx data dD))::X::.arr 4 ch cs::fP cs dD::S)):=by
 have wE:=s.uO (j:=1) U;have A8:=s.aD (k:=0) U hX;have eO:=B_ (kd:=kd) (tx:=tx) (pv:=pv) (nx:=nx) A8.cells.2 wE.2.1;refine Call.of_wp (hT.free _ U) Tryz.func140 U U (zg U (au.cg s U U U (fG U eO) ?_));intro p1 h s;dsimp only[V.cells] at s;refine zk 6 U (zl U (s.b7 (k:=0) U HF Ap) (zc U (Vk hT (s.ae [2,2]) A8.cells.2 I.fit) ?_));rintro r h' ⟨rfl,s⟩;cases hg:iQ kd dD with
 |false =>
  exact zo U (eo U U) (zk 7 U (WP.ret ⟨aa,_,U,.inl ⟨U,U,(s.ae [3,0,0]).del 3⟩⟩))
 |true =>
  refine zo U (eo U U) (zk 5 U (zl U (s.b7 (k:=2) U HF Ap) ?_));have hk:∃n:Nat,kd=n:=⟨kd.toNat,by simp[iQ] at hg;omega⟩;obtain⟨kd,rfl⟩:=hk;refine zc U (Vm hT (s.ae [3,0,0]) hX hg I.fit I.tx I.pv I.nx I.len) ?_;intro u h s;dsimp only[bringA,getA,aL] at s;have KR:(gY kd tx pv nx data dD).length<9223372036854775808:=by
   have h1:=iP 9 tx;have h2:=iP 9 pv;have h3:=iP 9 nx;have h4:=iP 9 data.length;have h5:=iP 9 dD.length;have h6:=I.len;simp only[gY,aN,aX,bY];omega
  generalize RD:gY kd tx pv nx data dD=bd at s KR ⊢;refine zk 6 U (zo U (aC U U U (bA aP (s.aD (k:=0) U (bg _ _)))) ?_);by_cases KV:1048576<bd.length
  .skip;refine zB U cP (by simp;omega) ?_;exact zk 7 U (WP.ret ⟨aa,_,U,.inr (.inl ⟨U,KV,U,(s.del 4).del 0⟩)⟩)
  .skip;refine zC U cP (by simp;omega) ?_;refine zk 6 U (zo U (aC U U U (bA aP (s.aD (k:=0) U (bg _ _)))) (zb U (by exact aM ak) ?_));refine au.any U U U (OpR.ux (c:=8+bd.length) U s U U U U (by omega)) ?_;intro v h s;refine zm U (zo U (aC U U U (bA aP (s.aD (k:=1) U (bg _ _)))) (zo U (cN U (by exact kC b9 eZ iN)) ?_));refine zc U (F7 (z:=4) hT s (by decide) (by simp)) ?_;intro v h s;have cq:=(s.buf (k:=1) U).1;refine zk 7 U (zc U (Sw (n:=bj) hT s (k:=1) U (bg _ _) (by omega)) ?_);rintro r h ⟨rfl,s⟩;have jE:=Vd (bj:=bj) cq;refine zo U (cN U (by exact kC Tryz.underlying260 eZ iN)) ?_;refine zc U (F7 (z:=4) hT s (by decide) (by simp[cO])) ?_;intro v h s;refine zk 6 U (au.any U U U (OpR.qy U s (bg _ _) U U U U (by simp only[aN,cO,bY];omega)) ?_);intro v h s;refine zk 3 U (WP.ret ⟨aa,_,U,?_⟩);refine .inr (.inr ⟨U,by omega,v,U,?_⟩);have s:=(s.del 5).del 1;dsimp only[aL] at s;simpa[uP,dO] using s
def Lg.app (μ:Lg)(b:List Nat): Lg:={ μ with b:=μ.b++b,dS:=μ.dS++[μ.b.length] }
theorem PY (hT:W told){ch:V}(s:Sat h (dF q p μ::bX p δ::X::.arr 4 ch cs::fP cs dD::S))(hX:cy X (cE dt data))(dL:F_ tx pv nx data dD)
 (vr:μ.Ok)(hf:δ.cT<4294967296)(hl:δ.log.length<=16777216)(hr:δ.room<=16777216):
  Call ⟨Tryz.prog,told⟩ 59 [.ptr q 0,.agg (qq kd tx pv nx dt ch)] h λr h' =>
  (∃e:Int,r=.aV [.int .u64 0,.int .i64 e]/\((iQ kd dD=false/\e=1)\/(iQ kd dD=true/\1048576<(gY kd tx pv nx data dD).length/\e=2)\/(iQ kd dD=true/\(gY kd tx pv nx data dD).length<=1048576/\δ.dead=true/\e=9) \/
    (iQ kd dD=true/\(gY kd tx pv nx data dD).length<=1048576/\δ.dead=false/\δ.room<δ.log.length+(uP (μ.base+μ.b.length) (gY kd tx pv nx data dD)).length/\e=7))/\Sat h' (dF q p μ::bX p δ::X::.arr 4 ch cs::fP cs dD::S)) \/
  (iQ kd dD=true/\(gY kd tx pv nx data dD).length<=1048576/\δ.dead=false/\δ.log.length+(uP (μ.base+μ.b.length) (gY kd tx pv nx data dD)).length<=δ.room/\δ.cT=0/\r=.aV [.int .u64 0,.int .i64 9] /\
   Sat h' (dF q p μ::bX p { δ.die with tail:=uP (μ.base+μ.b.length) (gY kd tx pv nx data dD) }::X::.arr 4 ch cs::fP cs dD::S)) \/
  (iQ kd dD=true/\(gY kd tx pv nx data dD).length<=1048576/\δ.dead=false/\δ.log.length+(uP (μ.base+μ.b.length) (gY kd tx pv nx data dD)).length<=δ.room/\δ.cT≠0/\r=.aV [.int .u64 ((μ.base+μ.b.length:Nat):Int),.int .i64 0] /\
   Sat h' (dF q p (μ.app (uP (μ.base+μ.b.length) (gY kd tx pv nx data dD)))::bX p { δ.gq with log:=δ.log++uP (μ.base+μ.b.length) (gY kd tx pv nx data dD) }::X::.arr 4 ch cs::fP cs dD::S)):=by
 have wE:=s.uO (j:=3) U;have A8:=s.aD (k:=2) U hX;have eO:=B_ (kd:=kd) (tx:=tx) (pv:=pv) (nx:=nx) A8.cells.2 wE.2.1;have PW:=vr.size;refine Call.of_wp (hT.free _ U) Tryz.func59 U U (zg U (au.cg s U U U (fG U eO) ?_));intro p1 h s;dsimp only[V.cells] at s;have s:=s.ae [1,0];refine zk 6 U (zc U (HV hT s vr.size) ?_);rintro v h' ⟨rfl,rfl⟩;refine zk 4 U (zl U (s.b7 (k:=1) U HF Ap) (zm U (zc U (Sx (bj:=μ.base+μ.b.length) hT (s.ae [3,3,3]) hX dL) ?_)));generalize hrc:uP (μ.base+μ.b.length) (gY kd tx pv nx data dD)=rc;have Ga:rc.length=8+(gY kd tx pv nx data dD).length:=by rw[<-hrc,Ax]
 rintro r h' (⟨hg,rfl,s⟩|⟨hg,KV,rfl,s⟩|⟨hg,y9,u,rfl,s⟩)
 .dsimp only[bringA,getA,aL] at s;exact zk 10 U (zB U aE (U) (zk 8 U (WP.ret ⟨aa,_,U,.inl ⟨1,U,.inl ⟨hg,U⟩,(s.ae [3,4,0,0,0]).del 5⟩⟩)))
 .dsimp only[bringA,getA,aL] at s;exact zk 10 U (zB U aE (U) (zk 8 U (WP.ret ⟨aa,_,U,.inl ⟨2,U,.inr (.inl ⟨hg,KV,U⟩),(s.ae [3,4,0,0,0]).del 5⟩⟩)))
 .dsimp only[bringA,getA,aL] at s;have cq:=(s.buf (k:=0) U).1;obtain⟨lU,_,cap,_,rfl,_⟩:=s.eX (by omega);obtain⟨bv,sv,s⟩:=jr.1 (s.ae [4]);refine zk 10 U (zC U aE (U) (zk 8 U (zY s 0 NM xX U (zm U ?_))));have s:=s.ae [8,3];refine zc U (PO hT s (bg _ _) (by omega) hf (by omega) (by omega)) ?_;rintro r h (⟨hd,rfl,s⟩|⟨hd,vt,rfl,s⟩|⟨hd,I,h0,rfl,s⟩|⟨hd,I,h0,rfl,s⟩)
  .refine au.op U U U (iY U) ?_;exact zk 4 U (zB U aE (U) (zk 8 U (WP.ret ⟨aa,_,U,.inl ⟨9,U,.inr (.inr (.inl ⟨hg,y9,hd,U⟩)),(jr.2 ⟨bv,sv,((s.ae [2,2,2,0,1,1,1]).del 8).del 7⟩)⟩⟩)))
  .skip;exact zk 5 U (zB U aE (U) (zk 8 U (WP.ret ⟨aa,_,U,.inl ⟨7,U,.inr (.inr (.inr ⟨hg,y9,hd,by omega,U⟩)),(jr.2 ⟨bv,sv,((s.ae [2,2,2,0,1,1,1]).del 8).del 7⟩)⟩⟩)))
  .skip;exact zk 5 U (zB U aE (U) (zk 8 U (WP.ret ⟨aa,_,U,.inr (.inl ⟨hg,y9,hd,I,h0,U,(jr.2 ⟨bv,sv,((s.ae [2,2,2,0,1,1,1]).del 8).del 7⟩)⟩)⟩)))
  .skip;have s:=s.ae [2,2,2,1,0,0,0,0];refine zk 5 U (zC U aE (U) (zk 4 U ?_));have s0:=s;have hbb:=nO (s.buf (k:=1) U).view;have XK:=(s.uO (j:=2) U).2.2;refine WP.drawn [some (0,3),some (0,2),some (0,2),some (0,2),some (0,2),af,af,af,af,af,af,af,af,af,af] U (by kernel_rfl) (by kernel_rfl) ?_;refine zM U (zM U (zN U (zF U (tI _ _) (zL U (s.ld (k:=0) U Eo U) (zM U (zN U (zF U (nQ _ _) (zL U (s.ld (k:=0) U b8 U) (zO U (aC U U U (bA aP (s.aD (k:=1) U (bg _ _)))) ?_)))))))));obtain⟨i1,c9,fc,pP⟩:=Ay;obtain⟨iv,h1,e1,s1⟩:=kY (P:=Tryz.prog) (k:=1) (x:=.int .i64 (μ.b.length:Int)) s dm BW lI U (by decide) (by decide) U U;dsimp only[V.cells] at s1;refine aB.any U U U U (OpR.of (R:=λv h'=>v=iv/\h'=h1) (iZ U e1) ⟨U,U⟩) ?_;rintro v h' ⟨rfl,rfl⟩;have XI:=vr.many;obtain⟨sv',h2,e2,s2⟩:=iw (s1.ae [3,0]) dm c9 BW fc (by omega) U (by decide) (by simp only[jy,aX,bY];omega);refine aB.any U U U U (OpR.of (R:=λv h'=>v=sv'/\h'=h2) (jc U U e2) ⟨U,U⟩) ?_;rintro v h' ⟨rfl,rfl⟩;have hv:=s2.uO (j:=0) U;refine zN U (zF U (tI _ _) (aB.lP U U U (OpR.yU U U U (s2.kz (k:=2) U adL U (by decide) hv.1 hv.2.1)) ?_));rintro v h ⟨rfl,s⟩;refine aB.nil ⟨⟨λ_ _=>.inr ⟨U,⟨_,bZ U⟩,bp _ U⟩,λ_ _=>.inr ⟨U,⟨_,bZ U⟩,bp _ U⟩,λ_ _=>.inr ⟨U,⟨_,vk U⟩,bp _ U⟩,λ_ _=>.inr ⟨U,⟨_,mX U (tI _ _)⟩,bp _ U⟩,gC (.inr ⟨U,⟨_,o_load U (s0.ld (k:=0) U Eo U)⟩,XK⟩) (.inr ⟨U,⟨_,o_load U (s1.ld (k:=1) U Eo U)⟩,XK⟩),yr 11⟩,?_⟩;refine zK 5 U (zY s 2 nQ b8 U (zm U (au.any U U U (OpR.qy U (s.ae [3,3]) (bg _ _) U U U U (by have:=vr.len;omega)) ?_)));intro bv' h s;have hv:=(s.buf (k:=0) U).view.cells;refine zn U (zf U (nQ _ _) (zS U (s.kz (k:=4) U dQ U (by decide) hv.1 hv.2) ?_));intro h s;refine zk 7 U (WP.ret ⟨aa,_,U,?_⟩);refine .inr (.inr ⟨hg,y9,hd,I,h0,U,jr.2 ⟨bv',v,?_⟩⟩);have s:=(((s.ae [4,0,1]).del 4).del 3).del 7;have e:cC (μ.app rc).dS=cC μ.dS++[.int .i64 (μ.b.length:Int)]:=by simp[Lg.app,cC]
   rw[e];exact s
end
def Dk.jz (δ:Dk): Int×Dk:=if δ.dead=true then(9,δ) else if δ.cT=0 then(9,δ.die) else(0,{ δ.gq with gQ:=δ.log.length })
def Dk.eP (δ:Dk)(n:Int)(b:List Nat): Int×Dk:=if δ.dead=true then(9,δ) else if ¬(0<=n/\n<δ.bG.length/\b.length=512) then(1,δ) else
 if δ.cT=0 then(9,{ δ.die with HR:=some (n.toNat,b) }) else(0,δ.wr n b)
def Dk.tO (δ:Dk)(b:List Nat): Int×Dk:=if δ.dead=true then(9,δ) else if δ.room<δ.log.length+b.length then(7,δ) else if δ.cT=0 then(9,{ δ.die with tail:=b }) else(0,{ δ.gq with log:=δ.log++b })
def Dk.ud (δ:Dk)(n:Int): Int:=if δ.dead=true then 9 else if ¬(0<=n/\n<δ.bG.length) then 1 else 0
structure Dk.Ok (δ:Dk): Prop where
 cT:δ.cT<4294967296
 len:δ.log.length<=16777216
 room:δ.room<=16777216
 now:∀e∈δ.now,e.2.length=512
 bG:∀(i:Nat) (b:List Nat),δ.bG[i]?=some (some b)->b.length=512
 gQ:δ.gQ<=δ.log.length
 many:δ.bG.length<=65536
theorem Dk.Ok.gq (h:δ.Ok): δ.gq.Ok:=⟨by have:=h.cT;simp only[Dk.gq];split<;>omega,h.len,h.room,h.now,h.bG,h.gQ,h.many⟩
theorem Dk.Ok.die (h:δ.Ok): δ.die.Ok:=⟨h.cT,h.len,h.room,h.now,h.bG,h.gQ,h.many⟩
theorem Dk.Ok.jz (h:δ.Ok): δ.jz.2.Ok:=by
 unfold Dk.jz;split
 .exact h
 .split
  .exact h.die
  .exact⟨h.gq.cT,h.len,h.room,h.now,h.bG,aH _,h.many⟩
theorem oo {n:Int}{x:α}: ∀ {l:List (Int×α)},lookL n l=some x->(n,x)∈l:=by
 intro l;induction l<;>grind[lookL]
theorem Dk.Ok.at (I:δ.Ok)(n:Int): (δ.at n).length=512:=by
 unfold Dk.at;cases h1:lookL n δ.now with
 |some b=>exact I.now _ (oo h1)
 |none =>
  cases h2:δ.bG[n.toNat]? with
  |none=>grind
  |some o =>
   cases o with
   |none=>grind
   |some b=>exact I.bG _ _ h2
section
variable {told:cu} {h:H} {p:Nat} {v:V}
theorem Zg (I:W told){n:Int}(s:Sat h (bX p δ::X::S))(hX:cy X (cE x b))(hb:b.length<1073741824)(hf:δ.cT<4294967296)(hw:δ.waiting.length<=268435456):
  Call ⟨Tryz.prog,told⟩ 183 [.ptr p 0,.int .i64 n,x] h λv h'=>v=.int .i64 (δ.eP n b).1/\Sat h' (bX p (δ.eP n b).2::X::S):=by
 refine(Sg I s hX hb hf hw).mono λv h' hr => ?_;grind[Dk.eP]
theorem Sy (hT:W told){n:Int}(s:Sat h (bX p δ::S))(I:δ.Ok): Call ⟨Tryz.prog,told⟩ 148 [.ptr p 0,.int .i64 n] h λv h' =>
  (δ.ud n≠0/\v=.aV [.aZ,.int .i64 (δ.ud n)]/\Sat h' (bX p δ::S))\/(δ.ud n=0/\∃u,v=.aV [u,.int .i64 0]/\Sat h' (aY u (δ.at n)::bX p δ::S)):=by
 refine(Ve hT s (I.at n)).mono λv h' hr => ?_;grind[Dk.ud]
end
abbrev LD := Lg×Dk
def cV (x:LD)(n:Nat): Int×LD:=if n<x.1.base+x.1.forced then(0,x) else if x.2.jz.1≠0 then(x.2.jz.1,(x.1,x.2.jz.2)) else(0,({ x.1 with forced:=x.1.b.length },x.2.jz.2))
def iR (μ:Lg)(kd:Int)(tx pv nx:Nat)(data:List Nat)(dD:List fU): List Nat:=uP (μ.base+μ.b.length) (gY kd tx pv nx data dD)
def b6 (x:LD)(kd:Int)(tx pv nx:Nat)(data:List Nat)(dD:List fU): (Nat×Int)×LD :=
 if iQ kd dD=false then((0,1),x) else if 1048576<(gY kd tx pv nx data dD).length then((0,2),x) else
 if (x.2.tO (iR x.1 kd tx pv nx data dD)).1≠0 then((0,(x.2.tO (iR x.1 kd tx pv nx data dD)).1),(x.1,(x.2.tO (iR x.1 kd tx pv nx data dD)).2)) else
 ((x.1.base+x.1.b.length,0),(x.1.app (iR x.1 kd tx pv nx data dD),(x.2.tO (iR x.1 kd tx pv nx data dD)).2))
theorem MN : δ.jz.2.waiting=δ.waiting:=by
 unfold Dk.jz;split
 .rfl
 .split<;>rfl
theorem Cd {x:LD}: (cV x n).2.2.waiting=x.2.waiting:=by
 grind[cV,MN]
theorem Dk.Ok.eP {n:Int}(h:δ.Ok): (δ.eP n b).2.Ok:=by
 unfold Dk.eP;split
 .exact h
 .split
  .exact h
  .split
   .exact⟨h.cT,h.len,h.room,h.now,h.bG,h.gQ,h.many⟩
   .refine⟨h.gq.cT,h.len,h.room,λe he => ?_,h.bG,h.gQ,h.many⟩;have:∀l:List (Int×List Nat),(∀e∈l,e.2.length=512)->∀e∈cD n b l,e.2.length=512:=by
     intro l;induction l<;>grind[cD]
    exact this δ.now h.now e he
theorem vu {x:LD}(h:x.2.Ok): (cV x n).2.2.Ok:=by
 unfold cV;split
 .exact h
 .split
  .exact h.jz
  .exact h.jz
theorem Lg.Ok.Zh (h:μ.Ok): ({ μ with forced:=μ.b.length }:Lg).Ok:=⟨h.size,h.many,h.low,h.HU,aH _,h.len,h.check⟩
theorem MO {x:LD}(h:x.1.Ok): (cV x n).2.1.Ok:=by
 unfold cV;split
 .exact h
 .split
  .exact h
  .exact h.Zh
section
variable {told:cu} {h:H} {p:Nat} {v:V}
theorem Zi (hT:W told)(s:Sat h (dF q p μ::bX p δ::S))(I:μ.Ok)(hf:δ.cT<4294967296): Call ⟨Tryz.prog,told⟩ 103 [.ptr q 0,.int .u64 (n:Int)] h λv h' =>
  v=.int .i64 (cV (μ,δ) n).1/\Sat h' (dF q p (cV (μ,δ) n).2.1::bX p (cV (μ,δ) n).2.2::S):=by
 refine(Sr hT s I hf).mono λv h' hr => ?_;grind[cV,Dk.jz]
theorem Vn (hT:W told){ch:V}(s:Sat h (dF q p μ::bX p δ::X::.arr 4 ch cs::fP cs dD::S))(hX:cy X (cE dt data))(dL:F_ tx pv nx data dD)(vr:μ.Ok)(I:δ.Ok):
  Call ⟨Tryz.prog,told⟩ 59 [.ptr q 0,.agg (qq kd tx pv nx dt ch)] h λr h' =>
  r=.aV [.int .u64 ((b6 (μ,δ) kd tx pv nx data dD).1.1:Nat),.int .i64 (b6 (μ,δ) kd tx pv nx data dD).1.2] /\
  Sat h' (dF q p (b6 (μ,δ) kd tx pv nx data dD).2.1::bX p (b6 (μ,δ) kd tx pv nx data dD).2.2::X::.arr 4 ch cs::fP cs dD::S):=by
 refine(PY hT s hX dL vr I.cT I.len I.room).mono λv h' hr => ?_;grind[b6,Dk.tO,iR]
end
structure Fm where
 bQ:Int
 b:List Nat
 pins:Int
 gS:Bool
 changed:Bool
structure Pl where
 aj:List Fm
 bW:List (Int×Int)
 eu:List (Int×(Nat×Bool))
 hand:Nat
variable {π cA:Pl}
def iD (f:Fm)(v:V): List V:=[.int .i64 f.bQ,v,.int .i64 f.pins,.bool f.gS,.bool f.changed]
def wF : List V->List Fm->aG
 |[],[]=>.pu True
 |a::v::c::d::e::l,x::m=>.an (.an (.pu (a=.int .i64 x.bQ/\c=.int .i64 x.pins/\d=.bool x.gS/\e=.bool x.changed)) (.cG v x.b)) (wF l m)
 |_,_=>.pu False
theorem bf.fm : ∀(m:List Fm) (l:List V),bf (wF l m):=by
 intro m;induction m with
 |nil=>intro l;rcases l with _|⟨a,_|⟨b,_|⟨c,_|⟨d,_|⟨e,l⟩⟩⟩⟩⟩<;>exact bf.pu _
 |cons x m I=>intro l;rcases l with _|⟨a,_|⟨b,_|⟨c,_|⟨d,_|⟨e,l⟩⟩⟩⟩⟩<;>first|exact bf.pu _|exact bf.an (bf.an (bf.pu _) (bf.cG _ _)) (I l)
theorem Ce {a b:PM}: ∀ {m:List Fm} {l:List V} {i:Nat} {f:Fm},(wF l m).p a b->m[i]?=some f->∃pre v post,l=pre++(iD f v++post)/\pre.length=i*5/\(aG.cG v f.b).p a b /\
  (∀(f':Fm) (v':V) (I b':PM),(aG.cG v' f'.b).p I b'->PM.le a I->PM.le b b'->(wF (pre++(iD f' v'++post)) (m.set i f')).p I b'):=by
 intro m;induction m with
 |nil=>intro l i f h hc;simp at hc
 |cons x m ih =>
  intro l i f h hc;rcases l with _|⟨p,_|⟨q,_|⟨w,_|⟨d,_|⟨e,l⟩⟩⟩⟩⟩<;>first|exact h.elim|skip
  obtain⟨⟨⟨h1,h2,h3,h4⟩,h5⟩,h6⟩:=h;cases i with
  |zero =>
   simp at hc;subst hc;refine⟨[],q,l,?_,U,h5,λf' v' I b' hv ha hb=>⟨⟨⟨U,U,U,U⟩,hv⟩,(wF l m).mono _ _ _ _ ha hb h6⟩⟩;rw[h1,h2,h3,h4];rfl
  |succ i =>
   simp at hc;obtain⟨pre,v,post,e1,e2,e3,e4⟩:=ih h6 hc;refine⟨p::q::w::d::e::pre,v,post,?_,?_,e3,λf' v' I b' hv ha hb=>⟨⟨⟨h1,h2,h3,h4⟩,aG.mono _ _ _ _ _ ha hb h5⟩,e4 f' v' I b' hv ha hb⟩⟩
   .rw[e1];rfl
   .simp only[aX,e2];omega
theorem Zj {a b:PM}: ∀ {m:List Fm} {l:List V},(wF l m).p a b->l.length=m.length*5:=by
 intro m;induction m with
 |nil=>intro l h;rcases l with _|⟨a,_|⟨b,_|⟨c,_|⟨d,_|⟨e,l⟩⟩⟩⟩⟩<;>first|rfl|exact h.elim
 |cons x m I =>
  intro l h;rcases l with _|⟨a,_|⟨b,_|⟨c,_|⟨d,_|⟨e,l⟩⟩⟩⟩⟩<;>first|exact h.elim|skip
  have:=I h.2;simp only[aX];omega
def gm (dX:Nat)(m:List Fm): aG:=xs λcs:List V=>star [pt dX (.cells (m.length*5) cs false),wF cs m]
abbrev KW (v:V)(m:List (Int×Int)): aG:=pN (λv x=>.pu (v=.int .i64 x)) v m
abbrev N5 (v:V)(m:List (Int×(Nat×Bool))): aG:=pN (λv x=>.pu (v=.agg [.int .u64 (x.1:Int),.bool x.2])) v m
def sP (p q dX n:Nat)(wh di:V)(hand:Nat): List V:=[.ptr p 0,.ptr q 0,.sl dX 0 n (.exact n),wh,di,.int .i64 (hand:Int)]
def gE (r p q:Nat)(π:Pl): aG:=xs λdX:Nat=>xs λwh:V=>xs λdi:V =>
 star [pt r (.cells 6 (sP p q dX π.aj.length wh di π.hand) false),gm dX π.aj,KW wh π.bW,N5 di π.eu]
section
variable {h:H} {p:Nat} {v:V} {m:List Fm}
theorem gT : Sat h (gE r p q π::S)↔∃dX wh di,Sat h (pt r (.cells 6 (sP p q dX π.aj.length wh di π.hand) false)::gm dX π.aj::KW wh π.bW::N5 di π.eu::S):=by
 simp only[gE,j8,dx,fK,dJ]
theorem lV : Sat h (gm dX m::S)↔∃cs,Sat h (pt dX (.cells (m.length*5) cs false)::wF cs m::S):=by
 simp only[gm,j8,dx,fK,dJ]
theorem kG {f:Fm}(s:Sat h (gm dX m::S))(hf:m[i]?=some f): ∃pre v post,pre.length=i*5/\(pre++(iD f v++post)).length=m.length*5 /\
  Sat h (pt dX (.cells (m.length*5) (pre++(iD f v++post)) false)::wF (pre++(iD f v++post)) m::.cG v f.b::S):=by
 obtain⟨cs,s⟩:=lV.1 s;obtain⟨a,b,q1,q2,q3⟩:=s.at (k:=1) U;obtain⟨pre,v,post,e1,e2,e3,_⟩:=Ce q3 hf;have hl:=Zj q3;subst e1;refine⟨pre,v,post,e2,hl,?_⟩;have s1:Sat h (wF (pre++(iD f v++post)) m::pt dX (.cells (m.length*5) (pre++(iD f v++post)) false)::S):=s.ae [1];have s2:=(s1.dup (bf.fm _ _)).eD (B:=.cG v f.b) λa' b' h'=>by
  obtain⟨adY,v',I,wG,sO,e3',_⟩:=Ce h' hf;have:=Hl wG (by omega);obtain⟨_,h5⟩:=this;have h6:=dg (λl=>l[1]?) h5;simp[iD] at h6;subst h6;exact e3'
 exact s2.ae [2,1,0]
theorem iI {f f':Fm}{pre:List V}(s:Sat h (pt dX (.cells n (pre++(iD f' v'++post)) false)::wF (pre++(iD f v++post)) m::.cG v' f'.b::S))(hn:n=m.length*5)(hf:m[i]?=some f)(hp:pre.length=i*5): Sat h (gm dX (m.set i f')::S):=by
 subst hn;have s1:Sat h (wF (pre++(iD f v++post)) m::.cG v' f'.b::pt dX (.cells (m.length*5) (pre++(iD f' v'++post)) false)::S):=s.ae [1,1,0];have s2:=s1.two (C:=wF (pre++(iD f' v'++post)) (m.set i f')) (bf.fm _ _) (bf.cG _ _) λa b h1 h2=>by
  obtain⟨adY,v0,I,wG,sO,e3',e4'⟩:=Ce h1 hf;obtain⟨h3,h4⟩:=Hl wG (by omega);subst h3;have h5:post=I:=by
   have:=Hl h4 (by simp[iD]);exact this.2
  subst h5;exact e4' f' v' a b h2 (PM.le_refl _) (PM.le_refl _)
 refine lV.2 ⟨pre++(iD f' v'++post),?_⟩;rw[cL];exact s2.ae [1]
theorem jV {pre row:List V}(hp:pre.length=a)(I:nth row j=some x): nth (pre++(row++post)) (a+j)=some x:=by
 rw[gB] at I ⊢;have IN:=(List.getElem?_eq_some_iff.1 I).1;rw[iz (by omega),show a+j-pre.length=j by omega,rA IN,I]
theorem Zk {pre row:List V}(hp:pre.length=a)(I:j<row.length): (pre++(row++post)).set (a+j) x=pre++(row.set j x++post):=by
 rw[G2 _ _ (by omega),show a+j-pre.length=j by omega,List.set_append_left _ _ I]
theorem Sat.stM {pre row:List V}(s:Sat h S)(hk:getA S k=some (pt id (.cells n (pre++(row++post)) false)))(hs:bq P t=some 1)(hp:pre.length=a)(hl:(pre++(row++post)).length=n)(hj:j<row.length)(hv:x.cells=[x])(I:storable x=true):
  ∃h₁,j7 P h t (.ptr id (a+j)) x=some h₁/\Sat h₁ (setA S k (pt id (.cells n (pre++(row.set j x++post)) false))):=by
 have:=s.kz (P:=P) (t:=t) (off:=a+j) (v:=x) hk hs hl (by rw[<-hl];simp;omega) hv I
 rwa [Zk hp hj] at this
theorem Sat.XL {pre row row':List V}(s:Sat h S)(hk:getA S k=some (pt id (.cells n (pre++(row++post)) false)))(hs:bq P t=some row'.length)(hp:pre.length=a)(hl:(pre++(row++post)).length=n)(hr:row'.length=row.length)(I:row'.all storable=true):
  ∃h₁,j7 P h t (.ptr id a) (.agg row')=some h₁/\Sat h₁ (setA S k (pt id (.cells n (pre++(row'++post)) false))):=by
 have:=s.stN (P:=P) (t:=t) (off:=a) (l:=row') hk hs hl (by rw[<-hl];simp;omega) I;have e:(pre++(row++post)).take a++(row'++(pre++(row++post)).drop (a+row'.length))=pre++(row'++post):=by
  rw[ga hp,vE,p_ (by omega),dJ,show a+row'.length-pre.length=row.length by omega,vH U]
 rwa [e] at this
theorem ldF {pre row:List V}(s:Sat h S)(I:getA S k=some (pt id (.cells n (pre++(row++post)) false)))(ht:isAggT P t=some true)(hs:bq P t=some row.length)(hp:pre.length=a)(hl:(pre++(row++post)).length=n): loadV P h t (.ptr id a)=some (.agg row):=by
 rw[ldN ht hs (s.row I) hl (by rw[<-hl];simp;omega),vH hp,ga U]
end
abbrev bk := Pl×LD
variable {ε ah:bk}
def vT (π:Pl)(n:Int): Nat:=match lookL n π.eu with
 |some x=>x.1
 |none=>0
def outF (ε:bk)(i:Nat): Int×bk:=match ε.1.aj[i]? with
 |none=>(0,ε)
 |some f=>if f.bQ<0\/f.changed=false then(0,ε) else if cJ f.b=false then(4,ε) else
  if (cV ε.2 (dR f.b 4 8)).1≠0 then((cV ε.2 (dR f.b 4 8)).1,(ε.1,(cV ε.2 (dR f.b 4 8)).2)) else
  if ((cV ε.2 (dR f.b 4 8)).2.2.eP f.bQ f.b).1≠0 then(((cV ε.2 (dR f.b 4 8)).2.2.eP f.bQ f.b).1,(ε.1,((cV ε.2 (dR f.b 4 8)).2.1,((cV ε.2 (dR f.b 4 8)).2.2.eP f.bQ f.b).2))) else
  (0,({ ε.1 with aj:=ε.1.aj.set i { f with changed:=false },eu:=cD f.bQ (vT ε.1 f.bQ,false) ε.1.eu },((cV ε.2 (dR f.b 4 8)).2.1,((cV ε.2 (dR f.b 4 8)).2.2.eP f.bQ f.b).2)))
section
variable {told:cu} {h:H} {p:Nat} {v:V}
theorem abl (hT:W told){f:Fm}(s:Sat h (pt r (.cells 6 (sP p q dX π.aj.length wh di π.hand) false)::gm dX π.aj::KW wh π.bW::N5 di π.eu::dF q p μ::bX p δ::S))(hi:π.aj[i]?=some f)(vr:μ.Ok)(Vo:δ.Ok)(l_:f.b.length<1073741824)(hw:δ.waiting.length<=268435456):
  Call ⟨Tryz.prog,told⟩ 147 [.ptr r 0,.ptr dX (i*5)] h λv h'=>v=.int .i64 (outF (π,μ,δ) i).1 /\
   Sat h' (pt r (.cells 6 (sP p q dX (outF (π,μ,δ) i).2.1.aj.length wh di (outF (π,μ,δ) i).2.1.hand) false)::gm dX (outF (π,μ,δ) i).2.1.aj::KW wh (outF (π,μ,δ) i).2.1.bW::N5 di (outF (π,μ,δ) i).2.1.eu::dF q p (outF (π,μ,δ) i).2.2.1::bX p (outF (π,μ,δ) i).2.2.2::S):=by
 have s00:=s
 obtain⟨pre,fv,post,I,hlen,s⟩:=kG (s.ae [1]) hi
 have Xq:=(s.aD (k:=2) U (bC _ _))
 refine Call.of_wp (hT.free _ U) Tryz.func147 U U (zK 9 U (zf U (rV _ _) (zl U (s.ld (k:=0) U bT (jV I U)) ?_)))
 refine zd U (aq U U aK) ?_ ?_
 .intro hq
  have hq:f.bQ<0:=by simpa using hq
  have he:outF (π,μ,δ) i=(0,(π,μ,δ)):=by simp only[outF,hi];rw[ay (.inl hq)]
  rw[he]
  exact zk 13 U (WP.ret ⟨aa,_,U,U,s00⟩)
 .intro hq
  have hq:¬ f.bQ<0:=by simpa using hq
  refine zk 3 U (zf U (HN _ _) (zl U (s.ld (k:=0) U sF (jV I U)) ?_))
  have R4:f.changed=false\/f.changed=true:=by cases f.changed<;>simp
  rcases R4 with hc|hc
  .have he:outF (π,μ,δ) i=(0,(π,μ,δ)):=by simp only[outF,hi];rw[ay (.inr hc)]
   rw[he]
   refine zt U (eo U U) (by rw[hc];rfl) ?_
   exact zk 7 U (WP.ret ⟨aa,_,U,U,s00⟩)
  .have he:outF (π,μ,δ) i=(if cJ f.b=false then(4,(π,μ,δ)) else
    if (cV (μ,δ) (dR f.b 4 8)).1≠0 then((cV (μ,δ) (dR f.b 4 8)).1,(π,(cV (μ,δ) (dR f.b 4 8)).2)) else
    if ((cV (μ,δ) (dR f.b 4 8)).2.2.eP f.bQ f.b).1≠0 then(((cV (μ,δ) (dR f.b 4 8)).2.2.eP f.bQ f.b).1,(π,((cV (μ,δ) (dR f.b 4 8)).2.1,((cV (μ,δ) (dR f.b 4 8)).2.2.eP f.bQ f.b).2))) else
    (0,({ π with aj:=π.aj.set i { f with changed:=false },eu:=cD f.bQ (vT π f.bQ,false) π.eu },((cV (μ,δ) (dR f.b 4 8)).2.1,((cV (μ,δ) (dR f.b 4 8)).2.2.eP f.bQ f.b).2)))):=by
    simp only[outF,hi];rw[ai (by rw[hc];simp;omega)]
   rw[he]
   refine zh U (eo U U) (by rw[hc];rfl) ?_
   refine zk 8 U (zf U (Dy _ _) (zl U (s.ld (k:=0) U b8 (jV I U)) (zc U (HT hT (s.ae [2]) (bC _ _) (by omega)) ?_)))
   rintro w h ⟨s,(⟨hg,rfl⟩|⟨hg,rfl⟩)⟩
   .dsimp only[bringA,getA,aL] at s
    rw[ai (by rw[hg];decide)]
    have Vp:(cV (μ,δ) (dR f.b 4 8)).2.2.Ok:=vu Vo
    have hxw:(cV (μ,δ) (dR f.b 4 8)).2.2.waiting.length<=268435456:=by rw[Cd];exact hw
    have FD:=Zi (n:=dR f.b 4 8) hT (s.ae [6,6]) vr Vo.cT
    generalize cV (μ,δ) (dR f.b 4 8)=x at FD Vp hxw ⊢
    obtain⟨xe,xl,xd⟩:=x
    dsimp only at FD Vp hxw ⊢
    refine zk 16 U (zC U aE (U) (zk 8 U (zY s 3 Y0 U0 U (zm U (zc U (FD) ?_)))))
    rintro w h ⟨rfl,s⟩
    refine zk 5 U ?_
    by_cases hx:xe=0
    .subst hx
     rw[ai (by decide)]
     refine zC U aE (U) ?_
     have FP:=λ(s:Sat h (bX p xd::.cG fv f.b::dF q p xl::pt dX (.cells (π.aj.length*5) (pre++(iD f fv++post)) false)::wF (pre++(iD f fv++post)) π.aj::pt r (.cells 6 (sP p q dX π.aj.length wh di π.hand) false)::KW wh π.bW::N5 di π.eu::S))=>Zg (n:=f.bQ) hT s (bC fv f.b) l_ Vp.cT hxw
     generalize xd.eP f.bQ f.b=y at FP ⊢
     obtain⟨ye,yd⟩:=y
     dsimp only at FP ⊢
     have s:=s.ae [1,1,0]
     refine zk 5 U (WP.drawn [af,af,af,af,af,af,af,af,af,af,af,af,af,af] U (by kernel_rfl) (by kernel_rfl) ?_)
     refine zM U (zN U (zF U (Dx _ _) (zL U (s.ld (k:=5) U xX U) (zM U (zN U (zF U (rV _ _) (zL U (s.ld (k:=3) U bT (jV I U)) (zM U (zN U (zF U (Dy _ _) (zL U (s.ld (k:=3) U b8 (jV I U)) (aB.any U U U U (OpR.call U U U U (FP s)) ?_))))))))))))
     rintro w h ⟨rfl,s⟩
     refine zA U ?_
     refine aB.nil ⟨⟨aa,aa,aa,aa,aa,aa,aa,aa,aa,aa,aa,aa,aa,aa,aa⟩,?_⟩
     refine zK 3 U ?_
     by_cases hy:ye=0
     .subst hy
      rw[ai (by decide)]
      refine zC U aE (U) (zk 7 U (zf U (HN _ _) (zS U (s.stM (k:=3) (j:=4) U BX I hlen (by simp[iD]) U U) ?_)))
      intro h s
      have e5:(iD f fv).set 4 (.bool false)=iD { f with changed:=false } fv:=rfl
      rw[e5] at s
      have s:=s.ae [7,3,4]
      refine zk 2 U (WP.drawn [af,af,af,af,af,af,af,af,af,af,af,af,af,af,af,af,af,af,af,af] U (by kernel_rfl) (by kernel_rfl) ?_)
      refine zM U (zN U (zF U (vS _ _) (zL U (s.ld (k:=2) U Dw U) (zM U (zN U (zF U (rV _ _) (zL U (s.ld (k:=1) U bT (jV I U)) (zM U (zN U (zF U (vS _ _) (zL U (s.ld (k:=2) U Dw U) (zM U (zN U (zF U (rV _ _) (zL U (s.ld (k:=1) U bT (jV I U)) ?_)))))))))))))))
      have PZ:∃b,gA Tryz.prog h 213 di (.int .i64 f.bQ) false=some (.agg [.int .u64 (vT π f.bQ:Nat),.bool b]):=by
       rcases om (f:=λv (x:Nat×Bool)=>.pu (v=.agg [.int .u64 (x.1:Int),.bool x.2])) (n:=f.bQ) (λ_ _=>bf.pu _) s FZ b9 DB with⟨g1,_,g3⟩|⟨u,x,g1,_,g3,s'⟩
       .exact⟨false,by rw[g3];simp only[vT,g1];rfl⟩
       .obtain⟨rfl,_⟩:=ur.1 s'
        exact⟨x.2,by rw[g3];simp only[vT,g1]⟩
      obtain⟨lb,PZ⟩:=PZ
      refine zO U (kL U U PZ) (zO U (acu U (acw (Y1 _) U)) (zO U (cI U (by rw[acM];rfl)) ?_))
      refine aB.lP U U U (OpR.mapUpdate U U U U (oB (f:=λv (x:Nat×Bool)=>.pu (v=.agg [.int .u64 (x.1:Int),.bool x.2])) (x:=(vT π f.bQ,false)) (λ_ _=>bf.pu _) (s.ir U) FZ b9)) ?_
      intro w h s
      refine aB.nil ⟨⟨aa,aa,aa,aa,aa,aa,aa,aa,aa,aa,aa,aa,aa,aa,aa,aa,aa,aa,aa,aa,aa⟩,?_⟩
      refine zK 4 U (WP.ret ⟨aa,_,U,?_⟩)
      refine⟨U,?_⟩
      have s:=iI (i:=i) (f':={ f with changed:=false }) (s.ae [1,5,3]) U hi I
      have e6:(π.aj.set i { f with changed:=false }).length=π.aj.length:=cL
      rw[e6]
      exact s.ae [2,0,3,0,1,0]
     .rw[ay hy]
      refine zB U aE (by simp;exact hy) ?_
      refine zk 7 U (WP.ret ⟨aa,_,U,?_⟩)
      refine⟨U,?_⟩
      have s:=lV.2 ⟨_,s.ae [3,3]⟩
      exact(s.del 2).ae [3,0,2,2,1,0]
    .rw[ay hx]
     refine zB U aE (by simp;exact hx) ?_
     refine zk 7 U (WP.ret ⟨aa,_,U,?_⟩)
     refine⟨U,?_⟩
     have s:=lV.2 ⟨_,s.ae [3,3]⟩
     exact(s.del 3).ae [3,0,2,2,0,0]
   .dsimp only[bringA,getA,aL] at s
    rw[ay hg]
    refine zk 16 U (zB U aE (U) (zk 7 U (WP.ret ⟨aa,_,U,?_⟩)))
    refine⟨U,?_⟩
    have s:=lV.2 ⟨_,s.ae [1,1]⟩
    exact(s.del 1).ae [1,0]
end
structure ie (π cA:Pl): Prop where
 bW:cA.bW=π.bW
 eu:cA.eu=π.eu
 len:cA.aj.length=π.aj.length
 get:∀(i:Nat) (f:Fm),π.aj[i]?=some f->∃t,cA.aj[i]?=some { f with gS:=t }
theorem ie.refl (π:Pl): ie π π:=⟨U,U,U,λ_ f h=>⟨f.gS,h⟩⟩
theorem ie.trans {I:Pl}(a:ie π cA)(b:ie cA I): ie π I:=by
 refine⟨b.bW.trans a.bW,b.eu.trans a.eu,b.len.trans a.len,λi f h => ?_⟩;obtain⟨t,ht⟩:=a.get i f h;obtain⟨t',ht'⟩:=b.get i _ ht;exact⟨t',ht'⟩
theorem ie.hand : ie π { π with hand:=n }:=⟨U,U,U,λ_ f h=>⟨f.gS,h⟩⟩
theorem ie.Zl {f:Fm}(hi:π.aj[i]?=some f): ie π { π with aj:=π.aj.set i { f with gS:=false } }:=by
 refine⟨U,U,cL,λj g I => ?_⟩;by_cases h:i=j
 .subst h;rw[hi] at I;have:=bB I;subst this;have hl:=(List.getElem?_eq_some_iff.1 hi).1;exact⟨false,by simp[vC,hl]⟩
 .exact⟨g.gS,by simp only[vC,ai h];exact I⟩
theorem Az {h:H}{x:Operand}{b:Nat}(I:0<b): binV P h .rem t x y (.int .i64 (a:Int)) (.int .i64 (b:Int))=some (.int .i64 ((a%b:Nat):Int)):=by
 simp only[binV,ikBeq,ag,intV];have:intBeq (b:Int) 0=false:=by rw[sK];simp;omega
 rw[this,aS,Int.tmod_eq_emod_of_nonneg (by omega)];rfl
section
variable {told:cu} {h:H} {p:Nat} {v:V} {m:List Fm}
theorem pS (hi:i<n): indexAddrV Tryz.prog 211 (.sl dX 0 n (.exact n)) (.int .i64 (i:Int))=some (.ptr dX (i*5)):=by
 rw[acI,show(decide ((0:Int)<=(i:Int))&&decide ((i:Int)<(n:Int)))=true by simp;omega,ag];simp
theorem MP (I:W told){f:Fm}(s:Sat h S)(hv:storable v=true): Call ⟨Tryz.prog,told⟩ 198 [.agg (iD f v)] h λw h'=>w=.bool (decide (f.pins=0))/\Sat h' S:=by
 refine Call.of_wp (I.free _ U) Tryz.func198 U U (zg U (au.cg s U U U (fG U (by simp only[V.cells,iD,mG,nE,hv];rfl)) ?_));intro p1 h s;dsimp only[V.cells,iD] at s;exact zk 4 U (zY s 0 tJ bT U (zb U cS (zk 2 U (WP.ret ⟨aa,_,U,U,s.drop⟩))))
theorem Vq (hT:W told){f:Fm}(s:Sat h (gm dX m::S))(h0:m[0]?=some f)(hp:f.pins=0): Call ⟨Tryz.prog,told⟩ 223 [.sl dX 0 m.length (.exact m.length),.fn (.func 198) [] []] h λw h'=>w=.int .i64 0/\Sat h' (gm dX m::S):=by
 have hl:=(List.getElem?_eq_some_iff.1 h0).1;obtain⟨pre,fv,post,I,hlen,s⟩:=kG s h0;have eO:=(s.aD (k:=2) U (bC _ _)).cells.2;refine Call.of_wp (hT.free _ U) Tryz.func223 U U (zK 8 U (zo U (aC U U U (tK U B5)) (zk 2 U (WP.block (WP.loop (zg U (zB U aK (by simp;omega) ?_)))))));refine zk 5 U (WP.block (zK 10 U (zo U (bM U U (pS (i:=0) hl)) (zl U (ldF s (k:=0) U acK FN I hlen) (zc U (MP hT s eO) ?_)))));rintro w h ⟨rfl,s⟩;rw[dZ hp];exact zk 7 U (WP.ret ⟨aa,_,U,U,(lV.2 ⟨_,s⟩).del 1⟩)
theorem MQ (I:W told){f:Fm}(s:Sat h (gm dX m::S))(h0:m[0]?=some f)(hp:f.pins=0): Call ⟨Tryz.prog,told⟩ 197 [.sl dX 0 m.length (.exact m.length),.fn (.func 198) [] []] h λw h'=>w=.bool true/\Sat h' (gm dX m::S):=by
 refine Call.of_wp (I.free _ U) Tryz.func197 U U (zK 8 U (zc U (Vq I s h0 hp) ?_));rintro w h ⟨rfl,s⟩;refine zB U j5 (by decide) ?_;exact zk 2 U (WP.ret ⟨aa,_,U,U,s⟩)
noncomputable def fdA : Code:=cX [1,0,0,1,0,0] ((Tryz.f146.body).getD .skip)
noncomputable def fdB : Code:=cX [1,0,1,1,1,0,0] ((Tryz.f146.body).getD .skip)
theorem MR {hand:Nat}: ∀(j i:Nat) (h:H) (E:List (Nat×V)) (Q:Ex->List (Nat×V)->H->Prop),i+j=m.length->m.length<4294967296 ->
  Sat h (pt r (.cells 6 (sP p q dX m.length wh di hand) false)::gm dX m::S)->Has E [(0,.ptr r 0),(10,.int .i64 m.length),(11,.int .i64 i)] ->
  (∀E' (i:Nat) (f:Fm),m[i]?=some f->f.bQ<0->look E' 2=some (.int .i64 (i:Int))->Q .ret E' h) ->
  (∀E',Has E' [(0,.ptr r 0)]->Q (.exit 0) E' h)->WP ⟨Tryz.prog,told⟩ 70 (.loop fdA) E h Q:=by
 intro j;induction j with
 |zero =>
  intro i h E Q hi hm s hE hr hx;refine WP.loop (WP.has hE (zg U (zC U aK (by simp;omega) ?_)));exact zk 3 U (WP.exit (hx _ ⟨U,aa⟩))
 |succ j ih =>
  intro i h E Q hi hm s hE hr hx;have hc:m[i]?=some (m[i]'(by omega)):=aF _;generalize (m[i]'(by omega))=f at hc;obtain⟨pre,fv,post,I,hlen,s'⟩:=kG (s.ae [1]) hc;refine WP.loop (WP.has hE (zg U (zB U aK (by simp;omega) ?_)));refine zk 5 U (WP.block (zK 9 U (zY s 0 nR sI U (zm U (zo U (bM U U (pS (i:=i) (by omega))) ?_)))));refine zf U (rV _ _) (zl U (s'.ld (k:=0) U bT (jV I U)) ?_);refine zd U (aq U U aK) ?_ ?_
  .intro hq;have hq:f.bQ<0:=by simpa using hq
   exact zk 7 U (WP.ret (hr _ i f hc hq U))
  .intro hq;refine zv (zj U (WP.skip (zr U (zb U (by exact aM ak) ?_))));refine zm U (zv ?_);exact ih (i+1) h _ Q (by omega) hm s ⟨U,U,U,aa⟩ hr hx
def tP (m:List Fm): Nat:=(m.filter λf=>f.gS).length
theorem D6 {f:Fm}: ∀ {m:List Fm} {i:Nat},m[i]?=some f->f.gS=true->tP (m.set i { f with gS:=false })+1=tP m:=by
 intro m;induction m with
 |nil=>intro i h;simp at h
 |cons g m ih =>
  intro i h I;cases i with
  |zero=>simp at h;subst h;simp[tP,I]
  |succ i =>
   rw[oI] at h;have:=ih h I;simp only[tP,List.set_cons_succ,List.filter_cons] at this ⊢;split<;>(try simp only[aX])<;>omega
theorem Gb {f:Fm}(hf:π.aj[π.hand]?=some f)(hm:π.aj.length<4294967296)(hp:f.pins=0)
 (s:Sat h (pt r (.cells 6 (sP p q dX π.aj.length wh di π.hand) false)::gm dX π.aj::S))(hE:Has E [(0,.ptr r 0)])
 (hr:f.gS=false->∀E' h',look E' 2=some (.int .i64 (π.hand:Int))->Sat h' (pt r (.cells 6 (sP p q dX π.aj.length wh di ((π.hand+1)%π.aj.length)) false)::gm dX π.aj::S)->Q .ret E' h')
 (hx:f.gS=true->∀E' h',Has E' [(0,.ptr r 0)]->Sat h' (pt r (.cells 6 (sP p q dX (π.aj.set π.hand { f with gS:=false }).length wh di ((π.hand+1)%π.aj.length)) false)::gm dX (π.aj.set π.hand { f with gS:=false })::S)->WP ⟨Tryz.prog,told⟩ 70 (.loop fdB) E' h' Q):
  WP ⟨Tryz.prog,told⟩ 70 (.loop fdB) E h Q:=by
 have hl:=(List.getElem?_eq_some_iff.1 hf).1
 refine WP.loop (WP.has hE (WP.block (zK 4 U (zY s 0 HL bT U (zk 6 U (zY s 0 nR sI U (zm U (zo U (bM U U (pS (i:=π.hand) hl)) (zk 3 U (WP.drawn [af,af,af,af,af,af,af,af,af,af,af,af,af,af,af] U (by kernel_rfl) (by kernel_rfl) ?_))))))))))
 refine zM U (zM U (zN U (zF U (HL _ _) (zL U (s.ld (k:=0) U bT U) (zO U (aq U U (by exact aM ak)) ?_)))))
 refine zM U (zN U (zF U (nR _ _) (zL U (s.ld (k:=0) U sI U) (zO U (aC U U U (tK U B5)) (zO U (aq U U (Az (a:=π.hand+1) (by omega))) ?_)))))
 refine zN U (zF U (HL _ _) (aB.lP U U U (OpR.yU U U U (s.kz (k:=0) U lI U (by decide) U U)) ?_))
 rintro v h ⟨rfl,s⟩
 have s:Sat h (pt r (.cells 6 (sP p q dX π.aj.length wh di ((π.hand+1)%π.aj.length)) false)::gm dX π.aj::S):=s
 refine aB.nil ⟨⟨aa,aa,aa,aa,aa,aa,aa,aa,aa,aa,aa,aa,aa,aa,aa,aa⟩,?_⟩
 obtain⟨pre,fv,post,I,hlen,s⟩:=kG (s.ae [1]) hf
 refine zw (WP.block (zK 4 U (zf U (tJ _ _) (zl U (s.ld (k:=0) U bT (jV I U)) (zC U cP (by rw[hp];decide) ?_)))))
 refine zk 7 U (zf U (HM _ _) (zl U (s.ld (k:=0) U sF (jV I U)) (zk 2 U ?_)))
 have IQ:f.gS=false\/f.gS=true:=by cases f.gS<;>simp
 rcases IQ with ht|ht
 .refine WP.Xv U (ht) ?_
  refine zK 5 U (WP.ret (hr ht _ _ U ?_))
  have s:=lV.2 ⟨_,s.ae [0,0]⟩
  exact(s.del 1).ae [1,0]
 .skip
  refine WP.Pu U (ht) (zK 3 U (zf U (HM _ _) (zS U (s.stM (k:=0) (j:=3) U BX I hlen (by simp[iD]) U U) ?_)))
  intro h s
  have e5:(iD f fv).set 3 (.bool false)=iD { f with gS:=false } fv:=rfl
  rw[e5] at s
  refine zv (WP.exit (hx ht _ _ ⟨U,aa⟩ ?_))
  have s:=iI (i:=π.hand) (f':={ f with gS:=false }) s U hf I
  rw[cL]
  exact s.ae [1,0]
theorem MS : ∀(fuel:Nat) (π:Pl) (h:H) (E:List (Nat×V)) (Q:Ex->List (Nat×V)->H->Prop),tP π.aj<=fuel->π.hand<π.aj.length->π.aj.length<4294967296->(∀f∈π.aj,f.pins=0) ->
  Sat h (pt r (.cells 6 (sP p q dX π.aj.length wh di π.hand) false)::gm dX π.aj::S)->Has E [(0,.ptr r 0)] ->
  (∀E' h' (i:Nat) (cA:Pl) (f:Fm),ie π cA->cA.aj[i]?=some f->cA.hand<cA.aj.length->look E' 2=some (.int .i64 (i:Int))->Sat h' (pt r (.cells 6 (sP p q dX cA.aj.length wh di cA.hand) false)::gm dX cA.aj::S)->Q .ret E' h') ->
  WP ⟨Tryz.prog,told⟩ 70 (.loop fdB) E h Q:=by
 intro fuel;induction fuel with
 |zero =>
  intro π h E Q ht hh hm hp s hE hr;have I:π.aj[π.hand]?=some (π.aj[π.hand]'hh):=aF _;generalize (π.aj[π.hand]'hh)=f at I;refine Gb I hm (hp f (aI I)) s hE (λh1 E' h' h2 s' => ?_) (λh1 => ?_)
  .exact hr E' h' π.hand { π with hand:=(π.hand+1)%π.aj.length } f ie.hand I (tF _ (by omega)) h2 s'
  .have:=D6 I h1;omega
 |succ fuel ih =>
  intro π h E Q ht hh hm hp s hE hr;have I:π.aj[π.hand]?=some (π.aj[π.hand]'hh):=aF _;generalize (π.aj[π.hand]'hh)=f at I;refine Gb I hm (hp f (aI I)) s hE (λh1 E' h' h2 s' => ?_) (λh1 E' h' dY s' => ?_)
  .exact hr E' h' π.hand { π with hand:=(π.hand+1)%π.aj.length } f ie.hand I (tF _ (by omega)) h2 s'
  .have uk:=D6 I h1;have hn:ie π { π with aj:=π.aj.set π.hand { f with gS:=false },hand:=(π.hand+1)%π.aj.length }:=(ie.Zl I).trans ie.hand;refine ih { π with aj:=π.aj.set π.hand { f with gS:=false },hand:=(π.hand+1)%π.aj.length } h' E' Q (by show tP (π.aj.set π.hand { f with gS:=false })<=fuel;omega) ?_ (by simp only[cL];exact hm) (λg hg => ?_) s' dY (λE2 h2 i cA g hn' hg hh2 hl s2=>hr E2 h2 i cA g (hn.trans hn') hg hh2 hl s2)
   .simp only[cL];exact tF _ (by omega)
   .rcases mD hg with hg|rfl
    .exact hp g hg
    .exact hp f (aI I)
theorem Vr (hT:W told)(s:Sat h (pt r (.cells 6 (sP p q dX π.aj.length wh di π.hand) false)::gm dX π.aj::S))(hh:π.hand<π.aj.length)(hm:π.aj.length<4294967296)(hp:∀f∈π.aj,f.pins=0):
  Call ⟨Tryz.prog,told⟩ 146 [.ptr r 0] h λv h'=>∃(i:Nat) (cA:Pl) (f:Fm),v=.int .i64 (i:Int)/\ie π cA/\cA.aj[i]?=some f/\cA.hand<cA.aj.length /\
   Sat h' (pt r (.cells 6 (sP p q dX cA.aj.length wh di cA.hand) false)::gm dX cA.aj::S):=by
 have h0:π.aj[0]?=some (π.aj[0]'(by omega)):=aF _;generalize (π.aj[0]'(by omega))=f0 at h0;have s0:=s;refine Call.of_wp (hT.free _ U) Tryz.func146 U U (zK 4 U (WP.scope (zK 5 U (zY s 0 nR sI U (zo U (aC U U U (tK U B5)) (zk 2 U (WP.block ?_)))))));refine MR π.aj.length 0 _ _ _ (by omega) hm s ⟨U,U,U,aa⟩ (λE' i f I _ h2 => ?_) (λE' dY => ?_)
 .exact⟨aa,_,xW h2,i,π,f,U,ie.refl π,I,hh,s⟩
 .skip;refine WP.has dY (zK 5 U (zY s 0 nR sI U (zc U (MQ hT (s.ae [1]) h0 (hp f0 (aI h0))) ?_)));rintro w h ⟨rfl,s⟩;refine zo U (eo U U) (zk 4 U (WP.label (WP.block ?_)));refine MS (tP π.aj) π _ _ _ (aH _) hh hm hp (s.ae [1,0]) ⟨U,aa⟩ (λE' h' i cA f hn I hh2 h2 s' => ?_);exact⟨aa,_,xW h2,i,cA,f,U,hn,I,hh2,s'⟩
end
structure Pl.Ok (π:Pl): Prop where
 hand:π.hand<π.aj.length
 many:π.aj.length<=1024
 bW:∀e∈π.bW,0<=e.2/\e.2<π.aj.length
 len:∀f∈π.aj,f.b.length<=512
 pins:∀f∈π.aj,0<=f.pins/\f.pins<=4294967296
theorem Pl.Ok.at (h:π.Ok){n i:Int}(hl:lookL n π.bW=some i): ∃(k:Nat) (f:Fm),i=k/\π.aj[k]?=some f:=by
 have I:=h.bW _ (oo hl);exact⟨i.toNat,π.aj[i.toNat]'(by omega),by omega,aF _⟩
def heldI (π:Pl)(n:Int): Option Nat:=match lookL n π.bW with
 |none=>none
 |some i=>match π.aj[i.toNat]? with
  |none=>none
  |some f=>if f.pins=0 then none else some i.toNat
def unpinF (π:Pl)(n:Int): Int×Pl:=match heldI π n with
 |none=>(18,π)
 |some i=>match π.aj[i]? with
  |none=>(18,π)
  |some f=>(0,{ π with aj:=π.aj.set i { f with pins:=f.pins-1 } })
def oH (π:Pl)(n:Int)(bj:Nat): Nat:=match lookL n π.eu with
 |some x=>x.1
 |none=>bj
def mY (π:Pl)(n:Int)(b:List Nat)(bj:Nat): Int×Pl:=match heldI π n with
 |none=>(18,π)
 |some i=>match π.aj[i]? with
  |none=>(18,π)
  |some f=>if cJ b=false then(4,π) else(0,{ π with aj:=π.aj.set i { f with b:=e_ b bj,changed:=true },eu:=cD n (oH π n bj,true) π.eu })
section
variable {told:cu} {h:H} {p:Nat} {v:V} {m:List Fm}
theorem N6 {n:Int}{j:Nat}(s:Sat h (KW wh π.bW::S)): (lookL n π.bW=none/\gA Tryz.prog h 212 wh (.int .i64 n) true=some (.aV [.int .i64 0,.bool false])) \/
  ∃i,lookL n π.bW=some i/\gA Tryz.prog h 212 wh (.int .i64 n) true=some (.aV [.int .i64 i,.bool true]):=by
 grind[om,bf.pu,Tryz.underlying212,Tryz.underlying3,BW,ur]
theorem N7 {n:Int}(s:Sat h (N5 di π.eu::S)): (lookL n π.eu=none/\gA Tryz.prog h 213 di (.int .i64 n) true=some (.aV [.agg [.int .u64 0,.bool false],.bool false])/\gA Tryz.prog h 213 di (.int .i64 n) false=some (.agg [.int .u64 0,.bool false])) \/
  ∃x,lookL n π.eu=some x/\gA Tryz.prog h 213 di (.int .i64 n) true=some (.aV [.agg [.int .u64 (x.1:Int),.bool x.2],.bool true])/\gA Tryz.prog h 213 di (.int .i64 n) false=some (.agg [.int .u64 (x.1:Int),.bool x.2]):=by
 grind[om,bf.pu,Tryz.underlying213,Tryz.underlying3,DB,ur]
theorem N8 (hT:W told){n:Int}(s:Sat h (pt r (.cells 6 (sP p q dX π.aj.length wh di π.hand) false)::gm dX π.aj::KW wh π.bW::S))(Jx:π.Ok):
  Call ⟨Tryz.prog,told⟩ 150 [.ptr r 0,.int .i64 n] h λv h'=>h'=h/\((heldI π n=none/\v=.aV [.cf,.int .i64 18])\/∃(i:Nat) (f:Fm),heldI π n=some i/\π.aj[i]?=some f/\v=.aV [.ptr dX (i*5),.int .i64 0]):=by
 refine Call.of_wp (hT.free _ U) Tryz.func150 U U (zK 9 U (zY s 0 yY FM U (zm U ?_)));rcases N6 (n:=n) (j:=0) (s.ae [2]) with⟨g1,g2⟩|⟨i,g1,g2⟩
 .refine au.op U U U (kL U U g2) ?_;exact zk 10 U (zt U (eo U U) (U) (zk 18 U (WP.ret ⟨aa,_,U,U,.inl ⟨by simp only[heldI,g1],U⟩⟩)))
 .obtain⟨i,f,rfl,hf⟩:=Jx.at g1;have hl:=(List.getElem?_eq_some_iff.1 hf).1;have hh:heldI π n=if f.pins=0 then none else some i:=by grind[heldI]
  obtain⟨pre,fv,post,I,hlen,s'⟩:=kG (s.ae [1]) hf;refine zo U (kL U U g2) (zk 10 U (zh U (eo U U) (U) (zk 3 U (zY s 0 nR sI U (zm U (zo U (bM U U (pS (i:=i) hl)) (zf U (tJ _ _) (zl U (s'.ld (k:=0) U bT (jV I U)) ?_))))))));refine zd U (aq U U cS) ?_ ?_
  .intro hq;have hq:f.pins=0:=by grind
   exact zk 8 U (WP.ret ⟨aa,_,U,U,.inl ⟨by grind,U⟩⟩)
  .intro hq;have hq:f.pins≠0:=by grind
   exact zk 8 U (zY s 0 nR sI U (zm U (zo U (bM U U (pS (i:=i) hl)) (zk 3 U (WP.ret ⟨aa,_,U,U,.inr ⟨i,f,by grind,hf,U⟩⟩)))))
theorem KX (hT:W told){n:Int}(s:Sat h (gE r p q π::S))(Jx:π.Ok):
  Call ⟨Tryz.prog,told⟩ 65 [.ptr r 0,.int .i64 n] h λv h'=>v=.int .i64 (unpinF π n).1/\Sat h' (gE r p q (unpinF π n).2::S):=by
 have s0:=s;obtain⟨dX,wh,di,s⟩:=gT.1 s;refine Call.of_wp (hT.free _ U) Tryz.func65 U U (zK 8 U (zc U (N8 (n:=n) hT s Jx) ?_));rintro v h' ⟨rfl,(⟨hh,rfl⟩|⟨i,f,hh,hf,rfl⟩)⟩
 .have he:unpinF π n=(18,π):=by simp only[unpinF,hh]
  rw[he];exact zk 10 U (zB U aE (U) (zk 7 U (WP.ret ⟨aa,_,U,U,s0⟩)))
 .have he:unpinF π n=(0,{ π with aj:=π.aj.set i { f with pins:=f.pins-1 } }):=by simp only[unpinF,hh,hf]
  rw[he];obtain⟨pre,fv,post,I,hlen,s⟩:=kG (s.ae [1]) hf;have HY:=Jx.pins f (aI hf);refine zk 10 U (zC U aE (U) (zk 7 U (zf U (tJ _ _) (zl U (s.ld (k:=0) U bT (jV I U)) (zb U (by exact dM ak) ?_)))));refine zn U (zf U (tJ _ _) (zS U (s.stM (k:=0) (j:=2) U lI I hlen (by simp[iD]) U U) ?_));intro h s;have e5:(iD f fv).set 2 (.int .i64 (f.pins-1))=iD { f with pins:=f.pins-1 } fv:=rfl;rw[e5] at s;refine zk 5 U (WP.ret ⟨aa,_,U,?_⟩);refine⟨U,gT.2 ⟨dX,wh,di,?_⟩⟩;have s:=iI (i:=i) (f':={ f with pins:=f.pins-1 }) s U hf I;rw[cL];exact s.ae [1,0]
theorem Zm (hT:W told){n:Int}(s:Sat h (gE r p q π::X::S))(hX:cy X (cE bv b))(Jx:π.Ok)(hb:b.length<9223372036854775808):
  Call ⟨Tryz.prog,told⟩ 64 [.ptr r 0,.int .i64 n,bv,.int .u64 (bj:Int)] h λv h'=>v=.int .i64 (mY π n b bj).1/\Sat h' (gE r p q (mY π n b bj).2::X::S):=by
 have s0:=s
 obtain⟨dX,wh,di,s⟩:=gT.1 s
 refine Call.of_wp (hT.free _ U) Tryz.func64 U U (zK 8 U (zc U (N8 (n:=n) hT s Jx) ?_))
 rintro v h' ⟨rfl,(⟨hh,rfl⟩|⟨i,f,hh,hf,rfl⟩)⟩
 .have he:mY π n b bj=(18,π):=by simp only[mY,hh]
  rw[he]
  exact zk 10 U (zB U aE (U) (zk 7 U (WP.ret ⟨aa,_,U,U,s0⟩)))
 .have he:mY π n b bj=(if cJ b=false then(4,π) else(0,{ π with aj:=π.aj.set i { f with b:=e_ b bj,changed:=true },eu:=cD n (oH π n bj,true) π.eu })):=by simp only[mY,hh,hf]
  rw[he]
  refine zk 10 U (zC U aE (U) (zk 7 U (zc U (Zc (n:=bj) hT (s.ae [4]) hX hb) ?_)))
  rintro v h (⟨hg,u,rfl,s⟩|⟨hg,rfl,s⟩)
  .rw[ai (by grind)]
   have ou:(e_ b bj).length=512:=by
    grind[Aw,jU,e_,bF,cO]
   obtain⟨lU,_,cap,_,rfl,_⟩:=s.eX (by omega)
   have s:=s.fh
   obtain⟨pre,fv,post,I,hlen,s⟩:=kG (s.ae [3]) hf
   refine zk 10 U (zC U aE (U) (zk 9 U (zf U (Dy _ _) (zS U (s.stM (k:=0) (j:=1) U dQ I hlen (by simp[iD]) U U) ?_))))
   intro h s
   refine zn U (zf U (HN _ _) (zS U (s.stM (k:=0) (j:=4) U BX I (by grind) (by simp[iD]) U U) ?_))
   intro h s
   have e5:((iD f fv).set 1 (.sl lU 0 (e_ b bj).length cap)).set 4 (.bool true)=iD { f with b:=e_ b bj,changed:=true } (.sl lU 0 (e_ b bj).length cap):=rfl
   rw[e5] at s
   have s:=iI (i:=i) (f':={ f with b:=e_ b bj,changed:=true }) (s.ae [0,0,1]) U hf I
   have s:=s.ae [3,4,0]
   refine zk 5 U (zY s 0 vS Dw U (zm U ?_))
   rcases N7 (n:=n) (s.ae [1]) with⟨g1,g2,_⟩|⟨x,g1,g2,_⟩
   .refine au.op U U U (kL U U g2) ?_
    refine zk 3 U ?_
    refine au.cg s U U U (cm DB) (λD7 h s => ?_)
    refine zS U (s.gX (j:=0) U Dz U U) (λh s => ?_)
    refine zk 6 U (zo U (eo U U) (zk 4 U (zf U (HO _ _) ?_)))
    refine zS U (by exact s.kz (k:=0) U Px U (by decide) U U) (λh s => ?_)
    refine zk 3 U (zf U (NO _ _) ?_)
    refine zS U (by exact s.kz (k:=0) U BX U (by decide) U U) (λh s => ?_)
    refine zk 2 U (WP.drawn [af,af,af,af,af,af,af] U (by kernel_rfl) (by kernel_rfl) ?_)
    refine zM U (zN U (zF U (vS _ _) (zL U (s.ld (k:=1) U Dw U) (zM U (zL U (s.b7 (k:=0) U Xz Dz) (aB.lP U U U (OpR.mapUpdate U U U U (oB (f:=λv (x:Nat×Bool)=>.pu (v=.agg [.int .u64 (x.1:Int),.bool x.2])) (x:=(bj,true)) (λ_ _=>bf.pu _) ((s.ae [2]).ir U) FZ b9)) ?_))))))
    intro w h s
    refine aB.nil ⟨⟨aa,aa,aa,aa,aa,aa,aa,aa⟩,?_⟩
    refine zK 4 U (WP.ret ⟨aa,_,U,?_⟩)
    have ed:oH π n bj=bj:=by simp only[oH,g1]
    rw[ed]
    refine⟨U,gT.2 ⟨dX,wh,di,?_⟩⟩
    have e6:(π.aj.set i { f with b:=e_ b bj,changed:=true }).length=π.aj.length:=cL
    show Sat h (pt r (.cells 6 (sP p q dX (π.aj.set i { f with b:=e_ b bj,changed:=true }).length wh di π.hand) false)::_)
    rw[e6]
    exact((s.ae [2,2,4,0,2]).del 6).del 5
   .skip
    refine zo U (kL U U g2) (zk 3 U ?_)
    refine au.cg s U U U (cm DB) (λD7 h s => ?_)
    refine zS U (s.gX (j:=0) U Dz U U) (λh s => ?_)
    refine zk 6 U (zo U (eo U U) (zk 5 U (zf U (NO _ _) ?_)))
    refine zS U (by exact s.kz (k:=0) U BX U (by decide) U U) (λh s => ?_)
    refine zk 2 U (WP.drawn [af,af,af,af,af,af,af] U (by kernel_rfl) (by kernel_rfl) ?_)
    refine zM U (zN U (zF U (vS _ _) (zL U (s.ld (k:=1) U Dw U) (zM U (zL U (s.b7 (k:=0) U Xz Dz) (aB.lP U U U (OpR.mapUpdate U U U U (oB (f:=λv (x:Nat×Bool)=>.pu (v=.agg [.int .u64 (x.1:Int),.bool x.2])) (x:=(x.1,true)) (λ_ _=>bf.pu _) ((s.ae [2]).ir U) FZ b9)) ?_))))))
    intro w h s
    refine aB.nil ⟨⟨aa,aa,aa,aa,aa,aa,aa,aa⟩,?_⟩
    refine zK 4 U (WP.ret ⟨aa,_,U,?_⟩)
    have ed:oH π n bj=x.1:=by simp only[oH,g1]
    rw[ed]
    refine⟨U,gT.2 ⟨dX,wh,di,?_⟩⟩
    have e6:(π.aj.set i { f with b:=e_ b bj,changed:=true }).length=π.aj.length:=cL
    show Sat h (pt r (.cells 6 (sP p q dX (π.aj.set i { f with b:=e_ b bj,changed:=true }).length wh di π.hand) false)::_)
    rw[e6]
    exact((s.ae [2,2,4,0,2]).del 6).del 5
  .rw[ay hg]
   exact zk 10 U (zB U aE (U) (zk 7 U (WP.ret ⟨aa,_,U,U,gT.2 ⟨dX,wh,di,s.ae [1,1,1,1,0]⟩⟩)))
theorem abm (hT:W told){n:Int}(s:Sat h (gE r p q π::S)): Call ⟨Tryz.prog,told⟩ 138 [.ptr r 0,.int .i64 n] h λv h'=>v=.aV [.int .u64 (oH π n 0:Nat),.bool (lookL n π.eu).isSome]/\Sat h' (gE r p q π::S):=by
 obtain⟨dX,wh,di,s⟩:=gT.1 s;refine Call.of_wp (hT.free _ U) Tryz.func138 U U (zK 9 U (zY s 0 vS Dw U (zm U ?_)));rcases N7 (n:=n) (s.ae [3]) with⟨I,g2,_⟩|⟨x,I,g2,_⟩
 .refine au.op U U U (kL U U g2) ?_;refine zk 3 U ?_;refine au.cg s U U U (cm DB) (λp6 h s => ?_);refine zS U (s.gX (j:=0) U Dz U U) (λh s => ?_);exact zk 4 U (zY s 0 HO sG U (zk 4 U (WP.ret ⟨aa,_,U,by simp only[oH,I];rfl,gT.2 ⟨dX,wh,di,s.drop⟩⟩)))
 .skip;refine zo U (kL U U g2) (zk 3 U ?_);refine au.cg s U U U (cm DB) (λp6 h s => ?_);refine zS U (s.gX (j:=0) U Dz U U) (λh s => ?_);exact zk 4 U (zY s 0 HO sG U (zk 4 U (WP.ret ⟨aa,_,U,by simp only[oH,I];rfl,gT.2 ⟨dX,wh,di,s.drop⟩⟩)))
def gp : Fm:=⟨-1,[],0,false,false⟩
def eF (π:Pl)(i:Nat)(f:Fm): Pl:={ π with aj:=π.aj.set i gp,bW:=if f.bQ<0 then π.bW else qz f.bQ π.bW }
def kM (π:Pl)(i:Nat)(n:Int)(b:List Nat): Pl:={ π with aj:=π.aj.set i ⟨n,b,1,true,false⟩,bW:=cD n (i:Int) π.bW }
inductive ig (ε:bk)(n:Int): Int->List Nat->bk->Prop where
 |arg (h:¬(0<=n/\n<ε.2.2.bG.length)):ig ε n 1 [] ε
 |IS (i:Nat) (f:Fm) (h1:0<=n) (h2:n<ε.2.2.bG.length) (hl:lookL n ε.1.bW=some (i:Int)) (hf:ε.1.aj[i]?=some f):ig ε n 0 f.b ({ ε.1 with aj:=ε.1.aj.set i { f with gS:=true,pins:=f.pins+1 } },ε.2)
 |out (cA:Pl) (i:Nat) (f:Fm) (h1:0<=n) (h2:n<ε.2.2.bG.length) (hl:lookL n ε.1.bW=none) (hn:ie ε.1 cA) (hf:cA.aj[i]?=some f) (hh:cA.hand<cA.aj.length) (he:(outF (cA,ε.2) i).1≠0):ig ε n (outF (cA,ε.2) i).1 [] (outF (cA,ε.2) i).2
 |read (cA:Pl) (i:Nat) (f:Fm) (h1:0<=n) (h2:n<ε.2.2.bG.length) (hl:lookL n ε.1.bW=none) (hn:ie ε.1 cA) (hf:cA.aj[i]?=some f) (hh:cA.hand<cA.aj.length) (he:(outF (cA,ε.2) i).1=0)
   (hr:(outF (cA,ε.2) i).2.2.2.ud n≠0):ig ε n ((outF (cA,ε.2) i).2.2.2.ud n) [] (eF (outF (cA,ε.2) i).2.1 i f,(outF (cA,ε.2) i).2.2)
 |bad (cA:Pl) (i:Nat) (f:Fm) (h1:0<=n) (h2:n<ε.2.2.bG.length) (hl:lookL n ε.1.bW=none) (hn:ie ε.1 cA) (hf:cA.aj[i]?=some f) (hh:cA.hand<cA.aj.length) (he:(outF (cA,ε.2) i).1=0)
   (hr:(outF (cA,ε.2) i).2.2.2.ud n=0) (hc:jJ ((outF (cA,ε.2) i).2.2.2.at n)≠0):ig ε n (jJ ((outF (cA,ε.2) i).2.2.2.at n)) [] (eF (outF (cA,ε.2) i).2.1 i f,(outF (cA,ε.2) i).2.2)
 |load (cA:Pl) (i:Nat) (f:Fm) (h1:0<=n) (h2:n<ε.2.2.bG.length) (hl:lookL n ε.1.bW=none) (hn:ie ε.1 cA) (hf:cA.aj[i]?=some f) (hh:cA.hand<cA.aj.length) (he:(outF (cA,ε.2) i).1=0)
   (hr:(outF (cA,ε.2) i).2.2.2.ud n=0) (hc:jJ ((outF (cA,ε.2) i).2.2.2.at n)=0):ig ε n 0 ((outF (cA,ε.2) i).2.2.2.at n) (kM (eF (outF (cA,ε.2) i).2.1 i f) i n ((outF (cA,ε.2) i).2.2.2.at n),(outF (cA,ε.2) i).2.2)
theorem Ew (h:ε.2.2.Ok): (outF ε i).2.2.2.Ok:=by
 unfold outF;split
 .exact h
 .split
  .exact h
  .split
   .exact h
   .split
    .exact vu h
    .split
     .exact(vu h).eP
     .exact(vu h).eP
theorem Vs (h:ε.2.1.Ok): (outF ε i).2.2.1.Ok:=by
 grind[outF,MO]
theorem qh {f:Fm}(I:ε.1.aj[i]?=some f): ∃c,(outF ε i).2.1.aj[i]?=some { f with changed:=c }:=by
 have hl:=(List.getElem?_eq_some_iff.1 I).1;unfold outF;rw[I];dsimp only;split
 .exact⟨f.changed,I⟩
 .split
  .exact⟨f.changed,I⟩
  .split
   .exact⟨f.changed,I⟩
   .split
    .exact⟨f.changed,I⟩
    simp_all
set_option maxHeartbeats 1000000 in
theorem Sz (hT:W told){n:Int}(s:Sat h (gE r p q π::dF q p μ::bX p δ::S))(Jx:π.Ok)(HY:∀f∈π.aj,f.pins=0)(vr:μ.Ok)(Vo:δ.Ok)(hw:δ.waiting.length<=268435456):
  Call ⟨Tryz.prog,told⟩ 63 [.ptr r 0,.int .i64 n] h λv h'=>∃(e:Int) (b:List Nat) (ε:bk),ig (π,μ,δ) n e b ε /\
   ((e≠0/\v=.aV [.aZ,.int .i64 e]/\Sat h' (gE r p q ε.1::dF q p ε.2.1::bX p ε.2.2::S))\/(e=0/\∃u,v=.aV [u,.int .i64 0]/\Sat h' (aY u b::gE r p q ε.1::dF q p ε.2.1::bX p ε.2.2::S))):=by
 have s0:=s
 obtain⟨dX,wh,di,s⟩:=gT.1 s
 refine Call.of_wp (hT.free _ U) Tryz.func63 U U (zK 9 U ?_)
 refine zd U (aq U U aK) ?_ ?_
 .intro hq
  have hq:n<0:=by grind
  exact zk 16 U (WP.ret ⟨aa,_,U,1,[],(π,μ,δ),.arg (λq=>by omega),.inl ⟨by decide,U,s0⟩⟩)
 .intro hq
  have hq:0<=n:=by grind
  refine zk 4 U (zY s 0 Dx xX U (zc U (Eu hT (s.ae [5])) ?_))
  rintro v h' ⟨rfl,rfl⟩
  refine zd U (aq U U j5) ?_ ?_
  .intro jG
   have jG:¬ n<δ.bG.length:=by grind
   exact zk 8 U (WP.ret ⟨aa,_,U,1,[],(π,μ,δ),.arg (λq=>jG q.2),.inl ⟨by decide,U,s0⟩⟩)
  .intro jG
   have jG:n<δ.bG.length:=by grind
   refine zk 9 U (zY s 0 yY FM U (zm U ?_))
   rcases N6 (n:=n) (j:=0) (s.ae [2]) with⟨g1,g2⟩|⟨i,g1,g2⟩
   .refine au.op U U U (kL U U g2) ?_
    refine zk 15 U (zc U (Vr hT s Jx.hand (by have:=Jx.many;omega) HY) ?_)
    rintro v h ⟨i,cA,f,rfl,sQ,hf,hh,s⟩
    have hl:=(List.getElem?_eq_some_iff.1 hf).1
    rw[<-sQ.bW,<-sQ.eu] at s
    have hfb:f.b.length<=512:=by
     have h1:π.aj[i]?=some (π.aj[i]'(by have:=sQ.len;omega)):=aF _
     generalize (π.aj[i]'(by grind))=f0 at h1
     obtain⟨t,ht⟩:=sQ.get i f0 h1
     rw[hf] at ht
     have:=bB ht
     rw[this]
     exact Jx.len f0 (aI h1)
    refine zk 6 U (zC U aK (by rfl) ?_)
    refine zk 7 U (zY s 0 nR sI U (zm U (zo U (bM U U (pS (i:=i) hl)) (zk 7 U (zc U (abl (π:=cA) hT s hf vr Vo (by omega) hw) ?_)))))
    rintro v h ⟨rfl,s⟩
    obtain⟨c,uW⟩:=qh (ε:=(cA,μ,δ)) hf
    have HZ:=Ew (ε:=(cA,μ,δ)) (i:=i) Vo
    refine zk 5 U ?_
    by_cases he:(outF (cA,μ,δ) i).1=0
    .generalize ho:outF (cA,μ,δ) i=o at he s uW HZ ⊢
     obtain⟨oe,I,μ1,Cf⟩:=o
     dsimp only at he s uW HZ ⊢
     subst he
     have Cg:(outF (cA,μ,δ) i).1=0:=by rw[ho]
     have y_:(outF (cA,μ,δ) i).2=(I,μ1,Cf):=by rw[ho]
     refine zC U aE (by decide) ?_
     obtain⟨pre,fv,post,oV,hlen,s⟩:=kG (s.ae [1]) uW
     refine zk 8 U (zf U (rV _ _) (zl U (s.ld (k:=0) U bT (jV oV U)) ?_))
     refine zd U (aq U U j5) ?_ ?_
     .intro eA
      have eA:¬ f.bQ<0:=by grind
      refine zk 2 U (WP.drawn [af,af,af,af,af,af,af,af,af] U (by kernel_rfl) (by kernel_rfl) ?_)
      refine zM U (zN U (zF U (yY _ _) (zL U (s.ld (k:=3) U FM U) (zM U (zN U (zF U (rV _ _) (zL U (s.ld (k:=0) U bT (jV oV U)) (aB.lP U U U (OpR.delete U U U U (U_ (s.ae [4]) FX b9)) ?_))))))))
      intro v h s
      have s:=s.ae [1,1,1,1,0]
      refine aB.nil ⟨⟨aa,aa,aa,aa,aa,aa,aa,aa,aa,aa⟩,?_⟩
      refine zK 3 U (zo U (cI U (by rw[JL];rfl)) ?_)
      refine zn U (zS U (s.XL (k:=0) (row':=iD gp .aZ) U FN oV hlen (by rfl) U) ?_)
      intro h s
      have AA:(pre++(iD gp .aZ++post)).length=I.aj.length*5:=by simpa[iD] using hlen
      have uq:(eF I i f).bW=qz f.bQ I.bW:=by grind[eF]
      refine zk 5 U (zY s 3 Dx xX U (zm U (zc U (Sy (n:=n) hT (s.ae [7]) HZ) ?_)))
      rintro v h (⟨hr,rfl,s⟩|⟨hr,u,rfl,s⟩)
      .dsimp only[bringA,getA,aL] at s
       refine zk 10 U (zB U aE (by grind) ?_)
       refine zk 8 U (WP.ret ⟨aa,_,U,?_⟩)
       have s:=iI (i:=i) (f':=gp) (v':=.aZ) (s.vm.ae [2,2,0]) U uW oV
       have e6:(I.aj.set i gp).length=I.aj.length:=cL
       rw[<-e6,<-uq] at s
       have s:=(gT (π:=eF I i f)).2 ⟨dX,wh,di,s.ae [3,0,2,2]⟩
       have hR:=ig.read (ε:=(π,μ,δ)) cA i f hq jG g1 sQ hf hh Cg (by grind)
       rw[y_] at hR
       exact⟨_,[],_,hR,.inl ⟨hr,U,(s.del 2).ae [0,1,0]⟩⟩
      .have ac1:=HZ.at n
       obtain⟨lU,_,cap,_,rfl,_⟩:=s.eX (by omega)
       refine zk 10 U (zC U aE (U) (zk 7 U (zc U (KT hT s (bg _ _) (by omega)) ?_)))
       rintro v h ⟨rfl,s⟩
       refine zk 5 U ?_
       by_cases hc:jJ (Cf.at n)=0
       .skip
        refine zC U aE (by grind) ?_
        have s:=s.fh.ae [2,2,0,2,2,2,2,0,0]
        refine zk 8 U (zo U (cI U (by rw[JL];rfl)) ?_)
        refine zn U (zS U (s.XL (k:=0) (row':=iD ⟨n,Cf.at n,1,true,false⟩ (.sl lU 0 (Cf.at n).length cap)) U FN oV AA (by rfl) U) ?_)
        intro h s
        refine zk 5 U (zY s 3 yY FM U (zk 2 U (au.lP U U (OpR.mapUpdate U U U U (oB (f:=λv (x:Int)=>.pu (v=.int .i64 x)) (x:=(i:Int)) (λ_ _=>bf.pu _) ((s.ae [4]).ir U) FX b9)) ?_)))
        intro w h s
        refine zk 4 U (zc U (Av hT (s.ae [3]) (bC _ _) (by omega)) ?_)
        intro u h s
        refine zk 3 U (WP.ret ⟨aa,_,U,?_⟩)
        have s:=iI (i:=i) (f':=⟨n,Cf.at n,1,true,false⟩) (s.ae [3,3,1]) U uW oV
        have e6:(I.aj.set i ⟨n,Cf.at n,1,true,false⟩).length=I.aj.length:=cL
        have e7:(kM (eF I i f) i n (Cf.at n)).aj=I.aj.set i ⟨n,Cf.at n,1,true,false⟩:=by simp[kM,eF]
        rw[<-e6,<-e7,<-uq] at s
        have s:=(gT (π:=kM (eF I i f) i n (Cf.at n))).2 ⟨dX,wh,di,s.ae [3,0,1,1]⟩
        have hR:=ig.load (ε:=(π,μ,δ)) cA i f hq jG g1 sQ hf hh Cg (by grind) (by grind)
        rw[y_] at hR
        exact⟨_,_,_,hR,.inr ⟨U,u,U,(s.del 4).ae [1,0]⟩⟩
       .skip
        refine zB U aE (by grind) ?_
        refine zk 8 U (WP.ret ⟨aa,_,U,?_⟩)
        have s:=s.drop
        have s:=iI (i:=i) (f':=gp) (v':=.aZ) (s.vm.ae [2,2,0]) U uW oV
        dsimp only[bringA,getA,aL] at s
        have e6:(I.aj.set i gp).length=I.aj.length:=cL
        rw[<-e6,<-uq] at s
        have s:=(gT (π:=eF I i f)).2 ⟨dX,wh,di,s.ae [3,0,2,2]⟩
        dsimp only[bringA,getA,aL] at s
        have hR:=ig.bad (ε:=(π,μ,δ)) cA i f hq jG g1 sQ hf hh Cg (by grind) (by grind)
        rw[y_] at hR
        exact⟨_,[],_,hR,.inl ⟨hc,U,(s.del 2).ae [0,1,0]⟩⟩
     .intro eA
      have eA:f.bQ<0:=by grind
      refine zk 6 U (zo U (cI U (by rw[JL];rfl)) ?_)
      refine zn U (zS U (s.XL (k:=0) (row':=iD gp .aZ) U FN oV hlen (by rfl) U) ?_)
      intro h s
      dsimp only[setA] at s
      have AA:(pre++(iD gp .aZ++post)).length=I.aj.length*5:=by simpa[iD] using hlen
      have uq:(eF I i f).bW=I.bW:=by grind[eF]
      refine zk 5 U (zY s 3 Dx xX U (zm U (zc U (Sy (n:=n) hT (s.ae [7]) HZ) ?_)))
      rintro v h (⟨hr,rfl,s⟩|⟨hr,u,rfl,s⟩)
      .dsimp only[bringA,getA,aL] at s
       refine zk 10 U (zB U aE (by grind) ?_)
       refine zk 8 U (WP.ret ⟨aa,_,U,?_⟩)
       have s:=iI (i:=i) (f':=gp) (v':=.aZ) (s.vm.ae [2,2,0]) U uW oV
       dsimp only[bringA,getA,aL] at s
       have e6:(I.aj.set i gp).length=I.aj.length:=cL
       rw[<-e6,<-uq] at s
       have s:=(gT (π:=eF I i f)).2 ⟨dX,wh,di,s.ae [3,0,2,2]⟩
       dsimp only[bringA,getA,aL] at s
       have hR:=ig.read (ε:=(π,μ,δ)) cA i f hq jG g1 sQ hf hh Cg (by grind)
       rw[y_] at hR
       exact⟨_,[],_,hR,.inl ⟨hr,U,(s.del 2).ae [0,1,0]⟩⟩
      .have ac1:=HZ.at n
       obtain⟨lU,_,cap,_,rfl,_⟩:=s.eX (by omega)
       refine zk 10 U (zC U aE (U) (zk 7 U (zc U (KT hT s (bg _ _) (by omega)) ?_)))
       rintro v h ⟨rfl,s⟩
       refine zk 5 U ?_
       by_cases hc:jJ (Cf.at n)=0
       .skip
        refine zC U aE (by grind) ?_
        have s:=s.fh.ae [2,2,0,2,2,2,2,0,0]
        dsimp only[bringA,getA,aL] at s
        refine zk 8 U (zo U (cI U (by rw[JL];rfl)) ?_)
        refine zn U (zS U (s.XL (k:=0) (row':=iD ⟨n,Cf.at n,1,true,false⟩ (.sl lU 0 (Cf.at n).length cap)) U FN oV AA (by rfl) U) ?_)
        intro h s
        dsimp only[setA] at s
        refine zk 5 U (zY s 3 yY FM U (zk 2 U (au.lP U U (OpR.mapUpdate U U U U (oB (f:=λv (x:Int)=>.pu (v=.int .i64 x)) (x:=(i:Int)) (λ_ _=>bf.pu _) ((s.ae [4]).ir U) FX b9)) ?_)))
        intro w h s
        dsimp only[bringA,getA,aL] at s
        refine zk 4 U (zc U (Av hT (s.ae [3]) (bC _ _) (by omega)) ?_)
        intro u h s
        dsimp only[bringA,getA,aL] at s
        refine zk 3 U (WP.ret ⟨aa,_,U,?_⟩)
        have s:=iI (i:=i) (f':=⟨n,Cf.at n,1,true,false⟩) (s.ae [3,3,1]) U uW oV
        dsimp only[bringA,getA,aL] at s
        have e6:(I.aj.set i ⟨n,Cf.at n,1,true,false⟩).length=I.aj.length:=cL
        have e7:(kM (eF I i f) i n (Cf.at n)).aj=I.aj.set i ⟨n,Cf.at n,1,true,false⟩:=by simp[kM,eF]
        rw[<-e6,<-e7,<-uq] at s
        have s:=(gT (π:=kM (eF I i f) i n (Cf.at n))).2 ⟨dX,wh,di,s.ae [3,0,1,1]⟩
        dsimp only[bringA,getA,aL] at s
        have hR:=ig.load (ε:=(π,μ,δ)) cA i f hq jG g1 sQ hf hh Cg (by grind) (by grind)
        rw[y_] at hR
        exact⟨_,_,_,hR,.inr ⟨U,u,U,(s.del 4).ae [1,0]⟩⟩
       .skip
        refine zB U aE (by grind) ?_
        refine zk 8 U (WP.ret ⟨aa,_,U,?_⟩)
        have s:=s.drop
        have s:=iI (i:=i) (f':=gp) (v':=.aZ) (s.vm.ae [2,2,0]) U uW oV
        dsimp only[bringA,getA,aL] at s
        have e6:(I.aj.set i gp).length=I.aj.length:=cL
        rw[<-e6,<-uq] at s
        have s:=(gT (π:=eF I i f)).2 ⟨dX,wh,di,s.ae [3,0,2,2]⟩
        dsimp only[bringA,getA,aL] at s
        have hR:=ig.bad (ε:=(π,μ,δ)) cA i f hq jG g1 sQ hf hh Cg (by grind) (by grind)
        rw[y_] at hR
        exact⟨_,[],_,hR,.inl ⟨hc,U,(s.del 2).ae [0,1,0]⟩⟩
    .skip
     refine zB U aE (by grind) ?_
     exact zk 8 U (WP.ret ⟨aa,_,U,_,[],_,.out cA i f hq jG g1 sQ hf hh he,.inl ⟨he,U,gT.2 ⟨dX,wh,di,s⟩⟩⟩)
   .obtain⟨i,f,rfl,hf⟩:=Jx.at g1
    have hl:=(List.getElem?_eq_some_iff.1 hf).1
    obtain⟨pre,fv,post,oV,hlen,s⟩:=kG (s.ae [1]) hf
    have tc:=HY f (aI hf)
    have l_:=Jx.len f (aI hf)
    refine zo U (kL U U g2) (zk 15 U (zY s 3 nR sI U (zm U (zo U (bM U U (pS (i:=i) hl)) (zk 6 U (zf U (HM _ _) (zS U (s.stM (k:=0) (j:=3) U BX oV hlen (by simp[iD]) U U) ?_)))))))
    intro h s
    dsimp only[setA] at s
    refine zk 5 U (zf U (tJ _ _) (zl U (s.ld (k:=0) U bT (jV oV U)) (zb U (by exact aM ak) ?_)))
    refine zn U (zf U (tJ _ _) (zS U (s.stM (k:=0) (j:=2) U lI oV (by grind) (by simp[iD]) U U) ?_))
    intro h s
    have e5:((iD f fv).set 3 (.bool true)).set 2 (.int .i64 (f.pins+1))=iD { f with gS:=true,pins:=f.pins+1 } fv:=rfl
    rw[e5] at s
    refine zk 5 U (zf U (Dy _ _) (zl U (s.ld (k:=0) U b8 (jV oV U)) (zc U (Av hT (s.ae [2]) (bC _ _) (by omega)) ?_)))
    intro u h s
    refine zk 3 U (WP.ret ⟨aa,_,U,?_⟩)
    have s:=iI (i:=i) (f':={ f with gS:=true,pins:=f.pins+1 }) (s.ae [2,2,1]) U hf oV
    refine⟨0,f.b,_,.IS i f hq jG g1 hf,.inr ⟨U,u,U,?_⟩⟩
    have e6:(π.aj.set i { f with gS:=true,pins:=f.pins+1 }).length=π.aj.length:=cL
    rw[<-e6] at s
    exact((gT (π:={ π with aj:=π.aj.set i { f with gS:=true,pins:=f.pins+1 } })).2 ⟨dX,wh,di,s.ae [2,0,1,1]⟩).ae [1,0]
end
def Gc : Fm:=⟨0,[],0,false,false⟩
def Pl.fresh (n:Nat): Pl:=⟨List.replicate n gp,[],[],0⟩
theorem Zn : ∃i,Tryz.prog.info? 218=some i/\i.size=5/\i.bytes=48 :=
 ⟨_,(show Tryz.prog.info? 218=some ((Tryz.prog.info? 218).getD default) by kernel_rfl),by kernel_rfl,by kernel_rfl⟩
theorem Vt {a b:PM}: ∀n:Nat,(wF (repeatL [.int .i64 0,.aZ,.int .i64 0,.bool false,.bool false] n) (List.replicate n Gc)).p a b:=by
 intro n;induction n with
 |zero=>trivial
 |succ n I=>exact⟨⟨⟨U,U,U,U⟩,⟨(by intro b hb;cases hb),.inl ⟨.inl U,U⟩⟩⟩,I⟩
section
variable {told:cu} {h:H} {p:Nat} {v:V} {m:List Fm}
noncomputable def pnL : Code:=cX [1,1,1,0,1,0,0] ((Tryz.f105.body).getD .skip)
theorem SB (hn:n<4294967296): ∀(j i:Nat) (m:List Fm) (h:H) (E:List (Nat×V)) (Q:Ex->List (Nat×V)->H->Prop),i+j=n->m=List.replicate i gp++List.replicate j Gc ->
  Sat h (pt r (.cells 6 (sP p q dX n wh di 0) false)::gm dX m::S)->Has E [(8,.ptr r 0),(28,.int .i64 n),(29,.int .i64 i)] ->
  (∀E' h',Has E' [(8,.ptr r 0)]->Sat h' (pt r (.cells 6 (sP p q dX n wh di 0) false)::gm dX (List.replicate n gp)::S)->Q (.exit 0) E' h')->WP ⟨Tryz.prog,told⟩ 41 (.loop pnL) E h Q:=by
 intro j;induction j with
 |zero =>
  intro i m h E Q hi hm s hE hx;refine WP.loop (WP.has hE (zg U (zC U aK (by simp<;>omega) ?_)));refine zk 3 U (WP.exit (hx _ _ ⟨U,aa⟩ ?_));rw[hm] at s;have:i=n:=by omega
  subst this;simpa using s
 |succ j ih =>
  intro i m h E Q hi hm s hE hx;have Gd:m.length=n:=by rw[hm];simp;omega
  have hf:m[i]?=some Gc:=by rw[hm,iz (by simp)];simp[G6]
  obtain⟨pre,fv,post,I,hlen,s⟩:=kG (s.ae [1]) hf;dsimp only[bringA,getA,aL] at s;refine WP.loop (WP.has hE (zg U (zB U aK (by simp<;>omega) ?_)));refine zk 5 U (WP.block (zK 8 U (zY s 3 nR sI U (zm U (zo U (bM U U (pS (i:=i) (by omega))) ?_)))));refine zf U (rV _ _) (zS U (s.stM (k:=0) (j:=0) U lI I hlen (by simp[iD]) U U) ?_);intro h s;dsimp only[setA] at s;have e5:(iD Gc fv).set 0 (.int .i64 (-1))=iD gp fv:=rfl;rw[e5] at s;refine zv (zr U (zb U (by exact aM ak) ?_));refine zm U (zv ?_);have s:=iI (i:=i) (f':=gp) s U hf I;refine ih (i+1) (m.set i gp) h _ Q (by omega) ?_ (s.ae [1,0]) ⟨U,U,U,aa⟩ hx;rw[hm,G2 _ _ (by simp),f_,gF,G6,List.set_cons_zero,List.replicate_succ',dO];rfl
theorem Zo (hT:W told){n:Int}(s:Sat h S): Call ⟨Tryz.prog,told⟩ 105 [.ptr p 0,.ptr q 0,.int .i64 n] h λv h' =>
  (¬(1<=n/\n<=1024)/\v=.aV [.cf,.int .i64 1]/\Sat h' S)\/(1<=n/\n<=1024/\∃r,v=.aV [.ptr r 0,.int .i64 0]/\Sat h' (gE r p q (Pl.fresh n.toNat)::S)):=by
 refine Call.of_wp (hT.free _ U) Tryz.func105 U U (zK 9 U ?_);refine zd U (aq U U aK) ?_ ?_
 .intro hq;have hq:n<1:=by simpa using hq
  exact zk 11 U (WP.ret ⟨aa,_,U,.inl ⟨λq=>by omega,U,s⟩⟩)
 .intro hq;have hq:1<=n:=by simp at hq;omega
  refine zk 2 U ?_;refine zd U (aq U U cP) ?_ ?_
  .intro I;have I:1024<n:=by simpa using I
   exact zk 8 U (WP.ret ⟨aa,_,U,.inl ⟨λq=>by omega,U,s⟩⟩)
  .intro I;have I:n<=1024:=by simp at I;omega
   obtain⟨n,rfl⟩:∃k:Nat,n=k:=⟨n.toNat,by omega⟩;refine zk 9 U ?_;obtain⟨i1,c9,fc,pP⟩:=Zn;obtain⟨id,h1,e1,s1⟩:=IK (P:=Tryz.prog) s B5 c9 acL fc (by omega) U (by decide) (n:=n) (by omega);refine au.any U U U (OpR.of (R:=λv h'=>v=.sl id 0 n (.exact n)/\h'=h1) (Ak U U e1) ⟨U,U⟩) ?_;rintro v h ⟨rfl,rfl⟩;have s:Sat h (gm id (List.replicate n Gc)::S):=lV.2 ⟨_,by rw[f_];exact((s1.ir (φ:=True) aa).eD λa b _=>Vt n).ae [1]⟩;refine au.BV s U U U U (λp20 h s => ?_);refine au.BV s U U U U (λp21 h s => ?_);refine zo U (cI U (by rw[acJ];rfl)) ?_;refine au.cg s U U U (fG U U) (λp23 h s => ?_);refine zk 7 U (zY s 0 nR sI U (zo U (aC U U U (tK U B5)) (zk 2 U (WP.block ?_))));have s:=qX (f:=λv (x:Nat×Bool)=>.pu (v=.agg [.int .u64 (x.1:Int),.bool x.2])) (s.ae [1]);have s:=qX (f:=λv (x:Int)=>.pu (v=.int .i64 x)) (s.ae [2]);have s:=s.ae [2,2,0,0];refine SB (n:=n) (by omega) n 0 _ _ _ _ (by omega) U s ⟨U,U,U,aa⟩ (λE' h' dY s' => ?_);refine WP.has dY (zK 6 U (WP.ret ⟨aa,_,U,?_⟩));refine .inr ⟨hq,I,_,U,(gT (π:=Pl.fresh n)).2 ⟨id,.map p20,.map p21,?_⟩⟩;have e6:(Pl.fresh n).aj.length=n:=by simp[Pl.fresh]
   rw[e6];exact s'
end
theorem SC {c:Nat}: ∀ {l:jq} {b:Nat},sL c b l->bornUp c b (l.map R5)=true:=by
 intro l;induction l with
 |nil=>intro b _;rfl
 |cons e l I =>
  intro b h;obtain⟨h1,h2,h3⟩:=h;simp only[hU,R5,B4,bornUp];rw[show(Nat.ble b e.2.2&&Nat.blt e.2.2 c)=true by rw[bV,aR];exact⟨h1,by rw[Nat.blt];exact aR.2 h2⟩,ag];exact I h3
theorem P3 : ∀ {l:jq},(∀e∈l,(Lit.int .i64 e.1).wf=true)->keyInts (l.map R5)=some (l.map (·.1)):=by
 intro l;induction l with
 |nil=>intro _;rfl
 |cons e l I =>
  intro h;simp only[hU,R5,B4,keyInts];rw[h e a_,ag];have:=I (λe he=>h e (bw _ he));rw[this]
theorem MT {x:Int}: ∀ {l:List Int},l.Pairwise (· < ·)->x∉l->(insI x l).Pairwise (· < ·):=by
 intro l;induction l with
 |nil=>intro _ _;simp[insI]
 |cons y l ih =>
  intro h hx;simp only[yx,gz,not_or] at h hx;simp only[insI];by_cases SD:x<=y
  .rw[dZ SD,ag];have:x<y:=by omega
   simp only[yx,gz];refine⟨λz I => ?_,h⟩;rcases I with rfl|I
   .exact this
   .have:=h.1 z I;omega
  .rw[gh SD,aS];simp only[yx];refine⟨λz I => ?_,ih h.2 hx.2⟩;have:=(BN x l).mem_iff.1 I;rcases List.mem_cons.1 this with rfl|I
   .omega
   .exact h.1 z I
theorem MU : ∀ {l:List Int},l.Nodup->(oT l).Pairwise (· < ·):=by
 intro l;induction l with
 |nil=>intro _;exact List.Pairwise.nil
 |cons x l I =>
  intro h;simp only[nC] at h;exact MT (I h.2) (λhx=>h.1 ((jb l).mem_iff.1 hx))
theorem Vu : ∀ {l:List Int},l.Pairwise (· < ·)->uo l=true:=by
 intro l;induction l with
 |nil=>intro _;rfl
 |cons x l I =>
  intro h;simp only[yx] at h;simp only[uo,bV,nB,kS];exact⟨h.1,I h.2⟩
section
variable {f:V->α->aG} {told:cu} {h:H} {mv:V} {m:List (Int×α)} {b:Nat}
def gK (m:List (Int×α)): List Int:=oT (m.map (·.1))
theorem uB {n:Int}: n∈gK m↔n∈m.map (·.1):=(jb _).mem_iff
theorem Vv (l:List Int): (jA l).all storable=true:=by simp[jA,storable]
theorem Ci (hT:W told)(s:Sat h (pt b (.cells 1 [mv] false)::pN f mv m::S))(hg:z8 DC g=true)(hm:m.length<=1048576)(hk:∀n∈m.map (·.1),(Lit.int .i64 n).wf=true):
  Call ⟨Tryz.prog,told⟩ 61 [.fn (.func g) [] [.ptr b 0]] h λv h'=>Sat h' (.arr 1 v (jA (gK m))::pt b (.cells 1 [mv] false)::pN f mv m::S):=by
 obtain⟨id,l,c,rfl,hb,hn,s1⟩:=xj.1 (s.ae [1]);have s1:Sat h (KC id l c::jD f l m::pt b (.cells 1 [.map id] false)::S):=s1;obtain⟨q1,q2,q3,q4,q5⟩:=s1.at (k:=1) U;have I:=FW q5;have hlen:l.length=m.length:=by have:=dg List.length I;simpa using this
 have pG:=s1.row (k:=0) U;have adZ:=s1.row (k:=2) U;have sn:∀e∈l,(Lit.int .i64 e.1).wf=true:=λe he=>hk e.1 (by rw[<-I];exact nj he);have hri:uo (oT (l.map (·.1)))=true:=Vu (MU (by rw[I];exact hn));have ac2:∃v h',toldSorted DC [.fn (.func g) [] [.ptr b 0]] h=some (v,h')/\Sat h' (.arr 1 v (jA (gK m))::pt b (.cells 1 [.map id] false)::pN f (.map id) m::S):=by
  simp only[toldSorted,adZ,pG,cj,hg,SC hb,P3 sn,hri];rw[show(Nat.beq 1 1&&true&&true&&Nat.ble l.length 1048576)=true by rw[aR.2 (by omega)];rfl,ag];simp only[ag];cases hl:l.map (·.1) with
  |nil =>
   refine⟨_,_,U,?_⟩;have:gK m=[]:=by rw[gK,<-I,hl];rfl
   rw[this];exact s.lJ
  |cons x xs =>
   refine⟨_,_,U,?_⟩;have e1:gK m=oT (x::xs):=by rw[gK,<-I,hl]
   have e2:(oT (x::xs)).length=(x::xs).length:=(jb _).length_eq;have e3:(x::xs).length=l.length:=by rw[<-hl,cj]
   rw[e1,<-e3];refine(s.new (.cells (jA (oT (x::xs))).length (jA (oT (x::xs))) false)).eD λa r D3=>⟨Vv _,.inr ⟨h.next,(x::xs).length,.rest 1 0,(jA (oT (x::xs))).length,[],U,?_,?_,by simp,U,U,U,U,by simp⟩⟩
   .rw[gd];exact D3
   .simp only[jA,cj,e2,cH]
 obtain⟨v,h',e1,e2⟩:=ac2;exact⟨v,h',iV.told hT.sorted Tryz.func61 U e1,e2⟩
end
structure Cj (ε:bk): Prop where
 pl:ε.1.Ok
 lg:ε.2.1.Ok
 dk:ε.2.2.Ok
theorem Vw (h:ε.1.Ok): (outF ε i).2.1.Ok:=by
 unfold outF;split
 .exact h
 .rename_i f hf;have hm:=aI hf;split
  .exact h
  .split
   .exact h
   .split
    .exact h
    .split
     .exact h
     .refine⟨by simp only[cL];exact h.hand,by simp only[cL];exact h.many,λe he=>by simp only[cL];exact h.bW e he,λg I => ?_,λg I => ?_⟩
      .rcases mD I with I|rfl
       .exact h.len g I
       .exact h.len f hm
      .rcases mD I with I|rfl
       .exact h.pins g I
       .exact h.pins f hm
theorem AB (h:Cj ε): Cj (outF ε i).2:=⟨Vw h.pl,Vs h.lg,Ew h.dk⟩
theorem MV {n:Int}: (δ.eP n b).2.waiting.length<=δ.waiting.length+1:=by
 unfold Dk.eP;split
 .exact rK _
 .split
  .exact rK _
  .split
   .exact rK _
   .exact Nat.le_of_eq (by simp[Dk.wr])
end Go.Proofs.YtdonpgpfplgigaaGreat.Am
namespace Go.Proofs.YtdonpgpfplgigaaGreat.Am
open Go
variable {X:aG} {C:gN} {δ:Dk} {ε ah:bk} {Q:Ex->List (Nat×V)->H->Prop} {kd pg:Int} {μ:Lg} {now:List (Int×List Nat)} {E:List (Nat×V)} {S:List aG} {dD:List fU} {l b data:List Nat} {cs post args:List V} {g n k i size bj a d z p6 id off q j tx pv nx j1 j2 p1 r dX aQ:Nat} {y:Operand} {π cA:Pl} {P:Program} {α:Type} {t e:TypeId} {x u bv dt w v' wh di:V}
open Classical in
noncomputable def qM (P:Program)(f:FuncId)(mu:List V->H->V×H->Prop)(args:List V)(h:H): Option (V×H) :=
 if I:∃r,mu args h r/\∀(c:Ctx) (w:World),Rel c h w->(∀x∈args,wf c x)->kJ P f args c w r.1 r.2 then some I.choose else none
theorem SE {f : FuncId} {mu : List V → H → V × H → Prop} (I : ∃ fn, P.funcs[f]? = some fn ∧ fn.body.isSome = true ∧ (fn.name == "runtime.NumGoroutine") = false) : Nm P f (qM P f mu) := by
 refine .inl ⟨I, fun args σ v fg hr c w h hw => ?_⟩
 unfold qM at hr
 split at hr
 ·rename_i hx
  have := hx.choose_spec.2 c w h hw
  injection hr with hr
  rw [hr] at this
  exact this
 ·cases hr
theorem xm {f:FuncId}{mu:List V->H->V×H->Prop}{h:H}{r:V×H}(h1:mu args h r)(h2:∀(c:Ctx) (w:World),Rel c h w->(∀x∈args,wf c x)->kJ P f args c w r.1 r.2):
  ∃r,qM P f mu args h=some r/\mu args h r:=by
 have I:∃r,mu args h r/\∀(c:Ctx) (w:World),Rel c h w->(∀x∈args,wf c x)->kJ P f args c w r.1 r.2:=⟨r,h1,h2⟩;refine⟨I.choose,?_,I.choose_spec.1⟩;unfold qM;rw[dif_pos I]
noncomputable def ue (f:Nat): Option (List V->H->Option (V×H)) :=
 cond (Nat.beq f 61) (some (toldSorted DC)) (cond (Nat.beq f 211) (some toldMore) none)
noncomputable abbrev CB : gN:=⟨Tryz.prog,ue⟩
theorem Ck : Tryz.prog.follows .mixedOrders=true:=by kernel_rfl
theorem AD : iU CB:=by
 intro f g I;simp only[CB,ue] at I ⊢;by_cases h1:f=61
 .subst h1;rw[qT U,ag] at I;simp only[aA] at I;subst I;exact .inl ⟨⟨_,Tryz.func61,U,by decide⟩,λargs σ v fg hr c w h _=>Ju b9 R_ hr h⟩
 .rw[fO h1,aS] at I;by_cases h2:f=211
  .subst h2;rw[qT U,ag] at I;simp only[aA] at I;subst I;exact .inl ⟨⟨_,Fu,U,by decide⟩,λargs σ v fg hr c w h hw=>MH (C:=CB) U Ck hr h hw⟩
  .rw[fO h2,aS] at I;cases I
theorem W.base : W ue:=by
 refine⟨λf I => ?_,U,U⟩;have h1:f≠61:=λe=>by subst e;revert I;decide
 have h2:f≠211:=λe=>by subst e;revert I;decide
 simp only[ue,fO h1,fO h2,aS]
theorem iV.det {f:FuncId}{h:H}{v:V}{h₁ I:H}(a:iV C f args h v h₁)(b:iV C f args h v' I): v=v'/\h₁=I:=by
 obtain⟨N,hN⟩:=a;obtain⟨M,hM⟩:=b;have e1:=sA (iM (rF N M)) hN;have e2:=sA (iM (rE N M)) hM;rw[e1] at e2;simp only[aA,bS] at e2;exact e2
theorem ie.aj (I:ie π cA): ∀g∈cA.aj,∃f∈π.aj,∃t,g={ f with gS:=t }:=by
 intro g hg;obtain⟨i,hi,rfl⟩:=List.mem_iff_getElem.1 hg;have hf:π.aj[i]?=some (π.aj[i]'(by rw[<-I.len];exact hi)):=aF _;obtain⟨t,ht⟩:=I.get i _ hf;rw[aF hi] at ht;exact⟨_,Hg _,t,bB ht⟩
theorem ie.ok (I:ie π cA)(h:π.Ok)(hh:cA.hand<cA.aj.length): cA.Ok:=by
 refine⟨hh,by rw[I.len];exact h.many,by rw[I.bW,I.len];exact h.bW,λg hg => ?_,λg hg => ?_⟩
 .obtain⟨f,hf,t,rfl⟩:=I.aj g hg;exact h.len f hf
 .obtain⟨f,hf,t,rfl⟩:=I.aj g hg;exact h.pins f hf
theorem Pl.Ok.set {f:Fm}{w:List (Int×Int)}{d:List (Int×(Nat×Bool))}(h:π.Ok)(hw:∀e∈w,0<=e.2/\e.2<π.aj.length)(hl:f.b.length<=512)(hp:0<=f.pins/\f.pins<=4294967296): Pl.Ok { π with aj:=π.aj.set i f,bW:=w,eu:=d }:=by
 refine⟨by simp only[cL];exact h.hand,by simp only[cL];exact h.many,λe he=>by simp only[cL];exact hw e he,λg I => ?_,λg I => ?_⟩
 .rcases mD I with I|rfl
  .exact h.len g I
  .exact hl
 .rcases mD I with I|rfl
  .exact h.pins g I
  .exact hp
theorem Zp {n:Int}: ∀ {l:List (Int×α)} {e:Int×α},e∈qz n l->e∈l:=by
 intro l;induction l with
 |nil=>intro e h;exact h
 |cons x l I =>
  intro e h;simp only[qz] at h;split at h
  .exact bw _ h
  .rcases List.mem_cons.1 h with rfl|h
   .exact a_
   .exact bw _ (I h)
theorem Zq {n:Int}{x:α}: ∀ {l:List (Int×α)} {e:Int×α},e∈cD n x l->e=(n,x)\/e∈l:=by
 intro l;induction l with
 |nil=>intro e h;simp only[cD,G8] at h;exact .inl h
 |cons y l I =>
  intro e h;simp only[cD] at h;split at h
  .rcases List.mem_cons.1 h with rfl|h
   .exact .inl U
   .exact .inr (bw _ h)
  .rcases List.mem_cons.1 h with rfl|h
   .exact .inr a_
   .rcases I h with h|h
    .exact .inl h
    .exact .inr (bw _ h)
theorem Ey {f:Fm}(h:π.Ok): (eF π i f).Ok:=by
 unfold eF;refine h.set (λe he => ?_) (by simp[gp]) (by simp[gp]);split at he
 .exact h.bW e he
 .exact h.bW e (Zp he)
theorem ig.ok {n e:Int}(hr:ig ε n e b ah)(h:Cj ε)(hp:∀f∈ε.1.aj,f.pins=0): Cj ah:=by
 cases hr with
 |arg _=>exact h
 |IS i f h1 h2 hl hf =>
  have hm:=aI hf;exact⟨h.pl.set h.pl.bW (h.pl.len f hm) (by have:=hp f hm;simp only;omega),h.lg,h.dk⟩
 |out cA i f h1 h2 hl I hf hh he=>exact AB (ε:=(cA,ε.2)) ⟨I.ok h.pl hh,h.lg,h.dk⟩
 |read cA i f h1 h2 hl I hf hh he hr =>
  have:=AB (i:=i) (ε:=(cA,ε.2)) ⟨I.ok h.pl hh,h.lg,h.dk⟩;exact⟨Ey this.pl,this.lg,this.dk⟩
 |bad cA i f h1 h2 hl I hf hh he hr hc =>
  have:=AB (i:=i) (ε:=(cA,ε.2)) ⟨I.ok h.pl hh,h.lg,h.dk⟩;exact⟨Ey this.pl,this.lg,this.dk⟩
 |load cA i f h1 h2 hl I hf hh he hr hc =>
  have:=AB (i:=i) (ε:=(cA,ε.2)) ⟨I.ok h.pl hh,h.lg,h.dk⟩;have h3:=Ey (i:=i) (f:=f) this.pl;have hlen:i<(eF (outF (cA,ε.2) i).2.1 i f).aj.length:=by
   obtain⟨c,hc⟩:=qh (ε:=(cA,ε.2)) hf;have:=(List.getElem?_eq_some_iff.1 hc).1;simpa[eF] using this
  refine⟨h3.set (λe he => ?_) (by simp only;rw[this.dk.at];omega) (by simp),this.lg,this.dk⟩;rcases Zq he with rfl|he
  .simp only;omega
  .exact h3.bW e he
theorem IT {n:Int}(h:π.Ok): (unpinF π n).2.Ok:=by
 unfold unpinF;split
 .exact h
 .rename_i i hi;split
  .exact h
  .rename_i f I;have hm:=aI I;refine h.set h.bW (h.len f hm) ?_;have:=h.pins f hm;have fb:f.pins≠0:=by
    unfold heldI at hi;split at hi
    .cases hi
    .split at hi
     .cases hi
     .rename_i g hg;split at hi
      .cases hi
      .rename_i hp;have:=bB hi;subst this;rw[hg] at I;have:=bB I;subst this;exact hp
   simp only;omega
inductive o8 (ε:bk)(n:Int): Int->List Nat->bk->Prop where
 |dead (h:ε.2.2.dead=true):o8 ε n 9 [] ε
 |mu (e:Int) (b:List Nat) (ah:bk) (h:ε.2.2.dead=false) (hr:ig ε n e b ah) (he:e≠0):o8 ε n e [] ah
 |AE (b:List Nat) (ah:bk) (h:ε.2.2.dead=false) (hr:ig ε n 0 b ah) (he:(unpinF ah.1 n).1≠0):o8 ε n (unpinF ah.1 n).1 [] ((unpinF ah.1 n).2,ah.2)
 |read (b:List Nat) (ah:bk) (h:ε.2.2.dead=false) (hr:ig ε n 0 b ah) (he:(unpinF ah.1 n).1=0):o8 ε n 0 b ((unpinF ah.1 n).2,ah.2)
theorem o8.ok {n e:Int}(hr:o8 ε n e b ah)(h:Cj ε)(I:∀f∈ε.1.aj,f.pins=0): Cj ah:=by
 cases hr with
 |dead _=>exact h
 |mu e b ah hd hr he=>exact hr.ok h I
 |AE b ah hd hr he=>have:=hr.ok h I;exact⟨IT this.pl,this.lg,this.dk⟩
 |read b ah hd hr he=>have:=hr.ok h I;exact⟨IT this.pl,this.lg,this.dk⟩
def N9 (a p q r:Nat)(op dv:V)(aQ:Nat): List V:=[.ptr p 0,.ptr q 0,.ptr r 0,op,dv,.int .u64 (aQ:Int)]
def gM (a p q r:Nat)(op:V)(data:List Nat)(aQ:Nat): aG:=xs λdv:V=>star [pt a (.cells 6 (N9 a p q r op dv aQ) false),.cG dv data]
def iS (g a:Nat)(now:List (Int×List Nat))(cK:Bool): aG:=xs λI:V=>star [pt g (.cells 3 [.ptr a 0,I,.bool cK] false),pN (λv b=>.cG v b) I now]
section
variable {told:cu} {h:H} {p:Nat} {op v:V} {m:List Fm} {cK:Bool}
theorem eM : Sat h (gM a p q r op data aQ::S)↔∃dv,Sat h (pt a (.cells 6 (N9 a p q r op dv aQ) false)::.cG dv data::S):=by
 simp only[gM,j8,dx,fK,dJ]
theorem fX : Sat h (iS g a now cK::S)↔∃I,Sat h (pt g (.cells 3 [.ptr a 0,I,.bool cK] false)::pN (λv b=>.cG v b) I now::S):=by
 simp only[iS,j8,dx,fK,dJ]
theorem Ez (hT:W told){n:Int}(s:Sat h (gM a p q r op data aQ::gE r p q π::dF q p μ::bX p δ::S))(I:Cj (π,μ,δ))(HY:∀f∈π.aj,f.pins=0)(hw:δ.waiting.length<=268435456):
  Call ⟨Tryz.prog,told⟩ 137 [.ptr a 0,.int .i64 n] h λv h'=>∃(e:Int) (b:List Nat) (ε:bk),o8 (π,μ,δ) n e b ε /\
   ((e≠0/\v=.aV [.aZ,.int .i64 e]/\Sat h' (gM a p q r op data aQ::gE r p q ε.1::dF q p ε.2.1::bX p ε.2.2::S)) \/
    (e=0/\∃u,v=.aV [u,.int .i64 0]/\Sat h' (aY u b::gM a p q r op data aQ::gE r p q ε.1::dF q p ε.2.1::bX p ε.2.2::S))):=by
 have s0:=s;obtain⟨dv,s⟩:=eM.1 s;refine Call.of_wp (hT.free _ U) Tryz.func137 U U (zK 10 U (zY s 0 Ds xX U (zc U (KN hT (s.ae [4])) ?_)));rintro v h ⟨rfl,rfl⟩;refine zv ?_;cases hd:δ.dead with
 |true =>
  exact zK 6 U (WP.ret ⟨aa,_,U,9,[],_,.dead hd,.inl ⟨by decide,U,s0⟩⟩)
 |false =>
  refine zK 6 U (zY s 0 vN Dr U (zm U (zc U (Sz (n:=n) hT (s.ae [2,2,2]) I.pl HY I.lg I.dk hw) ?_)));rintro v h ⟨e,b,ε,hr,(⟨he,rfl,s⟩|⟨rfl,u,rfl,s⟩)⟩
  .dsimp only[bringA,getA,aL] at s;refine zk 10 U (zB U aE (by simp;exact he) ?_);exact zk 8 U (WP.ret ⟨aa,_,U,e,[],ε,.mu e b ε hd hr he,.inl ⟨he,U,eM.2 ⟨dv,s.ae [3,3,0,0,0]⟩⟩⟩)
  .dsimp only[bringA,getA,aL] at s;refine zk 10 U (zC U aE (U) ?_);have s:=s.ae [4,4,0,0,0,0];refine zk 8 U (zY s 0 vN Dr U (zm U ?_));have jK:=hr.ok I HY;refine zc U (KX (n:=n) hT (s.ae [3]) jK.pl) ?_;rintro v h ⟨rfl,s⟩;refine zk 5 U ?_;by_cases he:(unpinF ε.1 n).1=0
   .skip;refine zC U aE (by simp;exact he) ?_;exact zk 9 U (WP.ret ⟨aa,_,U,0,b,_,.read b ε hd hr he,.inr ⟨U,u,U,(eM.2 ⟨dv,s.ae [1,1,0,1,1,0]⟩).ae [4,0,0,0,0]⟩⟩)
   .skip;refine zB U aE (by simp;exact he) ?_;exact zk 8 U (WP.ret ⟨aa,_,U,_,[],_,.AE b ε hd hr he,.inl ⟨he,U,(eM.2 ⟨dv,(s.ae [1,1,0,1,1,0]).del 5⟩)⟩⟩)
end
structure Pl.Full (π:Pl): Prop where
 nodup:(π.bW.map (·.1)).Nodup
 pT:∀n i,lookL n π.bW=some i->0<=n/\∃f,π.aj[i.toNat]?=some f/\f.bQ=n/\f.b.length=512
structure lq (ε:bk): Prop where
 ok:Cj ε
 pins:∀f∈ε.1.aj,f.pins=0
 full:ε.1.Full
theorem Pl.Full.set {f g:Fm}{d:List (Int×(Nat×Bool))}(h:π.Full)(hf:π.aj[i]?=some f)(hp:g.bQ=f.bQ)(hl:f.b.length=512->g.b.length=512): Pl.Full { π with aj:=π.aj.set i g,eu:=d }:=by
 refine⟨h.nodup,λn j hj => ?_⟩;obtain⟨h1,f',h2,h3,h4⟩:=h.pT n j hj;refine⟨h1,?_⟩;by_cases I:i=j.toNat
 .subst I;rw[hf] at h2;have:=bB h2;subst this;exact⟨g,jN (List.getElem?_eq_some_iff.1 hf).1,hp.trans h3,hl h4⟩
 .exact⟨f',by simp only[lW I];exact h2,h3,h4⟩
theorem ie.full (I:ie π cA)(h:π.Full): cA.Full:=by
 refine⟨by rw[I.bW];exact h.nodup,λn j hj => ?_⟩;rw[I.bW] at hj;obtain⟨h1,f',h2,h3,h4⟩:=h.pT n j hj;obtain⟨t,ht⟩:=I.get _ _ h2;exact⟨h1,_,ht,h3,h4⟩
theorem xn (h:ε.1.Full): (outF ε i).2.1.Full:=by
 unfold outF;split
 .exact h
 .rename_i f I;split
  .exact h
  .split
   .exact h
   .split
    .exact h
    .split
     .exact h
     .exact h.set I U λhl=>hl
theorem AF {f g:Fm}(h:π.Full)(hg:π.aj[i]?=some g)(hp:g.bQ=f.bQ): (eF π i f).Full/\∀n j,lookL n (eF π i f).bW=some j->j.toNat≠i:=by
 have key:∀n j,lookL n (eF π i f).bW=some j->lookL n π.bW=some j/\j.toNat≠i:=by
  intro n j I;by_cases hf:f.bQ<0
  .have hw:(eF π i f).bW=π.bW:=by simp only[eF,ay hf]
   rw[hw] at I;refine⟨I,λhi => ?_⟩;obtain⟨h1,f',h2,h3,_⟩:=h.pT n j I;rw[hi,hg] at h2;have:=bB h2;subst this;omega
  .have hw:(eF π i f).bW=qz f.bQ π.bW:=by simp only[eF,ai hf]
   rw[hw,IL h.nodup] at I;by_cases hn:f.bQ=n
   .rw[ay hn] at I;cases I
   .rw[ai hn] at I;refine⟨I,λhi => ?_⟩;obtain⟨h1,f',h2,h3,_⟩:=h.pT n j I;rw[hi,hg] at h2;have:=bB h2;subst this;omega
 refine⟨⟨?_,λn j I => ?_⟩,λn j I=>(key n j I).2⟩
 .unfold eF;simp only;split
  .exact h.nodup
  .exact As h.nodup
 .obtain⟨h1,h2⟩:=key n j I;obtain⟨h3,f',h4,h5,h6⟩:=h.pT n j h1;exact⟨h3,f',by simp only[eF,lW (jR h2)];exact h4,h5,h6⟩
theorem MW {n:Int}(h:π.Full)(hi:i<π.aj.length)(fb:∀n j,lookL n π.bW=some j->j.toNat≠i)(hn:0<=n)(hb:b.length=512): (kM π i n b).Full:=by
 refine⟨oA h.nodup,λm j I => ?_⟩;simp only[kM,mP] at I;by_cases hm:n=m
 .rw[ay hm] at I;have:=bB I;subst this;subst hm;exact⟨hn,⟨n,b,1,true,false⟩,jN hi,U,hb⟩
 .rw[ai hm] at I;obtain⟨h3,f',h4,h5,h6⟩:=h.pT m j I;exact⟨h3,f',by simp only[kM,lW (jR (fb m j I))];exact h4,h5,h6⟩
theorem ig.full {n e:Int}(hr:ig ε n e b ah)(hd:ε.2.2.Ok)(h:ε.1.Full): ah.1.Full/\(e=0->b.length=512):=by
 cases hr with
 |arg _=>exact⟨h,λh=>(by cases h)⟩
 |IS i f h1 h2 hl hf =>
  refine⟨h.set hf U λhl=>hl,λ_ => ?_⟩;obtain⟨_,f',h4,_,h6⟩:=h.pT n i hl;rw[fS,hf] at h4;have:=bB h4;subst this;exact h6
 |out cA i f h1 h2 hl hn hf hh he=>exact⟨xn (ε:=(cA,ε.2)) (hn.full h),λh=>absurd h he⟩
 |read cA i f h1 h2 hl hn hf hh he hr =>
  obtain⟨c,I⟩:=qh (ε:=(cA,ε.2)) hf;exact⟨(AF (f:=f) (xn (ε:=(cA,ε.2)) (hn.full h)) I U).1,λh=>absurd h hr⟩
 |bad cA i f h1 h2 hl hn hf hh he hr hc =>
  obtain⟨c,I⟩:=qh (ε:=(cA,ε.2)) hf;exact⟨(AF (f:=f) (xn (ε:=(cA,ε.2)) (hn.full h)) I U).1,λh=>absurd h hc⟩
 |load cA i f h1 h2 hl hn hf hh he hr hc =>
  obtain⟨c,I⟩:=qh (ε:=(cA,ε.2)) hf;have hi:=(List.getElem?_eq_some_iff.1 I).1;obtain⟨k1,k2⟩:=AF (f:=f) (xn (ε:=(cA,ε.2)) (hn.full h)) I U;have jX:=(Ew (ε:=(cA,ε.2)) (i:=i) hd).at n;exact⟨MW k1 (by simp only[eF,cL];exact hi) k2 h1 jX,λ_=>jX⟩
theorem D8 {n:Int}(h:π.Full): (unpinF π n).2.Full:=by
 unfold unpinF;split
 .exact h
 .split
  .exact h
  .rename_i f I;exact h.set I U λhl=>hl
theorem ie.pins (I:ie π cA)(h:∀f∈π.aj,f.pins=0): ∀f∈cA.aj,f.pins=0:=λg hg=>by
 obtain⟨f,hf,t,rfl⟩:=I.aj g hg;exact h f hf
theorem xo (h:∀f∈ε.1.aj,f.pins=0): ∀f∈(outF ε i).2.1.aj,f.pins=0:=by
 unfold outF;split
 .exact h
 .rename_i f hf;have hm:=aI hf;split
  .exact h
  .split
   .exact h
   .split
    .exact h
    .split
     .exact h
     .intro g I;rcases mD I with I|rfl
      .exact h g I
      .exact h f hm
theorem AG {f:Fm}(h:∀f∈π.aj,f.pins=0): ∀f∈(eF π i f).aj,f.pins=0:=by
 intro g I;rcases mD I with I|rfl
 .exact h g I
 .rfl
theorem ig.N_ {n e:Int}(hr:ig ε n e b ah)(he:e≠0)(hp:∀f∈ε.1.aj,f.pins=0): ∀f∈ah.1.aj,f.pins=0:=by
 cases hr with
 |arg _=>exact hp
 |IS i f h1 h2 hl hf=>exact absurd U he
 |out cA i f h1 h2 hl I hf hh he=>exact xo (ε:=(cA,ε.2)) (I.pins hp)
 |read cA i f h1 h2 hl I hf hh he hr=>exact AG (f:=f) (xo (ε:=(cA,ε.2)) (I.pins hp))
 |bad cA i f h1 h2 hl I hf hh he hr hc=>exact AG (f:=f) (xo (ε:=(cA,ε.2)) (I.pins hp))
 |load cA i f h1 h2 hl I hf hh he hr hc=>exact absurd U he
theorem KY {m:List Fm}{f g:Fm}(h:∀f∈m,f.pins=0)(hg:g.pins=0): ∀x∈(m.set i f).set i g,x.pins=0:=by
 intro x I;rw[List.set_set] at I;rcases mD I with I|rfl
 .exact h x I
 .exact hg
theorem wH {n:Int}{f:Fm}(hl:lookL n π.bW=some (i:Int))(I:π.aj[i]?=some f)(hp:f.pins=1): heldI π n=some i/\unpinF π n=(0,{ π with aj:=π.aj.set i { f with pins:=0 } }):=by
 have h1:heldI π n=some i:=by
  simp only[heldI,hl,fS,I,hp];rfl
 refine⟨h1,?_⟩;simp only[unpinF,h1,I,hp];rfl
theorem Vx {n:Int}{x:α}{l:List (Int×α)}: lookL n (cD n x l)=some x:=by rw[mP,ay U]
theorem ig.at {n:Int}(hr:ig ε n 0 b ah)(hp:∀f∈ε.1.aj,f.pins=0):
  ∃(i:Nat) (f:Fm),lookL n ah.1.bW=some (i:Int)/\ah.1.aj[i]?=some f/\f.pins=1/\f.b=b/\∀g:Fm,g.pins=0->∀x∈ah.1.aj.set i g,x.pins=0:=by
 generalize I:(0:Int)=e at hr;cases hr with
 |arg _=>cases I
 |IS i f h1 h2 hl hf =>
  have hi:=(List.getElem?_eq_some_iff.1 hf).1;refine⟨i,{ f with gS:=true,pins:=f.pins+1 },hl,by simp[hi],by have:=hp f (aI hf);show f.pins+1=1;omega,U,λg hg=>KY hp hg⟩
 |out cA i f h1 h2 hl hn hf hh he=>exact absurd I.symm he
 |read cA i f h1 h2 hl hn hf hh he hr=>exact absurd I.symm hr
 |bad cA i f h1 h2 hl hn hf hh he hr hc=>exact absurd I.symm hc
 |load cA i f h1 h2 hl hn hf hh he hr hc =>
  obtain⟨c,R3⟩:=qh (ε:=(cA,ε.2)) hf;have hi:=(List.getElem?_eq_some_iff.1 R3).1;refine⟨i,⟨n,_,1,true,false⟩,Vx,jN (by show i<(List.set _ i _).length;rw[cL];exact hi),U,U,λg hg=>KY (AG (f:=f) (xo (ε:=(cA,ε.2)) (hn.pins hp))) hg⟩
theorem ig.EA {n:Int}(hr:ig ε n 0 b ah)(I:∀f∈ε.1.aj,f.pins=0): (unpinF ah.1 n).1=0/\∀f∈(unpinF ah.1 n).2.aj,f.pins=0:=by
 obtain⟨i,f,h1,h2,h3,h4,h5⟩:=hr.at I;rw[(wH h1 h2 h3).2];exact⟨U,h5 _ U⟩
theorem o8.qN {n e:Int}(hr:o8 ε n e b ah)(h:lq ε): lq ah:=by
 refine⟨hr.ok h.ok h.pins,?_,?_⟩
 .cases hr with
  |dead _=>exact h.pins
  |mu e b ah I hr he=>exact hr.N_ he h.pins
  |AE b ah I hr he=>exact(hr.EA h.pins).2
  |read b ah I hr he=>exact(hr.EA h.pins).2
 .cases hr with
  |dead _=>exact h.full
  |mu e b ah I hr he=>exact(hr.full h.ok.dk h.full).1
  |AE b ah I hr he=>exact D8 (hr.full h.ok.dk h.full).1
  |read b ah I hr he=>exact D8 (hr.full h.ok.dk h.full).1
theorem o8.len {n:Int}(hr:o8 ε n 0 b ah)(h:lq ε): b.length=512:=by
 generalize I:(0:Int)=e at hr;cases hr with
 |dead _=>cases I
 |mu e b ah hd hr he=>exact absurd I.symm he
 |AE b ah hd hr he=>exact absurd I.symm he
 |read b ah hd hr he=>exact(hr.full h.ok.dk h.full).2 U
inductive GRd (ε:bk)(now:List (Int×List Nat))(cK:Bool)(n:Int): Int->List Nat->bk->Prop where
 |arg (h:¬(0<=n/\n<ε.2.2.bG.length)):GRd ε now cK n 1 [] ε
 |cK (h1:0<=n) (h2:n<ε.2.2.bG.length) (h:cK=true):GRd ε now cK n 18 [] ε
 |own (b:List Nat) (h1:0<=n) (h2:n<ε.2.2.bG.length) (h:cK=false) (hl:lookL n now=some b):GRd ε now cK n 0 b ε
 |read (e:Int) (b:List Nat) (ah:bk) (h1:0<=n) (h2:n<ε.2.2.bG.length) (h:cK=false) (hl:lookL n now=none) (hr:o8 ε n e b ah):GRd ε now cK n e b ah
theorem GRd.qN {cK:Bool}{n e:Int}(hr:GRd ε now cK n e b ah)(h:lq ε): lq ah:=by
 cases hr with
 |arg _=>exact h
 |cK _ _ _=>exact h
 |own _ _ _ _ _=>exact h
 |read e b ah I h2 h3 hl hr=>exact hr.qN h
theorem OpR.invoke {h:H}{o:Oper}{cl:Go.Call}{x:Operand}{m:String}{k:FuncId}{R:V->H->Prop}(sy:o.op=.call cl)(hc:cl.callee=.invoke x m)
 (hx:bE E x=some (.iface t u))(hm:methV C.P t m=some k)(ha:lookArgs E cl.args.toList=some args)(I:Am.Call C k (u::args) h R): OpR C E h o R:=by
 obtain⟨v,h₁,⟨N,hN⟩,hr⟩:=I;exact⟨v,h₁,hr,λenv hE=>⟨N,by simp only[evOp,sy,evCall,oN hE ha,hc,cF hE hx,hm];exact hN⟩⟩
theorem Oa : methV Tryz.prog 32 "Read" = some 255 := by kernel_rfl
theorem Zr : methV Tryz.prog 24 "Read" = some 137 := by kernel_rfl
theorem XM {h:H}{x:Operand}(hu:Tryz.prog.underlying t=some (.pointer e)): binV Tryz.prog h .neq t x y .cf .cf=some (.bool false):=by simp only[binV,eqV,hu];rfl
theorem ac3 {h:H}{x:Operand}{o:Nat}(hu:Tryz.prog.underlying t=some (.pointer e)): binV Tryz.prog h .neq t x y (.ptr i o) .cf=some (.bool true):=by simp only[binV,eqV,hu];rfl
theorem xp {h:H}{x:Operand}{o:Nat}(hu:Tryz.prog.underlying t=some (.pointer e)): binV Tryz.prog h .eql t x y (.ptr i o) .cf=some (.bool false):=by simp only[binV,eqV,hu];rfl
theorem ac4 {h:H}{x:Operand}{o:Nat}(hu:Tryz.prog.underlying t=some (.pointer e)): binV Tryz.prog h .eql t x y .cf (.ptr i o)=some (.bool false):=by simp only[binV,eqV,hu];rfl
theorem ac5 {h:H}{k:TypeId}{x:Operand}{m:Nat}{ds:List V}(hu:Tryz.prog.underlying t=some (.pointer e))(I:bq Tryz.prog e=some k)(h1:1<=k)(hi:T.get h.tr i=some (.cells n cs false))(hj:T.get h.tr j=some (.cells m ds false))(hn:1<=n)(hm:1<=m):
  binV Tryz.prog h .eql t x y (.ptr i 0) (.ptr j 0)=some (.bool (Nat.beq i j)):=by
 simp only[binV,eqV,hu,I,aR.2 h1,ag,hi,hj,aR.2 hn,aR.2 hm,kf,kg,Bool.and_true,gO]
section
variable {told:cu} {h:H} {p:Nat} {op v:V} {m:List Fm} {cK:Bool}
theorem IU (I:W told)(s:Sat h (gM a p q r .cf data aQ::S)): Call ⟨Tryz.prog,told⟩ 43 [.ptr a 0] h λv h'=>∃g,v=.aV [.ptr g 0,.int .i64 0]/\Sat h' (iS g a [] false::gM a p q r (.ptr g 0) data aQ::S):=by
 obtain⟨dv,s⟩:=eM.1 s;refine Call.of_wp (I.free _ U) Tryz.func43 U U (zK 10 U (zY s 0 vO Pw U (zC U (XM jH) (U) (zk 7 U ?_))));refine au.BV s U U U U (λGe h s => ?_);refine zo U (cI U (by rw[acz];rfl)) ?_;refine au.cg s U U U (fG U U) (λp13 h s => ?_);refine zn U (zf U (vO _ _) ?_);refine zS U (by exact s.kz (k:=2) U aa0 U (by decide) U U) (λh s => ?_);refine zk 5 U (zY s 2 vO Pw U (zk 3 U (WP.ret ⟨aa,_,U,?_⟩)));have s1:=qX (f:=λv (b:List Nat)=>.cG v b) (s.ae [1]);have s:=fX.2 ⟨_,s1.ae [1]⟩;exact⟨_,U,(eM.2 ⟨dv,s.ae [1,1,0]⟩).ae [1]⟩
theorem KZ (hT:W told){n:Int}(s:Sat h (iS g a now cK::gM a p q r op data aQ::gE r p q π::dF q p μ::bX p δ::S))(b_:lq (π,μ,δ))(hw:δ.waiting.length<=268435456)(qZ:∀e∈now,e.2.length=512):
  Call ⟨Tryz.prog,told⟩ 255 [.ptr g 0,.int .i64 n] h λv h'=>∃(e:Int) (b:List Nat) (ε:bk),GRd (π,μ,δ) now cK n e b ε /\
   ((e≠0/\v=.aV [.aZ,.int .i64 e]/\Sat h' (iS g a now cK::gM a p q r op data aQ::gE r p q ε.1::dF q p ε.2.1::bX p ε.2.2::S)) \/
    (e=0/\∃u,v=.aV [u,.int .i64 0]/\Sat h' (aY u b::iS g a now cK::gM a p q r op data aQ::gE r p q ε.1::dF q p ε.2.1::bX p ε.2.2::S))):=by
 have s0:=s;obtain⟨nv,s⟩:=fX.1 s;obtain⟨dv,s⟩:=eM.1 (s.ae [2]);dsimp only[bringA,getA,aL] at s;refine Call.of_wp (hT.free _ U) Tryz.func255 U U (zK 6 U (WP.block (zK 3 U ?_)));refine zd U (aq U U aK) ?_ ?_
 .intro hq;have hq:n<0:=by simpa using hq
  exact zk 20 U (WP.ret ⟨aa,_,U,1,[],_,.arg (by simp only;omega),.inl ⟨by decide,U,s0⟩⟩)
 .intro hq;have hq:0<=n:=by simp at hq;omega
  refine zk 4 U (zY s 2 rS BY U (zn U (zY s 0 Ds xX U (zc U (Eu hT (s.ae [6])) ?_))));rintro v h ⟨rfl,rfl⟩;refine zd U (aq U U j5) ?_ ?_
  .intro I;have I:(δ.bG.length:Int)<=n:=by simpa using I
   exact zk 9 U (WP.ret ⟨aa,_,U,1,[],_,.arg (by simp only;omega),.inl ⟨by decide,U,s0⟩⟩)
  .intro I;have I:n<(δ.bG.length:Int):=by simp at I;omega
   refine zk 8 U (zf U (Dq _ _) ?_);cases cK with
   |true =>
    exact zt U (o_load U (s.ld (k:=2) U sF U)) (U) (zk 8 U (WP.ret ⟨aa,_,U,18,[],_,.cK hq I U,.inl ⟨by decide,U,s0⟩⟩))
   |false =>
    refine zh U (o_load U (by exact s.ld (k:=2) U sF U)) (U) ?_;refine za U (zv (zj U (WP.skip (zw (zg U (zk 2 U (zf U (tH _ _) (zl U (by exact s.ld (k:=2) U qS U) ?_))))))));refine zm U ?_;rcases om (n:=n) (λ_ _=>bf.cG _ _) (s.ae [3]) uy b9 lQ with⟨g1,g2,_⟩|⟨u,b,g1,g2,_,s2⟩
    .refine au.op U U U (kL U U g2) ?_;refine zk 5 U (zv (zg U (zm U (zv (zj U (WP.skip (zg U (zk 2 U (zf U (rS _ _) (zl U (by exact s.ld (k:=2) U BY U) ?_))))))))));refine zm U (zc U (Ez (n:=n) hT (s0.ae [1,1,1,1]) b_.ok b_.pins hw) ?_);rintro v h ⟨e,b,ε,hr,(⟨he,rfl,s⟩|⟨rfl,u,rfl,s⟩)⟩
     .dsimp only[bringA,getA,aL] at s;exact zk 5 U (WP.ret ⟨aa,_,U,e,b,ε,.read e b ε hq I U g1 hr,.inl ⟨he,U,s.ae [4]⟩⟩)
     .dsimp only[bringA,getA,aL] at s;exact zk 5 U (WP.ret ⟨aa,_,U,0,b,ε,.read 0 b ε hq I U g1 hr,.inr ⟨U,u,U,s.ae [0,4]⟩⟩)
    .dsimp only[bringA,getA,aL] at s2;refine zo U (kL U U g2) (zk 14 U ?_);have hb:=qZ _ (oo g1);refine zc U (vp hT s2 (bC _ _) (by simp only at hb;omega)) ?_;intro v h s;refine zk 3 U (WP.ret ⟨aa,_,U,?_⟩);have s:=eM.2 ⟨dv,s.ae [3,3,0,0,0,0,0,0,0]⟩;have s:=fX.2 ⟨nv,s.ae [4,3]⟩;exact⟨0,b,_,.own b hq I U g1,.inr ⟨U,v,U,((s.ae [2,0,0,1,1,1]).del 6)⟩⟩
end
inductive wI (ε:bk)(now:List (Int×List Nat))(cK:Bool)(n:Int)(b:List Nat): Int->List (Int×List Nat)->bk->Prop where
 |may (e:Int) (c:List Nat) (ah:bk) (hr:GRd ε now cK n e c ah) (he:e≠0):wI ε now cK n b e now ah
 |bad (c:List Nat) (ah:bk) (hr:GRd ε now cK n 0 c ah) (hg:cJ b=false):wI ε now cK n b 4 now ah
 |done (c:List Nat) (ah:bk) (hr:GRd ε now cK n 0 c ah) (hg:cJ b=true):wI ε now cK n b 0 (cD n b now) ah
theorem wI.qN {aJ:List (Int×List Nat)}{cK:Bool}{n e:Int}(hr:wI ε now cK n b e aJ ah)(h:lq ε): lq ah:=by
 cases hr with
 |may e c ah hr he=>exact hr.qN h
 |bad c ah hr I=>exact hr.qN h
 |done c ah hr I=>exact hr.qN h
section
variable {told:cu} {h:H} {p:Nat} {op v:V} {m:List Fm} {cK:Bool}
theorem abn (hT:W told){n:Int}(s:Sat h (iS g a now cK::gM a p q r op data aQ::gE r p q π::dF q p μ::bX p δ::S))(b_:lq (π,μ,δ))(hw:δ.waiting.length<=268435456)(I:∀e∈now,e.2.length=512):
  Call ⟨Tryz.prog,told⟩ 133 [.iface 32 (.ptr g 0),.int .i64 n] h λv h'=>∃(e:Int) (b:List Nat) (ε:bk),GRd (π,μ,δ) now cK n e b ε/\v=.int .i64 e /\
   Sat h' (iS g a now cK::gM a p q r op data aQ::gE r p q ε.1::dF q p ε.2.1::bX p ε.2.2::S):=by
 refine Call.of_wp (hT.free _ U) Tryz.func133 U U (zK 8 U (au.any U U U (OpR.invoke U U U Oa U (KZ (n:=n) hT s b_ hw I)) ?_));rintro v h ⟨e,b,ε,hr,(⟨he,rfl,s⟩|⟨rfl,u,rfl,s⟩)⟩
 .refine au.op U U U (bZ U) ?_;exact zk 10 U (WP.ret ⟨aa,_,U,e,b,ε,hr,U,s⟩)
 .skip;exact zk 11 U (WP.ret ⟨aa,_,U,0,b,ε,hr,U,s.drop⟩)
theorem IV (hT:W told){n:Int}(s:Sat h (iS g a now cK::gM a p q r op data aQ::gE r p q π::dF q p μ::bX p δ::X::S))(hX:cy X (cE x b))(hb:b.length<9223372036854775808)(b_:lq (π,μ,δ))(hw:δ.waiting.length<=268435456)(qZ:∀e∈now,e.2.length=512):
  Call ⟨Tryz.prog,told⟩ 55 [.ptr g 0,.int .i64 n,x] h λv h'=>∃(e:Int) (aJ:List (Int×List Nat)) (ε:bk),wI (π,μ,δ) now cK n b e aJ ε/\v=.int .i64 e /\
   Sat h' (iS g a aJ cK::gM a p q r op data aQ::gE r p q ε.1::dF q p ε.2.1::bX p ε.2.2::X::S):=by
 refine Call.of_wp (hT.free _ U) Tryz.func55 U U (zK 8 U (zo U (oz U (mki_of jH U)) (zm U (zc U (abn (n:=n) hT s b_ hw qZ) ?_))));rintro v h ⟨e,c,ε,hr,rfl,s⟩;refine zk 5 U ?_;by_cases he:e=0
 .skip;subst he;refine zC U aE (U) (zk 7 U (zc U (N3 hT (s.ae [5]) hX hb) ?_));rintro v h ⟨rfl,s⟩;refine zo U (eo U U) (zv ?_);by_cases I:cJ b=true
  .skip;refine WP.Xv U (by rw[I];rfl) ?_;have PU:=jU I;obtain⟨nv,s⟩:=fX.1 (s.ae [1]);have s:=s.ae [2,0,0];obtain⟨wJ,rfl⟩:=KD s (j:=2) U;refine zK 2 U ?_;have s0:=s;refine WP.drawn [some (0,2),some (0,2),some (0,2),some (0,2),some (0,2),af,af,af] U (by kernel_rfl) (by kernel_rfl) ?_;refine zM U (zN U (zF U (tH _ _) (zL U (s.ld (k:=1) U qS U) (zM U (zM U (aB.any U U U U (OpR.call U U U U (vp hT s hX (by omega))) ?_))))));intro u h s;obtain⟨lU,_,cap,_,rfl,_⟩:=s.eX (by omega);have s:=s.fh;have s1:=s;refine aB.lP U U U (OpR.mapUpdate U U U U (oB (f:=λv b=>aG.cG v b) (x:=b) (λ_ _=>bf.cG _ _) (s.ae [0,2]) uy b9)) ?_;intro w h s;refine aB.nil ⟨⟨λ_ _=>.inr ⟨U,⟨_,bZ U⟩,bp _ U⟩,λ_ _=>.inr ⟨U,⟨_,vk U⟩,bp _ U⟩,λ_ _=>.inr ⟨U,⟨_,mX U (tH _ _)⟩,bp _ U⟩,gC (.inr ⟨U,⟨_,o_load U (s0.ld (k:=1) U qS U)⟩,bp _ U⟩) (.inr ⟨U,⟨_,o_load U (s1.ld (k:=2) U qS U)⟩,bp _ U⟩),λ_ _=>.inr ⟨U,⟨_,bZ U⟩,bp _ U⟩,yr 4⟩,?_⟩;exact zK 4 U (WP.ret ⟨aa,_,U,0,_,ε,.done c ε hr I,U,fX.2 ⟨.map wJ,s.ae [2,0,1,1,1,1,0]⟩⟩)
  .have I:cJ b=false:=by simpa using I
   refine WP.Pu U (by rw[I];rfl) ?_;exact zK 4 U (WP.ret ⟨aa,_,U,4,_,ε,.bad c ε hr I,U,s.ae [1,1,1,1,1,0]⟩)
 .skip;refine zB U aE (by simp;exact he) ?_;exact zk 7 U (WP.ret ⟨aa,_,U,e,_,ε,.may e c ε hr he,U,s⟩)
theorem SF (I:W told)(s:Sat h (iS g a now cK::gM a p q r (.ptr g 0) data aQ::S)): Call ⟨Tryz.prog,told⟩ 60 [.ptr g 0] h λv h'=>v=.aV []/\Sat h' (iS g a now true::gM a p q r .cf data aQ::S):=by
 obtain⟨nv,s⟩:=fX.1 s;obtain⟨dv,s⟩:=eM.1 (s.ae [2]);refine Call.of_wp (I.free _ U) Tryz.func60 U U (zK 4 U (zf U (Dq _ _) ?_));refine zS U (by exact s.kz (k:=2) U BX U (by decide) U U) (λh s => ?_);refine zk 5 U (zY s 2 rS BY U (zn U (zY s 0 vO Pw U (zm U (zB U (ac5 jH acy (by decide) (s.row (k:=2) U) (s.row (k:=2) U) (by decide) (by decide)) (kg g) ?_)))));refine zk 5 U (zY s 2 rS BY U (zn U (zf U (vO _ _) ?_)));refine zS U (by exact s.kz (k:=0) U aa0 U (by decide) U U) (λh s => ?_);refine zv ?_;have s:=fX.2 ⟨nv,(eM.2 ⟨dv,s⟩).ae [1,1]⟩;exact⟨aa,_,U,U,s⟩
theorem MX (I:W told)(s:Sat h (iS g a now cK::gM a p q r .cf data aQ::S)): Call ⟨Tryz.prog,told⟩ 60 [.ptr g 0] h λv h'=>v=.aV []/\Sat h' (iS g a now true::gM a p q r .cf data aQ::S):=by
 obtain⟨nv,s⟩:=fX.1 s;obtain⟨dv,s⟩:=eM.1 (s.ae [2]);dsimp only[bringA,getA,aL] at s;refine Call.of_wp (I.free _ U) Tryz.func60 U U (zK 4 U (zf U (Dq _ _) ?_));refine zS U (by exact s.kz (k:=2) U BX U (by decide) U U) (λh s => ?_);dsimp only[N9,Nat.reduceAdd,List.set,setA] at s;refine zv (zg U (zk 2 U (zf U (rS _ _) (zl U (by exact s.ld (k:=2) U BY U) ?_))));refine zn U (zf U (vO _ _) (zl U (by exact s.ld (k:=0) U Pw U) ?_));refine zm U (zh U (aq U U (ac4 jH)) (U) (zv (zj U (WP.skip ?_))));have s:=fX.2 ⟨nv,(eM.2 ⟨dv,s⟩).ae [1,1]⟩;exact⟨aa,_,U,U,s⟩
theorem P4 (I:W told)(s:Sat h (iS g a now cK::gM a p q r .cf data aQ::S)): Call ⟨Tryz.prog,told⟩ 20 [.ptr g 0] h λv h'=>v=.aV []/\Sat h' (iS g a now true::gM a p q r .cf data aQ::S):=by
 refine Call.of_wp (I.free _ U) Tryz.func20 U U (zK 2 U (zc U (MX I s) ?_));rintro v h ⟨rfl,s⟩;exact zv ⟨aa,_,U,U,s⟩
end
inductive A9 (bQ:Int)(was now:List Nat): Nat->List fU->Prop where
 |done (i:Nat) (h:now.length<=i):A9 bQ was now i []
 |skip (i:Nat) (l:List fU) (h:i<now.length) (he:was[i]?=now[i]?) (hr:A9 bQ was now (i+1) l):A9 bQ was now i l
 |take (i e:Nat) (l:List fU) (h1:i<e) (h2:e<=now.length) (h3:was[i]?≠now[i]?) (h4:∀k,e<=k->k<e+8->was[k]?=now[k]?) (hr:A9 bQ was now e l):A9 bQ was now i (⟨bQ,i,false,(now.take e).drop i⟩::l)
def SG (bQ:Int)(was now:List Nat)(c:List fU): Prop:=∃l,A9 bQ was now 12 l/\c=if l=[] then[⟨bQ,0,false,[]⟩] else l
theorem EB : ∃i,Tryz.prog.info? 206=some i/\i.size=4/\i.bytes=48 :=
 ⟨_,(show Tryz.prog.info? 206=some ((Tryz.prog.info? 206).getD default) by kernel_rfl),by kernel_rfl,by kernel_rfl⟩
section
variable {told:cu} {h:H} {Y:aG} {p:Nat} {op v:V} {was now:List Nat}
noncomputable def rgO : Code:=cX [1,1,0,1,0,0] ((Tryz.f139.body).getD .skip)
noncomputable def rgI : Code:=cX [1,1,0,1,0,0,1,0,1,1,0,1,0,0] ((Tryz.f139.body).getD .skip)
theorem Vy {I:Nat}{t7:V}{k1 k2:Nat}(s:Sat h S)(l9:getA S k1=some X)(hX:cy X (cE u was))(kZ:getA S k2=some Y)(hY:cy Y (cE v now))(wD:was.length=512)(iJ:now.length=512): ∀(j i e:Nat) (E:List (Nat×V)) (Q:Ex->List (Nat×V)->H->Prop),i+j=512->I<e->e<=i->(∀k,e<=k->k<i->was[k]?=now[k]?) ->
  Has E [(0,.int .i64 pg),(1,u),(2,v),(7,t7),(8,.int .i64 (I:Int)),(9,.int .i64 (e:Int)),(10,.int .i64 (i:Int))] ->
  (∀e' E',I<e'->e'<=512->(∀k,e'<=k->k<e'+8->was[k]?=now[k]?)->Has E' [(0,.int .i64 pg),(1,u),(2,v),(7,t7),(8,.int .i64 (I:Int)),(9,.int .i64 (e':Int))]->Q (.exit 2) E' h) ->
  WP ⟨Tryz.prog,told⟩ 71 (.loop rgI) E h Q:=by
 have hv:=s.aD kZ hY
 have hu:=s.aD l9 hX
 have hlen:lenV Tryz.prog h 29 v=some (.int .i64 now.length):=bA aP hv
 intro j
 induction j with
 |zero =>
  intro i e E Q hi h1 h2 hg hE hq
  refine WP.loop (WP.has hE (zK 5 U (zo U (aC U U U hlen) (zC U aK (by grind) ?_))))
  refine zk 8 U (WP.exit ?_)
  refine hq e _ h1 (by omega) (λk k1 _ => ?_) ⟨U,U,U,U,U,U,aa⟩
  by_cases hk:k<i
  .grind
  .grind
 |succ j ih =>
  intro i e E Q hi h1 h2 hg hE hq
  have hb:now[i]?=some (now[i]'(by omega)):=aF _
  generalize (now[i]'(by omega))=b at hb
  have hc:was[i]?=some (was[i]'(by omega)):=aF _
  generalize (was[i]'(by omega))=c at hc
  obtain⟨id,off,e1,e2⟩:=eU hv hb
  obtain⟨wS,off',e3,e4⟩:=eU hu hc
  refine WP.loop (WP.has hE (zK 5 U (zo U (aC U U U hlen) (zB U aK (by grind) ?_))))
  refine zk 3 U (zb U (by exact aM ak) ?_)
  by_cases hd:i<e+8
  .skip
   refine zB U aK (by grind) ?_
   refine zk 5 U (WP.block (zw ?_))
   have s0:=s
   refine WP.drawn [af,af,af,af,af,af,af,af,af] U (by kernel_rfl) (by kernel_rfl) ?_
   refine zM U (zM U (zO U (bM (r:=.ptr wS off') U U e3) (zL U e4 (zM U (zM U (zO U (bM (r:=.ptr id off) U U e1) (zL U e2 ?_)))))))
   by_cases hbc:c=b
   .skip
    refine aB.rR U U U U (aq U U aE) (by grind) ?_
    refine aB.nil ⟨⟨aa,aa,aa,aa,aa,aa,aa,aa,aa,aa⟩,?_⟩
    refine zj U (WP.skip (zr U (zm U (zb U (by exact aM ak) ?_))))
    refine za U (zv ?_)
    exact ih (i+1) e _ Q (by omega) h1 (by omega) (λk k1 k2=>(by
     grind)) ⟨U,U,U,U,U,U,U,aa⟩ hq
   .skip
    refine aB.w_ U U U U (aq U U aE) (by grind) ?_
    refine aB.nil ⟨⟨aa,aa,aa,aa,aa,aa,aa,aa,aa,aa⟩,?_⟩
    refine zK 3 U (zb U (by exact aM ak) ?_)
    refine za U (zv (zr U (zm U (zb U (by exact aM ak) ?_))))
    refine za U (zv ?_)
    exact ih (i+1) (i+1) _ Q (by omega) (by omega) (by omega) (λk k1 k2=>absurd k2 (by omega)) ⟨U,U,U,U,U,U,U,aa⟩ hq
  .skip
   refine zC U aK (by grind) ?_
   exact zk 3 U (WP.exit (hq e _ h1 (by omega) (λk k1 k2=>hg k k1 (by omega)) ⟨U,U,U,U,U,U,aa⟩))
theorem Vz (hT:W told)(hX:cy X (cE u was))(hY:cy Y (cE v now))(wD:was.length=512)(iJ:now.length=512): ∀(j i:Nat) (acc:List fU) (av:V) (cs:List V) (h:H) (E:List (Nat×V)) (Q:Ex->List (Nat×V)->H->Prop),512<=i+j->i<=512->acc.length<=i ->
  Sat h (.arr 4 av cs::fP cs acc::X::Y::S)->(∀l,A9 pg was now i l->A9 pg was now 12 (acc++l)) ->
  Has E [(0,.int .i64 pg),(1,u),(2,v),(7,av),(8,.int .i64 (i:Int))] ->
  (∀A_ cs' l E' h',A9 pg was now 12 l->l.length<=512->Sat h' (.arr 4 A_ cs'::fP cs' l::X::Y::S)->Has E' [(0,.int .i64 pg),(7,A_)]->Q (.exit 0) E' h') ->
  WP ⟨Tryz.prog,told⟩ 71 (.loop rgO) E h Q:=by
 intro j
 induction j with
 |zero =>
  intro i acc av cs h E Q hj hi RV s I hE hq
  have hlen:lenV Tryz.prog h 29 v=some (.int .i64 now.length):=bA aP (s.aD (k:=3) U hY)
  refine WP.loop (WP.has hE (zK 5 U (zo U (aC U U U hlen) (zC U aK (by grind) ?_))))
  refine zk 2 U (WP.exit ?_)
  have:=I [] (.done _ (by omega))
  rw[gd] at this
  exact hq av cs acc _ _ this (by omega) s ⟨U,U,aa⟩
 |succ j ih =>
  intro i acc av cs h E Q hj hi RV s I hE hq
  have hv:=s.aD (k:=3) U hY
  have hu:=s.aD (k:=2) U hX
  have hlen:lenV Tryz.prog h 29 v=some (.int .i64 now.length):=bA aP hv
  by_cases cq:i<512
  .have hb:now[i]?=some (now[i]'(by omega)):=aF _
   generalize (now[i]'(by omega))=b at hb
   have hc:was[i]?=some (was[i]'(by omega)):=aF _
   generalize (was[i]'(by omega))=c at hc
   obtain⟨id,off,e1,e2⟩:=eU hv hb
   obtain⟨wS,off',e3,e4⟩:=eU hu hc
   refine WP.loop (WP.has hE (zK 5 U (zo U (aC U U U hlen) (zB U aK (by grind) ?_))))
   refine zk 3 U (WP.block (zK 2 U ?_))
   have s0:=s
   refine WP.drawn [af,af,af,af,af,af,af,af,af] U (by kernel_rfl) (by kernel_rfl) ?_
   refine zM U (zM U (zO U (bM (r:=.ptr wS off') U U e3) (zL U e4 (zM U (zM U (zO U (bM (r:=.ptr id off) U U e1) (zL U e2 ?_)))))))
   by_cases hbc:c=b
   .skip
    refine aB.w_ U U U U (aq U U cS) (by grind) ?_
    refine aB.nil ⟨⟨aa,aa,aa,aa,aa,aa,aa,aa,aa,aa⟩,?_⟩
    refine zK 4 U (zb U (by exact aM ak) ?_)
    exact zk 2 U (WP.exit (ih (i+1) acc av cs h _ Q (by omega) (by omega) (by omega) s (λl hl=>I l (.skip i l (by omega) (by grind) hl)) ⟨U,U,U,U,U,aa⟩ hq))
   .skip
    refine aB.rR U U U U (aq U U cS) (by grind) ?_
    refine aB.nil ⟨⟨aa,aa,aa,aa,aa,aa,aa,aa,aa,aa⟩,?_⟩
    refine zK 5 U (zb U (by exact aM ak) ?_)
    refine zk 8 U (WP.block ?_)
    refine Vy s (k1:=2) (k2:=3) U hX U hY wD iJ (512-(i+1)) (i+1) (i+1) _ _ (by omega) (tu i) (aH _) (λk k1 k2=>absurd k2 (by omega)) ⟨U,U,U,U,U,U,U,aa⟩ (λe' E' he1 Gf XN dY => ?_)
    refine WP.has dY ?_
    have hsv:=fR hv (a:=i) (b:=e') (by omega) (by omega)
    refine zK 8 U (zo U (bK (p:=some (.int .i64 (i:Int))) (q:=some (.int .i64 (e':Int))) (m:=none) (p':=some i) (q':=some e') (m':=none) U U U U (by rfl) (by rfl) U hsv.1) ?_)
    refine zc U (vp hT (s.ae [3]) (Ep hY (a:=i) (b:=e') (by omega) (by omega)) (by grind)) ?_
    intro w h s
    dsimp only[bringA,getA,aL] at s
    obtain⟨wid,_,Cl,_,rfl,_⟩:=s.eX (by grind)
    have s:=s.fh
    generalize Xn:(now.take e').drop i=bs at s
    refine zo U (cI U (by rw[PE];rfl)) ?_
    obtain⟨rv,h1,wG,s1⟩:=kY (P:=Tryz.prog) (k:=4) (x:=.agg [.int .i64 pg,.int .i64 (i:Int),.bool false,.sl wid 0 bs.length Cl]) s mg xb Dv U (by decide) (by decide) U U
    dsimp only[V.cells] at s1
    refine au.any U U U (OpR.of (R:=λv h'=>v=rv/\h'=h1) (iZ U wG) ⟨U,U⟩) ?_
    rintro v' h' ⟨rfl,rfl⟩
    obtain⟨i1,c9,fc,pP⟩:=EB
    have gn:cs.length=acc.length*4:=by
     obtain⟨a,b,q1,q2,q3⟩:=s1.at (k:=4) U
     exact tN q3
    obtain⟨A_,h2,sO,s2⟩:=iw (s1.ae [3,0]) mg c9 xb fc (by omega) U (by decide) (by grind)
    dsimp only[bringA,getA,aL] at s2
    refine au.any U U U (OpR.of (R:=λv h'=>v=A_/\h'=h2) (jc U U sO) ⟨U,U⟩) ?_
    rintro v' h' ⟨rfl,rfl⟩
    refine za U (zv (zr U (zk 2 U (zv ?_))))
    have s3:Sat _ (fP cs acc::.cG (.sl wid 0 bs.length Cl) bs::_):=s2.ae [4,2]
    have s4:=s3.two (C:=fP (cs++[.int .i64 pg,.int .i64 (i:Int),.bool false,.sl wid 0 bs.length Cl]) (acc++[⟨pg,i,false,bs⟩])) (bf.tf _ _) (bf.cG _ _) λa b q1 q2=>Ev q1 ⟨⟨⟨U,U,U⟩,q2⟩,aa⟩
    have s5:=(s4.ae [1,0,2,1]).del 4
    dsimp only[bringA,getA,aL] at s5
    refine ih e' (acc++[⟨pg,(i:Int),false,bs⟩]) _ _ _ _ Q (by omega) Gf (by grind) s5 (λl hl => ?_) ⟨U,U,U,U,U,aa⟩ hq
    have:=I _ (.take i e' l he1 (by omega) (λhx=>by grind) XN hl)
    rw[Xn] at this
    rwa [dO]
  .have hi5:i=512:=by omega
   refine WP.loop (WP.has hE (zK 5 U (zo U (aC U U U hlen) (zC U aK (by simp<;>omega) ?_))))
   refine zk 2 U (WP.exit ?_)
   have:=I [] (.done _ (by omega))
   rw[gd] at this
   exact hq av cs acc _ _ this (by omega) s ⟨U,U,aa⟩
theorem SH (hT:W told)(s:Sat h (X::Y::S))(hX:cy X (cE u was))(hY:cy Y (cE v now))(I:was.length=512)(iJ:now.length=512):
  Call ⟨Tryz.prog,told⟩ 139 [.int .i64 pg,u,v] h λw h'=>∃cs l,SG pg was now l/\l.length<=512/\Sat h' (.arr 4 w cs::fP cs l::X::Y::S):=by
 refine Call.of_wp (hT.free _ U) Tryz.func139 U U (zK 13 U (WP.block ?_));refine Vz hT (pg:=pg) hX hY I iJ 500 12 [] .aZ [] _ _ _ (by omega) (by omega) (by simp) ((s.ir aa).lJ) (λl hl=>hl) ⟨U,U,U,U,U,aa⟩ (λA_ cs' l E' h' hr pU s' dY => ?_);have s:=s';have hlen:=s.Ca (j1:=0) (j2:=1) U U mg;have XO:=s.uO (j:=0) U;refine WP.has dY (zK 4 U (zo U (aC U U U hlen) ?_));by_cases O8:l=[]
 .skip;refine zB U cS (by grind) ?_;refine zk 5 U (zo U (cI U (by rw[PE];rfl)) ?_);obtain⟨rv,h1,wG,s1⟩:=kY (P:=Tryz.prog) (k:=4) (x:=.agg [.int .i64 pg,.int .i64 0,.bool false,.aZ]) s mg xb Dv U (by decide) (by decide) U U;dsimp only[V.cells] at s1;refine au.any U U U (OpR.of (R:=λv h'=>v=rv/\h'=h1) (iZ U wG) ⟨U,U⟩) ?_;rintro v' h' ⟨rfl,rfl⟩;refine zk 2 U (WP.ret ⟨aa,_,U,?_⟩);refine⟨[.int .i64 pg,.int .i64 0,.bool false,.aZ],[⟨pg,0,false,[]⟩],⟨l,hr,by grind⟩,by simp,?_⟩;have s2:=(s1.del 2).del 1;have s3:Sat _ (.cG .aZ []::.arr 4 v' _::X::Y::S):=s2.vm;have s4:=s3.eD (B:=fP [.int .i64 pg,.int .i64 0,.bool false,.aZ] [⟨pg,0,false,[]⟩]) λa b q=>⟨⟨⟨U,U,U⟩,q⟩,aa⟩;exact s4.ae [1,0]
 .skip;refine zC U cS (by simp_all) ?_;exact zk 8 U (WP.ret ⟨aa,_,U,_,l,⟨l,hr,by grind⟩,pU,s⟩)
end
end Go.Proofs.YtdonpgpfplgigaaGreat.Am
